/- Walk of batch.Decode. -/
import Derived.Test.YtnmcdifkknphgaaBd
namespace Go.Proofs.Ytnmcdifkknphgaa
open Go.RowKit

set_option maxRecDepth 100000 in
set_option maxHeartbeats 4000000 in
theorem bdecode_any (A : Option Addr) (n c : Nat) (xs : Bs) (w : World) (hr : Row w A (cellsB xs)) (hn : n = xs.length) (hA : A = none → n = 0) (hlen : n ≤ 140737488355328) :
    Calls Try.prog 18 #[.slice A n c] w (BDPost xs w) := by
  have hmf : ∀ (fn : Fn) (first cap : Array Value) (w : World), (Instr.makeFunc fn first cap).run Try.prog w = .ok (.func fn first cap) w := fun _ _ _ _ => rfl
  have Hn := Lib.hid hn
  clear hn
  by_cases hbig : 65536 < n
  · have hbd : batDecode xs = (.zero, 4) := by
      unfold batDecode
      rw [if_pos (by have := Hn.out; omega)]
    go_enter_defers Try.func18, Try.ntmps18
    have b1 := (((Below.refl w.heap.size w).alloc (Nat.le_refl _) (.cells #[.int .i64 0, .slice none 0 0] 24)).alloc (by simp) (.cells #[.int .i64 4] 33))
    go_wp2
    refine ⟨_, ?_, BDPost.none hbd b1⟩
    simp [results, Try.results18, go_sem]
  go_enter_defers Try.func18, Try.ntmps18
  have LP1 := ((Loc.new w #[.int .i64 0, .slice none 0 0] 24).alloc (.cells #[.int .i64 0] 33))
  have LE1 := (Loc.new (w.alloc (.cells #[.int .i64 0, .slice none 0 0] 24)) #[.int .i64 0] 33)
  simp only [World.size_alloc] at LE1
  have b1 := (((Below.refl w.heap.size w).alloc (Nat.le_refl _) (.cells #[.int .i64 0, .slice none 0 0] 24)).alloc (by simp) (.cells #[.int .i64 0] 33))
  go_wp2_with fail
  refine (clone_any A n c xs _ (hr.of_below b1 (Nat.le_refl _)) Hn.out hA hlen).mono ?_; rintro e w1 ⟨A1, c1, rfl, hown1, hb1, _⟩
  have LP2 := LP1.below hb1 LP1.lt
  have LE2 := LE1.below hb1 LE1.lt
  have b2 := below_then b1 hb1 b1.size
  clear LP1 LE1 b1 hb1
  go_wp2_with fail
  refine (read_any A1 n c1 xs _ (Row.of_owns hown1) Hn.out (fun h => owns_none hown1 h) hlen).mono ?_; rintro e w2 ⟨r, rfl, hrge, hR2, hb2⟩
  have D2 : BDSt w w2 r (Rdr.new xs) (.int .i64 0) (.slice none 0 0) := ⟨LP2.below hb2 LP2.lt, LE2.below hb2 LE2.lt, hR2, below_then b2 hb2 b2.size⟩
  have hgt : w.heap.size ≤ r := by have := b2.size; omega
  clear LP2 LE2 b2 hb2 hR2 hrge hown1
  obtain ⟨f, r1, h1⟩ : ∃ f r1, (Rdr.new xs).number = (f, r1) := ⟨_, _, rfl⟩
  obtain ⟨nn, r2, h2⟩ : ∃ nn r2, r1.number = (nn, r2) := ⟨_, _, rfl⟩
  have hde := batDecode_eq (by have := Hn.out; omega) h1 h2
  have hnn := number_nonneg r1
  rw [h2] at hnn
  simp only at hnn
  have H1 := Lib.hid h1
  have H2 := Lib.hid h2
  have HDE := Lib.hid hde
  clear h1 h2 hde
  go_wp2_with fail
  refine (rnumber_any r _ _ D2.rd).mono ?_; rw [H1.out]; rintro e w3 ⟨rfl, hS⟩
  have D3 := D2.step hS hgt
  have D4 := D3.set0 (.int .i64 f)
  have p0 := D3.lp.cell 0; have f0 := D3.lp.free 0
  simp at p0
  clear D2 hS D3
  go_wp2_with fail
  refine (rnumber_any r _ _ D4.rd).mono ?_; rw [H2.out]; rintro e w4 ⟨rfl, hS⟩
  have D5 := D4.step hS hgt
  clear D4 hS p0 f0
  by_cases he : r2.err = 0
  · have hde := HDE.out
    rw [if_neg (by simp [he])] at hde
    have HDE1 := Lib.hid hde
    have hsu := fun W (hh : Rd W r r2) => bsure_yes r r2 W hh he
    have HSU := Lib.hid hsu
    have HE := Lib.hid he
    clear he hsu hde HDE
    go_wp2_with fail
    refine (HSU.out _ D5.rd).mono ?_; rintro e w5 ⟨rfl, hS⟩
    have D6 := D5.step hS hgt
    clear D5 hS HSU
    by_cases h64 : 64 < nn
    · have hde := HDE1.out
      rw [if_pos h64] at hde
      have HDE2 := Lib.hid hde
      have ht : decide (nn ≤ 64) = false := by simp; omega
      clear hde
      go_wp2_with fail
      refine (unless_no _ _).mono ?_; rintro e w6 ⟨rfl, rfl⟩
      go_wp2
      exact D6.panic _ rfl rfl rfl HDE2.out
    · have hde := HDE1.out
      rw [if_neg h64] at hde
      have HDE2 := Lib.hid hde
      have ht : decide (nn ≤ 64) = true := by simp; omega
      clear hde HDE1
      go_wp2_with fail
      refine (unless_yes _ _).mono ?_; rintro e w6 ⟨rfl, rfl⟩
      obtain ⟨N, rfl⟩ := Int.eq_ofNat_of_zero_le hnn.1
      have hN : N ≤ 64 := by omega
      rw [Int.toNat_natCast] at HDE2
      clear ht h64 hnn
      go_wp2
      go_loopw [25] (fun i wr => ∃ k l q A' c', k ≤ N ∧ i = .int .i64 (k : Nat) ∧ l.length = k ∧ BDSt w wr r q (.int .i64 f) (.slice A' k c') ∧
          wr.ownsRow w.heap.size 30 6 (.slice A' k c') k (txnsCells l) ∧ (∀ x ∈ l, x.own wr w.heap.size) ∧ Hid (readTxns xs.length N r2 [] = readTxns xs.length (N - k) q (l.map (·.t)))) (fun i _ => N - (intOf i).toNat)
      case atStart => exact ⟨0, [], r2, none, 0, Nat.zero_le _, rfl, rfl, D6, World.ownsRow_nil _ _ _ _, (fun x hx => by cases hx), Lib.hid rfl⟩
      case round =>
        obtain ⟨wi, rfl⟩ : ∃ wi, wi = wr := ⟨_, rfl⟩
        obtain ⟨k, l, q, A', c', hk, rfl, hl, DI, hown, hxo, HRC⟩ := hrel
        clear D6
        by_cases hkN : k < N
        · obtain ⟨X, q2, e, hri⟩ : ∃ X q2 e, readTxn n q = ((X, q2), e) := ⟨_, _, _, rfl⟩
          have hst := HRC.out
          rw [show N - k = (N - (k + 1)) + 1 by omega, readTxns_step, ← Hn.out, hri] at hst
          simp only at hst
          rw [Hn.out] at hst
          have HST := Lib.hid hst
          have hkN' : (k : Int) < (N : Int) := by omega
          have p1 := DI.lp.cell 1; have f1 := DI.lp.free 1
          simp at p1
          have hcall := fun W (hR : Rd W r q) => btxn_any r q n W hR hlen
          rw [hri] at hcall
          clear hst hri HRC
          by_cases he : e = 0
          · subst he
            have hst := HST.out
            rw [if_neg (by simp)] at hst
            have HST2 := Lib.hid hst
            obtain ⟨tk, ⟨pn, pa, pc⟩, nm, vs⟩ := X
            have hcall2 : ∀ W, Rd W r q → Calls Try.prog 38 #[.pointer (some ⟨r, 0, none⟩), .int .i64 n] W fun e w' => ∃ A2 c2 B2 d2, e = .returned (.agg #[.int .i64 tk, .string pn, .int .i64 pa, .slice B2 pc.length d2, .string nm, .slice A2 vs.length c2]) ∧ TxnC.own w' W.heap.size ⟨⟨tk, ⟨pn, pa, pc⟩, nm, vs⟩, A2, c2, B2, d2⟩ ∧ RdStep W w' r q2 :=
              fun W hR => (hcall W hR).mono (fun e w' h => h.1 rfl)
            have HCALL := Lib.hid hcall2
            have haft : ∀ w7 A2 c2 B2 d2, RdStep wi.drew w7 r q2 → TxnC.own w7 wi.drew.heap.size ⟨⟨tk, ⟨pn, pa, pc⟩, nm, vs⟩, A2, c2, B2, d2⟩ → BDSt w w7 r q2 (.int .i64 f) (.slice A' k c') ∧
                w7.cell? ⟨w.heap.size, 1, none⟩ = some (.slice A' k c') ∧ w7.frozen? ⟨w.heap.size, 1, none⟩ = false ∧
                BDSt w (w7.alloc (.cells #[.int .i64 tk, .string pn, .int .i64 pa, .slice B2 pc.length d2, .string nm, .slice A2 vs.length c2] 30)) r q2 (.int .i64 f) (.slice A' k c') ∧
                (w7.alloc (.cells #[.int .i64 tk, .string pn, .int .i64 pa, .slice B2 pc.length d2, .string nm, .slice A2 vs.length c2] 30)).cell? ⟨w.heap.size, 1, none⟩ = some (.slice A' k c') ∧
                (w7.alloc (.cells #[.int .i64 tk, .string pn, .int .i64 pa, .slice B2 pc.length d2, .string nm, .slice A2 vs.length c2] 30)).ownsRow 0 30 6 (.slice A' k c') k (txnsCells l) ∧
                Src Try.prog 6 22 (.slice (some ⟨w7.heap.size, 0, none⟩) 1 1) 1 (#[.int .i64 tk, .string pn, .int .i64 pa, .slice B2 pc.length d2, .string nm, .slice A2 vs.length c2] : Array Value).toList (w7.alloc (.cells #[.int .i64 tk, .string pn, .int .i64 pa, .slice B2 pc.length d2, .string nm, .slice A2 vs.length c2] 30)) ∧
                ∀ x ∈ l ++ [⟨⟨tk, ⟨pn, pa, pc⟩, nm, vs⟩, A2, c2, B2, d2⟩], x.own (w7.alloc (.cells #[.int .i64 tk, .string pn, .int .i64 pa, .slice B2 pc.length d2, .string nm, .slice A2 vs.length c2] 30)) w.heap.size := by
              intro w7 A2 c2 B2 d2 hS hxn
              have D7 := DI.drew.step hS hgt
              have D7a := D7.alloc (.cells #[.int .i64 tk, .string pn, .int .i64 pa, .slice B2 pc.length d2, .string nm, .slice A2 vs.length c2] 30)
              have hba := (Below.refl w7.heap.size w7).alloc (Nat.le_refl _) (.cells #[.int .i64 tk, .string pn, .int .i64 pa, .slice B2 pc.length d2, .string nm, .slice A2 vs.length c2] 30)
              have hown7 := rd_own (show wi.drew.ownsRow w.heap.size 30 6 (.slice A' k c') k (txnsCells l) from hown) (by decide) DI.drew.rd hS
              have hown7a := owns_base (base' := 0) (owns_mono' hown7 hba) (fun _ _ => Nat.zero_le _)
              have hsrc := Row.src (P := Try.prog) (c := 1) (size := 6) (n := 1) (tx := 22) (Row.of_loc (Loc.new w7 #[.int .i64 tk, .string pn, .int .i64 pa, .slice B2 pc.length d2, .string nm, .slice A2 vs.length c2] 30)) Try.underlying22 rfl (by simp [Value.oneCell']) (fun h => by simp at h)
              refine ⟨D7, ?_, D7.lp.free 1, D7a, ?_, hown7a, hsrc, fun x hx => ?_⟩
              · have := D7.lp.cell 1; simpa using this
              · have := D7a.lp.cell 1; simpa only [List.getElem?_toArray, List.getElem?_cons_zero, List.getElem?_cons_succ] using this
              · rcases List.mem_append.1 hx with hx | hx
                · exact ((TxnC.own.below (hxo x hx) ((Below.refl _ wi).drew)).rd DI.drew.rd hS).below hba
                · rw [List.mem_singleton.1 hx]
                  exact (hxn.mono (by have := DI.b.size; exact this)).below hba
            have HAFT := Lib.hid haft
            clear hst hcall hcall2 haft HST
            go_wp2_with fail
            refine wp_region_noPanic ?_
            go_region_law ((first | (go_simp; go_at_call 38; refine (HCALL.out _ DI.drew.rd).mono ?_; rintro e7 w7 ⟨A2, c2, B2, d2, rfl, hxn, hS⟩; obtain ⟨D7, p1', f1', D7a, p1a, hown7a, hsrc, hxa⟩ := HAFT.out w7 A2 c2 B2 d2 hS hxn) | (refine step_append_mine _ rfl _ _ 22 22 rfl 30 (.agg #[.int .i64 0, .string ⟨#[]⟩, .int .i64 0, .slice none 0 0, .string ⟨#[]⟩, .slice none 0 0]) 6 96 Try.underlying22 infoTxn rfl (by decide) _ _ _ rfl hown7a _ _ _ rfl hsrc (by simp only [maxLen]; omega) (by omega) ?_; intro A3 c3 w8 hown8 hg8 hb8 hx8; have D8 := D7a.grown hown7a hg8 (fun k hk => (hown.lt k hk).1); have p1b := D8.lp.cell 1; have f1b := D8.lp.free 1; have D9 := D8.set1 (.slice A3 (k + 1) c3); simp at p1b)))
            all_goals
              clear HAFT HCALL hx8
              refine NoPanic.normal ?_
              go_wp2
              go_roundw
              case rel =>
                refine ⟨k + 1, l ++ [⟨⟨tk, ⟨pn, pa, pc⟩, nm, vs⟩, A2, c2, B2, d2⟩], q2, A3, c3, by omega, by go_num, by simp [hl], D9, ?_, ?_, ?_⟩
                · have htc : txnsCells (l ++ [⟨⟨tk, ⟨pn, pa, pc⟩, nm, vs⟩, A2, c2, B2, d2⟩]) = txnsCells l ++ [.int .i64 tk, .string pn, .int .i64 pa, .slice B2 pc.length d2, .string nm, .slice A2 vs.length c2] := by simp [txnsCells, TxnC.cells]
                  rw [htc]
                  refine owns_setCell (a := ⟨w.heap.size, 1, none⟩) (owns_base hown8 (fun kb hkb => ?_)) (owns_ne hown8 D8.lp (by decide)) _
                  rcases hb8 kb hkb with h | h
                  · exact (hown.lt kb h).1
                  · have := D7.b.size
                    rw [h, World.size_alloc]; omega
                · exact fun x hx => ((hxa x hx).grown hown7a hg8).set D8.lp (by decide) (by decide) 1 _
                · have hst := HST2.out
                  refine Lib.hid ?_
                  rw [List.map_append]
                  exact hst
              case measure => simp [intOf]; omega
          · have hst := HST.out
            rw [if_pos he] at hst
            have hde := HDE2.out
            rw [hst] at hde
            unfold bdecTail at hde
            simp only at hde
            rw [if_pos he] at hde
            have HDE3 := Lib.hid hde
            have hcall2 : ∀ W, Rd W r q → Calls Try.prog 38 #[.pointer (some ⟨r, 0, none⟩), .int .i64 n] W fun e' w' => e' = .panicked (brefusal e) ∧ ∃ s, RdStep W w' r s :=
              fun W hR => (hcall W hR).mono (fun e w' h => h.2 he)
            have HCALL := Lib.hid hcall2
            clear hst hde hcall hcall2 he HST
            go_wp2_with fail
            refine Code.wp_mono (fun ex a W h => ?_) (?_ : Code.wp _ _ (BRPan w r e) _ _)
            · cases ex <;> first | exact (h : False).elim | skip
              obtain ⟨rfl, k2, k3, k4, _, _, _, hD⟩ := h
              exact hD.panic _ k2 k3 k4 HDE3.out
            · refine wp_region_held_drew (S := fun W => W.cell? ⟨w.heap.size, 1, none⟩ = some (.slice A' k c')) (by kernel_rfl) p1 (fun hH => ?_)
              refine wpAnyH_take (i := 0) (v := ?_) rfl (by kernel_rfl) (by kernel_rfl) (by kernel_rfl) (BRPan.put 27 (by decide) (by decide) _) (Or.inl ⟨by rfl, ?_⟩) hH ?_
              rotate_left
              · intro W q1
                go_simp
                try with_reducible rfl
              refine wpAnyH_take (i := 1) (v := ?_) rfl (by kernel_rfl) (by kernel_rfl) (by kernel_rfl) (BRPan.put 28 (by decide) (by decide) _) (Or.inl ⟨by rfl, ?_⟩) hH ?_
              rotate_left
              · intro W q1
                go_simp
                try with_reducible rfl
              refine wpAnyH_take (i := 2) (v := ?_) rfl (by kernel_rfl) (by kernel_rfl) (by kernel_rfl) (BRPan.put 29 (by decide) (by decide) _) (Or.inl ⟨by rfl, ?_⟩) hH ?_
              rotate_left
              · intro W q1
                go_simp
                try with_reducible rfl
              refine wpAnyH_take (i := 3) (v := ?_) rfl (by kernel_rfl) (by kernel_rfl) (by kernel_rfl) (BRPan.put 30 (by decide) (by decide) _) (Or.inl ⟨by rfl, ?_⟩) hH ?_
              rotate_left
              · intro W q1
                go_simp
                try with_reducible rfl
              refine wpAnyH_take (i := 4) (v := ?_) rfl (by kernel_rfl) (by kernel_rfl) (by kernel_rfl) (BRPan.put 31 (by decide) (by decide) _) (Or.inl ⟨by rfl, ?_⟩) hH ?_
              rotate_left
              · intro W q1
                go_simp
                try with_reducible rfl
              refine wpAnyH_ready (rs := [5]) (by kernel_rfl) (by simp) ?_
              refine AllReadyH.cons rfl (fun K hK => ?_) AllReadyH.nil
              go_simp
              refine (HCALL.out _ DI.drew.rd).mono ?_; rintro e7 w7 ⟨rfl, s7, hS⟩
              exact ⟨rfl, rfl, rfl, rfl, _, _, _, DI.drew.step hS hgt⟩
        · obtain rfl : k = N := by omega
          have hst := HRC.out
          rw [Nat.sub_self, readTxns] at hst
          have hde := HDE2.out
          rw [hst] at hde
          unfold bdecTail at hde
          simp only at hde
          rw [if_neg (by simp)] at hde
          have hok := readTxns_ok H1.out H2.out HE.out (by rw [Int.toNat_natCast]; exact hst)
          have HOK := Lib.hid hok
          have HDE3 := Lib.hid hde
          clear hst hde hok HRC HDE2
          go_wp2_with fail
          refine (rend_any r _ _ DI.rd).mono ?_; rintro e w7 ⟨rfl, hS⟩
          have D7 := DI.step hS hgt
          have hown7 := rd_own hown (by decide) DI.rd hS
          have hxo7 := fun x hx => (hxo x hx).rd DI.rd hS
          clear hS DI hown hxo
          have p3 := D7.le.cell 0
          have f3 := D7.le.free 0
          simp at p3
          by_cases hen : q.end_ = 0
          · have hte : (q.end_ == 0) = true := by simp [hen]
            have hde := HDE3.out
            rw [if_neg (by simp [hen])] at hde
            have HDE4 := Lib.hid hde
            clear hde HDE3
            have D8 := D7.sete
            have hown8 := owns_setCell (a := ⟨w.heap.size + 1, 0, none⟩) hown7 (owns_ne hown7 D7.le (by decide)) (.int .i64 0)
            have hxo8 := fun x hx => (hxo7 x hx).set D7.le (by decide) (by decide) 0 (.int .i64 0)
            rw [hen] at hte ⊢
            go_wp2_with fail
            refine (unless_yes _ _).mono ?_; rintro e w8 ⟨rfl, rfl⟩
            obtain ⟨z, hz⟩ : ∃ z, z = batCheck ⟨f, l.map (·.t)⟩ := ⟨_, rfl⟩
            rw [← hz] at HDE4
            have hck := fun W (h1 : Row W A' (txnsCells l)) (h2 : ∀ x ∈ l, x.ok W) => bcheck_any f l A' c' W h1 h2 (fun x hx => shape_fit (HOK.out.2 _ (List.mem_map_of_mem hx))) (by omega) HOK.out.1
            rw [← hz, hl] at hck
            have HCK := Lib.hid hck
            have p0 := D8.lp.cell 0; have p1 := D8.lp.cell 1; have p4 := D8.le.cell 0
            have f0 := D8.lp.free 0; have f1 := D8.lp.free 1; have f4 := D8.le.free 0
            simp at p0 p1 p4
            clear hck hz p3 f3 D7 hown7 hxo7
            go_wp2_with fail
            refine (HCK.out _ (Row.of_owns hown8) (fun x hx => (hxo8 x hx).ok)).mono ?_; rintro e w8 ⟨rfl, hb8⟩
            have D9 := D8.below hb8
            have hown9 := owns_mono' hown8 hb8
            have hxo9 := fun x hx => (hxo8 x hx).below hb8
            clear p0 p1 p4 f0 f1 f4 D8 hown8 hxo8 hb8
            have p3 := D9.le.cell 0
            have f3 := D9.le.free 0
            simp at p3
            by_cases hz2 : z = 0
            · subst hz2
              have hde := HDE4.out
              rw [if_neg (by simp)] at hde
              have HDE5 := Lib.hid hde
              have D10 := D9.sete
              have hown10 := owns_setCell (a := ⟨w.heap.size + 1, 0, none⟩) hown9 (owns_ne hown9 D9.le (by decide)) (.int .i64 0)
              have hxo10 := fun x hx => (hxo9 x hx).set D9.le (by decide) (by decide) 0 (.int .i64 0)
              clear hde HDE4
              go_wp2_with fail
              refine (unless_yes _ _).mono ?_; rintro e w8 ⟨rfl, rfl⟩
              have p0 := D10.lp.cell 0; have p1 := D10.lp.cell 1; have p4 := D10.le.cell 0
              have f0 := D10.lp.free 0; have f1 := D10.lp.free 1; have f4 := D10.le.free 0
              simp at p0 p1 p4
              have D11 := (D10.set0 (.int .i64 f))
              have D12 := (D11.set1 (.slice A' k c'))
              have D13 := D12.sete
              have o1 := owns_setCell (a := ⟨w.heap.size, 0, none⟩) hown10 (owns_ne hown10 D10.lp (by decide)) (.int .i64 f)
              have o2 := owns_setCell (a := ⟨w.heap.size, 1, none⟩) o1 (owns_ne o1 D11.lp (by decide)) (.slice A' k c')
              have o3 := owns_setCell (a := ⟨w.heap.size + 1, 0, none⟩) o2 (owns_ne o2 D12.le (by decide)) (.int .i64 0)
              have x1 := fun x hx => (hxo10 x hx).set D10.lp (by decide) (by decide) 0 (.int .i64 f)
              have x2 := fun x hx => (x1 x hx).set D11.lp (by decide) (by decide) 1 (.slice A' k c')
              have x3 := fun x hx => (x2 x hx).set D12.le (by decide) (by decide) 0 (.int .i64 0)
              subst hl
              go_wp2
              exact D13.good _ rfl rfl rfl o3 x3 HDE5.out
            · have hde := HDE4.out
              rw [if_pos hz2] at hde
              have HDE5 := Lib.hid hde
              have ht : (z == 0) = false := by simpa using hz2
              clear hde HDE4 hz2
              go_wp2_with fail
              refine (unless_no _ _).mono ?_; rintro e w8 ⟨rfl, rfl⟩
              go_wp2
              exact D9.panic' _ rfl rfl rfl HDE5.out
          · have hte : (q.end_ == 0) = false := by simpa using hen
            have hde := HDE3.out
            rw [if_pos hen] at hde
            have HDE4 := Lib.hid hde
            clear hde hen HDE3
            go_wp2_with fail
            refine (unless_no _ _).mono ?_; rintro e w8 ⟨rfl, rfl⟩
            go_wp2
            exact D7.panic' _ rfl rfl rfl HDE4.out
  · have hde := HDE.out
    rw [if_pos he] at hde
    have HDE1 := Lib.hid hde
    have hsu := fun W (hh : Rd W r r2) => bsure_no r r2 W hh he
    have HSU := Lib.hid hsu
    clear he hsu hde HDE
    go_wp2_with fail
    refine (HSU.out _ D5.rd).mono ?_; rintro e w5 ⟨rfl, hS⟩
    have D6 := D5.step hS hgt
    go_wp2
    exact D6.panic _ rfl rfl rfl HDE1.out
end Go.Proofs.Ytnmcdifkknphgaa
