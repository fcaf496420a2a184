/- Walk of BatchOwn. Printed by gen_bwn.py. -/
import Derived.Test.YtnmcdifkknphgaaBwa
namespace Go.Proofs.Ytnmcdifkknphgaa
open Go.RowKit

set_option maxRecDepth 100000 in
set_option maxHeartbeats 100000000 in
theorem bown_any (f : Int) (l : List TxnC) (A : Option Addr) (cap : Nat) (w : World) (hr : Row w A (txnsCells l)) (hcm : ∀ y ∈ l, y.came w) (hf : i64R f) :
    Calls Try.prog 8 #[.agg #[.int .i64 f, .slice A l.length cap]] w fun e w' => e = .returned (.bool true) ∧ Below w.heap.size w w' := by
  have hlong := fun W (b : Below w.heap.size w W) => long_any f l A cap W (hr.of_below b (Nat.le_refl _))
  have htwin := fun W (b : Below w.heap.size w W) h3 ha => btwin_any f l A cap W (hr.of_below b (Nat.le_refl _)) (fun y hy => (hcm y hy).ok.below b) h3 ha
  have HF := Lib.hid hf
  have HCM := Lib.hid hcm
  have HR := Lib.hid hr
  obtain ⟨n, hn⟩ : ∃ n, n = l.length := ⟨_, rfl⟩
  rw [← hn] at hlong htwin ⊢
  have HLONG := Lib.hid hlong
  have HTWIN := Lib.hid htwin
  have HN := Lib.hid hn
  clear hlong htwin hn hf hcm hr
  go_enter Try.func8, Try.ntmps8
  have b0 := (Below.refl w.heap.size w).alloc (Nat.le_refl _) (.cells #[.int .i64 f, .slice A n cap] 24)
  have L0 := Loc.new w #[.int .i64 f, .slice A n cap] 24
  go_wp2_with fail
  refine (HLONG.out _ b0).mono ?_; rintro e w1 ⟨⟨bb, rfl, hbb⟩, hb⟩
  have L1 := L0.below hb L0.lt
  have b1 := below_then b0 hb b0.size
  clear L0 b0 hb
  cases bb with
  | true =>
    go_wp2
    go_ret
    exact ⟨rfl, b1⟩
  | false =>
    have HBB := Lib.hid (hbb rfl)
    clear hbb
    have hlall := HBB.out
    have hcm := HCM.out
    have hfit : ∀ y ∈ l, y.fit := fun y hy => (hcm y hy).fit (hlall.2 y hy).1 (hlall.2 y hy).2
    have hnum : ∀ y ∈ l, ∀ v ∈ y.t.args, i64v v := fun y hy => (hcm y hy).num
    have hbn : (⟨f, l.map (·.t)⟩ : Bat).num := bat_num hcm
    obtain ⟨zs, z2, hz⟩ : ∃ zs z2, batEncode ⟨f, l.map (·.t)⟩ = (zs, z2) := ⟨_, _, rfl⟩
    have hzl : zs.length ≤ 65536 := by
      have := batEncode_le ⟨f, l.map (·.t)⟩
      rw [hz] at this
      exact this
    obtain ⟨N, hN⟩ : ∃ N, N = zs.length := ⟨_, rfl⟩
    have hen : ∀ W, Below w.heap.size w W → Calls Try.prog 15 #[.agg #[.int .i64 f, .slice A n cap]] W fun e w' => ∃ A' c', e = .returned (.tuple #[.slice A' N c', .int .i64 z2]) ∧ w'.ownsRow W.heap.size 5 1 (.slice A' N c') N (cellsB zs) ∧ Below W.heap.size W w' := fun W b => by
      have h := bencode_any f l A cap W (HR.out.of_below b (Nat.le_refl _)) (fun y hy => (hcm y hy).ok.below b) hfit hnum (by have := hlall.1; omega) HF.out
      rw [← HN.out, hz] at h
      rw [hN]
      exact h
    rw [← hN] at hzl
    have HEN := Lib.hid hen
    have HFIT := Lib.hid hfit
    have HNUM := Lib.hid hnum
    have HBN := Lib.hid hbn
    have HZ := Lib.hid hz
    have HNN := Lib.hid hN
    have p0 := L1.cell 0; have p1 := L1.cell 1
    simp at p0 p1
    clear hen hlall hcm hfit hnum hbn hz hN
    go_wp2_with fail
    refine (HEN.out _ b1).mono ?_; rintro e w2 ⟨AL, cL, rfl, oL, hb⟩
    have L2 := L1.below hb L1.lt
    have b2 := below_then b1 hb b1.size
    clear L1 b1 hb p0 p1
    by_cases hz2 : z2 = 0
    · subst hz2
      have hdec := batEncode_dec HZ.out HBN.out
      have hck := (batEncode_ok HZ.out).1
      obtain ⟨_, ⟨hn1, hn2⟩, _⟩ := batCheck_zero hck
      rw [List.length_map, ← HN.out] at hn1 hn2
      have HDEC := Lib.hid hdec
      have p0 := L2.cell 0; have p1 := L2.cell 1
      simp at p0 p1
      clear hdec hck
      go_wp2_with fail
      refine (HTWIN.out _ b2 (by rw [HN.out]; exact HBB.out.1) HBB.out.2).mono ?_; rintro e w3 ⟨G, d, lt, rfl, hm, own3, hT3, hb⟩
      rw [← HN.out] at own3 ⊢
      have hw2 := b2.size
      have bA := (Below.refl w3.heap.size w3).alloc (Nat.le_refl _) (.cells #[.int .i64 f, .slice (some ⟨G, 0, none⟩) n d] 24)
      have D4 := Loc.new w3 #[.int .i64 f, .slice (some ⟨G, 0, none⟩) n d] 24
      have L4 := (L2.below hb L2.lt).below bA (L2.below hb L2.lt).lt
      have b4 := below_then (below_then b2 hb b2.size) bA (below_then b2 hb b2.size).size
      have oL4 := owns_mono' (owns_mono' oL hb) bA
      have own4 := owns_mono' own3 bA
      have hT4 := fun y hy => (hT3 y hy).below bA
      clear L2 b2 oL own3 hT3 bA hb p0 p1
      go_upto_region 7 with (fail)
      obtain ⟨Db, hDb⟩ : ∃ Db, Db = w3.heap.size := ⟨_, rfl⟩
      rw [← hDb] at D4 ⊢
      generalize w3.alloc (.cells #[.int .i64 f, .slice (some ⟨G, 0, none⟩) n d] 24) = w4 at *
      clear hDb
      have hbA := (Below.refl w4.heap.size w4).alloc (Nat.le_refl _) (.cells #[] 5)
      have hlit : (w4.alloc (.cells #[] 5)).ownsRow w4.heap.size 5 1 (.slice (some ⟨w4.heap.size, 0, none⟩) 0 0) 0 [] := World.ownsRow_lit w4 #[] 0 (Nat.le_refl _) (by decide) rfl
      have hsrc := (Row.of_owns (owns_mono' oL4 hbA)).src (P := Try.prog) (size := 1) (n := N) (c := cL) (tx := 39) Try.underlying39 (by rw [cellsB_length, HNN.out]; omega) (cellsB_one zs) (owns_none oL4)
      have HLIT := Lib.hid (owns_base (base' := 0) hlit (fun _ _ => Nat.zero_le _))
      have HSRC := Lib.hid hsrc
      clear hsrc
      go_wp2_with (first | (at_builtin; refine wpList_append_mine _ rfl _ _ 39 39 rfl 5 (.int .u8 0) 1 1 Try.underlying39 infoU8 rfl (by decide) (.slice (some ⟨w4.heap.size, 0, none⟩) 0 0) 0 [] rfl HLIT.out (.slice AL N cL) N (cellsB zs) rfl HSRC.out (by unfold maxLen; omega) (by omega) ?_; intro AK cK w5 hown5 hg5 hb5 hx5))
      obtain ⟨oK, bK⟩ := own_next0 hlit hown5 hg5 hb5 hbA.size hbA
      rw [Nat.zero_add, List.nil_append] at oK
      have L5 := L4.below bK L4.lt
      have D5 := D4.below bK D4.lt
      have b5 := below_then b4 bK b4.size
      have oL5 := owns_mono' oL4 bK
      have own5 := owns_mono' own4 bK
      have hT5 := fun y hy => (hT4 y hy).below bK
      have hll : lt.length = n := by have := congrArg List.length hm; simp at this; rw [this, HN.out]
      have hmt := hm
      clear L4 D4 b4 oL4 own4 hT4 hbA hlit HLIT HSRC hown5 hg5 hb5 hx5 bK
      have hen2 : ∀ W, Below w5.heap.size w5 W → Calls Try.prog 15 #[.agg #[.int .i64 f, .slice (some ⟨G, 0, none⟩) n d]] W fun e w' => ∃ A' c', e = .returned (.tuple #[.slice A' N c', .int .i64 0]) ∧ w'.ownsRow W.heap.size 5 1 (.slice A' N c') N (cellsB zs) ∧ Below W.heap.size W w' := fun W b => by
        have h := bencode_any f lt (some ⟨G, 0, none⟩) d W (by have := (Row.of_owns own5).of_below b (Nat.le_refl _); rw [txnsCells_append] at this; exact this.fore) (fun y hy => ((hT5 y hy).below b).ok) (fit_of hm HFIT.out) (num_of hm HNUM.out) (by omega) HF.out
        rw [hm, hll, HZ.out] at h
        rw [HNN.out]
        exact h
      have hdc : ∀ W, Below w5.heap.size w5 W → Calls Try.prog 18 #[.slice AL N cL] W (BDPost2 zs W) := fun W b =>
        bdecode2_any AL N cL zs W (Row.of_owns (owns_mono' oL5 b)) HNN.out (owns_none oL5) (by omega)
      have hsk : ∀ W A1 c1, Below w5.heap.size w5 W → Row W A1 (cellsB zs) → Calls Try.prog 17 #[.slice A1 N c1, .slice AK N cK] W fun e w' => e = .returned (.bool true) ∧ Below W.heap.size W w' := fun W A1 c1 b h1 => by
        have h := same_any A1 AK N N c1 cK zs zs W h1 (Row.of_owns (owns_mono' oK b)) HNN.out HNN.out (by omega) (by omega)
        rw [decide_eq_true rfl] at h
        exact h
      have hss : ∀ W (li : List TxnC) L c, Below w5.heap.size w5 W → li.map (·.t) = l.map (·.t) → Row W L (txnsCells li) → (∀ x ∈ li, x.ok W) → Calls Try.prog 20 #[.agg #[.int .i64 f, .slice A n cap], .agg #[.int .i64 f, .slice L n c]] W fun e w' => e = .returned (.bool true) ∧ Below W.heap.size W w' := fun W li L c b hli h1 h2 => by
        have bw := below_then b5 b b5.size
        have hlen : li.length = n := by have := congrArg List.length hli; simp at this; rw [this, HN.out]
        have h := brefSame_any f f l li A L cap c W (HR.out.of_below bw (Nat.le_refl _)) h1 (by have := HN.out; omega) (by omega) (fun y hy => (HCM.out y hy).ok.below bw) h2 HFIT.out (fit_of hli HFIT.out)
        rw [hli, hlen, ← HN.out] at h
        refine h.mono ?_
        rintro e w' ⟨⟨res, rfl, hres⟩, hb⟩
        obtain rfl : res = true := hres.2 ⟨rfl, rfl⟩
        exact ⟨rfl, hb⟩
      have hbx : ∀ W, Below w5.heap.size w5 W → W.cell? ⟨w.heap.size, 0, none⟩ = some (.int .i64 f) ∧ W.cell? ⟨w.heap.size, 1, none⟩ = some (.slice A n cap) ∧ W.cell? ⟨Db, 0, none⟩ = some (.int .i64 f) ∧ W.cell? ⟨Db, 1, none⟩ = some (.slice (some ⟨G, 0, none⟩) n d) := fun W b => by
        have hL := L5.below b L5.lt
        have hD := D5.below b D5.lt
        exact ⟨hL.cell 0, hL.cell 1, hD.cell 0, hD.cell 1⟩
      have hfin : ∀ W, Below w5.heap.size w5 W → Calls Try.prog 17 #[.slice AL N cL, .slice AK N cK] W fun e w' => e = .returned (.bool true) ∧ Below W.heap.size W w' := fun W b => hsk W AL cL b (Row.of_owns (owns_mono' oL5 b))
      have hst : ∀ W, Below w5.heap.size w5 W → Calls Try.prog 13 #[.agg #[.int .i64 f, .slice (some ⟨G, 0, none⟩) n d], .agg #[.int .i64 f, .slice A n cap]] W fun e w' => e = .returned (.bool true) ∧ Below W.heap.size W w' := fun W b => by
        have bw := below_then b5 b b5.size
        have h := bstands_any f l lt A cap G d w2.heap.size W (HR.out.of_below bw (Nat.le_refl _)) (fun y hy => (HCM.out y hy).ok.below bw) HBB.out.1 HBB.out.2 HFIT.out hm (by rw [← HN.out]; exact owns_mono' own5 b) (fun y hy => (hT5 y hy).below b)
        rw [← HN.out] at h
        exact h
      have HEN2 := Lib.hid hen2
      have HDC := Lib.hid hdc
      have HSK := Lib.hid hsk
      have HSS := Lib.hid hss
      have HBX := Lib.hid hbx
      have HFIN := Lib.hid hfin
      have HST := Lib.hid hst
      clear hen2 hdc hsk hss hbx hfin hst hm hmt hT5 own5 oL5 L5 D5 oK hll
      have E0 := ((Desk.start w5 (fun _ _ => Rw.new 0 0 none 0 0 []) (fun _ => ⟨0, #[], 0⟩)).addRow 7 0 (Below.refl _ _) (World.ownsRow_nil w5 _ 39 1) (fun i hi => absurd hi (by omega))).addRow 7 1 (Below.refl _ _) (World.ownsRow_nil w5 _ 24 2) (fun i hi => absurd hi (by omega))
      have E1 := E0.congr (E := D1 n 0) (F' := F1 zs f n (fun _ => ⟨none, 0⟩) (fun _ => ⟨none, 0⟩) [] (fun _ => ⟨none, 0⟩) 0) (fun c j h => by
        rcases h with ⟨_, h⟩ | ⟨_, h⟩ | ⟨_, h⟩ | ⟨rfl, h⟩
        · omega
        · omega
        · omega
        · have hj : j = 0 ∨ j = 1 := by omega
          rcases hj with rfl | rfl
          · exact .inl (.inr ⟨rfl, rfl⟩)
          · exact .inr ⟨rfl, rfl⟩) (fun c j h => by
        rcases h with ⟨_, h⟩ | ⟨_, h⟩ | ⟨_, h⟩ | ⟨rfl, h⟩
        · omega
        · omega
        · omega
        · have hj : j = 0 ∨ j = 1 := by omega
          rcases hj with rfl | rfl
          · rfl
          · rfl)
      have HE1 := Lib.hid E1
      clear E0 E1
      go_wp2
      go_loopw [7, 8, 9] (fun a b i wr => ∃ (k : Nat) (R T : Nat → Pl) (TL : List TxnC) (P : Nat → Pl), k ≤ 3 ∧ a = .slice (P 0).A k (P 0).c ∧ b = .slice (P 1).A k (P 1).c ∧ i = .int .i64 (k : Nat) ∧ Hid (TL.length = k * n) ∧ Hid (∀ j, j < k → ((TL.drop (j * n)).take n).map (·.t) = l.map (·.t)) ∧ Hid (Desk w5 wr (D1 n k) (F1 zs f n R T TL P k) 0 (fun _ => ⟨0, #[], 0⟩))) (fun _ _ i _ => 3 - (intOf i).toNat)
      case atStart => exact ⟨0, _, _, [], _, by omega, rfl, rfl, rfl, Lib.hid (by simp), Lib.hid (fun j hj => absurd hj (by omega)), HE1⟩
      case round =>
        obtain ⟨wk, rfl⟩ : ∃ wk, wk = wr := ⟨_, rfl⟩
        obtain ⟨k, R, T, TL, P, hk, rfl, rfl, rfl, HTL, HTM, HE⟩ := hrel
        clear HE1
        obtain ⟨e0, e1, d0, d1⟩ := HBX.out wk HE.out.b
        by_cases hk3 : k < 3
        · have hk3' : (k : Int) < 3 := by omega
          have hk0' : (0 : Int) ≤ (k : Int) := by omega
          as_aux_lemma =>
          go_wp2_with fail
          refine (HEN2.out _ HE.out.b).mono ?_; rintro e u1 ⟨A1, c1, rfl, o1, hb⟩
          have E1 := HE.out.addRow 0 k hb o1 (fun i hi => absurd hi (by omega))
          clear hb e0 e1 d0 d1
          go_wp2_with fail
          refine (HDC.out _ E1.b).mono ?_; rintro e u2 ⟨li, LA, ct, hli, rfl, o2, hx2, hsep, hb⟩
          rw [HDEC.out] at hli ⊢
          simp only at hli ⊢
          have hln : li.length = n := by have := congrArg List.length hli; simp at this; rw [this, HN.out]
          rw [hln] at o2 ⊢
          have E2 := E1.join hb (bag_dec (k := k) (F := (F1 zs f n (upl R k ⟨A1, c1⟩) (upl T k ⟨LA, ct⟩) (TL ++ li) P k)) hln o2 hx2 hsep (F1_txn HTL.out hln) (fun q hq => (F1_args HTL.out q hq).1) (fun q hq => (F1_args HTL.out q hq).2)) (fun c j h => by rw [HNN.out]; exact F1_step HTL.out h) (fun c j h i hi => absurd hi (by omega))
          have bq := (Below.refl u2.heap.size u2).alloc (Nat.le_refl _) (.cells #[.int .i64 f, .slice LA n ct] 24)
          have QB := Loc.new u2 #[.int .i64 f, .slice LA n ct] 24
          have E3 := E2.below bq
          have o13 := E3.own (cl := 0) (j := k) (.inl (.inr ⟨rfl, rfl⟩)) (r := Rw.new 5 1 A1 zs.length c1 (cellsB zs)) (by simp [F1, upl_self])
          have hx3 := fun x hx => (hx2 x hx).below bq
          have HLI := Lib.hid hli
          clear o1 o2 hx2 hsep E1 E2 hli hb bq
          go_wp2_with fail
          refine (HSK.out _ A1 c1 E3.b (Row.of_owns o13)).mono ?_; rintro e u3 ⟨rfl, hb⟩
          have E4 := E3.below hb
          have QB4 := QB.below hb QB.lt
          have hx4 := fun x hx => (hx3 x hx).below hb
          have o24 := E4.own (cl := 1) (j := k) (.inr (.inl ⟨rfl, rfl⟩)) (F1_txn HTL.out hln)
          obtain ⟨e0, e1, _, _⟩ := HBX.out _ E4.b
          have q0 := QB4.cell 0; have q1 := QB4.cell 1
          simp at q0 q1
          clear E3 QB hx3 o13 hb
          go_wp2_with fail
          refine (HSS.out _ li LA ct E4.b HLI.out (Row.of_owns o24) (fun x hx => (hx4 x hx).ok)).mono ?_; rintro e u4 ⟨rfl, hb⟩
          have E5 := E4.below hb
          have QB5 := QB4.below hb QB4.lt
          clear E4 QB4 hx4 o24 e0 e1 q0 q1 hb
          have b6 := (Below.refl u4.heap.size u4).alloc (Nat.le_refl _) (.cells #[.slice A1 N c1] 39)
          have E6 := E5.below b6
          have QB6 := QB5.below b6 QB5.lt
          have hd0 : ((D1 n k 7 0 ∨ (7 = 0 ∧ 0 = k)) ∨ (7 = 1 ∧ 0 = k) ∨ ((7 = 2 ∨ 7 = 3) ∧ k * n ≤ 0 ∧ 0 < k * n + n)) := .inl (.inl (.inr (.inr (.inr ⟨rfl, by decide⟩))))
          have hd1 : ((D1 n k 7 1 ∨ (7 = 0 ∧ 1 = k)) ∨ (7 = 1 ∧ 1 = k) ∨ ((7 = 2 ∨ 7 = 3) ∧ k * n ≤ 1 ∧ 1 < k * n + n)) := .inl (.inl (.inr (.inr (.inr ⟨rfl, by decide⟩))))
          have hr0 : (F1 zs f n (upl R k ⟨A1, c1⟩) (upl T k ⟨LA, ct⟩) (TL ++ li) P k) 7 0 = ⟨39, 1, none, 0, 0, [], (P 0).A, k, (P 0).c, slB (upl R k ⟨A1, c1⟩) zs.length k⟩ := rfl
          have own0 := E6.own hd0 hr0
          have hsrc := Row.src (P := Try.prog) (c := 1) (size := 1) (n := 1) (tx := 52) (Row.of_loc (Loc.new u4 #[.slice A1 N c1] 39)) Try.underlying52 rfl (by simp [Value.oneCell']) (fun h => by simp at h)
          have HSRC := Lib.hid hsrc
          have HOWN := Lib.hid own0
          have HR0 := Lib.hid hr0
          clear hsrc own0 hr0 b6 E5 QB5
          go_wp2_with (first | (at_builtin; refine wpList_append_keep _ rfl _ _ 52 52 rfl 39 (.slice none 0 0) 1 24 Try.underlying52 infoSl rfl (by decide) (.slice (P 0).A k (P 0).c) k _ rfl (owns_base (base' := 0) HOWN.out (fun _ _ => Nat.zero_le _)) _ 1 _ rfl HSRC.out (by unfold maxLen; omega) (by omega) ?_; intro A7 c7 w7 hown hg hbl hmv; have E7 := E6.grow 7 0 hd0 HR0.out hown hg hbl hmv; have QB7 := QB6.grown hg (owns_ne HOWN.out QB6 (by decide)); have q0 := QB7.cell 0; have q1 := QB7.cell 1; simp at q0 q1; have b8 := (Below.refl w7.heap.size w7).alloc (Nat.le_refl _) (.cells #[.int .i64 f, .slice LA n ct] 24); have E8 := E7.below b8; have hr1 := (up_other (F1 zs f n (upl R k ⟨A1, c1⟩) (upl T k ⟨LA, ct⟩) (TL ++ li) P k) (c := 7) (j := 0) (c' := 7) (j' := 1) ⟨39, 1, none, 0, 0, [], A7, k + 1, c7, slB (upl R k ⟨A1, c1⟩) zs.length k ++ [.slice A1 N c1]⟩ (by omega)).trans (show (F1 zs f n (upl R k ⟨A1, c1⟩) (upl T k ⟨LA, ct⟩) (TL ++ li) P k) 7 1 = ⟨24, 2, none, 0, 0, [], (P 1).A, k, (P 1).c, slT f n (upl T k ⟨LA, ct⟩) k⟩ from rfl); have own1 := E8.own hd1 hr1; have hsrc := Row.src (P := Try.prog) (c := 1) (size := 2) (n := 1) (tx := 53) (Row.of_loc (Loc.new w7 #[.int .i64 f, .slice LA n ct] 24)) Try.underlying53 rfl (by simp [Value.oneCell']) (fun h => by simp at h); have HSRC1 := Lib.hid hsrc; have HOWN1 := Lib.hid own1; have HR1 := Lib.hid hr1; clear hsrc own1 hown hg hbl hmv E6 E7 QB6 QB7 b8 hr1 HOWN HSRC HR0) | (at_builtin; refine wpList_append_keep _ rfl _ _ 53 53 rfl 24 (.agg #[.int .i64 0, .slice none 0 0]) 2 32 Try.underlying53 infoBat rfl (by decide) (.slice (P 1).A k (P 1).c) k _ rfl (owns_base (base' := 0) HOWN1.out (fun _ _ => Nat.zero_le _)) _ 1 _ rfl HSRC1.out (by unfold maxLen; omega) (by omega) ?_; intro A8 c8 w8 hown hg hbl hmv; have E9 := E8.grow 7 1 hd1 HR1.out hown hg hbl hmv; clear hown hg hbl hmv E8 q0 q1 HOWN1 HSRC1 HR1))
          have hS : Desk w5 _ (D1 n (k + 1)) (F1 zs f n (upl R k ⟨A1, c1⟩) (upl T k ⟨LA, ct⟩) (TL ++ li) (upl (upl P 0 ⟨A7, c7⟩) 1 ⟨A8, c8⟩) (k + 1)) 0 (fun _ => ⟨0, #[], 0⟩) := E9.congr (fun c j h => by
            rcases h with ⟨rfl, h⟩ | ⟨rfl, h⟩ | ⟨h1, h⟩ | ⟨rfl, h⟩
            · by_cases e : j = k
              · exact .inl (.inr ⟨rfl, e⟩)
              · exact .inl (.inl (.inl ⟨rfl, by omega⟩))
            · by_cases e : j = k
              · exact .inr (.inl ⟨rfl, e⟩)
              · exact .inl (.inl (.inr (.inl ⟨rfl, by omega⟩)))
            · rw [Nat.add_mul, Nat.one_mul] at h
              by_cases e : j < k * n
              · exact .inl (.inl (.inr (.inr (.inl ⟨h1, e⟩))))
              · exact .inr (.inr ⟨h1, by omega, h⟩)
            · exact .inl (.inl (.inr (.inr (.inr ⟨rfl, h⟩))))) (fun c j h => by
            have := F1_done (zs := zs) (f := f) (n := n) (k := k) (R := upl R k ⟨A1, c1⟩) (T := upl T k ⟨LA, ct⟩) (AL := TL ++ li) (P := P) (a0 := A7) (c0 := c7) (a1 := A8) (c1 := c8) h
            rw [upl_self, upl_self, ← HNN.out] at this
            rw [this]
            rw [HNN.out])
          have HS := Lib.hid hS
          have hTL : (TL ++ li).length = (k + 1) * n := by rw [List.length_append, HTL.out, hln, Nat.add_mul, Nat.one_mul]
          have hTM : ∀ j, j < k + 1 → (((TL ++ li).drop (j * n)).take n).map (·.t) = l.map (·.t) := fun j hj => by
            by_cases e : j = k
            · subst e
              rw [← HTL.out, List.drop_left, ← hln, List.take_length]
              exact HLI.out
            · have h2 : j * n + n ≤ k * n := by have := Nat.mul_le_mul_right n (show j + 1 ≤ k by omega); rw [Nat.add_mul] at this; omega
              rw [List.drop_append_of_le_length (by rw [HTL.out]; omega), List.take_append_of_le_length (by rw [List.length_drop, HTL.out]; omega)]
              exact HTM.out j (by omega)
          have HTL1 := Lib.hid hTL
          have HTM1 := Lib.hid hTM
          clear E9 hS hTL hTM hd0 hd1 HE HTL HTM HLI hln
          go_roundw
          case rel => exact ⟨k + 1, _, _, TL ++ li, _, by omega, rfl, rfl, by go_num, HTL1, HTM1, HS⟩
          case measure => simp [intOf]; omega
        · obtain ⟨K, rfl⟩ : ∃ K, K = k := ⟨_, rfl⟩
          have hK3 : K = 3 := by omega
          have hK3n : ¬ (K : Int) < 3 := by omega
          have HK := Lib.hid hK3
          have S := HE.out
          have b1 := Below.refl wk.heap.size wk
          have hK0 : 0 < K := by omega
          have hdR : D1 n K 7 0 := .inr (.inr (.inr ⟨rfl, by decide⟩))
          have hdT : D1 n K 7 1 := .inr (.inr (.inr ⟨rfl, by decide⟩))
          have ownR := S.own hdR (r := ⟨39, 1, none, 0, 0, [], (P 0).A, K, (P 0).c, slB R zs.length K⟩) rfl
          have ownT := S.own hdT (r := ⟨24, 2, none, 0, 0, [], (P 1).A, K, (P 1).c, slT f n T K⟩) rfl
          obtain ⟨gR, hgR⟩ := own_at ownR hK0
          obtain ⟨gT, hgT⟩ := own_at ownT hK0
          have hgR' : (P 0).A = some ⟨gR, 0, none⟩ := hgR
          have hgT' : (P 1).A = some ⟨gT, 0, none⟩ := hgT
          have HGR := Lib.hid hgR'
          have HGT := Lib.hid hgT'
          rw [hgR', hgT']
          clear hK3 e0 e1 d0 d1 HE ownR ownT hgR hgT hgR' hgT' hdR hdT hK0
          go_wp2
          go_loopw [14] (fun i wr => ∃ k : Nat, k ≤ 3 ∧ i = .int .i64 (k : Nat) ∧ Below wk.heap.size wk wr) (fun i _ => 3 - (intOf i).toNat)
          case atStart => exact ⟨0, by omega, rfl, b1⟩
          case round =>
            obtain ⟨wj, rfl⟩ : ∃ wj, wj = wr := ⟨_, rfl⟩
            obtain ⟨j, hj, rfl, bj⟩ := hrel
            clear b1
            by_cases hj3 : j < 3
            · have hj3' : (j : Int) < 3 := by omega
              as_aux_lemma =>
              have hj0' : (0 : Int) ≤ (j : Int) := by omega
              have hjK : j < K := by have := HK.out; omega
              have hjK' : (j : Int) < (K : Int) := by omega
              have hdR : D1 n K 7 0 := .inr (.inr (.inr ⟨rfl, by decide⟩))
              have hdT : D1 n K 7 1 := .inr (.inr (.inr ⟨rfl, by decide⟩))
              have hdB : D1 n K 0 j := .inl ⟨rfl, hjK⟩
              have hdX : D1 n K 1 j := .inr (.inl ⟨rfl, hjK⟩)
              have hblk := HTM.out j hjK
              have hs6 : ∀ W, Below wj.heap.size wj W → W.cell? ⟨gR, j, none⟩ = some (.slice (R j).A N (R j).c) ∧ W.cell? ⟨gT, j * 2, none⟩ = some (.int .i64 f) ∧ W.cell? ⟨gT, j * 2 + 1, none⟩ = some (.slice (T j).A n (T j).c) ∧ W.cell? ⟨w.heap.size, 0, none⟩ = some (.int .i64 f) ∧ W.cell? ⟨w.heap.size, 1, none⟩ = some (.slice A n cap) := fun W b => by
                have E := (S.below bj).below b
                have hx := HBX.out W E.b
                have o1 := E.own hdR (r := ⟨39, 1, none, 0, 0, [], (P 0).A, K, (P 0).c, slB R zs.length K⟩) rfl
                have o2 := E.own hdT (r := ⟨24, 2, none, 0, 0, [], (P 1).A, K, (P 1).c, slT f n T K⟩) rfl
                have o1' : W.ownsRow w5.heap.size 39 1 (.slice (some ⟨gR, 0, none⟩) K (P 0).c) K (slB R zs.length K) := by rw [← HGR.out]; exact o1
                have o2' : W.ownsRow w5.heap.size 24 2 (.slice (some ⟨gT, 0, none⟩) K (P 1).c) K (slT f n T K) := by rw [← HGT.out]; exact o2
                have y1 := (owns_cell o1' j (by simp [slB]; exact hjK)).1
                have y2 := (owns_cell o2' (j * 2) (by rw [slT_len]; omega)).1
                have y3 := (owns_cell o2' (j * 2 + 1) (by rw [slT_len]; omega)).1
                rw [slB_at R zs.length K j hjK, ← HNN.out] at y1
                rw [(slT_at f n T K j hjK).1] at y2
                rw [(slT_at f n T K j hjK).2] at y3
                exact ⟨y1, y2, y3, hx.1, hx.2.1⟩
              have hc1 : ∀ W, Below wj.heap.size wj W → Calls Try.prog 17 #[.slice (R j).A N (R j).c, .slice AK N cK] W fun e w' => e = .returned (.bool true) ∧ Below W.heap.size W w' := fun W b => by
                have E := (S.below bj).below b
                have o1 := E.own hdB (r := Rw.new 5 1 (R j).A zs.length (R j).c (cellsB zs)) rfl
                exact HSK.out W _ _ E.b (Row.of_owns o1)
              have hc2 : ∀ W, Below wj.heap.size wj W → Calls Try.prog 20 #[.agg #[.int .i64 f, .slice A n cap], .agg #[.int .i64 f, .slice (T j).A n (T j).c]] W fun e w' => e = .returned (.bool true) ∧ Below W.heap.size W w' := fun W b => by
                have E := (S.below bj).below b
                have o1 := E.own hdX (r := Rw.new 30 6 (T j).A n (T j).c (txnsCells ((TL.drop (j * n)).take n))) rfl
                refine HSS.out W _ _ _ E.b hblk (Row.of_owns o1) (fun x hx => ?_)
                obtain ⟨q, hq, rfl⟩ := List.getElem_of_mem hx
                have hq' : q < n := by rw [List.length_take] at hq; omega
                have hm : j * n + q < K * n := by have := Nat.mul_le_mul_right n (show j + 1 ≤ K by omega); rw [Nat.add_mul] at this; omega
                have e1 : TL.getD (j * n + q) default = ((TL.drop (j * n)).take n)[q] := by
                  rw [List.getElem_take, List.getElem_drop, List.getD_eq_getElem?_getD, List.getElem?_eq_getElem (by rw [HTL.out]; exact hm)]
                  rfl
                have oa := E.own (cl := 2) (j := j * n + q) (.inr (.inr (.inl ⟨.inl rfl, hm⟩))) (r := rowA (TL.getD (j * n + q) default)) rfl
                have oc := E.own (cl := 3) (j := j * n + q) (.inr (.inr (.inl ⟨.inr rfl, hm⟩))) (r := rowC (TL.getD (j * n + q) default)) rfl
                rw [e1] at oa oc
                exact TxnC.own.ok ⟨oa, oc⟩
              have HS6 := Lib.hid hs6
              have HC1 := Lib.hid hc1
              have HC2 := Lib.hid hc2
              clear hs6 hc1 hc2 hdB hdX hblk hdR hdT
              go_upto_region 22 with (fail)
              go_region_held3 (fun W => W.cell? ⟨gR, j, none⟩ = some (.slice (R j).A N (R j).c) ∧ W.cell? ⟨gT, j * 2, none⟩ = some (.int .i64 f) ∧ W.cell? ⟨gT, j * 2 + 1, none⟩ = some (.slice (T j).A n (T j).c) ∧ W.cell? ⟨w.heap.size, 0, none⟩ = some (.int .i64 f) ∧ W.cell? ⟨w.heap.size, 1, none⟩ = some (.slice A n cap)) ((first | (with_reducible exact HS6.out _ d7) | (with_reducible exact HS6.out _ d6) | exact HS6.out _ ((Below.refl wj.heap.size wj).drew) | exact HS6.out _ (Below.refl _ _))) ((first | (go_at_call 17; refine (HC1.out _ ((Below.refl _ _).drew)).mono ?_; rintro e x6 ⟨rfl, hb6⟩; have d6 := below_then ((Below.refl wj.heap.size wj).drew) hb6 (Nat.le_refl _)) | (go_at_call 20; refine (HC2.out _ d6).mono ?_; rintro e x7 ⟨rfl, hb7⟩; have d7 := below_then d6 hb7 d6.size)))
              have bj7 := below_then bj d7 bj.size
              clear HS6 HC1 HC2 hb6 hb7 d6 d7 bj
              go_wp2
              go_roundw
              case rel => exact ⟨j + 1, by omega, by go_num, bj7⟩
              case measure => simp [intOf]; omega
            · have hj3n : ¬ (j : Int) < 3 := by omega
              have E0 := ((S.below bj).addRow 7 2 (Below.refl _ _) (World.ownsRow_nil wj _ 28 1) (fun i hi => absurd hi (by omega))).addRow 7 3 (Below.refl _ _) (World.ownsRow_nil wj _ 25 1) (fun i hi => absurd hi (by omega))
              have E1 : Desk w5 wj (D2 n K) (F2 (F1 zs f n R T TL P K) TL (fun _ => ⟨none, 0⟩) 0) 0 (fun _ => ⟨0, #[], 0⟩) := E0.congr (fun c j h => by
                rcases h with h | ⟨rfl, h⟩
                · exact .inl (.inl h)
                · have hj : j = 0 ∨ j = 1 ∨ j = 2 ∨ j = 3 := by omega
                  rcases hj with rfl | rfl | rfl | rfl
                  · exact .inl (.inl (.inr (.inr (.inr ⟨rfl, by decide⟩))))
                  · exact .inl (.inl (.inr (.inr (.inr ⟨rfl, by decide⟩))))
                  · exact .inl (.inr ⟨rfl, rfl⟩)
                  · exact .inr ⟨rfl, rfl⟩) (fun c j h => rfl)
              have HE1 := Lib.hid E1
              have hz0 : 0 * n = 0 := by omega
              have HZ0 := Lib.hid hz0
              clear E0 E1 S bj hz0
              go_wp2
              go_loopw [15, 16, 17] (fun a b i wr => ∃ (j : Nat) (Q : Nat → Pl), j ≤ 3 ∧ a = .slice (Q 0).A (j * n) (Q 0).c ∧ b = .slice (Q 1).A (j * n) (Q 1).c ∧ i = .int .i64 (j : Nat) ∧ Hid (Desk w5 wr (D2 n K) (F2 (F1 zs f n R T TL P K) TL Q (j * n)) 0 (fun _ => ⟨0, #[], 0⟩))) (fun _ _ i _ => 3 - (intOf i).toNat)
              case atStart => exact ⟨0, fun _ => ⟨none, 0⟩, by omega, by rw [HZ0.out], by rw [HZ0.out], rfl, by rw [HZ0.out]; exact HE1⟩
              case round =>
                obtain ⟨wj, rfl⟩ : ∃ wj, wj = wr := ⟨_, rfl⟩
                obtain ⟨j, Q, hj, rfl, rfl, rfl, HS⟩ := hrel
                clear HE1
                by_cases hj3 : j < 3
                · have hj3' : (j : Int) < 3 := by omega
                  as_aux_lemma =>
                  have hj0' : (0 : Int) ≤ (j : Int) := by omega
                  have hjK : j < K := by have := HK.out; omega
                  have hjK' : (j : Int) < (K : Int) := by omega
                  obtain ⟨J, hJ⟩ : ∃ J, J = j * n := ⟨_, rfl⟩
                  rw [← hJ] at HS ⊢
                  have HJ := Lib.hid hJ
                  clear hJ
                  go_wp2
                  go_loopw [15, 16, 18] (fun a b i wr => ∃ (q : Nat) (Q : Nat → Pl), q ≤ n ∧ a = .slice (Q 0).A (J + q) (Q 0).c ∧ b = .slice (Q 1).A (J + q) (Q 1).c ∧ i = .int .i64 (q : Nat) ∧ Hid (Desk w5 wr (D2 n K) (F2 (F1 zs f n R T TL P K) TL Q (J + q)) 0 (fun _ => ⟨0, #[], 0⟩))) (fun _ _ i _ => n - (intOf i).toNat)
                  case atStart => exact ⟨0, Q, Nat.zero_le _, rfl, rfl, rfl, HS⟩
                  case round =>
                    obtain ⟨wq, rfl⟩ : ∃ wq, wq = wr := ⟨_, rfl⟩
                    obtain ⟨q, Q, hq, rfl, rfl, rfl, HS⟩ := hrel
                    have hrd : ∀ W (F' : Nat → Nat → Rw), Desk w5 W (D2 n K) F' 0 (fun _ => ⟨0, #[], 0⟩) → F' 7 1 = F1 zs f n R T TL P K 7 1 → F' 1 j = F1 zs f n R T TL P K 1 j → ∃ gj, (T j).A = some ⟨gj, 0, none⟩ ∧ W.cell? ⟨gT, j * 2 + 1, none⟩ = some (.slice (some ⟨gj, 0, none⟩) n (T j).c) ∧ ∀ q, q < n → W.cell? ⟨gj, q * 6 + 5, none⟩ = some (.slice (TL.getD (J + q) default).A (TL.getD (J + q) default).t.args.length (TL.getD (J + q) default).c) ∧ W.cell? ⟨gj, q * 6 + 3, none⟩ = some (.slice (TL.getD (J + q) default).B (TL.getD (J + q) default).t.proc.code.length (TL.getD (J + q) default).d) := fun W F' E h1 h2 => by
                      have o2 := E.own (cl := 7) (j := 1) (.inr ⟨rfl, by decide⟩) (r := ⟨24, 2, none, 0, 0, [], (P 1).A, K, (P 1).c, slT f n T K⟩) (h1.trans rfl)
                      have o2' : W.ownsRow w5.heap.size 24 2 (.slice (some ⟨gT, 0, none⟩) K (P 1).c) K (slT f n T K) := by rw [← HGT.out]; exact o2
                      have y3 := (owns_cell o2' (j * 2 + 1) (by rw [slT_len]; omega)).1
                      rw [(slT_at f n T K j hjK).2] at y3
                      have o1 := E.own (cl := 1) (j := j) (.inl (.inr (.inl ⟨rfl, hjK⟩))) (r := Rw.new 30 6 (T j).A n (T j).c (txnsCells ((TL.drop (j * n)).take n))) (h2.trans rfl)
                      obtain ⟨gj, hgj⟩ := own_at o1 (by show 0 < n; omega)
                      have hgj' : (T j).A = some ⟨gj, 0, none⟩ := hgj
                      have o1' : W.ownsRow w5.heap.size 30 6 (.slice (some ⟨gj, 0, none⟩) n (T j).c) n (txnsCells ((TL.drop (j * n)).take n)) := by rw [← hgj']; exact o1
                      refine ⟨gj, hgj', by rw [← hgj']; exact y3, fun q hq => ?_⟩
                      obtain ⟨hl, he, _⟩ := blk_at HTL.out hjK hq
                      have hcl : (txnsCells ((TL.drop (j * n)).take n)).length = ((TL.drop (j * n)).take n).length * 6 := txnsCells_length _
                      have y5 := (owns_cell o1' (q * 6 + 5) (by omega)).1
                      have y6 := (owns_cell o1' (q * 6 + 3) (by omega)).1
                      rw [txnsCells_get _ q hl 5 (by decide), he, ← HJ.out] at y5
                      rw [txnsCells_get _ q hl 3 (by decide), he, ← HJ.out] at y6
                      exact ⟨y5, y6⟩
                    obtain ⟨gj, hgj, z0, hcs⟩ := hrd wq _ HS.out (F2_old (.inr (by decide))) (F2_old (.inl (by decide)))
                    by_cases hqn : q < n
                    · have hqn' : (q : Int) < (n : Int) := by omega
                      obtain ⟨z5, z6⟩ := hcs q hqn
                      have hjq := (blk_at HTL.out hjK hqn).2.2
                      obtain ⟨M, hM⟩ : ∃ M, M = J + q := ⟨_, rfl⟩
                      rw [← hM] at z5 z6 HS ⊢
                      rw [← HJ.out, ← hM] at hjq
                      have hMb : M < 200 := by have := HK.out; have : K * n ≤ 3 * 64 := by rw [HK.out]; omega
                                               omega
                      obtain ⟨x, hx⟩ : ∃ x, x = TL.getD M default := ⟨_, rfl⟩
                      rw [← hx] at z5 z6
                      obtain ⟨na, hna⟩ : ∃ na, na = x.t.args.length := ⟨_, rfl⟩
                      obtain ⟨nc, hnc⟩ : ∃ nc, nc = x.t.proc.code.length := ⟨_, rfl⟩
                      rw [← hna] at z5
                      rw [← hnc] at z6
                      have hrd2 : ∀ W (F' : Nat → Nat → Rw), Desk w5 W (D2 n K) F' 0 (fun _ => ⟨0, #[], 0⟩) → F' 7 1 = F1 zs f n R T TL P K 7 1 → F' 1 j = F1 zs f n R T TL P K 1 j → W.cell? ⟨gT, j * 2 + 1, none⟩ = some (.slice (some ⟨gj, 0, none⟩) n (T j).c) ∧ W.cell? ⟨gj, q * 6 + 3, none⟩ = some (.slice x.B nc x.d) := fun W F' E h1 h2 => by
                        obtain ⟨gj', e', z0', hcs'⟩ := hrd W F' E h1 h2
                        rw [hgj] at e'
                        cases e'
                        have := (hcs' q hqn).2
                        rw [← hM, ← hx, ← hnc] at this
                        exact ⟨z0', this⟩
                      have b6 := (Below.refl wq.heap.size wq).alloc (Nat.le_refl _) (.cells #[.slice x.A na x.c] 28)
                      have E6 := HS.out.below b6
                      have own0 := E6.own (cl := 7) (j := 2) (.inr ⟨rfl, by decide⟩) F2_a
                      have hsrc := Row.src (P := Try.prog) (c := 1) (size := 1) (n := 1) (tx := 54) (Row.of_loc (Loc.new wq #[.slice x.A na x.c] 28)) Try.underlying54 rfl (by simp [Value.oneCell']) (fun h => by simp at h)
                      have HSRC := Lib.hid hsrc
                      have HOWN := Lib.hid own0
                      have HRD := Lib.hid hrd2
                      have HM := Lib.hid hM
                      have HX := Lib.hid hx
                      have HNA := Lib.hid hna
                      have HNC := Lib.hid hnc
                      clear hsrc own0 b6 hrd hrd2 hcs hM hx hna hnc hjq hgj HS
                      go_wp2_with (first | (at_builtin; refine wpList_append_keep _ rfl _ _ 54 54 rfl 28 (.slice none 0 0) 1 24 Try.underlying54 infoSlA rfl (by decide) (.slice (Q 0).A M (Q 0).c) M _ rfl (owns_base (base' := 0) HOWN.out (fun _ _ => Nat.zero_le _)) _ 1 _ rfl HSRC.out (by unfold maxLen; omega) (by omega) ?_; intro A7 c7 w7 hown hg hbl hmv; have E7 := E6.grow 7 2 (.inr ⟨rfl, by decide⟩) F2_a hown hg hbl hmv; obtain ⟨z0', z6'⟩ := HRD.out w7 _ E7 ((up_other _ _ (by omega)).trans (F2_old (.inr (by decide)))) ((up_other _ _ (by omega)).trans (F2_old (.inl (by decide)))); have b8 := (Below.refl w7.heap.size w7).alloc (Nat.le_refl _) (.cells #[.slice x.B nc x.d] 25); have E8 := E7.below b8; have hr1 := (up_other (F2 (F1 zs f n R T TL P K) TL Q M) (c := 7) (j := 2) (c' := 7) (j' := 3) ⟨28, 1, none, 0, 0, [], A7, M + 1, c7, slA TL M ++ [.slice x.A na x.c]⟩ (by omega)).trans F2_c; have own1 := E8.own (cl := 7) (j := 3) (.inr ⟨rfl, by decide⟩) hr1; have hsrc := Row.src (P := Try.prog) (c := 1) (size := 1) (n := 1) (tx := 55) (Row.of_loc (Loc.new w7 #[.slice x.B nc x.d] 25)) Try.underlying55 rfl (by simp [Value.oneCell']) (fun h => by simp at h); have HSRC1 := Lib.hid hsrc; have HOWN1 := Lib.hid own1; have HR1 := Lib.hid hr1; clear hsrc own1 hown hg hbl hmv E6 E7 b8 hr1 HOWN HSRC z0 z5 z6 HRD) | (at_builtin; refine wpList_append_keep _ rfl _ _ 55 55 rfl 25 (.slice none 0 0) 1 24 Try.underlying55 infoSlC rfl (by decide) (.slice (Q 1).A M (Q 1).c) M _ rfl (owns_base (base' := 0) HOWN1.out (fun _ _ => Nat.zero_le _)) _ 1 _ rfl HSRC1.out (by unfold maxLen; omega) (by omega) ?_; intro A8 c8 w8 hown hg hbl hmv; have E9 := E8.grow 7 3 (.inr ⟨rfl, by decide⟩) HR1.out hown hg hbl hmv; clear hown hg hbl hmv E8 z0' z6' HOWN1 HSRC1 HR1))
                      have hS : Desk w5 w8 (D2 n K) (F2 (F1 zs f n R T TL P K) TL (upl (upl Q 0 ⟨A7, c7⟩) 1 ⟨A8, c8⟩) (M + 1)) 0 (fun _ => ⟨0, #[], 0⟩) := by
                        rw [← F2_next, ← HX.out, ← HNA.out, ← HNC.out]
                        exact E9
                      have HS1 := Lib.hid hS
                      clear hS E9
                      go_roundw
                      case rel => exact ⟨q + 1, upl (upl Q 0 ⟨A7, c7⟩) 1 ⟨A8, c8⟩, by omega, by rw [HM.out]; rfl, by rw [HM.out]; rfl, by go_num, by rw [HM.out] at HS1; exact HS1⟩
                      case measure => simp [intOf]; omega
                    · have hqe : q = n := by omega
                      have hqnn : ¬ (q : Int) < (n : Int) := by omega
                      have hjn : J + q = (j + 1) * n := by rw [hqe, HJ.out, Nat.add_mul, Nat.one_mul]
                      have HJN := Lib.hid hjn
                      clear hjn hqe hrd hcs hgj
                      go_wp2
                      go_roundw
                      case rel => exact ⟨j + 1, Q, by omega, by rw [HJN.out], by rw [HJN.out], by go_num, by rw [← HJN.out]; exact HS⟩
                      case measure => simp [intOf]; omega
                · have hj3n : ¬ (j : Int) < 3 := by omega
                  have hje : j = K := by have := HK.out; omega
                  obtain ⟨M, hM⟩ : ∃ M, M = j * n := ⟨_, rfl⟩
                  rw [← hM] at HS ⊢
                  have hMK : M = K * n := by rw [hM, hje]
                  have hM3 : M = 3 * n := by rw [hMK, HK.out]
                  have hMb : M ≤ 192 := by omega
                  have hM0 : 0 < M := by omega
                  have HMK := Lib.hid hMK
                  have HM3 := Lib.hid hM3
                  have E := HS.out
                  have ownA := E.own (cl := 7) (j := 2) (.inr ⟨rfl, by decide⟩) F2_a
                  have ownC := E.own (cl := 7) (j := 3) (.inr ⟨rfl, by decide⟩) F2_c
                  obtain ⟨gA, hgA⟩ := own_at ownA hM0
                  obtain ⟨gC, hgC⟩ := own_at ownC hM0
                  have hgA' : (Q 0).A = some ⟨gA, 0, none⟩ := hgA
                  have hgC' : (Q 1).A = some ⟨gC, 0, none⟩ := hgC
                  have HGA := Lib.hid hgA'
                  have HGC := Lib.hid hgC'
                  rw [hgA', hgC']
                  have E2 : Desk w5 wj (D2 n K) (FG zs.length n K M f R T TL P Q (cB zs (prof 0 (fun _ => zs.length) 0)) (cT TL n (prof 0 (fun _ => n) 0)) (cA TL (fun _ => 0)) (cC TL (fun _ => 0))) 0 (fun _ => ⟨0, #[], 0⟩) := by
                    rw [prof_z, prof_z]
                    exact E.congr (fun _ _ h => h) (fun c j h => FG_start (fun _ => rfl) h)
                  have hrd : ∀ W bB bT bA bC, Desk w5 W (D2 n K) (FG zs.length n K M f R T TL P Q bB bT bA bC) 0 (fun _ => ⟨0, #[], 0⟩) → (∀ k, k < 3 → W.cell? ⟨gR, k, none⟩ = some (.slice (R k).A N (R k).c) ∧ W.cell? ⟨gT, k * 2 + 1, none⟩ = some (.slice (T k).A n (T k).c)) ∧
                      ∀ m, m < M → W.cell? ⟨gA, m, none⟩ = some (.slice (TL.getD m default).A (TL.getD m default).t.args.length (TL.getD m default).c) ∧ W.cell? ⟨gC, m, none⟩ = some (.slice (TL.getD m default).B (TL.getD m default).t.proc.code.length (TL.getD m default).d) := fun W bB bT bA bC E => by
                    have o1 := E.own (cl := 7) (j := 0) (.inr ⟨rfl, by decide⟩) (r := ⟨39, 1, none, 0, 0, [], (P 0).A, K, (P 0).c, slB R zs.length K⟩) rfl
                    have o2 := E.own (cl := 7) (j := 1) (.inr ⟨rfl, by decide⟩) (r := ⟨24, 2, none, 0, 0, [], (P 1).A, K, (P 1).c, slT f n T K⟩) rfl
                    have o3 := E.own (cl := 7) (j := 2) (.inr ⟨rfl, by decide⟩) (r := ⟨28, 1, none, 0, 0, [], (Q 0).A, M, (Q 0).c, slA TL M⟩) rfl
                    have o4 := E.own (cl := 7) (j := 3) (.inr ⟨rfl, by decide⟩) (r := ⟨25, 1, none, 0, 0, [], (Q 1).A, M, (Q 1).c, slC TL M⟩) rfl
                    have o1' : W.ownsRow w5.heap.size 39 1 (.slice (some ⟨gR, 0, none⟩) K (P 0).c) K (slB R zs.length K) := by rw [← HGR.out]; exact o1
                    have o2' : W.ownsRow w5.heap.size 24 2 (.slice (some ⟨gT, 0, none⟩) K (P 1).c) K (slT f n T K) := by rw [← HGT.out]; exact o2
                    have o3' : W.ownsRow w5.heap.size 28 1 (.slice (some ⟨gA, 0, none⟩) M (Q 0).c) M (slA TL M) := by rw [← hgA']; exact o3
                    have o4' : W.ownsRow w5.heap.size 25 1 (.slice (some ⟨gC, 0, none⟩) M (Q 1).c) M (slC TL M) := by rw [← hgC']; exact o4
                    refine ⟨fun k hk => ?_, fun m hm => ?_⟩
                    · have hkK : k < K := by have := HK.out; omega
                      have y1 := (owns_cell o1' k (by rw [slB_len]; exact hkK)).1
                      have y3 := (owns_cell o2' (k * 2 + 1) (by rw [slT_len]; omega)).1
                      rw [slB_at R zs.length K k hkK, ← HNN.out] at y1
                      rw [(slT_at f n T K k hkK).2] at y3
                      exact ⟨y1, y3⟩
                    · have y1 := (owns_cell o3' m (by rw [slA_len]; exact hm)).1
                      have y3 := (owns_cell o4' m (by rw [slC_len]; exact hm)).1
                      rw [slA_at TL M m hm] at y1
                      rw [slC_at TL M m hm] at y3
                      exact ⟨y1, y3⟩
                  have HRD := Lib.hid hrd
                  have HE2 := Lib.hid E2
                  clear hM hje hMK hM3 E ownA ownC hgA hgC hgA' hgC' E2 hrd HS
                  go_wp2
                  go_loopw [19] (fun i wr => ∃ k : Nat, k ≤ 3 ∧ i = .int .i64 (k : Nat) ∧ Hid (Desk w5 wr (D2 n K) (FG zs.length n K M f R T TL P Q (cB zs (prof k (fun _ => zs.length) 0)) (cT TL n (prof k (fun _ => n) 0)) (cA TL (fun _ => 0)) (cC TL (fun _ => 0))) 0 (fun _ => ⟨0, #[], 0⟩))) (fun i _ => 3 - (intOf i).toNat)
                  case atStart => exact ⟨0, by omega, rfl, HE2⟩
                  case round =>
                    obtain ⟨wk, rfl⟩ : ∃ wk, wk = wr := ⟨_, rfl⟩
                    obtain ⟨k, hk, rfl, HS⟩ := hrel
                    clear HE2
                    by_cases hk3 : k < 3
                    · have hk3' : (k : Int) < 3 := by omega
                      as_aux_lemma =>
                      have hk0' : (0 : Int) ≤ (k : Int) := by omega
                      have hkK : k < K := by have := HK.out; omega
                      have hkK' : (k : Int) < (K : Int) := by omega
                      have w10 : IntKind.i64.wrap (10 + (k : Int)) = 10 + (k : Int) := by simp [IntKind.bits, IntKind.wrap, IntKind.signed]; omega
                      have w10b : IntKind.u8.wrap (10 + (k : Int)) = 10 + (k : Int) := by simp [IntKind.bits, IntKind.wrap, IntKind.signed]; omega
                      go_wp2
                      go_loopw [20] (fun i wr => ∃ m : Nat, m ≤ N ∧ i = .int .i64 (m : Nat) ∧ Hid (Desk w5 wr (D2 n K) (FG zs.length n K M f R T TL P Q (cB zs (prof k (fun _ => zs.length) m)) (cT TL n (prof k (fun _ => n) 0)) (cA TL (fun _ => 0)) (cC TL (fun _ => 0))) 0 (fun _ => ⟨0, #[], 0⟩))) (fun i _ => N - (intOf i).toNat)
                      case atStart => exact ⟨0, Nat.zero_le _, rfl, HS⟩
                      case round =>
                        obtain ⟨wm, rfl⟩ : ∃ wm, wm = wr := ⟨_, rfl⟩
                        obtain ⟨m, hm, rfl, HSm⟩ := hrel
                        clear HS
                        have r0 := ((HRD.out _ _ _ _ _ HSm.out).1 k hk3).1
                        by_cases hmN : m < N
                        · have hmN' : (m : Int) < (N : Int) := by omega
                          have hmz : m < zs.length := by rw [← HNN.out]; exact hmN
                          have hdk : D2 n K 0 k := .inl (.inl ⟨rfl, hkK⟩)
                          have own := HSm.out.own hdk (r := Rw.new 5 1 (R k).A zs.length (R k).c (cB zs (prof k (fun _ => zs.length) m) k)) rfl
                          obtain ⟨gb, hgb⟩ := own_at own (by show 0 < zs.length; omega)
                          have hgb' : (R k).A = some ⟨gb, 0, none⟩ := hgb
                          have own2 : wm.ownsRow w5.heap.size 5 1 (.slice (some ⟨gb, 0, none⟩) zs.length (R k).c) zs.length (cB zs (prof k (fun _ => zs.length) m) k) := by rw [← hgb']; exact own
                          have hcl : (cB zs (prof k (fun _ => zs.length) m) k).length = zs.length := by unfold cB; rw [prof_at]; exact partB_len zs k m (by omega)
                          have yc := owns_cell own2 m (by rw [hcl]; exact hmz)
                          obtain ⟨yv, y0⟩ : ∃ v, wm.cell? ⟨gb, m, none⟩ = some v := ⟨_, yc.1.trans (List.getElem?_eq_getElem (by rw [hcl]; exact hmz))⟩
                          have y1 := yc.2
                          have E1 := HSm.out.put 0 k hdk (g := gb) (n := zs.length) (c := (R k).c) (e := 5) (size := 1) (xs := cB zs (prof k (fun _ => zs.length) m) k) (by rw [← hgb']; rfl) m (vB k)
                          rw [← hgb', FG_B (b' := cB zs (prof k (fun _ => zs.length) (m + 1))) k _ (by unfold cB; rw [prof_at, prof_at]; exact (partB_set zs k m hmz).symm) (fun j hj => by unfold cB; rw [prof_ne _ (m + 1) m hj])] at E1
                          unfold vB at E1
                          have HE1 := Lib.hid E1
                          rw [hgb'] at r0
                          clear own own2 hcl yc hgb hgb' E1 HSm hmz hdk
                          go_wp2
                          go_roundw
                          case rel => exact ⟨m + 1, by omega, by go_num, HE1⟩
                          case measure => simp [intOf]; omega
                        · have hmn : ¬ (m : Int) < (N : Int) := by omega
                          have hme : m = zs.length := by rw [← HNN.out]; omega
                          have hS := HSm.out
                          rw [hme, prof_next k (fun _ => zs.length)] at hS
                          have HS1 := Lib.hid hS
                          clear hS HSm hme
                          go_wp2
                          go_loopw [21] (fun i wr => ∃ m : Nat, m ≤ n ∧ i = .int .i64 (m : Nat) ∧ Hid (Desk w5 wr (D2 n K) (FG zs.length n K M f R T TL P Q (cB zs (prof (k + 1) (fun _ => zs.length) 0)) (cT TL n (prof k (fun _ => n) m)) (cA TL (fun _ => 0)) (cC TL (fun _ => 0))) 0 (fun _ => ⟨0, #[], 0⟩))) (fun i _ => n - (intOf i).toNat)
                          case atStart => exact ⟨0, Nat.zero_le _, rfl, HS1⟩
                          case round =>
                            obtain ⟨wm, rfl⟩ : ∃ wm, wm = wr := ⟨_, rfl⟩
                            obtain ⟨m, hm, rfl, HSm⟩ := hrel
                            clear HS1 r0
                            have r0 := ((HRD.out _ _ _ _ _ HSm.out).1 k hk3).2
                            by_cases hmN : m < n
                            · have hmN' : (m : Int) < (n : Int) := by omega
                              have hbl : (blk TL n k).length = n := by
                                have := (blk_at HTL.out hkK hmN).1
                                unfold blk
                                rw [List.length_take, List.length_drop, HTL.out]
                                have h2 : k * n + n ≤ K * n := by have := Nat.mul_le_mul_right n (show k + 1 ≤ K by omega); rw [Nat.add_mul] at this; omega
                                omega
                              have hdk : D2 n K 1 k := .inl (.inr (.inl ⟨rfl, hkK⟩))
                              have own := HSm.out.own hdk (r := Rw.new 30 6 (T k).A n (T k).c (cT TL n (prof k (fun _ => n) m) k)) rfl
                              obtain ⟨gb, hgb⟩ := own_at own (by show 0 < n; omega)
                              have hgb' : (T k).A = some ⟨gb, 0, none⟩ := hgb
                              have own2 : wm.ownsRow w5.heap.size 30 6 (.slice (some ⟨gb, 0, none⟩) n (T k).c) n (cT TL n (prof k (fun _ => n) m) k) := by rw [← hgb']; exact own
                              have hcl : (cT TL n (prof k (fun _ => n) m) k).length = n * 6 := by unfold cT; rw [prof_at, txnsCells_length, part_len, hbl]
                              have yc := owns_cell own2 (m * 6) (by rw [hcl]; omega)
                              obtain ⟨yv, y0⟩ : ∃ v, wm.cell? ⟨gb, m * 6, none⟩ = some v := ⟨_, yc.1.trans (List.getElem?_eq_getElem (by rw [hcl]; omega))⟩
                              have y1 := yc.2
                              have E1 := HSm.out.put 1 k hdk (g := gb) (n := n) (c := (T k).c) (e := 30) (size := 6) (xs := cT TL n (prof k (fun _ => n) m) k) (by rw [← hgb']; rfl) (m * 6) (.int .i64 (10 + (k : Int)))
                              rw [← hgb', FG_T (b' := cT TL n (prof k (fun _ => n) (m + 1))) k _ (by unfold cT; rw [prof_at, prof_at]; exact (txn_part (blk TL n k) k m (by rw [hbl]; exact hmN)).symm) (fun j hj => by unfold cT; rw [prof_ne _ (m + 1) m hj])] at E1
                              have HE1 := Lib.hid E1
                              rw [hgb'] at r0
                              clear own own2 hcl yc hgb hgb' E1 HSm hdk hbl
                              go_wp2
                              go_roundw
                              case rel => exact ⟨m + 1, by omega, by go_num, HE1⟩
                              case measure => simp [intOf]; omega
                            · have hmn2 : ¬ (m : Int) < (n : Int) := by omega
                              have hme : m = n := by omega
                              have hS := HSm.out
                              rw [hme, prof_next k (fun _ => n)] at hS
                              have HS1 := Lib.hid hS
                              clear hS HSm hme
                              go_wp2
                              go_roundw
                              case rel => exact ⟨k + 1, by omega, by go_num, HS1⟩
                              case measure => simp [intOf]; omega
                    · have hk3n : ¬ (k : Int) < 3 := by omega
                      have hk3e : k = 3 := by omega
                      obtain ⟨bB, hbB⟩ : ∃ bB, bB = cB zs (prof k (fun _ => zs.length) 0) := ⟨_, rfl⟩
                      obtain ⟨bT, hbT⟩ : ∃ bT, bT = cT TL n (prof k (fun _ => n) 0) := ⟨_, rfl⟩
                      rw [← hbB, ← hbT] at HS
                      have hB : ∀ j, j < 3 → bB j = partB zs j zs.length := fun j hj => by
                        rw [hbB]; unfold cB; rw [prof_all _ _ (by omega)]
                      have hT : ∀ j, j < 3 → bT j = txnsCells ((blk TL n j).map (setT j)) := fun j hj => by
                        have hbl : (blk TL n j).length = n := by
                          unfold blk
                          rw [List.length_take, List.length_drop, HTL.out, HK.out]
                          have h2 : j * n + n ≤ 3 * n := by have := Nat.mul_le_mul_right n (show j + 1 ≤ 3 by omega); rw [Nat.add_mul] at this; omega
                          omega
                        rw [hbT]; unfold cT; rw [prof_all _ _ (by omega)]
                        have e := part_all (setT j) (blk TL n j)
                        rw [hbl] at e
                        rw [e]
                      have htb : ∀ m, m < M → (TL.getD m default).t.args.length ≤ 300 ∧ (TL.getD m default).t.proc.code.length ≤ 300 := fun m hm => by
                        have hn0 : 0 < n := by omega
                        have hj : m / n < K := by rw [Nat.div_lt_iff_lt_mul hn0, ← HMK.out]; exact hm
                        have hq : m % n < n := Nat.mod_lt _ hn0
                        obtain ⟨h1, h2, _⟩ := blk_at HTL.out hj hq
                        have hdm : m / n * n + m % n = m := by rw [Nat.mul_comm]; exact Nat.div_add_mod m n
                        rw [hdm] at h2
                        have h3 : (TL.getD m default).t ∈ l.map (·.t) := by
                          rw [← HTM.out (m / n) hj, ← h2]
                          have h4 := List.getElem_mem (l := (TL.drop (m / n * n)).take n) h1
                          have h5 := List.mem_map_of_mem (f := fun x : TxnC => x.t) h4
                          exact h5
                        obtain ⟨y, hy, he⟩ := List.mem_map.1 h3
                        rw [← he]
                        exact HBB.out.2 y hy
                      have HB := Lib.hid hB
                      have HT := Lib.hid hT
                      have H24 := Lib.hid htb
                      have HSX : Hid (Desk w5 wk (D2 n K) (FG zs.length n K M f R T TL P Q bB bT (cA TL (prof 0 (fun m => (TL.getD m default).t.args.length) 0)) (cC TL (prof 0 (fun m => (TL.getD m default).t.proc.code.length) 0))) 0 (fun _ => ⟨0, #[], 0⟩)) := Lib.hid (by rw [prof_z, prof_z]; exact HS.out)
                      clear hk3e hbB hbT hB hT htb HS
                      go_wp2
                      go_loopw [22] (fun v wr => ∃ i : Nat, i ≤ M ∧ v = .int .i64 (i : Nat) ∧ Hid (Desk w5 wr (D2 n K) (FG zs.length n K M f R T TL P Q bB bT (cA TL (prof i (fun m => (TL.getD m default).t.args.length) 0)) (cC TL (prof i (fun m => (TL.getD m default).t.proc.code.length) 0))) 0 (fun _ => ⟨0, #[], 0⟩))) (fun v _ => M - (intOf v).toNat)
                      case atStart => exact ⟨0, Nat.zero_le _, rfl, HSX⟩
                      case round =>
                        obtain ⟨wi, rfl⟩ : ∃ wi, wi = wr := ⟨_, rfl⟩
                        obtain ⟨i, hi, rfl, HS⟩ := hrel
                        clear HSX
                        by_cases hiM : i < M
                        · have hiM' : (i : Int) < (M : Int) := by omega
                          as_aux_lemma =>
                          have hi0' : (0 : Int) ≤ (i : Int) := by omega
                          have hib : (i : Int) < 192 := by omega
                          have w1000 : IntKind.i64.wrap (1000 + (i : Int)) = 1000 + (i : Int) := by simp [IntKind.bits, IntKind.wrap, IntKind.signed]; omega
                          obtain ⟨x, hx⟩ : ∃ x, x = TL.getD i default := ⟨_, rfl⟩
                          obtain ⟨na, hna⟩ : ∃ na, na = x.t.args.length := ⟨_, rfl⟩
                          obtain ⟨nc, hnc⟩ : ∃ nc, nc = x.t.proc.code.length := ⟨_, rfl⟩
                          have hna3 : na ≤ 300 := by rw [hna, hx]; exact (H24.out i hiM).1
                          have hnc3 : nc ≤ 300 := by rw [hnc, hx]; exact (H24.out i hiM).2
                          have HXX := Lib.hid hx
                          have HNA := Lib.hid hna
                          have HNC := Lib.hid hnc
                          have HSX := HS
                          clear hx hna hnc HS
                          go_wp2
                          go_loopw [23] (fun v wr => ∃ m : Nat, m ≤ na ∧ v = .int .i64 (m : Nat) ∧ Hid (Desk w5 wr (D2 n K) (FG zs.length n K M f R T TL P Q bB bT (cA TL (prof i (fun m => (TL.getD m default).t.args.length) m)) (cC TL (prof i (fun m => (TL.getD m default).t.proc.code.length) 0))) 0 (fun _ => ⟨0, #[], 0⟩))) (fun v _ => na - (intOf v).toNat)
                          case atStart => exact ⟨0, Nat.zero_le _, rfl, HSX⟩
                          case round =>
                            obtain ⟨wm, rfl⟩ : ∃ wm, wm = wr := ⟨_, rfl⟩
                            obtain ⟨m, hm, rfl, HSm⟩ := hrel
                            clear HSX
                            have r0 := ((HRD.out _ _ _ _ _ HSm.out).2 i hiM).1
                            rw [← HXX.out] at r0
                            rw [← HNA.out] at r0
                            by_cases hmN : m < na
                            · have hmN' : (m : Int) < (na : Int) := by omega
                              have hmz : m < (TL.getD i default).t.args.length := by rw [← HXX.out, ← HNA.out]; exact hmN
                              have hdk : D2 n K 2 i := .inl (.inr (.inr (.inl ⟨.inl rfl, by rw [← HMK.out]; exact hiM⟩)))
                              have own := HSm.out.own hdk (r := Rw.new 57 3 (TL.getD i default).A (TL.getD i default).t.args.length (TL.getD i default).c (cA TL (prof i (fun m => (TL.getD m default).t.args.length) m) i)) rfl
                              obtain ⟨gb, hgb⟩ := own_at own (by show 0 < (TL.getD i default).t.args.length; omega)
                              have hgb' : (TL.getD i default).A = some ⟨gb, 0, none⟩ := hgb
                              have own2 : wm.ownsRow w5.heap.size 57 3 (.slice (some ⟨gb, 0, none⟩) (TL.getD i default).t.args.length (TL.getD i default).c) (TL.getD i default).t.args.length (cA TL (prof i (fun m => (TL.getD m default).t.args.length) m) i) := by rw [← hgb']; exact own
                              have hcl : (cA TL (prof i (fun m => (TL.getD m default).t.args.length) m) i).length = (TL.getD i default).t.args.length * 3 := by unfold cA; rw [prof_at, valsCells_length, part_len]
                              have yc := owns_cell own2 (m * 3) (by rw [hcl]; omega)
                              obtain ⟨yv, y0⟩ : ∃ v, wm.cell? ⟨gb, m * 3, none⟩ = some v := ⟨_, yc.1.trans (List.getElem?_eq_getElem (by rw [hcl]; omega))⟩
                              have y1 := yc.2
                              have E1 := HSm.out.put 2 i hdk (g := gb) (n := (TL.getD i default).t.args.length) (c := (TL.getD i default).c) (e := 57) (size := 3) (xs := cA TL (prof i (fun m => (TL.getD m default).t.args.length) m) i) (by rw [← hgb']; rfl) (m * 3) (.int .i64 (1000 + (i : Int)))
                              rw [← hgb', FG_A (b' := cA TL (prof i (fun m => (TL.getD m default).t.args.length) (m + 1))) i _ (by unfold cA; rw [prof_at, prof_at]; exact (val_part (TL.getD i default).t.args i m hmz).symm) (fun j hj => by unfold cA; rw [prof_ne _ (m + 1) m hj])] at E1
                              have HE1 := Lib.hid E1
                              rw [HXX.out, hgb'] at r0
                              clear own own2 hcl yc hgb hgb' E1 HSm hdk hmz
                              go_wp2
                              go_roundw
                              case rel => exact ⟨m + 1, by omega, by go_num, HE1⟩
                              case measure => simp [intOf]; omega
                            · have hmn : ¬ (m : Int) < (na : Int) := by omega
                              have hme : m = (fun m => (TL.getD m default).t.args.length) i := by show m = (TL.getD i default).t.args.length; rw [← HXX.out, ← HNA.out]; omega
                              have hS := HSm.out
                              rw [hme, prof_next i (fun m => (TL.getD m default).t.args.length)] at hS
                              have HSX := Lib.hid hS
                              clear hS HSm hme
                              go_wp2
                              go_loopw [24] (fun v wr => ∃ m : Nat, m ≤ nc ∧ v = .int .i64 (m : Nat) ∧ Hid (Desk w5 wr (D2 n K) (FG zs.length n K M f R T TL P Q bB bT (cA TL (prof (i + 1) (fun m => (TL.getD m default).t.args.length) 0)) (cC TL (prof i (fun m => (TL.getD m default).t.proc.code.length) m))) 0 (fun _ => ⟨0, #[], 0⟩))) (fun v _ => nc - (intOf v).toNat)
                              case atStart => exact ⟨0, Nat.zero_le _, rfl, HSX⟩
                              case round =>
                                obtain ⟨wm, rfl⟩ : ∃ wm, wm = wr := ⟨_, rfl⟩
                                obtain ⟨m, hm, rfl, HSm⟩ := hrel
                                clear HSX r0
                                have r0 := ((HRD.out _ _ _ _ _ HSm.out).2 i hiM).2
                                rw [← HXX.out] at r0
                                rw [← HNC.out] at r0
                                by_cases hmN : m < nc
                                · have hmN' : (m : Int) < (nc : Int) := by omega
                                  have hmz : m < (TL.getD i default).t.proc.code.length := by rw [← HXX.out, ← HNC.out]; exact hmN
                                  have hdk : D2 n K 3 i := .inl (.inr (.inr (.inl ⟨.inr rfl, by rw [← HMK.out]; exact hiM⟩)))
                                  have own := HSm.out.own hdk (r := Rw.new 59 8 (TL.getD i default).B (TL.getD i default).t.proc.code.length (TL.getD i default).d (cC TL (prof i (fun m => (TL.getD m default).t.proc.code.length) m) i)) rfl
                                  obtain ⟨gb, hgb⟩ := own_at own (by show 0 < (TL.getD i default).t.proc.code.length; omega)
                                  have hgb' : (TL.getD i default).B = some ⟨gb, 0, none⟩ := hgb
                                  have own2 : wm.ownsRow w5.heap.size 59 8 (.slice (some ⟨gb, 0, none⟩) (TL.getD i default).t.proc.code.length (TL.getD i default).d) (TL.getD i default).t.proc.code.length (cC TL (prof i (fun m => (TL.getD m default).t.proc.code.length) m) i) := by rw [← hgb']; exact own
                                  have hcl : (cC TL (prof i (fun m => (TL.getD m default).t.proc.code.length) m) i).length = (TL.getD i default).t.proc.code.length * 8 := by unfold cC; rw [prof_at, codeCells_length, part_len]
                                  have yc := owns_cell own2 (m * 8) (by rw [hcl]; omega)
                                  obtain ⟨yv, y0⟩ : ∃ v, wm.cell? ⟨gb, m * 8, none⟩ = some v := ⟨_, yc.1.trans (List.getElem?_eq_getElem (by rw [hcl]; omega))⟩
                                  have y1 := yc.2
                                  have E1 := HSm.out.put 3 i hdk (g := gb) (n := (TL.getD i default).t.proc.code.length) (c := (TL.getD i default).d) (e := 59) (size := 8) (xs := cC TL (prof i (fun m => (TL.getD m default).t.proc.code.length) m) i) (by rw [← hgb']; rfl) (m * 8) (.int .i64 (1000 + (i : Int)))
                                  rw [← hgb', FG_C (b' := cC TL (prof i (fun m => (TL.getD m default).t.proc.code.length) (m + 1))) i _ (by unfold cC; rw [prof_at, prof_at]; exact (ins_part (TL.getD i default).t.proc.code i m hmz).symm) (fun j hj => by unfold cC; rw [prof_ne _ (m + 1) m hj])] at E1
                                  have HE1 := Lib.hid E1
                                  rw [HXX.out, hgb'] at r0
                                  clear own own2 hcl yc hgb hgb' E1 HSm hdk hmz
                                  go_wp2
                                  go_roundw
                                  case rel => exact ⟨m + 1, by omega, by go_num, HE1⟩
                                  case measure => simp [intOf]; omega
                                · have hmn2 : ¬ (m : Int) < (nc : Int) := by omega
                                  have hme : m = (fun m => (TL.getD m default).t.proc.code.length) i := by show m = (TL.getD i default).t.proc.code.length; rw [← HXX.out, ← HNC.out]; omega
                                  have hS := HSm.out
                                  rw [hme, prof_next i (fun m => (TL.getD m default).t.proc.code.length)] at hS
                                  have HS1 := Lib.hid hS
                                  clear hS HSm hme
                                  go_wp2
                                  go_roundw
                                  case rel => exact ⟨i + 1, by omega, by go_num, HS1⟩
                                  case measure => simp [intOf]; omega
                        · have hin : ¬ (i : Int) < (M : Int) := by omega
                          have hie : i = M := by omega
                          obtain ⟨bA, hbA⟩ : ∃ bA, bA = cA TL (prof i (fun m => (TL.getD m default).t.args.length) 0) := ⟨_, rfl⟩
                          obtain ⟨bC, hbC⟩ : ∃ bC, bC = cC TL (prof i (fun m => (TL.getD m default).t.proc.code.length) 0) := ⟨_, rfl⟩
                          rw [← hbA, ← hbC] at HS
                          have hA : ∀ m, m < M → bA m = valsCells ((TL.getD m default).t.args.map (setV m)) := fun m hm => by
                            rw [hbA]; unfold cA; rw [prof_all _ _ (by omega)]
                            rw [part_all]
                          have hC : ∀ m, m < M → bC m = codeCells ((TL.getD m default).t.proc.code.map (setC m)) := fun m hm => by
                            rw [hbC]; unfold cC; rw [prof_all _ _ (by omega)]
                            rw [part_all]
                          have HA := Lib.hid hA
                          have HC := Lib.hid hC
                          have E0 := (((HS.out.addRow 7 4 (Below.refl _ _) (World.ownsRow_nil wi _ 39 1) (fun i hi => absurd hi (by omega))).addRow 7 5 (Below.refl _ _) (World.ownsRow_nil wi _ 22 1) (fun i hi => absurd hi (by omega))).addRow 7 6 (Below.refl _ _) (World.ownsRow_nil wi _ 28 1) (fun i hi => absurd hi (by omega))).addRow 7 7 (Below.refl _ _) (World.ownsRow_nil wi _ 25 1) (fun i hi => absurd hi (by omega))
                          obtain ⟨F, hF⟩ : ∃ F, F = up (up (up (up (FG zs.length n K M f R T TL P Q bB bT bA bC) 7 4 (Rw.new 39 1 none 0 0 [])) 7 5 (Rw.new 22 1 none 0 0 [])) 7 6 (Rw.new 28 1 none 0 0 [])) 7 7 (Rw.new 25 1 none 0 0 []) := ⟨_, rfl⟩
                          rw [← hF] at E0
                          have E1 : Desk w5 wi (D4 n K) F 0 (fun _ => ⟨0, #[], 0⟩) := E0.congr (fun c j h => by
                            rcases h with h | ⟨rfl, h⟩
                            · exact .inl (.inl (.inl (.inl (.inl h))))
                            · have hj : j < 4 ∨ j = 4 ∨ j = 5 ∨ j = 6 ∨ j = 7 := by omega
                              rcases hj with hj | rfl | rfl | rfl | rfl
                              · exact .inl (.inl (.inl (.inl (.inr ⟨rfl, hj⟩))))
                              · exact .inl (.inl (.inl (.inr ⟨rfl, rfl⟩)))
                              · exact .inl (.inl (.inr ⟨rfl, rfl⟩))
                              · exact .inl (.inr ⟨rfl, rfl⟩)
                              · exact .inr ⟨rfl, rfl⟩) (fun _ _ _ => rfl)
                          have hu : ∀ c j, ¬ (c = 7 ∧ 4 ≤ j) → F c j = FG zs.length n K M f R T TL P Q bB bT bA bC c j := fun c j e => by
                            rw [hF, up_other _ _ (by omega), up_other _ _ (by omega), up_other _ _ (by omega), up_other _ _ (by omega)]
                          have hgp : GP zs.length n K M f R T TL P Q bB bT bA bC F (fun _ => 0) (fun _ => 0) (fun _ => 0) (fun _ => 0) (0) (0) := by
                            refine ⟨fun j hj => ?_, fun j hj => ?_, fun j hj => ?_, fun j hj => ?_, hu 7 0 (by omega), hu 7 1 (by omega), hu 7 2 (by omega), hu 7 3 (by omega), ?_, ?_, ?_, ?_⟩
                            · rw [hu 0 j (by omega)]
                              exact ⟨by simp [FG, Rw.new], fun _ => ⟨rfl, rfl⟩⟩
                            · rw [hu 1 j (by omega)]
                              exact ⟨by simp [FG, Rw.new, txnsCells], fun _ => ⟨rfl, rfl⟩⟩
                            · rw [hu 2 j (by omega)]
                              exact ⟨by simp [FG, Rw.new, valsCells], fun _ => ⟨rfl, rfl⟩⟩
                            · rw [hu 3 j (by omega)]
                              exact ⟨by simp [FG, Rw.new, codeCells], fun _ => ⟨rfl, rfl⟩⟩
                            · rw [hF, up_other _ _ (by omega), up_other _ _ (by omega), up_other _ _ (by omega), up_self]; rfl
                            · rw [hF, up_other _ _ (by omega), up_other _ _ (by omega), up_self]; rfl
                            · rw [hF, up_other _ _ (by omega), up_self]; rfl
                            · rw [hF, up_self]; rfl
                          have hnil : F 7 4 = Rw.new 39 1 none 0 0 [] ∧ F 7 5 = Rw.new 22 1 none 0 0 [] ∧ F 7 6 = Rw.new 28 1 none 0 0 [] ∧ F 7 7 = Rw.new 25 1 none 0 0 [] := by
                            rw [hF, up_other _ _ (by omega), up_other _ _ (by omega), up_other _ _ (by omega), up_self, up_other _ _ (by omega), up_other _ _ (by omega), up_self, up_other _ _ (by omega), up_self, up_self]
                            exact ⟨rfl, rfl, rfl, rfl⟩
                          have HNIL := Lib.hid hnil
                          have HE1 := Lib.hid E1
                          have HGP := Lib.hid hgp
                          clear hie hbA hbC hA hC E0 E1 hu hgp hnil hF HS
                          have hrd : ∀ W F' gB gT2 gA' gC' kL mL, Desk w5 W (D4 n K) F' 0 (fun _ => ⟨0, #[], 0⟩) → GP zs.length n K M f R T TL P Q bB bT bA bC F' gB gT2 gA' gC' kL mL → (∀ k, k < 3 → W.cell? ⟨gR, k, none⟩ = some (.slice (R k).A N (R k).c) ∧ W.cell? ⟨gT, k * 2 + 1, none⟩ = some (.slice (T k).A n (T k).c)) ∧
                              ∀ m, m < M → W.cell? ⟨gA, m, none⟩ = some (.slice (TL.getD m default).A (TL.getD m default).t.args.length (TL.getD m default).c) ∧ W.cell? ⟨gC, m, none⟩ = some (.slice (TL.getD m default).B (TL.getD m default).t.proc.code.length (TL.getD m default).d) := fun W F' gB gT2 gA' gC' kL mL E g => by
                            have o1 := E.own (cl := 7) (j := 0) (.inr ⟨rfl, by decide⟩) g.l0
                            have o2 := E.own (cl := 7) (j := 1) (.inr ⟨rfl, by decide⟩) g.l1
                            have o3 := E.own (cl := 7) (j := 2) (.inr ⟨rfl, by decide⟩) g.l2
                            have o4 := E.own (cl := 7) (j := 3) (.inr ⟨rfl, by decide⟩) g.l3
                            have o1' : W.ownsRow w5.heap.size 39 1 (.slice (some ⟨gR, 0, none⟩) K (P 0).c) K (slB R zs.length K) := by rw [← HGR.out]; exact o1
                            have o2' : W.ownsRow w5.heap.size 24 2 (.slice (some ⟨gT, 0, none⟩) K (P 1).c) K (slT f n T K) := by rw [← HGT.out]; exact o2
                            have o3' : W.ownsRow w5.heap.size 28 1 (.slice (some ⟨gA, 0, none⟩) M (Q 0).c) M (slA TL M) := by rw [← HGA.out]; exact o3
                            have o4' : W.ownsRow w5.heap.size 25 1 (.slice (some ⟨gC, 0, none⟩) M (Q 1).c) M (slC TL M) := by rw [← HGC.out]; exact o4
                            refine ⟨fun k hk => ?_, fun m hm => ?_⟩
                            · have hkK : k < K := by have := HK.out; omega
                              have y1 := (owns_cell o1' k (by rw [slB_len]; exact hkK)).1
                              have y3 := (owns_cell o2' (k * 2 + 1) (by rw [slT_len]; omega)).1
                              rw [slB_at R zs.length K k hkK, ← HNN.out] at y1
                              rw [(slT_at f n T K k hkK).2] at y3
                              exact ⟨y1, y3⟩
                            · have y1 := (owns_cell o3' m (by rw [slA_len]; exact hm)).1
                              have y3 := (owns_cell o4' m (by rw [slC_len]; exact hm)).1
                              rw [slA_at TL M m hm] at y1
                              rw [slC_at TL M m hm] at y3
                              exact ⟨y1, y3⟩
                          have HRD2 := Lib.hid hrd
                          clear hrd
                          go_wp2
                          go_loopw [25, 26, 29] (fun a b v wr => ∃ (k : Nat) (F : Nat → Nat → Rw), k ≤ 3 ∧ a = .slice (F 7 4).A k (F 7 4).c ∧ b = .slice (F 7 5).A k (F 7 5).c ∧ v = .int .i64 (k : Nat) ∧ Hid (Desk w5 wr (D4 n K) F 0 (fun _ => ⟨0, #[], 0⟩)) ∧ Hid (GP zs.length n K M f R T TL P Q bB bT bA bC F (prof k (fun _ => 40) 0) (prof k (fun _ => 40) 0) (fun _ => 0) (fun _ => 0) (k) (0)) ∧ Hid (F 7 6 = Rw.new 28 1 none 0 0 [] ∧ F 7 7 = Rw.new 25 1 none 0 0 [])) (fun _ _ v _ => 3 - (intOf v).toNat)
                          case atStart => exact ⟨0, F, by omega, by rw [HNIL.out.1]; rfl, by rw [HNIL.out.2.1]; rfl, rfl, HE1, by rw [prof_z]; exact HGP, Lib.hid HNIL.out.2.2⟩
                          case round =>
                            obtain ⟨wk, rfl⟩ : ∃ wk, wk = wr := ⟨_, rfl⟩
                            obtain ⟨k, F, hk, rfl, rfl, rfl, HD, HG, HN2⟩ := hrel
                            clear HE1 HGP HNIL
                            by_cases hk3 : k < 3
                            · have hk3' : (k : Int) < 3 := by omega
                              have hk0' : (0 : Int) ≤ (k : Int) := by omega
                              have hkK : k < K := by have := HK.out; omega
                              have hkK' : (k : Int) < (K : Int) := by omega
                              have w100 : IntKind.i64.wrap (100 + (k : Int)) = 100 + (k : Int) := by simp [IntKind.bits, IntKind.wrap, IntKind.signed]; omega
                              have w100b : IntKind.u8.wrap (100 + (k : Int)) = 100 + (k : Int) := by simp [IntKind.bits, IntKind.wrap, IntKind.signed]; omega
                              obtain ⟨r0, r1⟩ := (HRD2.out _ _ _ _ _ _ _ _ HD.out HG.out).1 k hk3
                              have hl4 := HG.out.l4; have hl5 := HG.out.l5
                              obtain ⟨q4A, hq4A⟩ : ∃ x, x = (F 7 4).A := ⟨_, rfl⟩
                              obtain ⟨q4c, hq4c⟩ : ∃ x, x = (F 7 4).c := ⟨_, rfl⟩
                              obtain ⟨q5A, hq5A⟩ : ∃ x, x = (F 7 5).A := ⟨_, rfl⟩
                              obtain ⟨q5c, hq5c⟩ : ∃ x, x = (F 7 5).c := ⟨_, rfl⟩
                              rw [← hq4A, ← hq4c, ← hq5A, ← hq5c]
                              have hs0 := (HG.out.b k hk3).2 (by rw [prof_at])
                              have hs1 := (HG.out.t k hk3).2 (by rw [prof_at])
                              have HS0 := Lib.hid hs0
                              have HS1 := Lib.hid hs1
                              have HQ4 : Hid ((F 7 4).A = q4A ∧ (F 7 4).c = q4c ∧ (F 7 5).A = q5A ∧ (F 7 5).c = q5c) := Lib.hid ⟨hq4A.symm, hq4c.symm, hq5A.symm, hq5c.symm⟩
                              clear hl4 hl5 hs0 hs1 hq4A hq4c hq5A hq5c
                              go_wp2
                              go_loopw [30, 31, 32] (fun a b v wr => ∃ (m : Nat) (F : Nat → Nat → Rw), m ≤ 40 ∧ a = .slice (F 0 k).A (N + m) (F 0 k).c ∧ b = .slice (F 1 k).A (n + m) (F 1 k).c ∧ v = .int .i64 (m : Nat) ∧ Hid (Desk w5 wr (D4 n K) F 0 (fun _ => ⟨0, #[], 0⟩)) ∧ Hid (GP zs.length n K M f R T TL P Q bB bT bA bC F (prof k (fun _ => 40) m) (prof k (fun _ => 40) m) (fun _ => 0) (fun _ => 0) (k) (0)) ∧ Hid (F 7 6 = Rw.new 28 1 none 0 0 [] ∧ F 7 7 = Rw.new 25 1 none 0 0 []) ∧ Hid ((F 7 4).A = q4A ∧ (F 7 4).c = q4c ∧ (F 7 5).A = q5A ∧ (F 7 5).c = q5c)) (fun _ _ v _ => 40 - (intOf v).toNat)
                              case atStart => exact ⟨0, F, Nat.zero_le _, by rw [HS0.out.1, HS0.out.2]; rfl, by rw [HS1.out.1, HS1.out.2]; rfl, rfl, HD, HG, HN2, HQ4⟩
                              case round =>
                                obtain ⟨wm, rfl⟩ : ∃ wm, wm = wr := ⟨_, rfl⟩
                                obtain ⟨m, F, hm, rfl, rfl, rfl, HD, HG, HN2, HQ4⟩ := hrel
                                clear HS0 HS1 r0 r1
                                have hx0 := (HG.out.b k hk3).1
                                have hx1 := (HG.out.t k hk3).1
                                have hl4 := HG.out.l4; have hl5 := HG.out.l5
                                obtain ⟨gA0, hgA0⟩ : ∃ x, x = (F 0 k).A := ⟨_, rfl⟩
                                obtain ⟨gc0, hgc0⟩ : ∃ x, x = (F 0 k).c := ⟨_, rfl⟩
                                obtain ⟨gA1, hgA1⟩ : ∃ x, x = (F 1 k).A := ⟨_, rfl⟩
                                obtain ⟨gc1, hgc1⟩ : ∃ x, x = (F 1 k).c := ⟨_, rfl⟩
                                rw [prof_at, ← hgA0, ← hgc0, ← HNN.out] at hx0
                                rw [prof_at, ← hgA1, ← hgc1] at hx1
                                rw [HQ4.out.1, HQ4.out.2.1] at hl4
                                rw [HQ4.out.2.2.1, HQ4.out.2.2.2] at hl5
                                rw [← hgA0, ← hgc0, ← hgA1, ← hgc1]
                                have HX0 := Lib.hid hx0
                                have HX1 := Lib.hid hx1
                                have HL4 := Lib.hid hl4
                                have HL5 := Lib.hid hl5
                                clear hx0 hx1 hl4 hl5 hgA0 hgc0 hgA1 hgc1
                                by_cases hm4 : m < 40
                                · have hm4' : (m : Int) < 40 := by omega
                                  have b6 := (Below.refl wm.heap.size wm).alloc (Nat.le_refl _) (.cells #[.int .u8 (100 + (k : Int))] 5)
                                  have E6 := HD.out.below b6
                                  have own0 := E6.own (.inl (.inl ⟨rfl, hkK⟩)) HX0.out
                                  have HSRC := Lib.hid (Row.src (P := Try.prog) (c := 1) (size := 1) (n := 1) (tx := 39) (Row.of_loc (Loc.new wm #[.int .u8 (100 + (k : Int))] 5)) Try.underlying39 rfl (by simp [Value.oneCell']) (fun h => by simp at h))
                                  have HOWN := Lib.hid own0
                                  clear own0 b6
                                  go_wp2_with (first | (at_builtin; refine wpList_append_keep _ rfl _ _ 22 22 rfl 30 (.agg #[.int .i64 0, .string ⟨#[]⟩, .int .i64 0, .slice none 0 0, .string ⟨#[]⟩, .slice none 0 0]) 6 96 Try.underlying22 infoTxn rfl (by decide) (.slice gA1 (n + m) gc1) (n + m) _ rfl (owns_base (base' := 0) HOWN1.out (fun _ _ => Nat.zero_le _)) _ 1 _ rfl HSRC1.out (by unfold maxLen; omega) (by omega) ?_; intro A8 c8 w8 hown hg hbl hmv; have E9 := E8.grow 1 k (.inl (.inr (.inl ⟨rfl, hkK⟩))) HR1.out hown hg hbl hmv; clear hown hg hbl hmv E8 HOWN1 HSRC1 HR1) | (at_builtin; refine wpList_append_keep _ rfl _ _ 39 39 rfl 5 (.int .u8 0) 1 1 Try.underlying39 infoU8 rfl (by decide) (.slice gA0 (N + m) gc0) (N + m) _ rfl (owns_base (base' := 0) HOWN.out (fun _ _ => Nat.zero_le _)) _ 1 _ rfl HSRC.out (by unfold maxLen; omega) (by omega) ?_; intro A7 c7 w7 hown hg hbl hmv; have E7 := E6.grow 0 k (.inl (.inl ⟨rfl, hkK⟩)) HX0.out hown hg hbl hmv; have b8 := (Below.refl w7.heap.size w7).alloc (Nat.le_refl _) (.cells #[.int .i64 (100 + (k : Int)), .string ⟨#[]⟩, .int .i64 0, .slice none 0 0, .string ⟨#[]⟩, .slice none 0 0] 30); have E8 := E7.below b8; have hr1 := (up_other F (c := 0) (j := k) (c' := 1) (j' := k) ⟨5, 1, (R k).A, N, (R k).c, bB k, A7, N + m + 1, c7, bB k ++ List.replicate m (vG2 k) ++ [vG2 k]⟩ (by omega)).trans HX1.out; have own1 := E8.own (.inl (.inr (.inl ⟨rfl, hkK⟩))) hr1; have hsrc := Row.src (P := Try.prog) (c := 1) (size := 6) (n := 1) (tx := 22) (Row.of_loc (Loc.new w7 #[.int .i64 (100 + (k : Int)), .string ⟨#[]⟩, .int .i64 0, .slice none 0 0, .string ⟨#[]⟩, .slice none 0 0] 30)) Try.underlying22 rfl (by simp [Value.oneCell']) (fun h => by simp at h); have HSRC1 := Lib.hid hsrc; have HOWN1 := Lib.hid own1; have HR1 := Lib.hid hr1; clear hsrc own1 hown hg hbl hmv E6 E7 b8 hr1 HOWN HSRC ))
                                  have hg9 := (HG.out.growB hk3 (Nat.le_refl _) (A' := A7) (c' := c7)).growT hk3 (Nat.le_refl _) (A' := A8) (c' := c8)
                                  have hD9 : Desk w5 w8 (D4 n K) (up (up F 0 k ⟨5, 1, (R k).A, N, (R k).c, bB k, A7, N + m + 1, c7, bB k ++ List.replicate m (vG2 k) ++ [vG2 k]⟩) 1 k ⟨30, 6, (T k).A, n, (T k).c, bT k, A8, n + m + 1, c8, bT k ++ txnsCells (List.replicate m (mkT k)) ++ (mkT k).cells.toList⟩) 0 (fun _ => ⟨0, #[], 0⟩) := E9
                                  rw [← HNN.out] at hg9
                                  have HE9 := Lib.hid hD9
                                  have HG9 : Hid (GP zs.length n K M f R T TL P Q bB bT bA bC (up (up F 0 k ⟨5, 1, (R k).A, N, (R k).c, bB k, A7, N + m + 1, c7, bB k ++ List.replicate m (vG2 k) ++ [vG2 k]⟩) 1 k ⟨30, 6, (T k).A, n, (T k).c, bT k, A8, n + m + 1, c8, bT k ++ txnsCells (List.replicate m (mkT k)) ++ (mkT k).cells.toList⟩) (prof k (fun _ => 40) (m + 1)) (prof k (fun _ => 40) (m + 1)) (fun _ => 0) (fun _ => 0) (k) (0)) := Lib.hid (by rw [← HNN.out]; exact hg9)
                                  have HN9 : Hid (up (up F 0 k ⟨5, 1, (R k).A, N, (R k).c, bB k, A7, N + m + 1, c7, bB k ++ List.replicate m (vG2 k) ++ [vG2 k]⟩) 1 k ⟨30, 6, (T k).A, n, (T k).c, bT k, A8, n + m + 1, c8, bT k ++ txnsCells (List.replicate m (mkT k)) ++ (mkT k).cells.toList⟩ 7 6 = Rw.new 28 1 none 0 0 [] ∧ up (up F 0 k ⟨5, 1, (R k).A, N, (R k).c, bB k, A7, N + m + 1, c7, bB k ++ List.replicate m (vG2 k) ++ [vG2 k]⟩) 1 k ⟨30, 6, (T k).A, n, (T k).c, bT k, A8, n + m + 1, c8, bT k ++ txnsCells (List.replicate m (mkT k)) ++ (mkT k).cells.toList⟩ 7 7 = Rw.new 25 1 none 0 0 []) := Lib.hid (by rw [up_other _ _ (by omega), up_other _ _ (by omega), up_other _ _ (by omega), up_other _ _ (by omega)]; exact HN2.out)
                                  have HQ9 : Hid ((up (up F 0 k ⟨5, 1, (R k).A, N, (R k).c, bB k, A7, N + m + 1, c7, bB k ++ List.replicate m (vG2 k) ++ [vG2 k]⟩) 1 k ⟨30, 6, (T k).A, n, (T k).c, bT k, A8, n + m + 1, c8, bT k ++ txnsCells (List.replicate m (mkT k)) ++ (mkT k).cells.toList⟩ 7 4).A = q4A ∧ (up (up F 0 k ⟨5, 1, (R k).A, N, (R k).c, bB k, A7, N + m + 1, c7, bB k ++ List.replicate m (vG2 k) ++ [vG2 k]⟩) 1 k ⟨30, 6, (T k).A, n, (T k).c, bT k, A8, n + m + 1, c8, bT k ++ txnsCells (List.replicate m (mkT k)) ++ (mkT k).cells.toList⟩ 7 4).c = q4c ∧ (up (up F 0 k ⟨5, 1, (R k).A, N, (R k).c, bB k, A7, N + m + 1, c7, bB k ++ List.replicate m (vG2 k) ++ [vG2 k]⟩) 1 k ⟨30, 6, (T k).A, n, (T k).c, bT k, A8, n + m + 1, c8, bT k ++ txnsCells (List.replicate m (mkT k)) ++ (mkT k).cells.toList⟩ 7 5).A = q5A ∧ (up (up F 0 k ⟨5, 1, (R k).A, N, (R k).c, bB k, A7, N + m + 1, c7, bB k ++ List.replicate m (vG2 k) ++ [vG2 k]⟩) 1 k ⟨30, 6, (T k).A, n, (T k).c, bT k, A8, n + m + 1, c8, bT k ++ txnsCells (List.replicate m (mkT k)) ++ (mkT k).cells.toList⟩ 7 5).c = q5c) := Lib.hid (by rw [up_other _ _ (by omega), up_other _ _ (by omega), up_other _ _ (by omega), up_other _ _ (by omega)]; exact HQ4.out)
                                  have he0 : up (up F 0 k ⟨5, 1, (R k).A, N, (R k).c, bB k, A7, N + m + 1, c7, bB k ++ List.replicate m (vG2 k) ++ [vG2 k]⟩) 1 k ⟨30, 6, (T k).A, n, (T k).c, bT k, A8, n + m + 1, c8, bT k ++ txnsCells (List.replicate m (mkT k)) ++ (mkT k).cells.toList⟩ 0 k = ⟨5, 1, (R k).A, N, (R k).c, bB k, A7, N + m + 1, c7, bB k ++ List.replicate m (vG2 k) ++ [vG2 k]⟩ := (up_other _ _ (by omega)).trans (up_self _ _ _ _)
                                  have he1 : up (up F 0 k ⟨5, 1, (R k).A, N, (R k).c, bB k, A7, N + m + 1, c7, bB k ++ List.replicate m (vG2 k) ++ [vG2 k]⟩) 1 k ⟨30, 6, (T k).A, n, (T k).c, bT k, A8, n + m + 1, c8, bT k ++ txnsCells (List.replicate m (mkT k)) ++ (mkT k).cells.toList⟩ 1 k = ⟨30, 6, (T k).A, n, (T k).c, bT k, A8, n + m + 1, c8, bT k ++ txnsCells (List.replicate m (mkT k)) ++ (mkT k).cells.toList⟩ := up_self _ _ _ _
                                  have H0 := Lib.hid he0
                                  have H1 := Lib.hid he1
                                  clear hg9 hD9 E9 he0 he1 HD HG HN2 HQ4 HX0 HX1 HL4 HL5
                                  go_roundw
                                  case rel => exact ⟨m + 1, up (up F 0 k ⟨5, 1, (R k).A, N, (R k).c, bB k, A7, N + m + 1, c7, bB k ++ List.replicate m (vG2 k) ++ [vG2 k]⟩) 1 k ⟨30, 6, (T k).A, n, (T k).c, bT k, A8, n + m + 1, c8, bT k ++ txnsCells (List.replicate m (mkT k)) ++ (mkT k).cells.toList⟩, by omega, by rw [H0.out]; rfl, by rw [H1.out]; rfl, by go_num, HE9, HG9, HN9, HQ9⟩
                                  case measure => simp [intOf]; omega
                                · have hm4n : ¬ (m : Int) < 40 := by omega
                                  have hme : m = 40 := by omega
                                  have HME := Lib.hid hme
                                  clear hme
                                  have b6 := (Below.refl wm.heap.size wm).alloc (Nat.le_refl _) (.cells #[.slice gA0 (N + m) gc0] 39)
                                  have E6 := HD.out.below b6
                                  have own0 := E6.own (.inr ⟨rfl, by decide⟩) HL4.out
                                  have HSRC := Lib.hid (Row.src (P := Try.prog) (c := 1) (size := 1) (n := 1) (tx := 52) (Row.of_loc (Loc.new wm #[.slice gA0 (N + m) gc0] 39)) Try.underlying52 rfl (by simp [Value.oneCell']) (fun h => by simp at h))
                                  have HOWN := Lib.hid own0
                                  clear own0 b6
                                  go_wp2_with (first | (at_builtin; refine wpList_append_keep _ rfl _ _ 60 60 rfl 22 (.slice none 0 0) 1 24 Try.underlying60 infoSlT rfl (by decide) (.slice q5A (k) q5c) (k) _ rfl (owns_base (base' := 0) HOWN1.out (fun _ _ => Nat.zero_le _)) _ 1 _ rfl HSRC1.out (by unfold maxLen; omega) (by omega) ?_; intro A8 c8 w8 hown hg hbl hmv; have E9 := E8.grow 7 5 (.inr ⟨rfl, by decide⟩) HR1.out hown hg hbl hmv; clear hown hg hbl hmv E8 HOWN1 HSRC1 HR1) | (at_builtin; refine wpList_append_keep _ rfl _ _ 52 52 rfl 39 (.slice none 0 0) 1 24 Try.underlying52 infoSl rfl (by decide) (.slice q4A (k) q4c) (k) _ rfl (owns_base (base' := 0) HOWN.out (fun _ _ => Nat.zero_le _)) _ 1 _ rfl HSRC.out (by unfold maxLen; omega) (by omega) ?_; intro A7 c7 w7 hown hg hbl hmv; have E7 := E6.grow 7 4 (.inr ⟨rfl, by decide⟩) HL4.out hown hg hbl hmv; have b8 := (Below.refl w7.heap.size w7).alloc (Nat.le_refl _) (.cells #[.slice gA1 (n + m) gc1] 22); have E8 := E7.below b8; have hr1 := (up_other F (c := 7) (j := 4) (c' := 7) (j' := 5) ⟨39, 1, none, 0, 0, [], A7, k + 1, c7, ((List.range k).map fun j => (F 0 j).v) ++ [.slice gA0 (N + m) gc0]⟩ (by omega)).trans HL5.out; have own1 := E8.own (.inr ⟨rfl, by decide⟩) hr1; have hsrc := Row.src (P := Try.prog) (c := 1) (size := 1) (n := 1) (tx := 60) (Row.of_loc (Loc.new w7 #[.slice gA1 (n + m) gc1] 22)) Try.underlying60 rfl (by simp [Value.oneCell']) (fun h => by simp at h); have HSRC1 := Lib.hid hsrc; have HOWN1 := Lib.hid own1; have HR1 := Lib.hid hr1; clear hsrc own1 hown hg hbl hmv E6 E7 b8 hr1 HOWN HSRC ))
                                  have hv0 : (F 0 k).v = .slice gA0 (N + m) gc0 := by rw [HX0.out]; rfl
                                  have hv1 : (F 1 k).v = .slice gA1 (n + m) gc1 := by rw [HX1.out]; rfl
                                  have hg9 := HG.out.push45 (a0 := A7) (c0 := c7) (a1 := A8) (c1 := c8)
                                  rw [hv0, hv1, HME.out, prof_next k (fun _ => 40)] at hg9
                                  have HE9 := Lib.hid E9
                                  have HG9 := Lib.hid hg9
                                  have HN9 : Hid (up (up F 7 4 ⟨39, 1, none, 0, 0, [], A7, k + 1, c7, ((List.range k).map fun j => (F 0 j).v) ++ [.slice gA0 (N + m) gc0]⟩) 7 5 ⟨22, 1, none, 0, 0, [], A8, k + 1, c8, ((List.range k).map fun j => (F 1 j).v) ++ [.slice gA1 (n + m) gc1]⟩ 7 6 = Rw.new 28 1 none 0 0 [] ∧ up (up F 7 4 ⟨39, 1, none, 0, 0, [], A7, k + 1, c7, ((List.range k).map fun j => (F 0 j).v) ++ [.slice gA0 (N + m) gc0]⟩) 7 5 ⟨22, 1, none, 0, 0, [], A8, k + 1, c8, ((List.range k).map fun j => (F 1 j).v) ++ [.slice gA1 (n + m) gc1]⟩ 7 7 = Rw.new 25 1 none 0 0 []) := Lib.hid (by rw [up_other _ _ (by omega), up_other _ _ (by omega), up_other _ _ (by omega), up_other _ _ (by omega)]; exact HN2.out)
                                  have he0 : up (up F 7 4 ⟨39, 1, none, 0, 0, [], A7, k + 1, c7, ((List.range k).map fun j => (F 0 j).v) ++ [.slice gA0 (N + m) gc0]⟩) 7 5 ⟨22, 1, none, 0, 0, [], A8, k + 1, c8, ((List.range k).map fun j => (F 1 j).v) ++ [.slice gA1 (n + m) gc1]⟩ 7 4 = ⟨39, 1, none, 0, 0, [], A7, k + 1, c7, ((List.range k).map fun j => (F 0 j).v) ++ [.slice gA0 (N + m) gc0]⟩ := (up_other _ _ (by omega)).trans (up_self _ _ _ _)
                                  have he1 : up (up F 7 4 ⟨39, 1, none, 0, 0, [], A7, k + 1, c7, ((List.range k).map fun j => (F 0 j).v) ++ [.slice gA0 (N + m) gc0]⟩) 7 5 ⟨22, 1, none, 0, 0, [], A8, k + 1, c8, ((List.range k).map fun j => (F 1 j).v) ++ [.slice gA1 (n + m) gc1]⟩ 7 5 = ⟨22, 1, none, 0, 0, [], A8, k + 1, c8, ((List.range k).map fun j => (F 1 j).v) ++ [.slice gA1 (n + m) gc1]⟩ := up_self _ _ _ _
                                  have H0 := Lib.hid he0
                                  have H1 := Lib.hid he1
                                  clear hg9 hv0 hv1 E9 he0 he1 HD HG HN2 HQ4 HX0 HX1 HL4 HL5
                                  go_roundw
                                  case rel => exact ⟨k + 1, up (up F 7 4 ⟨39, 1, none, 0, 0, [], A7, k + 1, c7, ((List.range k).map fun j => (F 0 j).v) ++ [.slice gA0 (N + m) gc0]⟩) 7 5 ⟨22, 1, none, 0, 0, [], A8, k + 1, c8, ((List.range k).map fun j => (F 1 j).v) ++ [.slice gA1 (n + m) gc1]⟩, by omega, by rw [H0.out], by rw [H1.out], by go_num, HE9, by rw [HME.out]; exact HG9, HN9⟩
                                  case measure => simp [intOf]; omega
                            · have hk3n : ¬ (k : Int) < 3 := by omega
                              have hk3e : k = 3 := by omega
                              have HK3 := Lib.hid hk3e
                              obtain ⟨Y4A, hY4A⟩ : ∃ x, x = (F 7 4).A := ⟨_, rfl⟩
                              obtain ⟨Y4c, hY4c⟩ : ∃ x, x = (F 7 4).c := ⟨_, rfl⟩
                              obtain ⟨Y5A, hY5A⟩ : ∃ x, x = (F 7 5).A := ⟨_, rfl⟩
                              obtain ⟨Y5c, hY5c⟩ : ∃ x, x = (F 7 5).c := ⟨_, rfl⟩
                              rw [← hY4A, ← hY4c, ← hY5A, ← hY5c]
                              have HY : Hid ((F 7 4).A = Y4A ∧ (F 7 4).c = Y4c ∧ (F 7 5).A = Y5A ∧ (F 7 5).c = Y5c) := Lib.hid ⟨hY4A.symm, hY4c.symm, hY5A.symm, hY5c.symm⟩
                              obtain ⟨gB, hgB⟩ : ∃ x, x = prof k (fun _ => 40) 0 := ⟨_, rfl⟩
                              rw [← hgB] at HG
                              have HGB : Hid (∀ j, j < 3 → gB j = 40) := Lib.hid (fun j hj => by rw [hgB, prof_all _ _ (by omega)])
                              have HG0 : Hid (GP zs.length n K M f R T TL P Q bB bT bA bC F gB gB (prof 0 (fun _ => 20) 0) (prof 0 (fun _ => 20) 0) (k) (0)) := Lib.hid (by rw [prof_z]; exact HG.out)
                              clear hk3e hY4A hY4c hY5A hY5c hgB HG
                              go_wp2
                              go_loopw [27, 28, 33] (fun a b v wr => ∃ (i : Nat) (F : Nat → Nat → Rw), i ≤ M ∧ a = .slice (F 7 6).A i (F 7 6).c ∧ b = .slice (F 7 7).A i (F 7 7).c ∧ v = .int .i64 (i : Nat) ∧ Hid (Desk w5 wr (D4 n K) F 0 (fun _ => ⟨0, #[], 0⟩)) ∧ Hid (GP zs.length n K M f R T TL P Q bB bT bA bC F gB gB (prof i (fun _ => 20) 0) (prof i (fun _ => 20) 0) (k) (i)) ∧ Hid ((F 7 4).A = Y4A ∧ (F 7 4).c = Y4c ∧ (F 7 5).A = Y5A ∧ (F 7 5).c = Y5c)) (fun _ _ v _ => M - (intOf v).toNat)
                              case atStart => exact ⟨0, F, Nat.zero_le _, by rw [HN2.out.1]; rfl, by rw [HN2.out.2]; rfl, rfl, HD, HG0, HY⟩
                              case round =>
                                obtain ⟨wi, rfl⟩ : ∃ wi, wi = wr := ⟨_, rfl⟩
                                obtain ⟨i, F, hi, rfl, rfl, rfl, HD, HG, HY⟩ := hrel
                                clear HG0 HN2
                                by_cases hiM : i < M
                                · have hiM' : (i : Int) < (M : Int) := by omega
                                  have hi0' : (0 : Int) ≤ (i : Int) := by omega
                                  have hib : (i : Int) < 192 := by omega
                                  have hiKn : i < K * n := by rw [← HMK.out]; exact hiM
                                  have HIK := Lib.hid hiKn
                                  have w5000 : IntKind.i64.wrap (5000 + (i : Int)) = 5000 + (i : Int) := by simp [IntKind.bits, IntKind.wrap, IntKind.signed]; omega
                                  obtain ⟨r0, r1⟩ := (HRD2.out _ _ _ _ _ _ _ _ HD.out HG.out).2 i hiM
                                  obtain ⟨x, hx⟩ : ∃ x, x = TL.getD i default := ⟨_, rfl⟩
                                  obtain ⟨na, hna⟩ : ∃ na, na = x.t.args.length := ⟨_, rfl⟩
                                  obtain ⟨nc, hnc⟩ : ∃ nc, nc = x.t.proc.code.length := ⟨_, rfl⟩
                                  have hna3 : na ≤ 300 := by rw [hna, hx]; exact (H24.out i hiM).1
                                  have hnc3 : nc ≤ 300 := by rw [hnc, hx]; exact (H24.out i hiM).2
                                  rw [← hx, ← hna] at r0
                                  rw [← hx, ← hnc] at r1
                                  have HXX := Lib.hid hx
                                  have HNA := Lib.hid hna
                                  have HNC := Lib.hid hnc
                                  obtain ⟨q4A, hq4A⟩ : ∃ x, x = (F 7 6).A := ⟨_, rfl⟩
                                  obtain ⟨q4c, hq4c⟩ : ∃ x, x = (F 7 6).c := ⟨_, rfl⟩
                                  obtain ⟨q5A, hq5A⟩ : ∃ x, x = (F 7 7).A := ⟨_, rfl⟩
                                  obtain ⟨q5c, hq5c⟩ : ∃ x, x = (F 7 7).c := ⟨_, rfl⟩
                                  rw [← hq4A, ← hq4c, ← hq5A, ← hq5c]
                                  have hs0 := (HG.out.a i hiM).2 (by rw [prof_at])
                                  have hs1 := (HG.out.c i hiM).2 (by rw [prof_at])
                                  rw [← hx] at hs0 hs1
                                  have HS0 := Lib.hid hs0
                                  have HS1 := Lib.hid hs1
                                  have HQ4 : Hid ((F 7 6).A = q4A ∧ (F 7 6).c = q4c ∧ (F 7 7).A = q5A ∧ (F 7 7).c = q5c) := Lib.hid ⟨hq4A.symm, hq4c.symm, hq5A.symm, hq5c.symm⟩
                                  clear hs0 hs1 hq4A hq4c hq5A hq5c hx hna hnc hiKn
                                  go_wp2
                                  go_loopw [34, 35, 36] (fun a b v wr => ∃ (m : Nat) (F : Nat → Nat → Rw), m ≤ 20 ∧ a = .slice (F 2 i).A (na + m) (F 2 i).c ∧ b = .slice (F 3 i).A (nc + m) (F 3 i).c ∧ v = .int .i64 (m : Nat) ∧ Hid (Desk w5 wr (D4 n K) F 0 (fun _ => ⟨0, #[], 0⟩)) ∧ Hid (GP zs.length n K M f R T TL P Q bB bT bA bC F gB gB (prof i (fun _ => 20) m) (prof i (fun _ => 20) m) (k) (i)) ∧ Hid ((F 7 4).A = Y4A ∧ (F 7 4).c = Y4c ∧ (F 7 5).A = Y5A ∧ (F 7 5).c = Y5c) ∧ Hid ((F 7 6).A = q4A ∧ (F 7 6).c = q4c ∧ (F 7 7).A = q5A ∧ (F 7 7).c = q5c)) (fun _ _ v _ => 20 - (intOf v).toNat)
                                  case atStart => exact ⟨0, F, Nat.zero_le _, by rw [HS0.out.1, HS0.out.2]; rfl, by rw [HS1.out.1, HS1.out.2]; rfl, rfl, HD, HG, HY, HQ4⟩
                                  case round =>
                                    obtain ⟨wm, rfl⟩ : ∃ wm, wm = wr := ⟨_, rfl⟩
                                    obtain ⟨m, F, hm, rfl, rfl, rfl, HD, HG, HY, HQ4⟩ := hrel
                                    clear HS0 HS1 r0 r1
                                    have hx0 := (HG.out.a i hiM).1
                                    have hx1 := (HG.out.c i hiM).1
                                    have hl4 := HG.out.l6; have hl5 := HG.out.l7
                                    obtain ⟨gA0, hgA0⟩ : ∃ x, x = (F 2 i).A := ⟨_, rfl⟩
                                    obtain ⟨gc0, hgc0⟩ : ∃ x, x = (F 2 i).c := ⟨_, rfl⟩
                                    obtain ⟨gA1, hgA1⟩ : ∃ x, x = (F 3 i).A := ⟨_, rfl⟩
                                    obtain ⟨gc1, hgc1⟩ : ∃ x, x = (F 3 i).c := ⟨_, rfl⟩
                                    rw [prof_at, ← hgA0, ← hgc0, ← HXX.out, ← HNA.out] at hx0
                                    rw [prof_at, ← hgA1, ← hgc1, ← HXX.out, ← HNC.out] at hx1
                                    rw [HQ4.out.1, HQ4.out.2.1] at hl4
                                    rw [HQ4.out.2.2.1, HQ4.out.2.2.2] at hl5
                                    rw [← hgA0, ← hgc0, ← hgA1, ← hgc1]
                                    have hiKn := HIK.out
                                    have HX0 := Lib.hid hx0
                                    have HX1 := Lib.hid hx1
                                    have HL4 := Lib.hid hl4
                                    have HL5 := Lib.hid hl5
                                    clear hx0 hx1 hl4 hl5 hgA0 hgc0 hgA1 hgc1
                                    by_cases hm4 : m < 20
                                    · have hm4' : (m : Int) < 20 := by omega
                                      have b6 := (Below.refl wm.heap.size wm).alloc (Nat.le_refl _) (.cells #[.int .i64 (5000 + (i : Int)), .int .i64 0, .string ⟨#[]⟩] 57)
                                      have E6 := HD.out.below b6
                                      have own0 := E6.own (.inl (.inr (.inr (.inl ⟨.inl rfl, hiKn⟩)))) HX0.out
                                      have HSRC := Lib.hid (Row.src (P := Try.prog) (c := 1) (size := 3) (n := 1) (tx := 28) (Row.of_loc (Loc.new wm #[.int .i64 (5000 + (i : Int)), .int .i64 0, .string ⟨#[]⟩] 57)) Try.underlying28 rfl (by simp [Value.oneCell']) (fun h => by simp at h))
                                      have HOWN := Lib.hid own0
                                      clear own0 b6
                                      go_wp2_with (first | (at_builtin; refine wpList_append_keep _ rfl _ _ 25 25 rfl 59 (.agg #[.int .i64 0, .int .i64 0, .int .i64 0, .int .i64 0, .int .i64 0, .int .i64 0, .int .i64 0, .string ⟨#[]⟩]) 8 72 Try.underlying25 infoIns rfl (by decide) (.slice gA1 (nc + m) gc1) (nc + m) _ rfl (owns_base (base' := 0) HOWN1.out (fun _ _ => Nat.zero_le _)) _ 1 _ rfl HSRC1.out (by unfold maxLen; omega) (by omega) ?_; intro A8 c8 w8 hown hg hbl hmv; have E9 := E8.grow 3 i (.inl (.inr (.inr (.inl ⟨.inr rfl, hiKn⟩)))) HR1.out hown hg hbl hmv; clear hown hg hbl hmv E8 HOWN1 HSRC1 HR1) | (at_builtin; refine wpList_append_keep _ rfl _ _ 28 28 rfl 57 (.agg #[.int .i64 0, .int .i64 0, .string ⟨#[]⟩]) 3 32 Try.underlying28 infoVal rfl (by decide) (.slice gA0 (na + m) gc0) (na + m) _ rfl (owns_base (base' := 0) HOWN.out (fun _ _ => Nat.zero_le _)) _ 1 _ rfl HSRC.out (by unfold maxLen; omega) (by omega) ?_; intro A7 c7 w7 hown hg hbl hmv; have E7 := E6.grow 2 i (.inl (.inr (.inr (.inl ⟨.inl rfl, hiKn⟩)))) HX0.out hown hg hbl hmv; have b8 := (Below.refl w7.heap.size w7).alloc (Nat.le_refl _) (.cells #[.int .i64 (5000 + (i : Int)), .int .i64 0, .int .i64 0, .int .i64 0, .int .i64 0, .int .i64 0, .int .i64 0, .string ⟨#[]⟩] 59); have E8 := E7.below b8; have hr1 := (up_other F (c := 2) (j := i) (c' := 3) (j' := i) ⟨57, 3, x.A, na, x.c, bA i, A7, na + m + 1, c7, bA i ++ valsCells (List.replicate m (mkV i)) ++ (valCells (mkV i)).toList⟩ (by omega)).trans HX1.out; have own1 := E8.own (.inl (.inr (.inr (.inl ⟨.inr rfl, hiKn⟩)))) hr1; have hsrc := Row.src (P := Try.prog) (c := 1) (size := 8) (n := 1) (tx := 25) (Row.of_loc (Loc.new w7 #[.int .i64 (5000 + (i : Int)), .int .i64 0, .int .i64 0, .int .i64 0, .int .i64 0, .int .i64 0, .int .i64 0, .string ⟨#[]⟩] 59)) Try.underlying25 rfl (by simp [Value.oneCell']) (fun h => by simp at h); have HSRC1 := Lib.hid hsrc; have HOWN1 := Lib.hid own1; have HR1 := Lib.hid hr1; clear hsrc own1 hown hg hbl hmv E6 E7 b8 hr1 HOWN HSRC ))
                                      have hg9 := (HG.out.growA hiM (Nat.le_refl _) (A' := A7) (c' := c7)).growC hiM (Nat.le_refl _) (A' := A8) (c' := c8)
                                      rw [← HXX.out, ← HNA.out, ← HNC.out] at hg9
                                      have hD9 : Desk w5 w8 (D4 n K) (up (up F 2 i ⟨57, 3, x.A, na, x.c, bA i, A7, na + m + 1, c7, bA i ++ valsCells (List.replicate m (mkV i)) ++ (valCells (mkV i)).toList⟩) 3 i ⟨59, 8, x.B, nc, x.d, bC i, A8, nc + m + 1, c8, bC i ++ codeCells (List.replicate m (mkC i)) ++ (insCells (mkC i)).toList⟩) 0 (fun _ => ⟨0, #[], 0⟩) := E9
                                      have HE9 := Lib.hid hD9
                                      have HG9 : Hid (GP zs.length n K M f R T TL P Q bB bT bA bC (up (up F 2 i ⟨57, 3, x.A, na, x.c, bA i, A7, na + m + 1, c7, bA i ++ valsCells (List.replicate m (mkV i)) ++ (valCells (mkV i)).toList⟩) 3 i ⟨59, 8, x.B, nc, x.d, bC i, A8, nc + m + 1, c8, bC i ++ codeCells (List.replicate m (mkC i)) ++ (insCells (mkC i)).toList⟩) gB gB (prof i (fun _ => 20) (m + 1)) (prof i (fun _ => 20) (m + 1)) (k) (i)) := Lib.hid hg9
                                      have HN9 : Hid ((up (up F 2 i ⟨57, 3, x.A, na, x.c, bA i, A7, na + m + 1, c7, bA i ++ valsCells (List.replicate m (mkV i)) ++ (valCells (mkV i)).toList⟩) 3 i ⟨59, 8, x.B, nc, x.d, bC i, A8, nc + m + 1, c8, bC i ++ codeCells (List.replicate m (mkC i)) ++ (insCells (mkC i)).toList⟩ 7 4).A = Y4A ∧ (up (up F 2 i ⟨57, 3, x.A, na, x.c, bA i, A7, na + m + 1, c7, bA i ++ valsCells (List.replicate m (mkV i)) ++ (valCells (mkV i)).toList⟩) 3 i ⟨59, 8, x.B, nc, x.d, bC i, A8, nc + m + 1, c8, bC i ++ codeCells (List.replicate m (mkC i)) ++ (insCells (mkC i)).toList⟩ 7 4).c = Y4c ∧ (up (up F 2 i ⟨57, 3, x.A, na, x.c, bA i, A7, na + m + 1, c7, bA i ++ valsCells (List.replicate m (mkV i)) ++ (valCells (mkV i)).toList⟩) 3 i ⟨59, 8, x.B, nc, x.d, bC i, A8, nc + m + 1, c8, bC i ++ codeCells (List.replicate m (mkC i)) ++ (insCells (mkC i)).toList⟩ 7 5).A = Y5A ∧ (up (up F 2 i ⟨57, 3, x.A, na, x.c, bA i, A7, na + m + 1, c7, bA i ++ valsCells (List.replicate m (mkV i)) ++ (valCells (mkV i)).toList⟩) 3 i ⟨59, 8, x.B, nc, x.d, bC i, A8, nc + m + 1, c8, bC i ++ codeCells (List.replicate m (mkC i)) ++ (insCells (mkC i)).toList⟩ 7 5).c = Y5c) := Lib.hid (by rw [up_other _ _ (by omega), up_other _ _ (by omega), up_other _ _ (by omega), up_other _ _ (by omega)]; exact HY.out)
                                      have HQ9 : Hid ((up (up F 2 i ⟨57, 3, x.A, na, x.c, bA i, A7, na + m + 1, c7, bA i ++ valsCells (List.replicate m (mkV i)) ++ (valCells (mkV i)).toList⟩) 3 i ⟨59, 8, x.B, nc, x.d, bC i, A8, nc + m + 1, c8, bC i ++ codeCells (List.replicate m (mkC i)) ++ (insCells (mkC i)).toList⟩ 7 6).A = q4A ∧ (up (up F 2 i ⟨57, 3, x.A, na, x.c, bA i, A7, na + m + 1, c7, bA i ++ valsCells (List.replicate m (mkV i)) ++ (valCells (mkV i)).toList⟩) 3 i ⟨59, 8, x.B, nc, x.d, bC i, A8, nc + m + 1, c8, bC i ++ codeCells (List.replicate m (mkC i)) ++ (insCells (mkC i)).toList⟩ 7 6).c = q4c ∧ (up (up F 2 i ⟨57, 3, x.A, na, x.c, bA i, A7, na + m + 1, c7, bA i ++ valsCells (List.replicate m (mkV i)) ++ (valCells (mkV i)).toList⟩) 3 i ⟨59, 8, x.B, nc, x.d, bC i, A8, nc + m + 1, c8, bC i ++ codeCells (List.replicate m (mkC i)) ++ (insCells (mkC i)).toList⟩ 7 7).A = q5A ∧ (up (up F 2 i ⟨57, 3, x.A, na, x.c, bA i, A7, na + m + 1, c7, bA i ++ valsCells (List.replicate m (mkV i)) ++ (valCells (mkV i)).toList⟩) 3 i ⟨59, 8, x.B, nc, x.d, bC i, A8, nc + m + 1, c8, bC i ++ codeCells (List.replicate m (mkC i)) ++ (insCells (mkC i)).toList⟩ 7 7).c = q5c) := Lib.hid (by rw [up_other _ _ (by omega), up_other _ _ (by omega), up_other _ _ (by omega), up_other _ _ (by omega)]; exact HQ4.out)
                                      have he0 : up (up F 2 i ⟨57, 3, x.A, na, x.c, bA i, A7, na + m + 1, c7, bA i ++ valsCells (List.replicate m (mkV i)) ++ (valCells (mkV i)).toList⟩) 3 i ⟨59, 8, x.B, nc, x.d, bC i, A8, nc + m + 1, c8, bC i ++ codeCells (List.replicate m (mkC i)) ++ (insCells (mkC i)).toList⟩ 2 i = ⟨57, 3, x.A, na, x.c, bA i, A7, na + m + 1, c7, bA i ++ valsCells (List.replicate m (mkV i)) ++ (valCells (mkV i)).toList⟩ := (up_other _ _ (by omega)).trans (up_self _ _ _ _)
                                      have he1 : up (up F 2 i ⟨57, 3, x.A, na, x.c, bA i, A7, na + m + 1, c7, bA i ++ valsCells (List.replicate m (mkV i)) ++ (valCells (mkV i)).toList⟩) 3 i ⟨59, 8, x.B, nc, x.d, bC i, A8, nc + m + 1, c8, bC i ++ codeCells (List.replicate m (mkC i)) ++ (insCells (mkC i)).toList⟩ 3 i = ⟨59, 8, x.B, nc, x.d, bC i, A8, nc + m + 1, c8, bC i ++ codeCells (List.replicate m (mkC i)) ++ (insCells (mkC i)).toList⟩ := up_self _ _ _ _
                                      have H0 := Lib.hid he0
                                      have H1 := Lib.hid he1
                                      clear hg9 hD9 E9 he0 he1 HD HG HY HQ4 HX0 HX1 HL4 HL5
                                      go_roundw
                                      case rel => exact ⟨m + 1, up (up F 2 i ⟨57, 3, x.A, na, x.c, bA i, A7, na + m + 1, c7, bA i ++ valsCells (List.replicate m (mkV i)) ++ (valCells (mkV i)).toList⟩) 3 i ⟨59, 8, x.B, nc, x.d, bC i, A8, nc + m + 1, c8, bC i ++ codeCells (List.replicate m (mkC i)) ++ (insCells (mkC i)).toList⟩, by omega, by rw [H0.out]; rfl, by rw [H1.out]; rfl, by go_num, HE9, HG9, HN9, HQ9⟩
                                      case measure => simp [intOf]; omega
                                    · have hm4n : ¬ (m : Int) < 20 := by omega
                                      have hme : m = 20 := by omega
                                      have HME := Lib.hid hme
                                      clear hme
                                      have b6 := (Below.refl wm.heap.size wm).alloc (Nat.le_refl _) (.cells #[.slice gA0 (na + m) gc0] 28)
                                      have E6 := HD.out.below b6
                                      have own0 := E6.own (.inr ⟨rfl, by decide⟩) HL4.out
                                      have HSRC := Lib.hid (Row.src (P := Try.prog) (c := 1) (size := 1) (n := 1) (tx := 54) (Row.of_loc (Loc.new wm #[.slice gA0 (na + m) gc0] 28)) Try.underlying54 rfl (by simp [Value.oneCell']) (fun h => by simp at h))
                                      have HOWN := Lib.hid own0
                                      clear own0 b6
                                      go_wp2_with (first | (at_builtin; refine wpList_append_keep _ rfl _ _ 55 55 rfl 25 (.slice none 0 0) 1 24 Try.underlying55 infoSlC rfl (by decide) (.slice q5A (i) q5c) (i) _ rfl (owns_base (base' := 0) HOWN1.out (fun _ _ => Nat.zero_le _)) _ 1 _ rfl HSRC1.out (by unfold maxLen; omega) (by omega) ?_; intro A8 c8 w8 hown hg hbl hmv; have E9 := E8.grow 7 7 (.inr ⟨rfl, by decide⟩) HR1.out hown hg hbl hmv; clear hown hg hbl hmv E8 HOWN1 HSRC1 HR1) | (at_builtin; refine wpList_append_keep _ rfl _ _ 54 54 rfl 28 (.slice none 0 0) 1 24 Try.underlying54 infoSlA rfl (by decide) (.slice q4A (i) q4c) (i) _ rfl (owns_base (base' := 0) HOWN.out (fun _ _ => Nat.zero_le _)) _ 1 _ rfl HSRC.out (by unfold maxLen; omega) (by omega) ?_; intro A7 c7 w7 hown hg hbl hmv; have E7 := E6.grow 7 6 (.inr ⟨rfl, by decide⟩) HL4.out hown hg hbl hmv; have b8 := (Below.refl w7.heap.size w7).alloc (Nat.le_refl _) (.cells #[.slice gA1 (nc + m) gc1] 25); have E8 := E7.below b8; have hr1 := (up_other F (c := 7) (j := 6) (c' := 7) (j' := 7) ⟨28, 1, none, 0, 0, [], A7, i + 1, c7, ((List.range i).map fun j => (F 2 j).v) ++ [.slice gA0 (na + m) gc0]⟩ (by omega)).trans HL5.out; have own1 := E8.own (.inr ⟨rfl, by decide⟩) hr1; have hsrc := Row.src (P := Try.prog) (c := 1) (size := 1) (n := 1) (tx := 55) (Row.of_loc (Loc.new w7 #[.slice gA1 (nc + m) gc1] 25)) Try.underlying55 rfl (by simp [Value.oneCell']) (fun h => by simp at h); have HSRC1 := Lib.hid hsrc; have HOWN1 := Lib.hid own1; have HR1 := Lib.hid hr1; clear hsrc own1 hown hg hbl hmv E6 E7 b8 hr1 HOWN HSRC ))
                                      have hv0 : (F 2 i).v = .slice gA0 (na + m) gc0 := by rw [HX0.out]; rfl
                                      have hv1 : (F 3 i).v = .slice gA1 (nc + m) gc1 := by rw [HX1.out]; rfl
                                      have hg9 := HG.out.push67 (a0 := A7) (c0 := c7) (a1 := A8) (c1 := c8)
                                      rw [hv0, hv1, HME.out, prof_next i (fun _ => 20)] at hg9
                                      have HE9 := Lib.hid E9
                                      have HG9 := Lib.hid hg9
                                      have HN9 : Hid ((up (up F 7 6 ⟨28, 1, none, 0, 0, [], A7, i + 1, c7, ((List.range i).map fun j => (F 2 j).v) ++ [.slice gA0 (na + m) gc0]⟩) 7 7 ⟨25, 1, none, 0, 0, [], A8, i + 1, c8, ((List.range i).map fun j => (F 3 j).v) ++ [.slice gA1 (nc + m) gc1]⟩ 7 4).A = Y4A ∧ (up (up F 7 6 ⟨28, 1, none, 0, 0, [], A7, i + 1, c7, ((List.range i).map fun j => (F 2 j).v) ++ [.slice gA0 (na + m) gc0]⟩) 7 7 ⟨25, 1, none, 0, 0, [], A8, i + 1, c8, ((List.range i).map fun j => (F 3 j).v) ++ [.slice gA1 (nc + m) gc1]⟩ 7 4).c = Y4c ∧ (up (up F 7 6 ⟨28, 1, none, 0, 0, [], A7, i + 1, c7, ((List.range i).map fun j => (F 2 j).v) ++ [.slice gA0 (na + m) gc0]⟩) 7 7 ⟨25, 1, none, 0, 0, [], A8, i + 1, c8, ((List.range i).map fun j => (F 3 j).v) ++ [.slice gA1 (nc + m) gc1]⟩ 7 5).A = Y5A ∧ (up (up F 7 6 ⟨28, 1, none, 0, 0, [], A7, i + 1, c7, ((List.range i).map fun j => (F 2 j).v) ++ [.slice gA0 (na + m) gc0]⟩) 7 7 ⟨25, 1, none, 0, 0, [], A8, i + 1, c8, ((List.range i).map fun j => (F 3 j).v) ++ [.slice gA1 (nc + m) gc1]⟩ 7 5).c = Y5c) := Lib.hid (by rw [up_other _ _ (by omega), up_other _ _ (by omega), up_other _ _ (by omega), up_other _ _ (by omega)]; exact HY.out)
                                      have he0 : up (up F 7 6 ⟨28, 1, none, 0, 0, [], A7, i + 1, c7, ((List.range i).map fun j => (F 2 j).v) ++ [.slice gA0 (na + m) gc0]⟩) 7 7 ⟨25, 1, none, 0, 0, [], A8, i + 1, c8, ((List.range i).map fun j => (F 3 j).v) ++ [.slice gA1 (nc + m) gc1]⟩ 7 6 = ⟨28, 1, none, 0, 0, [], A7, i + 1, c7, ((List.range i).map fun j => (F 2 j).v) ++ [.slice gA0 (na + m) gc0]⟩ := (up_other _ _ (by omega)).trans (up_self _ _ _ _)
                                      have he1 : up (up F 7 6 ⟨28, 1, none, 0, 0, [], A7, i + 1, c7, ((List.range i).map fun j => (F 2 j).v) ++ [.slice gA0 (na + m) gc0]⟩) 7 7 ⟨25, 1, none, 0, 0, [], A8, i + 1, c8, ((List.range i).map fun j => (F 3 j).v) ++ [.slice gA1 (nc + m) gc1]⟩ 7 7 = ⟨25, 1, none, 0, 0, [], A8, i + 1, c8, ((List.range i).map fun j => (F 3 j).v) ++ [.slice gA1 (nc + m) gc1]⟩ := up_self _ _ _ _
                                      have H0 := Lib.hid he0
                                      have H1 := Lib.hid he1
                                      clear hg9 hv0 hv1 E9 he0 he1 HD HG HY HQ4 HX0 HX1 HL4 HL5
                                      go_roundw
                                      case rel => exact ⟨i + 1, up (up F 7 6 ⟨28, 1, none, 0, 0, [], A7, i + 1, c7, ((List.range i).map fun j => (F 2 j).v) ++ [.slice gA0 (na + m) gc0]⟩) 7 7 ⟨25, 1, none, 0, 0, [], A8, i + 1, c8, ((List.range i).map fun j => (F 3 j).v) ++ [.slice gA1 (nc + m) gc1]⟩, by omega, by rw [H0.out], by rw [H1.out], by go_num, HE9, by rw [HME.out]; exact HG9, HN9⟩
                                      case measure => simp [intOf]; omega
                                · have hin : ¬ (i : Int) < (M : Int) := by omega
                                  have hie : i = M := by omega
                                  have HIE := Lib.hid hie
                                  have hk3' := HK3.out
                                  have own4 := HD.out.own (cl := 7) (j := 4) (.inr ⟨rfl, by decide⟩) HG.out.l4
                                  have own5 := HD.out.own (cl := 7) (j := 5) (.inr ⟨rfl, by decide⟩) HG.out.l5
                                  have own6 := HD.out.own (cl := 7) (j := 6) (.inr ⟨rfl, by decide⟩) HG.out.l6
                                  have own7 := HD.out.own (cl := 7) (j := 7) (.inr ⟨rfl, by decide⟩) HG.out.l7
                                  obtain ⟨g4, hg4⟩ := own_at own4 (by show 0 < k; omega)
                                  obtain ⟨g5, hg5⟩ := own_at own5 (by show 0 < k; omega)
                                  obtain ⟨g6, hg6⟩ := own_at own6 (by show 0 < i; omega)
                                  obtain ⟨g7, hg7⟩ := own_at own7 (by show 0 < i; omega)
                                  have hg4' : (F 7 4).A = some ⟨g4, 0, none⟩ := hg4
                                  have hg5' : (F 7 5).A = some ⟨g5, 0, none⟩ := hg5
                                  have hg6' : (F 7 6).A = some ⟨g6, 0, none⟩ := hg6
                                  have hg7' : (F 7 7).A = some ⟨g7, 0, none⟩ := hg7
                                  have hy4 : Y4A = some ⟨g4, 0, none⟩ := by rw [← HY.out.1]; exact hg4'
                                  have hy5 : Y5A = some ⟨g5, 0, none⟩ := by rw [← HY.out.2.2.1]; exact hg5'
                                  rw [hy4, hy5, hg6', hg7']
                                  have hlst : ∀ W, Below wi.heap.size wi W → (∀ j, j < 3 → W.cell? ⟨gR, j, none⟩ = some (.slice (R j).A N (R j).c) ∧ W.cell? ⟨gT, j * 2 + 1, none⟩ = some (.slice (T j).A n (T j).c) ∧ W.cell? ⟨g4, j, none⟩ = some (F 0 j).v ∧ W.cell? ⟨g5, j, none⟩ = some (F 1 j).v) ∧
                                      ∀ j, j < M → W.cell? ⟨gA, j, none⟩ = some (.slice (TL.getD j default).A (TL.getD j default).t.args.length (TL.getD j default).c) ∧ W.cell? ⟨gC, j, none⟩ = some (.slice (TL.getD j default).B (TL.getD j default).t.proc.code.length (TL.getD j default).d) ∧ W.cell? ⟨g6, j, none⟩ = some (F 2 j).v ∧ W.cell? ⟨g7, j, none⟩ = some (F 3 j).v := fun W b => by
                                    have E := HD.out.below b
                                    have hr := HRD2.out _ _ _ _ _ _ _ _ E HG.out
                                    have o4 := E.own (cl := 7) (j := 4) (.inr ⟨rfl, by decide⟩) HG.out.l4
                                    have o5 := E.own (cl := 7) (j := 5) (.inr ⟨rfl, by decide⟩) HG.out.l5
                                    have o6 := E.own (cl := 7) (j := 6) (.inr ⟨rfl, by decide⟩) HG.out.l6
                                    have o7 := E.own (cl := 7) (j := 7) (.inr ⟨rfl, by decide⟩) HG.out.l7
                                    have o4' : W.ownsRow w5.heap.size 39 1 (.slice (some ⟨g4, 0, none⟩) k (F 7 4).c) k ((List.range k).map fun j => (F 0 j).v) := by rw [← hg4']; exact o4
                                    have o5' : W.ownsRow w5.heap.size 22 1 (.slice (some ⟨g5, 0, none⟩) k (F 7 5).c) k ((List.range k).map fun j => (F 1 j).v) := by rw [← hg5']; exact o5
                                    have o6' : W.ownsRow w5.heap.size 28 1 (.slice (some ⟨g6, 0, none⟩) i (F 7 6).c) i ((List.range i).map fun j => (F 2 j).v) := by rw [← hg6']; exact o6
                                    have o7' : W.ownsRow w5.heap.size 25 1 (.slice (some ⟨g7, 0, none⟩) i (F 7 7).c) i ((List.range i).map fun j => (F 3 j).v) := by rw [← hg7']; exact o7
                                    refine ⟨fun j hj => ⟨(hr.1 j hj).1, (hr.1 j hj).2, ?_, ?_⟩, fun j hj => ⟨(hr.2 j hj).1, (hr.2 j hj).2, ?_, ?_⟩⟩
                                    · exact ((owns_cell o4' j (by rw [List.length_map, List.length_range]; exact (by have := HK3.out; omega))).1).trans (range_at _ _ _ (by have := HK3.out; omega))
                                    · exact ((owns_cell o5' j (by rw [List.length_map, List.length_range]; exact (by have := HK3.out; omega))).1).trans (range_at _ _ _ (by have := HK3.out; omega))
                                    · exact ((owns_cell o6' j (by rw [List.length_map, List.length_range]; exact (by have := HIE.out; omega))).1).trans (range_at _ _ _ (by have := HIE.out; omega))
                                    · exact ((owns_cell o7' j (by rw [List.length_map, List.length_range]; exact (by have := HIE.out; omega))).1).trans (range_at _ _ _ (by have := HIE.out; omega))
                                  have HLST := Lib.hid hlst
                                  have b0 := Below.refl wi.heap.size wi
                                  clear hie hk3' own4 own5 own6 own7 hg4 hg5 hg6 hg7 hg4' hg5' hg6' hg7' hy4 hy5 hlst
                                  as_aux_lemma =>
                                  go_wp2
                                  go_loopw [37] (fun v wr => ∃ j : Nat, j ≤ 3 ∧ v = .int .i64 (j : Nat) ∧ Below wi.heap.size wi wr) (fun v _ => 3 - (intOf v).toNat)
                                  case atStart => exact ⟨0, by omega, rfl, b0⟩
                                  case round =>
                                    obtain ⟨wj, rfl⟩ : ∃ wj, wj = wr := ⟨_, rfl⟩
                                    obtain ⟨j, hj, rfl, bj⟩ := hrel
                                    clear b0
                                    by_cases hj3 : j < 3
                                    · have hj3' : (j : Int) < 3 := by omega
                                      as_aux_lemma =>
                                      have hj0' : (0 : Int) ≤ (j : Int) := by omega
                                      have hjK : j < K := by have := HK.out; omega
                                      have hjK' : (j : Int) < (K : Int) := by omega
                                      have hjk : (j : Int) < (k : Int) := by have := HK3.out; omega
                                      have w10 : IntKind.i64.wrap (10 + (j : Int)) = 10 + (j : Int) := by simp [IntKind.bits, IntKind.wrap, IntKind.signed]; omega
                                      have w10b : IntKind.u8.wrap (10 + (j : Int)) = 10 + (j : Int) := by simp [IntKind.bits, IntKind.wrap, IntKind.signed]; omega
                                      have w100 : IntKind.i64.wrap (100 + (j : Int)) = 100 + (j : Int) := by simp [IntKind.bits, IntKind.wrap, IntKind.signed]; omega
                                      have w100b : IntKind.u8.wrap (100 + (j : Int)) = 100 + (j : Int) := by simp [IntKind.bits, IntKind.wrap, IntKind.signed]; omega
                                      have hbl : (blk TL n j).length = n := by
                                        unfold blk
                                        rw [List.length_take, List.length_drop, HTL.out]
                                        have h2 : j * n + n ≤ K * n := by have := Nat.mul_le_mul_right n (show j + 1 ≤ K by omega); rw [Nat.add_mul] at this; omega
                                        omega
                                      have HBL := Lib.hid hbl
                                      have hx0 := (HG.out.b j hj3).1
                                      have hx1 := (HG.out.t j hj3).1
                                      rw [HGB.out j hj3] at hx0 hx1
                                      obtain ⟨gA0, hgA0⟩ : ∃ x, x = (F 0 j).A := ⟨_, rfl⟩
                                      obtain ⟨gc0, hgc0⟩ : ∃ x, x = (F 0 j).c := ⟨_, rfl⟩
                                      obtain ⟨gA1, hgA1⟩ : ∃ x, x = (F 1 j).A := ⟨_, rfl⟩
                                      obtain ⟨gc1, hgc1⟩ : ∃ x, x = (F 1 j).c := ⟨_, rfl⟩
                                      obtain ⟨NL, hNL⟩ : ∃ x, x = N + 40 := ⟨_, rfl⟩
                                      obtain ⟨nL, hnL⟩ : ∃ x, x = n + 40 := ⟨_, rfl⟩
                                      rw [← hgA0, ← hgc0, ← HNN.out, ← hNL] at hx0
                                      rw [← hgA1, ← hgc1, ← hnL] at hx1
                                      have hsc : ∀ W, Below wi.heap.size wi W → W.cell? ⟨gR, j, none⟩ = some (.slice (R j).A N (R j).c) ∧ W.cell? ⟨gT, j * 2 + 1, none⟩ = some (.slice (T j).A n (T j).c) ∧ W.cell? ⟨g4, j, none⟩ = some (.slice gA0 NL gc0) ∧ W.cell? ⟨g5, j, none⟩ = some (.slice gA1 nL gc1) := fun W b => by
                                        have h := (HLST.out W b).1 j hj3
                                        rw [hx0, hx1] at h
                                        exact h
                                      have HSC := Lib.hid hsc
                                      have HX0 := Lib.hid hx0
                                      have HX1 := Lib.hid hx1
                                      have HNL := Lib.hid hNL
                                      have HnL := Lib.hid hnL
                                      have bm0 := bj
                                      clear hbl hx0 hx1 hgA0 hgc0 hgA1 hgc1 hNL hnL hsc bj
                                      go_wp2
                                      go_loopw [38] (fun v wr => ∃ m : Nat, m ≤ NL ∧ v = .int .i64 (m : Nat) ∧ Below wi.heap.size wi wr) (fun v _ => NL - (intOf v).toNat)
                                      case atStart => exact ⟨0, Nat.zero_le _, rfl, bm0⟩
                                      case round =>
                                        obtain ⟨wm, rfl⟩ : ∃ wm, wm = wr := ⟨_, rfl⟩
                                        obtain ⟨m, hm, rfl, bm⟩ := hrel
                                        clear bm0 
                                        obtain ⟨r0, r1, x0, x1⟩ := HSC.out wm bm
                                        by_cases hmN : m < NL
                                        · have hmN' : (m : Int) < (NL : Int) := by omega
                                          have hnl := HNL.out
                                          have hmb : (m : Int) < 80000 := by omega
                                          have E := HD.out.below bm
                                          have own := E.own (.inl (.inl ⟨rfl, hjK⟩)) HX0.out
                                          obtain ⟨gb, hgb⟩ := own_at own (by show 0 < NL; omega)
                                          have hgb' : gA0 = some ⟨gb, 0, none⟩ := hgb
                                          have own2 : wm.ownsRow w5.heap.size 5 1 (.slice (some ⟨gb, 0, none⟩) NL gc0) NL (bB j ++ List.replicate 40 (vG2 j)) := by rw [← hgb']; exact own
                                          have y0 := (owns_cell own2 (m) (by have := own2.1; rw [this]; omega)).1
                                          rw [hgb'] at x0
                                          by_cases hmn : m < N
                                          · have hmn' : (m : Int) < (N : Int) := by omega
                                            have hmn2 : ¬ (N : Int) ≤ (m : Int) := by omega
                                            rw [HB.out j hj3] at y0
                                            rw [byte_in zs j 40 m (by rw [← HNN.out]; exact hmn)] at y0
                                            clear own own2 hgb hgb' hnl E
                                            go_wp2
                                            go_roundw
                                            case rel => exact ⟨m + 1, by omega, by go_num, bm⟩
                                            case measure => simp [intOf]; omega
                                          · have hmn' : ¬ (m : Int) < (N : Int) := by omega
                                            have hmn2 : (N : Int) ≤ (m : Int) := by omega
                                            rw [HB.out j hj3] at y0
                                            rw [byte_on zs j 40 m (by rw [← HNN.out]; omega) (by rw [← HNN.out]; omega)] at y0
                                            clear own own2 hgb hgb' hnl E
                                            go_wp2
                                            go_roundw
                                            case rel => exact ⟨m + 1, by omega, by go_num, bm⟩
                                            case measure => simp [intOf]; omega
                                        · have hmNn : ¬ (m : Int) < (NL : Int) := by omega
                                          have bm0 := bm
                                          go_wp2
                                          go_loopw [40] (fun v wr => ∃ m : Nat, m ≤ nL ∧ v = .int .i64 (m : Nat) ∧ Below wi.heap.size wi wr) (fun v _ => nL - (intOf v).toNat)
                                          case atStart => exact ⟨0, Nat.zero_le _, rfl, bm0⟩
                                          case round =>
                                            obtain ⟨wm, rfl⟩ : ∃ wm, wm = wr := ⟨_, rfl⟩
                                            obtain ⟨m, hm, rfl, bm⟩ := hrel
                                            clear bm0 r0 r1 x0 x1
                                            obtain ⟨r0, r1, x0, x1⟩ := HSC.out wm bm
                                            by_cases hmN : m < nL
                                            · have hmN' : (m : Int) < (nL : Int) := by omega
                                              have hnl := HnL.out
                                              have hmb : (m : Int) < 80000 := by omega
                                              have E := HD.out.below bm
                                              have own := E.own (.inl (.inr (.inl ⟨rfl, hjK⟩))) HX1.out
                                              obtain ⟨gb, hgb⟩ := own_at own (by show 0 < nL; omega)
                                              have hgb' : gA1 = some ⟨gb, 0, none⟩ := hgb
                                              have own2 : wm.ownsRow w5.heap.size 30 6 (.slice (some ⟨gb, 0, none⟩) nL gc1) nL (bT j ++ txnsCells (List.replicate 40 (mkT j))) := by rw [← hgb']; exact own
                                              have y0 := (owns_cell own2 (m * 6) (by have := own2.1; rw [this]; omega)).1
                                              rw [hgb'] at x1
                                              by_cases hmn : m < n
                                              · have hmn' : (m : Int) < (n : Int) := by omega
                                                have hmn2 : ¬ (n : Int) ≤ (m : Int) := by omega
                                                rw [HT.out j hj3] at y0
                                                rw [txn_in (blk TL n j) j 40 m (by rw [HBL.out]; exact hmn)] at y0
                                                have hvw : Row wm (T j).A (bT j) := E.view (.inl (.inr (.inl ⟨rfl, hjK⟩))) HX1.out
                                                rcases hvw with h0 | ⟨rb, off, hrA, hrc⟩
                                                · have h1 := congrArg List.length h0
                                                  rw [HT.out j hj3, txnsCells_length, List.length_map, HBL.out, List.length_nil] at h1
                                                  omega
                                                · have z0 := hrc (m * 6) (by rw [HT.out j hj3, txnsCells_length, List.length_map, HBL.out]; omega)
                                                  rw [HT.out j hj3, txn_at (blk TL n j) j m (by rw [HBL.out]; exact hmn)] at z0
                                                  rw [hrA] at r1
                                                  clear hrA hrc own own2 hgb hgb' hnl E
                                                  go_wp2
                                                  go_roundw
                                                  case rel => exact ⟨m + 1, by omega, by go_num, bm⟩
                                                  case measure => simp [intOf]; omega
                                              · have hmn' : ¬ (m : Int) < (n : Int) := by omega
                                                have hmn2 : (n : Int) ≤ (m : Int) := by omega
                                                rw [HT.out j hj3] at y0
                                                rw [txn_on (blk TL n j) j 40 m (by rw [HBL.out]; omega) (by rw [HBL.out]; omega)] at y0
                                                clear own own2 hgb hgb' hnl E
                                                go_wp2
                                                go_roundw
                                                case rel => exact ⟨m + 1, by omega, by go_num, bm⟩
                                                case measure => simp [intOf]; omega
                                            · have hmNn : ¬ (m : Int) < (nL : Int) := by omega
                                              have bm0 := bm
                                              go_wp2
                                              go_roundw
                                              case rel => exact ⟨j + 1, by omega, by go_num, bm⟩
                                              case measure => simp [intOf]; omega
                                    · have hj3n : ¬ (j : Int) < 3 := by omega
                                      as_aux_lemma =>
                                      go_wp2
                                      go_loopw [42] (fun v wr => ∃ j : Nat, j ≤ M ∧ v = .int .i64 (j : Nat) ∧ Below wi.heap.size wi wr) (fun v _ => M - (intOf v).toNat)
                                      case atStart => exact ⟨0, Nat.zero_le _, rfl, bj⟩
                                      case round =>
                                        obtain ⟨wj, rfl⟩ : ∃ wj, wj = wr := ⟨_, rfl⟩
                                        obtain ⟨j, hj, rfl, bj⟩ := hrel
                                        by_cases hjM : j < M
                                        · have hjM' : (j : Int) < (M : Int) := by omega
                                          as_aux_lemma =>
                                          have hj0' : (0 : Int) ≤ (j : Int) := by omega
                                          have hjb : (j : Int) < 192 := by omega
                                          have hji : (j : Int) < (i : Int) := by have := HIE.out; omega
                                          have hiKn : j < K * n := by rw [← HMK.out]; exact hjM
                                          have w1000 : IntKind.i64.wrap (1000 + (j : Int)) = 1000 + (j : Int) := by simp [IntKind.bits, IntKind.wrap, IntKind.signed]; omega
                                          have w5000 : IntKind.i64.wrap (5000 + (j : Int)) = 5000 + (j : Int) := by simp [IntKind.bits, IntKind.wrap, IntKind.signed]; omega
                                          have hx0 := (HG.out.a j hjM).1
                                          have hx1 := (HG.out.c j hjM).1
                                          rw [prof_all _ _ (by have := HIE.out; omega)] at hx0 hx1
                                          obtain ⟨x, hx⟩ : ∃ x, x = TL.getD j default := ⟨_, rfl⟩
                                          obtain ⟨na, hna⟩ : ∃ na, na = x.t.args.length := ⟨_, rfl⟩
                                          obtain ⟨nc, hnc⟩ : ∃ nc, nc = x.t.proc.code.length := ⟨_, rfl⟩
                                          have hna3 : na ≤ 300 := by rw [hna, hx]; exact (H24.out j hjM).1
                                          have hnc3 : nc ≤ 300 := by rw [hnc, hx]; exact (H24.out j hjM).2
                                          obtain ⟨gA0, hgA0⟩ : ∃ x, x = (F 2 j).A := ⟨_, rfl⟩
                                          obtain ⟨gc0, hgc0⟩ : ∃ x, x = (F 2 j).c := ⟨_, rfl⟩
                                          obtain ⟨gA1, hgA1⟩ : ∃ x, x = (F 3 j).A := ⟨_, rfl⟩
                                          obtain ⟨gc1, hgc1⟩ : ∃ x, x = (F 3 j).c := ⟨_, rfl⟩
                                          obtain ⟨aL, haL⟩ : ∃ x, x = na + 20 := ⟨_, rfl⟩
                                          obtain ⟨cL2, hcL2⟩ : ∃ x, x = nc + 20 := ⟨_, rfl⟩
                                          rw [← hgA0, ← hgc0, ← hx, ← hna, ← haL] at hx0
                                          rw [← hgA1, ← hgc1, ← hx, ← hnc, ← hcL2] at hx1
                                          have hsc : ∀ W, Below wi.heap.size wi W → W.cell? ⟨gA, j, none⟩ = some (.slice x.A na x.c) ∧ W.cell? ⟨gC, j, none⟩ = some (.slice x.B nc x.d) ∧ W.cell? ⟨g6, j, none⟩ = some (.slice gA0 aL gc0) ∧ W.cell? ⟨g7, j, none⟩ = some (.slice gA1 cL2 gc1) := fun W b => by
                                            have h := (HLST.out W b).2 j hjM
                                            rw [hx0, hx1, ← hx, ← hna, ← hnc] at h
                                            exact h
                                          have HSC := Lib.hid hsc
                                          have HX0 := Lib.hid hx0
                                          have HX1 := Lib.hid hx1
                                          have HaL := Lib.hid haL
                                          have HcL2 := Lib.hid hcL2
                                          have HXX := Lib.hid hx
                                          have HNA := Lib.hid hna
                                          have HNC := Lib.hid hnc
                                          have bm0 := bj
                                          clear hx0 hx1 hgA0 hgc0 hgA1 hgc1 haL hcL2 hsc bj hx hna hnc
                                          go_wp2
                                          go_loopw [43] (fun v wr => ∃ m : Nat, m ≤ aL ∧ v = .int .i64 (m : Nat) ∧ Below wi.heap.size wi wr) (fun v _ => aL - (intOf v).toNat)
                                          case atStart => exact ⟨0, Nat.zero_le _, rfl, bm0⟩
                                          case round =>
                                            obtain ⟨wm, rfl⟩ : ∃ wm, wm = wr := ⟨_, rfl⟩
                                            obtain ⟨m, hm, rfl, bm⟩ := hrel
                                            clear bm0 
                                            obtain ⟨r0, r1, x0, x1⟩ := HSC.out wm bm
                                            by_cases hmN : m < aL
                                            · have hmN' : (m : Int) < (aL : Int) := by omega
                                              have hnl := HaL.out
                                              have hmb : (m : Int) < 80000 := by omega
                                              have E := HD.out.below bm
                                              have own := E.own (.inl (.inr (.inr (.inl ⟨.inl rfl, hiKn⟩)))) HX0.out
                                              obtain ⟨gb, hgb⟩ := own_at own (by show 0 < aL; omega)
                                              have hgb' : gA0 = some ⟨gb, 0, none⟩ := hgb
                                              have own2 : wm.ownsRow w5.heap.size 57 3 (.slice (some ⟨gb, 0, none⟩) aL gc0) aL (bA j ++ valsCells (List.replicate 20 (mkV j))) := by rw [← hgb']; exact own
                                              have y0 := (owns_cell own2 (m * 3) (by have := own2.1; rw [this]; omega)).1
                                              rw [hgb'] at x0
                                              by_cases hmn : m < na
                                              · have hmn' : (m : Int) < (na : Int) := by omega
                                                have hmn2 : ¬ (na : Int) ≤ (m : Int) := by omega
                                                rw [HA.out j hjM] at y0
                                                rw [val_in _ j 20 m (by rw [← HXX.out, ← HNA.out]; exact hmn)] at y0
                                                have hvw : Row wm x.A (bA j) := E.view (.inl (.inr (.inr (.inl ⟨.inl rfl, hiKn⟩)))) HX0.out
                                                rcases hvw with h0 | ⟨rb, off, hrA, hrc⟩
                                                · have h1 := congrArg List.length h0
                                                  rw [HA.out j hjM, valsCells_length, List.length_map, ← HXX.out, ← HNA.out, List.length_nil] at h1
                                                  omega
                                                · have z0 := hrc (m * 3) (by rw [HA.out j hjM, valsCells_length, List.length_map, ← HXX.out, ← HNA.out]; omega)
                                                  rw [HA.out j hjM, val_at _ j m (by rw [← HXX.out, ← HNA.out]; exact hmn)] at z0
                                                  rw [hrA] at r0
                                                  clear hrA hrc own own2 hgb hgb' hnl E
                                                  go_wp2
                                                  go_roundw
                                                  case rel => exact ⟨m + 1, by omega, by go_num, bm⟩
                                                  case measure => simp [intOf]; omega
                                              · have hmn' : ¬ (m : Int) < (na : Int) := by omega
                                                have hmn2 : (na : Int) ≤ (m : Int) := by omega
                                                rw [HA.out j hjM] at y0
                                                rw [val_on _ j 20 m (by rw [← HXX.out, ← HNA.out]; omega) (by rw [← HXX.out, ← HNA.out]; omega)] at y0
                                                clear own own2 hgb hgb' hnl E
                                                go_wp2
                                                go_roundw
                                                case rel => exact ⟨m + 1, by omega, by go_num, bm⟩
                                                case measure => simp [intOf]; omega
                                            · have hmNn : ¬ (m : Int) < (aL : Int) := by omega
                                              have bm0 := bm
                                              go_wp2
                                              go_loopw [45] (fun v wr => ∃ m : Nat, m ≤ cL2 ∧ v = .int .i64 (m : Nat) ∧ Below wi.heap.size wi wr) (fun v _ => cL2 - (intOf v).toNat)
                                              case atStart => exact ⟨0, Nat.zero_le _, rfl, bm0⟩
                                              case round =>
                                                obtain ⟨wm, rfl⟩ : ∃ wm, wm = wr := ⟨_, rfl⟩
                                                obtain ⟨m, hm, rfl, bm⟩ := hrel
                                                clear bm0 r0 r1 x0 x1
                                                obtain ⟨r0, r1, x0, x1⟩ := HSC.out wm bm
                                                by_cases hmN : m < cL2
                                                · have hmN' : (m : Int) < (cL2 : Int) := by omega
                                                  have hnl := HcL2.out
                                                  have hmb : (m : Int) < 80000 := by omega
                                                  have E := HD.out.below bm
                                                  have own := E.own (.inl (.inr (.inr (.inl ⟨.inr rfl, hiKn⟩)))) HX1.out
                                                  obtain ⟨gb, hgb⟩ := own_at own (by show 0 < cL2; omega)
                                                  have hgb' : gA1 = some ⟨gb, 0, none⟩ := hgb
                                                  have own2 : wm.ownsRow w5.heap.size 59 8 (.slice (some ⟨gb, 0, none⟩) cL2 gc1) cL2 (bC j ++ codeCells (List.replicate 20 (mkC j))) := by rw [← hgb']; exact own
                                                  have y0 := (owns_cell own2 (m * 8) (by have := own2.1; rw [this]; omega)).1
                                                  rw [hgb'] at x1
                                                  by_cases hmn : m < nc
                                                  · have hmn' : (m : Int) < (nc : Int) := by omega
                                                    have hmn2 : ¬ (nc : Int) ≤ (m : Int) := by omega
                                                    rw [HC.out j hjM] at y0
                                                    rw [ins_in _ j 20 m (by rw [← HXX.out, ← HNC.out]; exact hmn)] at y0
                                                    have hvw : Row wm x.B (bC j) := E.view (.inl (.inr (.inr (.inl ⟨.inr rfl, hiKn⟩)))) HX1.out
                                                    rcases hvw with h0 | ⟨rb, off, hrA, hrc⟩
                                                    · have h1 := congrArg List.length h0
                                                      rw [HC.out j hjM, codeCells_length, List.length_map, ← HXX.out, ← HNC.out, List.length_nil] at h1
                                                      omega
                                                    · have z0 := hrc (m * 8) (by rw [HC.out j hjM, codeCells_length, List.length_map, ← HXX.out, ← HNC.out]; omega)
                                                      rw [HC.out j hjM, ins_at _ j m (by rw [← HXX.out, ← HNC.out]; exact hmn)] at z0
                                                      rw [hrA] at r1
                                                      clear hrA hrc own own2 hgb hgb' hnl E
                                                      go_wp2
                                                      go_roundw
                                                      case rel => exact ⟨m + 1, by omega, by go_num, bm⟩
                                                      case measure => simp [intOf]; omega
                                                  · have hmn' : ¬ (m : Int) < (nc : Int) := by omega
                                                    have hmn2 : (nc : Int) ≤ (m : Int) := by omega
                                                    rw [HC.out j hjM] at y0
                                                    rw [ins_on _ j 20 m (by rw [← HXX.out, ← HNC.out]; omega) (by rw [← HXX.out, ← HNC.out]; omega)] at y0
                                                    clear own own2 hgb hgb' hnl E
                                                    go_wp2
                                                    go_roundw
                                                    case rel => exact ⟨m + 1, by omega, by go_num, bm⟩
                                                    case measure => simp [intOf]; omega
                                                · have hmNn : ¬ (m : Int) < (cL2 : Int) := by omega
                                                  have bm0 := bm
                                                  go_wp2
                                                  go_roundw
                                                  case rel => exact ⟨j + 1, by omega, by go_num, bm⟩
                                                  case measure => simp [intOf]; omega
                                        · have hjMn : ¬ (j : Int) < (M : Int) := by omega
                                          have bw := below_then HD.out.b bj HD.out.b.size
                                          obtain ⟨e0, e1, d0, d1⟩ := HBX.out _ bw
                                          go_wp2_with fail
                                          refine (HFIN.out _ bw).mono ?_; rintro e u1 ⟨rfl, hb⟩
                                          have bw1 := below_then bw hb bw.size
                                          clear e0 e1 d0 d1 hb
                                          obtain ⟨e0, e1, d0, d1⟩ := HBX.out _ bw1
                                          go_wp2_with fail
                                          refine (HST.out _ bw1).mono ?_; rintro e u2 ⟨rfl, hb⟩
                                          have bw2 := below_then bw1 hb bw1.size
                                          clear e0 e1 d0 d1 hb
                                          go_wp2_with fail
                                          refine (bknown_any _).mono ?_; rintro e u3 ⟨rfl, hb⟩
                                          have bw3 := below_then bw2 hb bw2.size
                                          go_wp2
                                          go_ret
                                          exact ⟨rfl, below_then b5 bw3 b5.size⟩
    · have hz3 : (z2 != 0) = true := by simpa using hz2
      go_wp2_with fail
      refine (bknown_any _).mono ?_; rintro e w6 ⟨rfl, hb⟩
      go_wp2
      go_ret
      exact ⟨rfl, below_then b2 hb b2.size⟩
end Go.Proofs.Ytnmcdifkknphgaa
