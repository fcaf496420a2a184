/- Walk of BatchDecodes. -/
import Derived.Test.YtnmcdifkknphgaaBza
import Derived.Test.YtnmcdifkknphgaaBf
import Derived.Laws.CopyOwn
namespace Go.Proofs.Ytnmcdifkknphgaa
open Go.RowKit

theorem cellsB_set (xs : Bs) (k : Nat) (v : UInt8) : (cellsB xs).toArray.setIfInBounds k (.int .u8 v.toNat) = (cellsB (xs.set k v)).toArray := by
  simp [cellsB, List.map_set]

theorem marks_step (N k : Nat) (h : k < N) : (List.replicate k (171 : UInt8) ++ List.replicate (N - k) 0).set k 171 = List.replicate (k + 1) 171 ++ List.replicate (N - (k + 1)) 0 := by
  obtain ⟨m, hm⟩ : ∃ m, N - k = m + 1 := ⟨N - k - 1, by omega⟩
  rw [hm, show N - (k + 1) = m by omega, List.set_append_right _ _ (by simp), List.length_replicate, Nat.sub_self, List.replicate_succ, List.set_cons_zero, List.replicate_succ']
  simp

theorem made_marks (N : Nat) : madeCells #[.int .u8 0] N = (cellsB (List.replicate N (0 : UInt8))).toArray := by
  unfold madeCells cellsB
  apply Array.ext
  · simp
  · intro j h1 h2
    simp [Nat.mod_one]

theorem run_upto {P : Program} (t e : TypeId) (size : Nat) (hu : P.underlying t = some (.slice e)) (hs : (P.info? e).map (·.size) = some size) (g len cap hi : Nat) (h2 : hi ≤ cap) (h3 : 0 < cap) (W : World) :
    (Instr.slice t (.slice (some ⟨g, 0, none⟩) len cap) none (some (.int .i64 (hi : Int))) none).run P W = .ok (.slice (some ⟨g, 0, none⟩) hi cap) W := by
  obtain ⟨i, hi', hsz⟩ : ∃ i, P.info? e = some i ∧ i.size = size := by
    cases h : P.info? e with
    | none => simp [h] at hs
    | some i => exact ⟨i, rfl, by simpa [h] using hs⟩
  have eh : (hi : Int).toNat = hi := rfl
  have ha : (⟨g, 0, none⟩ : Addr).add 0 = ⟨g, 0, none⟩ := rfl
  have hne : ¬ cap = 0 := by omega
  simp [Instr.slice, run_underlying hu, Instr.sliceBounds, run_sliceBound, sizeOf, typeInfo, hi', h2, ha, hne]

theorem byte_wf {n : Int} (h : (Lit.int .u8 n).wf = true) : ∃ v : UInt8, n = (v.toNat : Int) := by
  have h' : 0 ≤ n ∧ n < 256 := by
    simp [Lit.wf, IntKind.min, IntKind.max, IntKind.bits, IntKind.signed] at h
    omega
  exact ⟨UInt8.ofNat n.toNat, by rw [UInt8.toNat_ofNat']; omega⟩

theorem idx_case (i : Int) (n : Nat) (h : 0 < n) : ∃ k : Nat, k < n ∧ ((0 ≤ i.tmod (n : Int) ∧ i.tmod (n : Int) = (k : Int)) ∨ (i.tmod (n : Int) < 0 ∧ i.tmod (n : Int) + (n : Int) = (k : Int))) := by
  have hlt : (i.tmod (n : Int)).natAbs < n := by
    rw [Int.natAbs_tmod, Int.natAbs_natCast]
    exact Nat.mod_lt _ h
  by_cases h : 0 ≤ i.tmod (n : Int)
  · exact ⟨(i.tmod (n : Int)).toNat, by omega, .inl ⟨h, by omega⟩⟩
  · exact ⟨(i.tmod (n : Int) + n).toNat, by omega, .inr ⟨by omega, by omega⟩⟩

theorem owns_len_cap {w : World} {base : Nat} {e : TypeId} {size n c : Nat} {A : Option Addr} {xs : List Value} (h : w.ownsRow base e size (.slice A n c) n xs) : n ≤ c := by
  rcases h.2 with ⟨h1, h2⟩ | ⟨g, cap, cur, hv, _, _, hnc, _⟩
  · omega
  · cases hv
    exact hnc

theorem batDecode_ok (xs : Bs) : (∀ t ∈ (batDecode xs).1.txns, t.shape) ∧ (batDecode xs).1.txns.length ≤ 64 := by
  obtain ⟨x, e, h⟩ : ∃ x e, batDecode xs = (x, e) := ⟨_, _, rfl⟩
  rw [h]
  rcases Classical.em (e = 0) with h0 | h0
  · subst h0
    obtain ⟨h1, _, _, h4⟩ := bat_form h
    exact ⟨h4, (batCheck_zero h1).2.1.2⟩
  · rw [batDecode_err h h0]
    exact ⟨(fun t ht => by cases ht), Nat.zero_le _⟩

/-- Two lists of the same transactions. -/
theorem bsame_yes (f : Int) (l m : List TxnC) (ts : List Txn) (A B : Option Addr) (ca cb : Nat) (w : World) (hl : l.map (·.t) = ts) (hm : m.map (·.t) = ts) (ha : Row w A (txnsCells l)) (hb : Row w B (txnsCells m)) (hol : ∀ x ∈ l, x.ok w) (hom : ∀ x ∈ m, x.ok w) (hs : ∀ t ∈ ts, t.shape) (h64 : ts.length ≤ 64) :
    Calls Try.prog 20 #[.agg #[.int .i64 f, .slice A l.length ca], .agg #[.int .i64 f, .slice B m.length cb]] w fun e w' => e = .returned (.bool true) ∧ Below w.heap.size w w' := by
  have e1 : l.length = ts.length := by rw [← hl, List.length_map]
  have e2 : m.length = ts.length := by rw [← hm, List.length_map]
  refine (brefSame_any f f l m A B ca cb w ha hb (by omega) (by omega) hol hom (fun x hx => shape_fit (hs _ (by rw [← hl]; exact List.mem_map_of_mem hx))) (fun x hx => shape_fit (hs _ (by rw [← hm]; exact List.mem_map_of_mem hx)))).mono ?_
  rintro e w' ⟨⟨res, he, hi⟩, hb⟩
  exact ⟨by rw [he, hi.2 ⟨rfl, by rw [hl, hm]⟩], hb⟩

/-- What stands in memory behind the two decodings. -/
structure VSb (w W : World) (pb qb : Nat) (ys : Array Value) (f : Int) (n : Nat) (la lb : List TxnC) (A1 A2 : Option Addr) (c1 c2 : Nat) : Prop where
  l : Loc W w.heap.size ys 5
  lp : Loc W pb #[.int .i64 f, .slice A1 n c1] 24
  lq : Loc W qb #[.int .i64 f, .slice A2 n c2] 24
  o : W.ownsRow w.heap.size 30 6 (.slice A1 n c1) n (txnsCells la)
  q : W.ownsRow w.heap.size 30 6 (.slice A2 n c2) n (txnsCells lb)
  x : ∀ x ∈ la, x.own W w.heap.size
  y : ∀ x ∈ lb, x.own W w.heap.size
  b : Below w.heap.size w W

theorem VSb.below {w W X : World} {pb qb n : Nat} {ys : Array Value} {f : Int} {l m : List TxnC} {A1 A2 : Option Addr} {c1 c2 : Nat} (h : VSb w W pb qb ys f n l m A1 A2 c1 c2) (hb : Below W.heap.size W X) : VSb w X pb qb ys f n l m A1 A2 c1 c2 :=
  ⟨h.l.below hb h.l.lt, h.lp.below hb h.lp.lt, h.lq.below hb h.lq.lt, owns_mono' h.o hb, owns_mono' h.q hb, fun x hx => (h.x x hx).below hb, fun x hx => (h.y x hx).below hb, below_then h.b hb h.b.size⟩

theorem VSb.set {w W : World} {pb qb n : Nat} {ys : Array Value} {f : Int} {l m : List TxnC} {A1 A2 : Option Addr} {c1 c2 : Nat} (h : VSb w W pb qb ys f n l m A1 A2 c1 c2) (k : Nat) (v : Value) :
    VSb w (W.setCell ⟨w.heap.size, k, none⟩ v) pb qb (ys.setIfInBounds k v) f n l m A1 A2 c1 c2 :=
  ⟨h.l.set k v, h.lp.other (a := ⟨w.heap.size, k, none⟩) (h.lp.ne h.l (by decide)) v, h.lq.other (a := ⟨w.heap.size, k, none⟩) (h.lq.ne h.l (by decide)) v,
    owns_setCell (a := ⟨w.heap.size, k, none⟩) h.o (owns_ne h.o h.l (by decide)) v, owns_setCell (a := ⟨w.heap.size, k, none⟩) h.q (owns_ne h.q h.l (by decide)) v,
    fun x hx => (h.x x hx).set h.l (by decide) (by decide) k v, fun x hx => (h.y x hx).set h.l (by decide) (by decide) k v, h.b.setCell (p := ⟨w.heap.size, k, none⟩) (Nat.le_refl _) v⟩


set_option maxRecDepth 100000 in
set_option maxHeartbeats 8000000 in
theorem bdec_a (A : Option Addr) (c : Nat) (xs : Bs) (i : Int) (v : UInt8) (far : Int) (w : World) (hr : Row w A (cellsB xs)) (hb0 : ¬ 200000 < xs.length) (hz : A = none → xs.length = 0) (hcap : xs.length ≤ c) (hf : 65530 ≤ far ∧ far ≤ 65540) :
    Calls Try.prog 5 #[.slice A xs.length c, .int .i64 i, .int .u8 v.toNat, .int .i64 far] w fun e w' => e = .returned (.bool true) ∧ Below w.heap.size w w' := by
  obtain ⟨N, hN⟩ : ∃ N, N = xs.length := ⟨_, rfl⟩
  rw [← hN] at hb0 hcap hz ⊢
  have hb' : ¬ (200000 : Int) < (N : Int) := by omega
  have hN9 : N ≤ 200000 := by omega
  have HROW := Lib.hid hr
  have HN := Lib.hid hN
  have HZ := Lib.hid hz
  have BW := Lib.hid (Below.refl w.heap.size w)
  clear hr hN hz hb0
  obtain ⟨hf1, hf2⟩ := hf
  obtain ⟨k7, rfl⟩ := Int.eq_ofNat_of_zero_le (show 0 ≤ far by omega)
  have hlit : (w.alloc (.cells #[] 5)).ownsRow w.heap.size 5 1 (.slice (some ⟨w.heap.size, 0, none⟩) 0 0) 0 [] := World.ownsRow_lit w #[] 0 (Nat.le_refl _) (by decide) rfl
  have b7 := (Below.refl w.heap.size w).alloc (Nat.le_refl _) (.cells #[] 5)
  have hsA : Src Try.prog 1 39 (.slice A N c) N (cellsB xs) (w.alloc (.cells #[] 5)) := (HROW.out.of_below b7 (Nat.le_refl _)).src Try.underlying39 (by simp [cellsB, HN.out]) (cellsB_one xs) HZ.out
  have HRA := Lib.hid hsA
  have HLIT := Lib.hid (owns_base (base' := 0) hlit (fun _ _ => Nat.zero_le _))
  have hsz1 : (Try.prog.info? 5).map (·.size) = some 1 := by kernel_rfl
  clear hsA
  go_enter Try.func5, Try.ntmps5
  go_upto_region 6 with (first | (at_builtin; refine wpList_append_mine _ rfl _ _ 39 39 rfl 5 (.int .u8 0) 1 1 Try.underlying39 infoU8 rfl (by decide) (.slice (some ⟨w.heap.size, 0, none⟩) 0 0) 0 [] rfl HLIT.out (.slice A N c) N (cellsB xs) rfl HRA.out (by unfold maxLen; omega) (by omega) ?_; intro A6 c6 w6 hown6 hg6 hb6 hx6; obtain ⟨o6, b8⟩ := own_next0 hlit hown6 hg6 hb6 b7.size b7; have hv6 : Value.slice A6 (0 + N) c6 ≠ .slice none 0 0 := (fun h => by have := (hx6.1 h).1; simp at this); rw [Nat.zero_add] at hv6; rw [Nat.zero_add, List.nil_append] at hown6 o6; obtain ⟨A7, c7, wz, hr7, own7, hg7, hb7⟩ := run_append_zeros (P := Try.prog) w6 39 3 39 5 1 .i64 .i64 Try.underlying39 Try.underlying3 infoU8 (.slice A6 N c6) N xs hv6 hown6 k7 (by omega) (by unfold maxLen; omega) (by omega); obtain ⟨o7, b9⟩ := own_next0 o6 own7 hg7 hb7 b8.size b8; have hcp : k7 ≤ c7 := (by have := owns_len_cap own7; omega); obtain ⟨A8, hA8⟩ : ∃ A8, A8 = subAddr A7 0 c7 1 := ⟨_, rfl⟩; have hsl : ∀ W, (Instr.slice 39 (.slice A7 (N + k7) c7) none (some (.int .i64 (k7 : Int))) none).run Try.prog W = .ok (.slice A8 k7 c7) W := (fun W => by rw [hA8]; exact run_subTo (P := Try.prog) 39 5 1 Try.underlying39 hsz1 A7 (N + k7) c7 k7 hcp W); have HA8 := Lib.hid hA8; clear hx6 hA8) | (at_builtin; refine Lib.wpList_append_run _ rfl _ _ 39 3 rfl _ _ rfl rfl _ _ hr7 ?_))
  have hrow8 : Row wz A8 (cellsB ((xs ++ List.replicate k7 0).take k7)) := by
    have h := (Row.of_owns own7).subs 1 0 k7 c7 (by rw [cellsB_length, List.length_append, List.length_replicate, ← HN.out]; have := owns_len_cap own7; omega) (by rw [cellsB_length, List.length_append, List.length_replicate]; omega)
    have e : (((cellsB (xs ++ List.replicate k7 0)).drop (0 * 1)).take k7) = cellsB ((xs ++ List.replicate k7 0).take k7) := by simp [cellsB]
    rw [e, ← HA8.out] at h
    exact h
  have hlen8 : k7 = ((xs ++ List.replicate k7 (0 : UInt8)).take k7).length := by rw [List.length_take, List.length_append, List.length_replicate]; omega
  generalize (xs ++ List.replicate k7 (0 : UInt8)).take k7 = xs8 at hrow8 hlen8
  have hz8 : A8 = none → k7 = 0 := fun h => by
    rw [HA8.out] at h
    have := owns_none own7 (subAddr_none h)
    omega
  clear HROW HN HZ BW HRA HLIT hlit b7 hown6 hg6 hb6 o6 b8 hv6 hr7 own7 hg7 hb7 o7 hsl hsz1 HA8
  have HROW := Lib.hid hrow8
  have HN := Lib.hid hlen8
  have HZ := Lib.hid hz8
  have BW := Lib.hid b9
  clear hrow8 hlen8 hz8 b9
  have hcap := hcp
  clear hcp hN9 hb'
  have hN9 : k7 ≤ 65540 := by omega
  clear hf1 hf2
  obtain ⟨i0, hi, hz0, hz1, hz2⟩ := info_parts infoU8
  have Hz2 := Lib.hid hz2
  have hdec := fun B d W' (ys : Bs) (hy : ys.length = k7) (h : Row W' B (cellsB ys)) (hB : B = none → k7 = 0) => bdecode_any B k7 d ys W' h hy.symm hB (by omega)
  have href : ∀ B d W' (ys : Bs), ys.length = k7 → Row W' B (cellsB ys) → (B = none → k7 = 0) → k7 ≤ d → Calls Try.prog 19 #[.slice B k7 d] W' (BDPost ys W') := fun B d W' ys hy h hB hd => by
    have h1 := rbdecode_any B d ys W' h (by omega) (by rw [hy]; exact hB) (by omega)
    rw [hy] at h1
    exact h1
  have hsame : ∀ B d W' (_ : Row W' B (cellsB xs8)) (_ : Row W' A8 (cellsB xs8)), Calls Try.prog 17 #[.slice B k7 d, .slice A8 k7 c7] W' fun e w' => e = .returned (.bool true) ∧ Below W'.heap.size W' w' :=
    fun B d W' h h2 => (same_any B A8 k7 k7 d c7 xs8 xs8 W' h h2 HN.out HN.out (by omega) (by omega)).mono fun _ _ h => ⟨by rw [h.1]; simp, h.2⟩
  have HDEC := Lib.hid hdec
  have HREF := Lib.hid href
  have HSAME := Lib.hid hsame
  have hwm : IntKind.i64.wrap ((k7 : Int) + 5) = ((k7 + 5 : Nat) : Int) := by simp [IntKind.bits, IntKind.wrap, IntKind.signed]; omega
  clear hdec href hsame hz2
  go_wp2_with (at_make; refine wpList_make_row _ rfl _ _ 39 rfl 5 i0 (.int .u8 0) Try.underlying39 hi hz0 hz1 rfl .i64 .i64 (k7 + 5) rfl rfl (by rw [Hz2.out]; omega) (by omega) ?_)
  have L0 := Loc.new wz (madeCells #[.int .u8 0] (k7 + 5)) 5
  have b0 := (Below.refl wz.heap.size wz).alloc (Nat.le_refl _) (.cells (madeCells #[.int .u8 0] (k7 + 5)) 5)
  go_loopw [10] (fun i wr => ∃ k : Nat, k ≤ k7 + 5 ∧ i = .int .i64 k ∧ Loc wr wz.heap.size (cellsB (List.replicate k (171 : UInt8) ++ List.replicate (k7 + 5 - k) 0)).toArray 5 ∧ Below wz.heap.size wz wr) (fun i _ => k7 + 5 - (intOf i).toNat)
  case atStart =>
    refine ⟨0, Nat.zero_le _, rfl, ?_, b0⟩
    rw [List.replicate_zero, List.nil_append, Nat.sub_zero, ← made_marks]
    exact L0
  case round =>
    obtain ⟨wi, rfl⟩ : ∃ wi, wi = wr := ⟨_, rfl⟩
    obtain ⟨k, hk, rfl, Li, bi⟩ := hrel
    clear L0 b0
    by_cases hkN : k < k7 + 5
    · have c0 := Li.cell k
      have f0 := Li.free k
      obtain ⟨u, hu⟩ : ∃ u, (cellsB (List.replicate k (171 : UInt8) ++ List.replicate (k7 + 5 - k) 0)).toArray[k]? = some u := ⟨_, Array.getElem?_eq_getElem (by simp [cellsB]; omega)⟩
      rw [hu] at c0
      have L1 := Li.set k (.int .u8 (171 : UInt8).toNat)
      rw [cellsB_set, marks_step _ _ hkN] at L1
      have b1 := bi.setCell (p := ⟨wz.heap.size, k, none⟩) (Nat.le_refl _) (.int .u8 (171 : UInt8).toNat)
      have hkI : (k : Int) < (k7 : Int) + 5 := by omega
      have h171 : (((171 : UInt8).toNat : Nat) : Int) = 171 := rfl
      rw [h171] at L1 b1
      clear Li bi hu h171
      go_wp2
      go_roundw
      case rel => exact ⟨k + 1, by omega, by go_num, L1, b1⟩
      case measure => simp [intOf]; omega
    · obtain rfl : k = k7 + 5 := by omega
      rw [Nat.sub_self, List.replicate_zero, List.append_nil] at Li
      have hsp : splice (cellsB (List.replicate (k7 + 5) (171 : UInt8))) 0 (cellsB xs8) = cellsB (xs8 ++ List.replicate 5 171) := by
        unfold splice
        rw [List.take_zero, List.nil_append, Nat.zero_add, cellsB_length, cellsB_append]
        congr 1
        simp [cellsB, ← HN.out]
      have HSP := Lib.hid hsp
      have hpos : 0 < (cellsB xs8).length → (some (⟨wz.heap.size, 0, none⟩ : Addr)) = some ⟨wz.heap.size, 0, none⟩ ∧ ∃ ad, A8 = some ad ∧ ∀ j v, (cellsB xs8)[j]? = some v → wi.cell? (ad.add j) = some v := by
        intro hp
        obtain ⟨b, off, hAb, hbl, hc⟩ := (HROW.out.of_below bi (Nat.le_refl _)).at hp
        refine ⟨rfl, _, hAb, fun j v hj => ?_⟩
        have hadd : (⟨b, off, none⟩ : Addr).add j = ⟨b, off + j, none⟩ := by unfold Addr.add; split <;> simp_all
        rw [hadd, hc j (by rcases Nat.lt_or_ge j (cellsB xs8).length with h | h; exact h; rw [List.getElem?_eq_none h] at hj; cases hj)]
        exact hj
      have HPOS := Lib.hid hpos
      clear hsp hpos
      go_wp2_with (refine wpList_copy_splice rfl _ _ 39 39 rfl 5 Try.underlying39 (by rw [hi]; exact congrArg some hz1) (some ⟨wz.heap.size, 0, none⟩) A8 (k7 + 5) (k7 + 5) k7 c7 rfl rfl wz.heap.size 0 (cellsB (List.replicate (k7 + 5) (171 : UInt8))) 5 Li (cellsB xs8) (by rw [cellsB_length, ← HN.out]; simp) HPOS.out (by rw [cellsB_length, cellsB_length, ← HN.out]; simp) (cellsB_one xs8) wz.heap.size wz bi (Nat.le_refl _) ?_; intro w2 HL2 b2)
      have hL2 := HL2.out
      rw [HSP.out] at hL2
      have L2 : Loc w2 wz.heap.size (cellsB (xs8 ++ List.replicate 5 171)).toArray 5 := hL2
      have hup := run_upto (P := Try.prog) 39 5 1 Try.underlying39 (by rw [hi]; exact congrArg some hz1) wz.heap.size (k7 + 5) (k7 + 5) k7 (by omega) (by omega)
      have hrow : ∀ {V : World} {ys : Bs}, Loc V wz.heap.size (cellsB (ys ++ List.replicate 5 171)).toArray 5 → Row V (some ⟨wz.heap.size, 0, none⟩) (cellsB ys) := fun h => by
        have h' := Row.of_loc h
        rw [cellsB_append] at h'
        exact h'.fore
      have HR2 : Hid (∀ {V : World} {ys : Bs}, Loc V wz.heap.size (cellsB (ys ++ List.replicate 5 171)).toArray 5 → Row V (some ⟨wz.heap.size, 0, none⟩) (cellsB ys)) := Lib.hid hrow
      clear hL2 HL2 HPOS hrow Li bi
      obtain ⟨p, pe, hpe⟩ : ∃ p pe, batDecode xs8 = (p, pe) := ⟨_, _, rfl⟩
      have hok := batDecode_ok xs8
      rw [hpe] at hok
      have HPE := Lib.hid hpe
      have HOK := Lib.hid hok
      clear hpe hok
      obtain ⟨f, ts⟩ := p
      obtain ⟨n, hn⟩ : ∃ n, n = ts.length := ⟨_, rfl⟩
      have HTS := Lib.hid hn
      clear hn
      go_wp2_with fail
      refine (HDEC.out (some ⟨wz.heap.size, 0, none⟩) (k7 + 5) w2 xs8 HN.out.symm (HR2.out L2) (fun h => by cases h)).mono ?_; rintro e w3 ⟨l1, A1, c1, hm1, rfl, own1, ox1, hb⟩
      rw [HPE.out] at hm1 ⊢
      simp only at hm1 ⊢
      have hl1 : l1.length = n := by rw [HTS.out, ← hm1, List.length_map]
      rw [hl1] at own1 ⊢
      have HM1 := Lib.hid hm1
      have HL1 := Lib.hid hl1
      have LP1 := Loc.new w3 #[.int .i64 f, .slice A1 n c1] 24
      have d3 := (Below.refl w3.heap.size w3).alloc (Nat.le_refl _) (.cells #[.int .i64 f, .slice A1 n c1] 24)
      have L3 := (L2.below hb L2.lt).below d3 (L2.below hb L2.lt).lt
      have o3 := owns_mono' own1 d3
      have x3 := fun x hx => ((ox1 x hx).below d3).mono b2.size
      have b3 := below_then (below_then b2 hb b2.size) d3 (below_then b2 hb b2.size).size
      have hw3 := (below_then b2 hb b2.size).size
      have o3 := owns_mono o3 b2.size
      clear own1 ox1 hb d3 L2 b2 hm1 hl1
      go_wp2_with fail
      refine (HREF.out A8 c7 _ xs8 HN.out.symm (HROW.out.of_below b3 (Nat.le_refl _)) HZ.out hcap).mono ?_; rintro e w4 ⟨l2, A2, c2, hm2, rfl, own2, ox2, hb⟩
      rw [HPE.out] at hm2 ⊢
      simp only at hm2 ⊢
      have hl2 : l2.length = n := by rw [HTS.out, ← hm2, List.length_map]
      rw [hl2] at own2 ⊢
      have HM2 := Lib.hid hm2
      have HL2 := Lib.hid hl2
      have LQ1 := Loc.new w4 #[.int .i64 f, .slice A2 n c2] 24
      have d4 := (Below.refl w4.heap.size w4).alloc (Nat.le_refl _) (.cells #[.int .i64 f, .slice A2 n c2] 24)
      have LP4 := (LP1.below hb LP1.lt).below d4 (LP1.below hb LP1.lt).lt
      have L4 := (L3.below hb L3.lt).below d4 (L3.below hb L3.lt).lt
      have o4 := owns_mono' (owns_mono' o3 hb) d4
      have x4 := fun x hx => ((x3 x hx).below hb).below d4
      have b4 := below_then (below_then b3 hb b3.size) d4 (below_then b3 hb b3.size).size
      have q4 := owns_mono (owns_mono' own2 d4) b3.size
      have y4 := fun x hx => ((ox2 x hx).below d4).mono b3.size
      have hw4 := hb.size
      simp only [World.size_alloc] at hw4
      obtain ⟨p0, p1, _⟩ := loc_two LP4
      obtain ⟨q0, q1, _⟩ := loc_two LQ1
      clear own2 ox2 hb d4 LP1 L3 b3 o3 x3 hm2 hl2
      have V : VSb wz _ w3.heap.size w4.heap.size (cellsB (xs8 ++ List.replicate 5 171)).toArray f n l1 l2 A1 A2 c1 c2 := ⟨L4, LP4, LQ1, o4, q4, x4, y4, b4⟩
      clear L4 LP4 LQ1 o4 q4 x4 y4 b4
      have hsm : ∀ V', Row V' A1 (txnsCells l1) → Row V' A2 (txnsCells l2) → (∀ x ∈ l1, x.ok V') → (∀ x ∈ l2, x.ok V') → Calls Try.prog 20 #[.agg #[.int .i64 f, .slice A1 n c1], .agg #[.int .i64 f, .slice A2 n c2]] V' fun e w' => e = .returned (.bool true) ∧ Below V'.heap.size V' w' := fun V' h1 h2 h3 h4 => by
        have := bsame_yes f l1 l2 ts A1 A2 c1 c2 V' HM1.out HM2.out h1 h2 h3 h4 HOK.out.1 HOK.out.2
        rw [HL1.out, HL2.out] at this
        exact this
      have HSM := Lib.hid hsm
      clear hsm
      go_wp2_with fail
      refine (HSM.out _ (Row.of_owns V.o) (Row.of_owns V.q) (fun x hx => (V.x x hx).ok) (fun x hx => (V.y x hx).ok)).mono ?_; rintro e w5 ⟨rfl, hb⟩
      have V5 := V.below hb
      clear V hb p0 p1 q0 q1
      go_wp2_with fail
      refine (HSAME.out _ _ _ (HR2.out V5.l) (HROW.out.of_below V5.b (Nat.le_refl _))).mono ?_; rintro e w6 ⟨rfl, hb⟩
      have V6 := V5.below hb
      clear V5 hb
      go_wp2
      go_loop [15] (fun i => ∃ k : Nat, k7 ≤ k ∧ k ≤ k7 + 5 ∧ i = .int .i64 k) (fun i => k7 + 5 - (intOf i).toNat)
      case atStart => exact ⟨k7, Nat.le_refl _, by omega, rfl⟩
      case round =>
        obtain ⟨k, hk1, hk2, rfl⟩ := hrel
        by_cases hk9 : k < k7 + 5
        · have c0 := V6.l.cell k
          have hx : (cellsB (xs8 ++ List.replicate 5 171)).toArray[k]? = some (.int .u8 171) := by
            have h1 : (xs8 ++ List.replicate 5 (171 : UInt8))[k]? = some 171 := by
              rw [List.getElem?_append_right (by rw [← HN.out]; exact hk1), List.getElem?_replicate, if_pos (by rw [← HN.out]; omega)]
            simp only [cellsB, List.getElem?_toArray, List.getElem?_map, h1]
            rfl
          rw [hx] at c0
          have hkI : (k : Int) < (k7 : Int) + 5 := by omega
          clear hx
          go_wp2
          go_round
          case rel => exact ⟨k + 1, by omega, by omega, by go_num⟩
          case measure => simp [intOf]; omega
        · obtain rfl : k = k7 + 5 := by omega
          by_cases hN0 : k7 = 0
          · have hN0' : ((k7 : Int) == 0) = true := by simp; omega
            go_wp2_with fail
            refine (bknown_any _).mono ?_; rintro e w7 ⟨rfl, hb⟩
            go_wp2
            go_ret
            exact ⟨rfl, below_then BW.out (below_then V6.b hb V6.b.size) BW.out.size⟩
          · obtain ⟨k, hk, hcase⟩ := idx_case i k7 (by omega)
            have hN0' : ((k7 : Int) == 0) = false := by simp; omega
            obtain ⟨ys, hys⟩ : ∃ ys, ys = (xs8).set k v := ⟨_, rfl⟩
            have hyl : ys.length = k7 := by rw [hys, List.length_set, ← HN.out]
            have V7 := V6.set k (.int .u8 v.toNat)
            rw [cellsB_set, List.set_append_left _ _ (by rw [← HN.out]; exact hk), ← hys] at V7
            have c0 := V6.l.cell k
            have f0 := V6.l.free k
            obtain ⟨u, hu⟩ : ∃ u, (cellsB (xs8 ++ List.replicate 5 171)).toArray[k]? = some u := ⟨_, Array.getElem?_eq_getElem (by simp [cellsB, ← HN.out]; omega)⟩
            rw [hu] at c0
            obtain ⟨r, re, hre⟩ : ∃ r re, batDecode ys = (r, re) := ⟨_, _, rfl⟩
            have hok2 := batDecode_ok ys
            rw [hre] at hok2
            obtain ⟨g, us⟩ := r
            obtain ⟨n2, hn2⟩ : ∃ n2, n2 = us.length := ⟨_, rfl⟩
            have HRE := Lib.hid hre
            have HOK2 := Lib.hid hok2
            have HYL := Lib.hid hyl
            have HUS := Lib.hid hn2
            clear hys hyl hu hre V6 hok2 hn2
            rcases hcase with ⟨h1, h2⟩ | ⟨h1, h2⟩
            all_goals
              have hkI : (k : Int) < (k7 : Int) + 5 := by omega
              go_wp2_with fail
              refine (HDEC.out (some ⟨wz.heap.size, 0, none⟩) (k7 + 5) _ ys HYL.out (HR2.out V7.l) (fun h => by cases h)).mono ?_; rintro e w7 ⟨l3, A3, c3, hm3, rfl, own3, ox3, hb⟩
              rw [HRE.out] at hm3 ⊢
              simp only at hm3 ⊢
              have hl3 : l3.length = n2 := by rw [HUS.out, ← hm3, List.length_map]
              rw [hl3] at own3 ⊢
              have HM3 := Lib.hid hm3
              have HL3 := Lib.hid hl3
              have V8 := V7.below hb
              have LP3 := Loc.new w7 #[.int .i64 g, .slice A3 n2 c3] 24
              have d7 := (Below.refl w7.heap.size w7).alloc (Nat.le_refl _) (.cells #[.int .i64 g, .slice A3 n2 c3] 24)
              have o3 := owns_mono' own3 d7
              have x3 := fun x hx => (ox3 x hx).below d7
              have V9 := V8.below d7
              clear own3 ox3 hb d7 V7 V8 c0 f0 hm3 hl3
              go_wp2_with fail
              refine (HREF.out (some ⟨wz.heap.size, 0, none⟩) (k7 + 5) _ ys HYL.out (HR2.out V9.l) (fun h => by cases h) (by omega)).mono ?_; rintro e w8 ⟨l4, A4, c4, hm4, rfl, own4, ox4, hb⟩
              rw [HRE.out] at hm4 ⊢
              simp only at hm4 ⊢
              have hl4 : l4.length = n2 := by rw [HUS.out, ← hm4, List.length_map]
              rw [hl4] at own4 ⊢
              have HM4 := Lib.hid hm4
              have HL4 := Lib.hid hl4
              have LQ3 := Loc.new w8 #[.int .i64 g, .slice A4 n2 c4] 24
              have d8 := (Below.refl w8.heap.size w8).alloc (Nat.le_refl _) (.cells #[.int .i64 g, .slice A4 n2 c4] 24)
              have o5 := owns_mono' (owns_mono' o3 hb) d8
              have x5 := fun x hx => ((x3 x hx).below hb).below d8
              have o6 := owns_mono' own4 d8
              have x6 := fun x hx => (ox4 x hx).below d8
              have LP4 := (LP3.below hb LP3.lt).below d8 (LP3.below hb LP3.lt).lt
              have V10 := (V9.below hb).below d8
              obtain ⟨p0, p1, _⟩ := loc_two LP4
              obtain ⟨q0, q1, _⟩ := loc_two LQ3
              have hw8 := hb.size
              simp only [World.size_alloc] at hw8
              have hsm : ∀ V', Row V' A3 (txnsCells l3) → Row V' A4 (txnsCells l4) → (∀ x ∈ l3, x.ok V') → (∀ x ∈ l4, x.ok V') → Calls Try.prog 20 #[.agg #[.int .i64 g, .slice A3 n2 c3], .agg #[.int .i64 g, .slice A4 n2 c4]] V' fun e w' => e = .returned (.bool true) ∧ Below V'.heap.size V' w' := fun V' h1 h2 h3 h4 => by
                have := bsame_yes g l3 l4 us A3 A4 c3 c4 V' HM3.out HM4.out h1 h2 h3 h4 HOK2.out.1 HOK2.out.2
                rw [HL3.out, HL4.out] at this
                exact this
              have HSM2 := Lib.hid hsm
              clear own4 ox4 hb d8 V9 o3 x3 LP3 hsm hm4 hl4
              go_wp2_with fail
              refine (HSM2.out _ (Row.of_owns o5) (Row.of_owns o6) (fun x hx => (x5 x hx).ok) (fun x hx => (x6 x hx).ok)).mono ?_; rintro e w9 ⟨rfl, hb⟩
              have V11 := V10.below hb
              obtain ⟨g0, g1, _⟩ := loc_two V11.lp
              obtain ⟨j0, j1, _⟩ := loc_two V11.lq
              clear V10 hb p0 p1 q0 q1 o5 o6 x5 x6 LP4 LQ3
              go_wp2_with fail
              refine (HSM.out _ (Row.of_owns V11.o) (Row.of_owns V11.q) (fun x hx => (V11.x x hx).ok) (fun x hx => (V11.y x hx).ok)).mono ?_; rintro e w10 ⟨rfl, hb⟩
              have b11 := below_then V11.b hb V11.b.size
              clear V11 hb g0 g1 j0 j1
              go_wp2_with fail
              refine (bknown_any _).mono ?_; rintro e w11 ⟨rfl, hb⟩
              go_wp2
              go_ret
              exact ⟨rfl, below_then BW.out (below_then b11 hb b11.size) BW.out.size⟩

set_option maxRecDepth 100000 in
set_option maxHeartbeats 8000000 in
theorem bdec_b (A : Option Addr) (c : Nat) (xs : Bs) (i : Int) (v : UInt8) (far : Int) (w : World) (hr : Row w A (cellsB xs)) (hb0 : ¬ 200000 < xs.length) (hz : A = none → xs.length = 0) (hcap : xs.length ≤ c) (hf1 : 65530 ≤ far) (hf2 : ¬ far ≤ 65540) :
    Calls Try.prog 5 #[.slice A xs.length c, .int .i64 i, .int .u8 v.toNat, .int .i64 far] w fun e w' => e = .returned (.bool true) ∧ Below w.heap.size w w' := by
  obtain ⟨N, hN⟩ : ∃ N, N = xs.length := ⟨_, rfl⟩
  rw [← hN] at hb0 hcap hz ⊢
  have hb' : ¬ (200000 : Int) < (N : Int) := by omega
  have hN9 : N ≤ 200000 := by omega
  have HROW := Lib.hid hr
  have HN := Lib.hid hN
  have HZ := Lib.hid hz
  have BW := Lib.hid (Below.refl w.heap.size w)
  clear hr hN hz hb0
  go_enter Try.func5, Try.ntmps5
  obtain ⟨i0, hi, hz0, hz1, hz2⟩ := info_parts infoU8
  have Hz2 := Lib.hid hz2
  have hdec := fun B d W' (ys : Bs) (hy : ys.length = N) (h : Row W' B (cellsB ys)) (hB : B = none → N = 0) => bdecode_any B N d ys W' h hy.symm hB (by omega)
  have href : ∀ B d W' (ys : Bs), ys.length = N → Row W' B (cellsB ys) → (B = none → N = 0) → N ≤ d → Calls Try.prog 19 #[.slice B N d] W' (BDPost ys W') := fun B d W' ys hy h hB hd => by
    have h1 := rbdecode_any B d ys W' h (by omega) (by rw [hy]; exact hB) (by omega)
    rw [hy] at h1
    exact h1
  have hsame : ∀ B d W' (_ : Row W' B (cellsB xs)) (_ : Row W' A (cellsB xs)), Calls Try.prog 17 #[.slice B N d, .slice A N c] W' fun e w' => e = .returned (.bool true) ∧ Below W'.heap.size W' w' :=
    fun B d W' h h2 => (same_any B A N N d c xs xs W' h h2 HN.out HN.out (by omega) (by omega)).mono fun _ _ h => ⟨by rw [h.1]; simp, h.2⟩
  have HDEC := Lib.hid hdec
  have HREF := Lib.hid href
  have HSAME := Lib.hid hsame
  have hwm : IntKind.i64.wrap ((N : Int) + 5) = ((N + 5 : Nat) : Int) := by simp [IntKind.bits, IntKind.wrap, IntKind.signed]; omega
  clear hdec href hsame hz2
  go_wp2_with (at_make; refine wpList_make_row _ rfl _ _ 39 rfl 5 i0 (.int .u8 0) Try.underlying39 hi hz0 hz1 rfl .i64 .i64 (N + 5) rfl rfl (by rw [Hz2.out]; omega) (by omega) ?_)
  have L0 := Loc.new w (madeCells #[.int .u8 0] (N + 5)) 5
  have b0 := (Below.refl w.heap.size w).alloc (Nat.le_refl _) (.cells (madeCells #[.int .u8 0] (N + 5)) 5)
  go_loopw [10] (fun i wr => ∃ k : Nat, k ≤ N + 5 ∧ i = .int .i64 k ∧ Loc wr w.heap.size (cellsB (List.replicate k (171 : UInt8) ++ List.replicate (N + 5 - k) 0)).toArray 5 ∧ Below w.heap.size w wr) (fun i _ => N + 5 - (intOf i).toNat)
  case atStart =>
    refine ⟨0, Nat.zero_le _, rfl, ?_, b0⟩
    rw [List.replicate_zero, List.nil_append, Nat.sub_zero, ← made_marks]
    exact L0
  case round =>
    obtain ⟨wi, rfl⟩ : ∃ wi, wi = wr := ⟨_, rfl⟩
    obtain ⟨k, hk, rfl, Li, bi⟩ := hrel
    clear L0 b0
    by_cases hkN : k < N + 5
    · have c0 := Li.cell k
      have f0 := Li.free k
      obtain ⟨u, hu⟩ : ∃ u, (cellsB (List.replicate k (171 : UInt8) ++ List.replicate (N + 5 - k) 0)).toArray[k]? = some u := ⟨_, Array.getElem?_eq_getElem (by simp [cellsB]; omega)⟩
      rw [hu] at c0
      have L1 := Li.set k (.int .u8 (171 : UInt8).toNat)
      rw [cellsB_set, marks_step _ _ hkN] at L1
      have b1 := bi.setCell (p := ⟨w.heap.size, k, none⟩) (Nat.le_refl _) (.int .u8 (171 : UInt8).toNat)
      have hkI : (k : Int) < (N : Int) + 5 := by omega
      have h171 : (((171 : UInt8).toNat : Nat) : Int) = 171 := rfl
      rw [h171] at L1 b1
      clear Li bi hu h171
      go_wp2
      go_roundw
      case rel => exact ⟨k + 1, by omega, by go_num, L1, b1⟩
      case measure => simp [intOf]; omega
    · obtain rfl : k = N + 5 := by omega
      rw [Nat.sub_self, List.replicate_zero, List.append_nil] at Li
      have hsp : splice (cellsB (List.replicate (N + 5) (171 : UInt8))) 0 (cellsB xs) = cellsB (xs ++ List.replicate 5 171) := by
        unfold splice
        rw [List.take_zero, List.nil_append, Nat.zero_add, cellsB_length, cellsB_append]
        congr 1
        simp [cellsB, ← HN.out]
      have HSP := Lib.hid hsp
      have hpos : 0 < (cellsB xs).length → (some (⟨w.heap.size, 0, none⟩ : Addr)) = some ⟨w.heap.size, 0, none⟩ ∧ ∃ ad, A = some ad ∧ ∀ j v, (cellsB xs)[j]? = some v → wi.cell? (ad.add j) = some v := by
        intro hp
        obtain ⟨b, off, hAb, hbl, hc⟩ := (HROW.out.of_below bi (Nat.le_refl _)).at hp
        refine ⟨rfl, _, hAb, fun j v hj => ?_⟩
        have hadd : (⟨b, off, none⟩ : Addr).add j = ⟨b, off + j, none⟩ := by unfold Addr.add; split <;> simp_all
        rw [hadd, hc j (by rcases Nat.lt_or_ge j (cellsB xs).length with h | h; exact h; rw [List.getElem?_eq_none h] at hj; cases hj)]
        exact hj
      have HPOS := Lib.hid hpos
      clear hsp hpos
      go_wp2_with (refine wpList_copy_splice rfl _ _ 39 39 rfl 5 Try.underlying39 (by rw [hi]; exact congrArg some hz1) (some ⟨w.heap.size, 0, none⟩) A (N + 5) (N + 5) N c rfl rfl w.heap.size 0 (cellsB (List.replicate (N + 5) (171 : UInt8))) 5 Li (cellsB xs) (by rw [cellsB_length, ← HN.out]; simp) HPOS.out (by rw [cellsB_length, cellsB_length, ← HN.out]; simp) (cellsB_one xs) w.heap.size w bi (Nat.le_refl _) ?_; intro w2 HL2 b2)
      have hL2 := HL2.out
      rw [HSP.out] at hL2
      have L2 : Loc w2 w.heap.size (cellsB (xs ++ List.replicate 5 171)).toArray 5 := hL2
      have hup := run_upto (P := Try.prog) 39 5 1 Try.underlying39 (by rw [hi]; exact congrArg some hz1) w.heap.size (N + 5) (N + 5) N (by omega) (by omega)
      have hrow : ∀ {V : World} {ys : Bs}, Loc V w.heap.size (cellsB (ys ++ List.replicate 5 171)).toArray 5 → Row V (some ⟨w.heap.size, 0, none⟩) (cellsB ys) := fun h => by
        have h' := Row.of_loc h
        rw [cellsB_append] at h'
        exact h'.fore
      have HR2 : Hid (∀ {V : World} {ys : Bs}, Loc V w.heap.size (cellsB (ys ++ List.replicate 5 171)).toArray 5 → Row V (some ⟨w.heap.size, 0, none⟩) (cellsB ys)) := Lib.hid hrow
      clear hL2 HL2 HPOS hrow Li bi
      obtain ⟨p, pe, hpe⟩ : ∃ p pe, batDecode xs = (p, pe) := ⟨_, _, rfl⟩
      have hok := batDecode_ok xs
      rw [hpe] at hok
      have HPE := Lib.hid hpe
      have HOK := Lib.hid hok
      clear hpe hok
      obtain ⟨f, ts⟩ := p
      obtain ⟨n, hn⟩ : ∃ n, n = ts.length := ⟨_, rfl⟩
      have HTS := Lib.hid hn
      clear hn
      go_wp2_with fail
      refine (HDEC.out (some ⟨w.heap.size, 0, none⟩) (N + 5) w2 xs HN.out.symm (HR2.out L2) (fun h => by cases h)).mono ?_; rintro e w3 ⟨l1, A1, c1, hm1, rfl, own1, ox1, hb⟩
      rw [HPE.out] at hm1 ⊢
      simp only at hm1 ⊢
      have hl1 : l1.length = n := by rw [HTS.out, ← hm1, List.length_map]
      rw [hl1] at own1 ⊢
      have HM1 := Lib.hid hm1
      have HL1 := Lib.hid hl1
      have LP1 := Loc.new w3 #[.int .i64 f, .slice A1 n c1] 24
      have d3 := (Below.refl w3.heap.size w3).alloc (Nat.le_refl _) (.cells #[.int .i64 f, .slice A1 n c1] 24)
      have L3 := (L2.below hb L2.lt).below d3 (L2.below hb L2.lt).lt
      have o3 := owns_mono' own1 d3
      have x3 := fun x hx => ((ox1 x hx).below d3).mono b2.size
      have b3 := below_then (below_then b2 hb b2.size) d3 (below_then b2 hb b2.size).size
      have hw3 := (below_then b2 hb b2.size).size
      have o3 := owns_mono o3 b2.size
      clear own1 ox1 hb d3 L2 b2 hm1 hl1
      go_wp2_with fail
      refine (HREF.out A c _ xs HN.out.symm (HROW.out.of_below b3 (Nat.le_refl _)) HZ.out hcap).mono ?_; rintro e w4 ⟨l2, A2, c2, hm2, rfl, own2, ox2, hb⟩
      rw [HPE.out] at hm2 ⊢
      simp only at hm2 ⊢
      have hl2 : l2.length = n := by rw [HTS.out, ← hm2, List.length_map]
      rw [hl2] at own2 ⊢
      have HM2 := Lib.hid hm2
      have HL2 := Lib.hid hl2
      have LQ1 := Loc.new w4 #[.int .i64 f, .slice A2 n c2] 24
      have d4 := (Below.refl w4.heap.size w4).alloc (Nat.le_refl _) (.cells #[.int .i64 f, .slice A2 n c2] 24)
      have LP4 := (LP1.below hb LP1.lt).below d4 (LP1.below hb LP1.lt).lt
      have L4 := (L3.below hb L3.lt).below d4 (L3.below hb L3.lt).lt
      have o4 := owns_mono' (owns_mono' o3 hb) d4
      have x4 := fun x hx => ((x3 x hx).below hb).below d4
      have b4 := below_then (below_then b3 hb b3.size) d4 (below_then b3 hb b3.size).size
      have q4 := owns_mono (owns_mono' own2 d4) b3.size
      have y4 := fun x hx => ((ox2 x hx).below d4).mono b3.size
      have hw4 := hb.size
      simp only [World.size_alloc] at hw4
      obtain ⟨p0, p1, _⟩ := loc_two LP4
      obtain ⟨q0, q1, _⟩ := loc_two LQ1
      clear own2 ox2 hb d4 LP1 L3 b3 o3 x3 hm2 hl2
      have V : VSb w _ w3.heap.size w4.heap.size (cellsB (xs ++ List.replicate 5 171)).toArray f n l1 l2 A1 A2 c1 c2 := ⟨L4, LP4, LQ1, o4, q4, x4, y4, b4⟩
      clear L4 LP4 LQ1 o4 q4 x4 y4 b4
      have hsm : ∀ V', Row V' A1 (txnsCells l1) → Row V' A2 (txnsCells l2) → (∀ x ∈ l1, x.ok V') → (∀ x ∈ l2, x.ok V') → Calls Try.prog 20 #[.agg #[.int .i64 f, .slice A1 n c1], .agg #[.int .i64 f, .slice A2 n c2]] V' fun e w' => e = .returned (.bool true) ∧ Below V'.heap.size V' w' := fun V' h1 h2 h3 h4 => by
        have := bsame_yes f l1 l2 ts A1 A2 c1 c2 V' HM1.out HM2.out h1 h2 h3 h4 HOK.out.1 HOK.out.2
        rw [HL1.out, HL2.out] at this
        exact this
      have HSM := Lib.hid hsm
      clear hsm
      go_wp2_with fail
      refine (HSM.out _ (Row.of_owns V.o) (Row.of_owns V.q) (fun x hx => (V.x x hx).ok) (fun x hx => (V.y x hx).ok)).mono ?_; rintro e w5 ⟨rfl, hb⟩
      have V5 := V.below hb
      clear V hb p0 p1 q0 q1
      go_wp2_with fail
      refine (HSAME.out _ _ _ (HR2.out V5.l) (HROW.out.of_below V5.b (Nat.le_refl _))).mono ?_; rintro e w6 ⟨rfl, hb⟩
      have V6 := V5.below hb
      clear V5 hb
      go_wp2
      go_loop [15] (fun i => ∃ k : Nat, N ≤ k ∧ k ≤ N + 5 ∧ i = .int .i64 k) (fun i => N + 5 - (intOf i).toNat)
      case atStart => exact ⟨N, Nat.le_refl _, by omega, rfl⟩
      case round =>
        obtain ⟨k, hk1, hk2, rfl⟩ := hrel
        by_cases hk9 : k < N + 5
        · have c0 := V6.l.cell k
          have hx : (cellsB (xs ++ List.replicate 5 171)).toArray[k]? = some (.int .u8 171) := by
            have h1 : (xs ++ List.replicate 5 (171 : UInt8))[k]? = some 171 := by
              rw [List.getElem?_append_right (by rw [← HN.out]; exact hk1), List.getElem?_replicate, if_pos (by rw [← HN.out]; omega)]
            simp only [cellsB, List.getElem?_toArray, List.getElem?_map, h1]
            rfl
          rw [hx] at c0
          have hkI : (k : Int) < (N : Int) + 5 := by omega
          clear hx
          go_wp2
          go_round
          case rel => exact ⟨k + 1, by omega, by omega, by go_num⟩
          case measure => simp [intOf]; omega
        · obtain rfl : k = N + 5 := by omega
          by_cases hN0 : N = 0
          · have hN0' : ((N : Int) == 0) = true := by simp; omega
            go_wp2_with fail
            refine (bknown_any _).mono ?_; rintro e w7 ⟨rfl, hb⟩
            go_wp2
            go_ret
            exact ⟨rfl, below_then BW.out (below_then V6.b hb V6.b.size) BW.out.size⟩
          · obtain ⟨k, hk, hcase⟩ := idx_case i N (by omega)
            have hN0' : ((N : Int) == 0) = false := by simp; omega
            obtain ⟨ys, hys⟩ : ∃ ys, ys = (xs).set k v := ⟨_, rfl⟩
            have hyl : ys.length = N := by rw [hys, List.length_set, ← HN.out]
            have V7 := V6.set k (.int .u8 v.toNat)
            rw [cellsB_set, List.set_append_left _ _ (by rw [← HN.out]; exact hk), ← hys] at V7
            have c0 := V6.l.cell k
            have f0 := V6.l.free k
            obtain ⟨u, hu⟩ : ∃ u, (cellsB (xs ++ List.replicate 5 171)).toArray[k]? = some u := ⟨_, Array.getElem?_eq_getElem (by simp [cellsB, ← HN.out]; omega)⟩
            rw [hu] at c0
            obtain ⟨r, re, hre⟩ : ∃ r re, batDecode ys = (r, re) := ⟨_, _, rfl⟩
            have hok2 := batDecode_ok ys
            rw [hre] at hok2
            obtain ⟨g, us⟩ := r
            obtain ⟨n2, hn2⟩ : ∃ n2, n2 = us.length := ⟨_, rfl⟩
            have HRE := Lib.hid hre
            have HOK2 := Lib.hid hok2
            have HYL := Lib.hid hyl
            have HUS := Lib.hid hn2
            clear hys hyl hu hre V6 hok2 hn2
            rcases hcase with ⟨h1, h2⟩ | ⟨h1, h2⟩
            all_goals
              have hkI : (k : Int) < (N : Int) + 5 := by omega
              go_wp2_with fail
              refine (HDEC.out (some ⟨w.heap.size, 0, none⟩) (N + 5) _ ys HYL.out (HR2.out V7.l) (fun h => by cases h)).mono ?_; rintro e w7 ⟨l3, A3, c3, hm3, rfl, own3, ox3, hb⟩
              rw [HRE.out] at hm3 ⊢
              simp only at hm3 ⊢
              have hl3 : l3.length = n2 := by rw [HUS.out, ← hm3, List.length_map]
              rw [hl3] at own3 ⊢
              have HM3 := Lib.hid hm3
              have HL3 := Lib.hid hl3
              have V8 := V7.below hb
              have LP3 := Loc.new w7 #[.int .i64 g, .slice A3 n2 c3] 24
              have d7 := (Below.refl w7.heap.size w7).alloc (Nat.le_refl _) (.cells #[.int .i64 g, .slice A3 n2 c3] 24)
              have o3 := owns_mono' own3 d7
              have x3 := fun x hx => (ox3 x hx).below d7
              have V9 := V8.below d7
              clear own3 ox3 hb d7 V7 V8 c0 f0 hm3 hl3
              go_wp2_with fail
              refine (HREF.out (some ⟨w.heap.size, 0, none⟩) (N + 5) _ ys HYL.out (HR2.out V9.l) (fun h => by cases h) (by omega)).mono ?_; rintro e w8 ⟨l4, A4, c4, hm4, rfl, own4, ox4, hb⟩
              rw [HRE.out] at hm4 ⊢
              simp only at hm4 ⊢
              have hl4 : l4.length = n2 := by rw [HUS.out, ← hm4, List.length_map]
              rw [hl4] at own4 ⊢
              have HM4 := Lib.hid hm4
              have HL4 := Lib.hid hl4
              have LQ3 := Loc.new w8 #[.int .i64 g, .slice A4 n2 c4] 24
              have d8 := (Below.refl w8.heap.size w8).alloc (Nat.le_refl _) (.cells #[.int .i64 g, .slice A4 n2 c4] 24)
              have o5 := owns_mono' (owns_mono' o3 hb) d8
              have x5 := fun x hx => ((x3 x hx).below hb).below d8
              have o6 := owns_mono' own4 d8
              have x6 := fun x hx => (ox4 x hx).below d8
              have LP4 := (LP3.below hb LP3.lt).below d8 (LP3.below hb LP3.lt).lt
              have V10 := (V9.below hb).below d8
              obtain ⟨p0, p1, _⟩ := loc_two LP4
              obtain ⟨q0, q1, _⟩ := loc_two LQ3
              have hw8 := hb.size
              simp only [World.size_alloc] at hw8
              have hsm : ∀ V', Row V' A3 (txnsCells l3) → Row V' A4 (txnsCells l4) → (∀ x ∈ l3, x.ok V') → (∀ x ∈ l4, x.ok V') → Calls Try.prog 20 #[.agg #[.int .i64 g, .slice A3 n2 c3], .agg #[.int .i64 g, .slice A4 n2 c4]] V' fun e w' => e = .returned (.bool true) ∧ Below V'.heap.size V' w' := fun V' h1 h2 h3 h4 => by
                have := bsame_yes g l3 l4 us A3 A4 c3 c4 V' HM3.out HM4.out h1 h2 h3 h4 HOK2.out.1 HOK2.out.2
                rw [HL3.out, HL4.out] at this
                exact this
              have HSM2 := Lib.hid hsm
              clear own4 ox4 hb d8 V9 o3 x3 LP3 hsm hm4 hl4
              go_wp2_with fail
              refine (HSM2.out _ (Row.of_owns o5) (Row.of_owns o6) (fun x hx => (x5 x hx).ok) (fun x hx => (x6 x hx).ok)).mono ?_; rintro e w9 ⟨rfl, hb⟩
              have V11 := V10.below hb
              obtain ⟨g0, g1, _⟩ := loc_two V11.lp
              obtain ⟨j0, j1, _⟩ := loc_two V11.lq
              clear V10 hb p0 p1 q0 q1 o5 o6 x5 x6 LP4 LQ3
              go_wp2_with fail
              refine (HSM.out _ (Row.of_owns V11.o) (Row.of_owns V11.q) (fun x hx => (V11.x x hx).ok) (fun x hx => (V11.y x hx).ok)).mono ?_; rintro e w10 ⟨rfl, hb⟩
              have b11 := below_then V11.b hb V11.b.size
              clear V11 hb g0 g1 j0 j1
              go_wp2_with fail
              refine (bknown_any _).mono ?_; rintro e w11 ⟨rfl, hb⟩
              go_wp2
              go_ret
              exact ⟨rfl, below_then BW.out (below_then b11 hb b11.size) BW.out.size⟩

set_option maxRecDepth 100000 in
set_option maxHeartbeats 8000000 in
theorem bdec_c (A : Option Addr) (c : Nat) (xs : Bs) (i : Int) (v : UInt8) (far : Int) (w : World) (hr : Row w A (cellsB xs)) (hb0 : ¬ 200000 < xs.length) (hz : A = none → xs.length = 0) (hcap : xs.length ≤ c) (hf1 : ¬ 65530 ≤ far) :
    Calls Try.prog 5 #[.slice A xs.length c, .int .i64 i, .int .u8 v.toNat, .int .i64 far] w fun e w' => e = .returned (.bool true) ∧ Below w.heap.size w w' := by
  obtain ⟨N, hN⟩ : ∃ N, N = xs.length := ⟨_, rfl⟩
  rw [← hN] at hb0 hcap hz ⊢
  have hb' : ¬ (200000 : Int) < (N : Int) := by omega
  have hN9 : N ≤ 200000 := by omega
  have HROW := Lib.hid hr
  have HN := Lib.hid hN
  have HZ := Lib.hid hz
  have BW := Lib.hid (Below.refl w.heap.size w)
  clear hr hN hz hb0
  go_enter Try.func5, Try.ntmps5
  obtain ⟨i0, hi, hz0, hz1, hz2⟩ := info_parts infoU8
  have Hz2 := Lib.hid hz2
  have hdec := fun B d W' (ys : Bs) (hy : ys.length = N) (h : Row W' B (cellsB ys)) (hB : B = none → N = 0) => bdecode_any B N d ys W' h hy.symm hB (by omega)
  have href : ∀ B d W' (ys : Bs), ys.length = N → Row W' B (cellsB ys) → (B = none → N = 0) → N ≤ d → Calls Try.prog 19 #[.slice B N d] W' (BDPost ys W') := fun B d W' ys hy h hB hd => by
    have h1 := rbdecode_any B d ys W' h (by omega) (by rw [hy]; exact hB) (by omega)
    rw [hy] at h1
    exact h1
  have hsame : ∀ B d W' (_ : Row W' B (cellsB xs)) (_ : Row W' A (cellsB xs)), Calls Try.prog 17 #[.slice B N d, .slice A N c] W' fun e w' => e = .returned (.bool true) ∧ Below W'.heap.size W' w' :=
    fun B d W' h h2 => (same_any B A N N d c xs xs W' h h2 HN.out HN.out (by omega) (by omega)).mono fun _ _ h => ⟨by rw [h.1]; simp, h.2⟩
  have HDEC := Lib.hid hdec
  have HREF := Lib.hid href
  have HSAME := Lib.hid hsame
  have hwm : IntKind.i64.wrap ((N : Int) + 5) = ((N + 5 : Nat) : Int) := by simp [IntKind.bits, IntKind.wrap, IntKind.signed]; omega
  clear hdec href hsame hz2
  go_wp2_with (at_make; refine wpList_make_row _ rfl _ _ 39 rfl 5 i0 (.int .u8 0) Try.underlying39 hi hz0 hz1 rfl .i64 .i64 (N + 5) rfl rfl (by rw [Hz2.out]; omega) (by omega) ?_)
  have L0 := Loc.new w (madeCells #[.int .u8 0] (N + 5)) 5
  have b0 := (Below.refl w.heap.size w).alloc (Nat.le_refl _) (.cells (madeCells #[.int .u8 0] (N + 5)) 5)
  go_loopw [10] (fun i wr => ∃ k : Nat, k ≤ N + 5 ∧ i = .int .i64 k ∧ Loc wr w.heap.size (cellsB (List.replicate k (171 : UInt8) ++ List.replicate (N + 5 - k) 0)).toArray 5 ∧ Below w.heap.size w wr) (fun i _ => N + 5 - (intOf i).toNat)
  case atStart =>
    refine ⟨0, Nat.zero_le _, rfl, ?_, b0⟩
    rw [List.replicate_zero, List.nil_append, Nat.sub_zero, ← made_marks]
    exact L0
  case round =>
    obtain ⟨wi, rfl⟩ : ∃ wi, wi = wr := ⟨_, rfl⟩
    obtain ⟨k, hk, rfl, Li, bi⟩ := hrel
    clear L0 b0
    by_cases hkN : k < N + 5
    · have c0 := Li.cell k
      have f0 := Li.free k
      obtain ⟨u, hu⟩ : ∃ u, (cellsB (List.replicate k (171 : UInt8) ++ List.replicate (N + 5 - k) 0)).toArray[k]? = some u := ⟨_, Array.getElem?_eq_getElem (by simp [cellsB]; omega)⟩
      rw [hu] at c0
      have L1 := Li.set k (.int .u8 (171 : UInt8).toNat)
      rw [cellsB_set, marks_step _ _ hkN] at L1
      have b1 := bi.setCell (p := ⟨w.heap.size, k, none⟩) (Nat.le_refl _) (.int .u8 (171 : UInt8).toNat)
      have hkI : (k : Int) < (N : Int) + 5 := by omega
      have h171 : (((171 : UInt8).toNat : Nat) : Int) = 171 := rfl
      rw [h171] at L1 b1
      clear Li bi hu h171
      go_wp2
      go_roundw
      case rel => exact ⟨k + 1, by omega, by go_num, L1, b1⟩
      case measure => simp [intOf]; omega
    · obtain rfl : k = N + 5 := by omega
      rw [Nat.sub_self, List.replicate_zero, List.append_nil] at Li
      have hsp : splice (cellsB (List.replicate (N + 5) (171 : UInt8))) 0 (cellsB xs) = cellsB (xs ++ List.replicate 5 171) := by
        unfold splice
        rw [List.take_zero, List.nil_append, Nat.zero_add, cellsB_length, cellsB_append]
        congr 1
        simp [cellsB, ← HN.out]
      have HSP := Lib.hid hsp
      have hpos : 0 < (cellsB xs).length → (some (⟨w.heap.size, 0, none⟩ : Addr)) = some ⟨w.heap.size, 0, none⟩ ∧ ∃ ad, A = some ad ∧ ∀ j v, (cellsB xs)[j]? = some v → wi.cell? (ad.add j) = some v := by
        intro hp
        obtain ⟨b, off, hAb, hbl, hc⟩ := (HROW.out.of_below bi (Nat.le_refl _)).at hp
        refine ⟨rfl, _, hAb, fun j v hj => ?_⟩
        have hadd : (⟨b, off, none⟩ : Addr).add j = ⟨b, off + j, none⟩ := by unfold Addr.add; split <;> simp_all
        rw [hadd, hc j (by rcases Nat.lt_or_ge j (cellsB xs).length with h | h; exact h; rw [List.getElem?_eq_none h] at hj; cases hj)]
        exact hj
      have HPOS := Lib.hid hpos
      clear hsp hpos
      go_wp2_with (refine wpList_copy_splice rfl _ _ 39 39 rfl 5 Try.underlying39 (by rw [hi]; exact congrArg some hz1) (some ⟨w.heap.size, 0, none⟩) A (N + 5) (N + 5) N c rfl rfl w.heap.size 0 (cellsB (List.replicate (N + 5) (171 : UInt8))) 5 Li (cellsB xs) (by rw [cellsB_length, ← HN.out]; simp) HPOS.out (by rw [cellsB_length, cellsB_length, ← HN.out]; simp) (cellsB_one xs) w.heap.size w bi (Nat.le_refl _) ?_; intro w2 HL2 b2)
      have hL2 := HL2.out
      rw [HSP.out] at hL2
      have L2 : Loc w2 w.heap.size (cellsB (xs ++ List.replicate 5 171)).toArray 5 := hL2
      have hup := run_upto (P := Try.prog) 39 5 1 Try.underlying39 (by rw [hi]; exact congrArg some hz1) w.heap.size (N + 5) (N + 5) N (by omega) (by omega)
      have hrow : ∀ {V : World} {ys : Bs}, Loc V w.heap.size (cellsB (ys ++ List.replicate 5 171)).toArray 5 → Row V (some ⟨w.heap.size, 0, none⟩) (cellsB ys) := fun h => by
        have h' := Row.of_loc h
        rw [cellsB_append] at h'
        exact h'.fore
      have HR2 : Hid (∀ {V : World} {ys : Bs}, Loc V w.heap.size (cellsB (ys ++ List.replicate 5 171)).toArray 5 → Row V (some ⟨w.heap.size, 0, none⟩) (cellsB ys)) := Lib.hid hrow
      clear hL2 HL2 HPOS hrow Li bi
      obtain ⟨p, pe, hpe⟩ : ∃ p pe, batDecode xs = (p, pe) := ⟨_, _, rfl⟩
      have hok := batDecode_ok xs
      rw [hpe] at hok
      have HPE := Lib.hid hpe
      have HOK := Lib.hid hok
      clear hpe hok
      obtain ⟨f, ts⟩ := p
      obtain ⟨n, hn⟩ : ∃ n, n = ts.length := ⟨_, rfl⟩
      have HTS := Lib.hid hn
      clear hn
      go_wp2_with fail
      refine (HDEC.out (some ⟨w.heap.size, 0, none⟩) (N + 5) w2 xs HN.out.symm (HR2.out L2) (fun h => by cases h)).mono ?_; rintro e w3 ⟨l1, A1, c1, hm1, rfl, own1, ox1, hb⟩
      rw [HPE.out] at hm1 ⊢
      simp only at hm1 ⊢
      have hl1 : l1.length = n := by rw [HTS.out, ← hm1, List.length_map]
      rw [hl1] at own1 ⊢
      have HM1 := Lib.hid hm1
      have HL1 := Lib.hid hl1
      have LP1 := Loc.new w3 #[.int .i64 f, .slice A1 n c1] 24
      have d3 := (Below.refl w3.heap.size w3).alloc (Nat.le_refl _) (.cells #[.int .i64 f, .slice A1 n c1] 24)
      have L3 := (L2.below hb L2.lt).below d3 (L2.below hb L2.lt).lt
      have o3 := owns_mono' own1 d3
      have x3 := fun x hx => ((ox1 x hx).below d3).mono b2.size
      have b3 := below_then (below_then b2 hb b2.size) d3 (below_then b2 hb b2.size).size
      have hw3 := (below_then b2 hb b2.size).size
      have o3 := owns_mono o3 b2.size
      clear own1 ox1 hb d3 L2 b2 hm1 hl1
      go_wp2_with fail
      refine (HREF.out A c _ xs HN.out.symm (HROW.out.of_below b3 (Nat.le_refl _)) HZ.out hcap).mono ?_; rintro e w4 ⟨l2, A2, c2, hm2, rfl, own2, ox2, hb⟩
      rw [HPE.out] at hm2 ⊢
      simp only at hm2 ⊢
      have hl2 : l2.length = n := by rw [HTS.out, ← hm2, List.length_map]
      rw [hl2] at own2 ⊢
      have HM2 := Lib.hid hm2
      have HL2 := Lib.hid hl2
      have LQ1 := Loc.new w4 #[.int .i64 f, .slice A2 n c2] 24
      have d4 := (Below.refl w4.heap.size w4).alloc (Nat.le_refl _) (.cells #[.int .i64 f, .slice A2 n c2] 24)
      have LP4 := (LP1.below hb LP1.lt).below d4 (LP1.below hb LP1.lt).lt
      have L4 := (L3.below hb L3.lt).below d4 (L3.below hb L3.lt).lt
      have o4 := owns_mono' (owns_mono' o3 hb) d4
      have x4 := fun x hx => ((x3 x hx).below hb).below d4
      have b4 := below_then (below_then b3 hb b3.size) d4 (below_then b3 hb b3.size).size
      have q4 := owns_mono (owns_mono' own2 d4) b3.size
      have y4 := fun x hx => ((ox2 x hx).below d4).mono b3.size
      have hw4 := hb.size
      simp only [World.size_alloc] at hw4
      obtain ⟨p0, p1, _⟩ := loc_two LP4
      obtain ⟨q0, q1, _⟩ := loc_two LQ1
      clear own2 ox2 hb d4 LP1 L3 b3 o3 x3 hm2 hl2
      have V : VSb w _ w3.heap.size w4.heap.size (cellsB (xs ++ List.replicate 5 171)).toArray f n l1 l2 A1 A2 c1 c2 := ⟨L4, LP4, LQ1, o4, q4, x4, y4, b4⟩
      clear L4 LP4 LQ1 o4 q4 x4 y4 b4
      have hsm : ∀ V', Row V' A1 (txnsCells l1) → Row V' A2 (txnsCells l2) → (∀ x ∈ l1, x.ok V') → (∀ x ∈ l2, x.ok V') → Calls Try.prog 20 #[.agg #[.int .i64 f, .slice A1 n c1], .agg #[.int .i64 f, .slice A2 n c2]] V' fun e w' => e = .returned (.bool true) ∧ Below V'.heap.size V' w' := fun V' h1 h2 h3 h4 => by
        have := bsame_yes f l1 l2 ts A1 A2 c1 c2 V' HM1.out HM2.out h1 h2 h3 h4 HOK.out.1 HOK.out.2
        rw [HL1.out, HL2.out] at this
        exact this
      have HSM := Lib.hid hsm
      clear hsm
      go_wp2_with fail
      refine (HSM.out _ (Row.of_owns V.o) (Row.of_owns V.q) (fun x hx => (V.x x hx).ok) (fun x hx => (V.y x hx).ok)).mono ?_; rintro e w5 ⟨rfl, hb⟩
      have V5 := V.below hb
      clear V hb p0 p1 q0 q1
      go_wp2_with fail
      refine (HSAME.out _ _ _ (HR2.out V5.l) (HROW.out.of_below V5.b (Nat.le_refl _))).mono ?_; rintro e w6 ⟨rfl, hb⟩
      have V6 := V5.below hb
      clear V5 hb
      go_wp2
      go_loop [15] (fun i => ∃ k : Nat, N ≤ k ∧ k ≤ N + 5 ∧ i = .int .i64 k) (fun i => N + 5 - (intOf i).toNat)
      case atStart => exact ⟨N, Nat.le_refl _, by omega, rfl⟩
      case round =>
        obtain ⟨k, hk1, hk2, rfl⟩ := hrel
        by_cases hk9 : k < N + 5
        · have c0 := V6.l.cell k
          have hx : (cellsB (xs ++ List.replicate 5 171)).toArray[k]? = some (.int .u8 171) := by
            have h1 : (xs ++ List.replicate 5 (171 : UInt8))[k]? = some 171 := by
              rw [List.getElem?_append_right (by rw [← HN.out]; exact hk1), List.getElem?_replicate, if_pos (by rw [← HN.out]; omega)]
            simp only [cellsB, List.getElem?_toArray, List.getElem?_map, h1]
            rfl
          rw [hx] at c0
          have hkI : (k : Int) < (N : Int) + 5 := by omega
          clear hx
          go_wp2
          go_round
          case rel => exact ⟨k + 1, by omega, by omega, by go_num⟩
          case measure => simp [intOf]; omega
        · obtain rfl : k = N + 5 := by omega
          by_cases hN0 : N = 0
          · have hN0' : ((N : Int) == 0) = true := by simp; omega
            go_wp2_with fail
            refine (bknown_any _).mono ?_; rintro e w7 ⟨rfl, hb⟩
            go_wp2
            go_ret
            exact ⟨rfl, below_then BW.out (below_then V6.b hb V6.b.size) BW.out.size⟩
          · obtain ⟨k, hk, hcase⟩ := idx_case i N (by omega)
            have hN0' : ((N : Int) == 0) = false := by simp; omega
            obtain ⟨ys, hys⟩ : ∃ ys, ys = (xs).set k v := ⟨_, rfl⟩
            have hyl : ys.length = N := by rw [hys, List.length_set, ← HN.out]
            have V7 := V6.set k (.int .u8 v.toNat)
            rw [cellsB_set, List.set_append_left _ _ (by rw [← HN.out]; exact hk), ← hys] at V7
            have c0 := V6.l.cell k
            have f0 := V6.l.free k
            obtain ⟨u, hu⟩ : ∃ u, (cellsB (xs ++ List.replicate 5 171)).toArray[k]? = some u := ⟨_, Array.getElem?_eq_getElem (by simp [cellsB, ← HN.out]; omega)⟩
            rw [hu] at c0
            obtain ⟨r, re, hre⟩ : ∃ r re, batDecode ys = (r, re) := ⟨_, _, rfl⟩
            have hok2 := batDecode_ok ys
            rw [hre] at hok2
            obtain ⟨g, us⟩ := r
            obtain ⟨n2, hn2⟩ : ∃ n2, n2 = us.length := ⟨_, rfl⟩
            have HRE := Lib.hid hre
            have HOK2 := Lib.hid hok2
            have HYL := Lib.hid hyl
            have HUS := Lib.hid hn2
            clear hys hyl hu hre V6 hok2 hn2
            rcases hcase with ⟨h1, h2⟩ | ⟨h1, h2⟩
            all_goals
              have hkI : (k : Int) < (N : Int) + 5 := by omega
              go_wp2_with fail
              refine (HDEC.out (some ⟨w.heap.size, 0, none⟩) (N + 5) _ ys HYL.out (HR2.out V7.l) (fun h => by cases h)).mono ?_; rintro e w7 ⟨l3, A3, c3, hm3, rfl, own3, ox3, hb⟩
              rw [HRE.out] at hm3 ⊢
              simp only at hm3 ⊢
              have hl3 : l3.length = n2 := by rw [HUS.out, ← hm3, List.length_map]
              rw [hl3] at own3 ⊢
              have HM3 := Lib.hid hm3
              have HL3 := Lib.hid hl3
              have V8 := V7.below hb
              have LP3 := Loc.new w7 #[.int .i64 g, .slice A3 n2 c3] 24
              have d7 := (Below.refl w7.heap.size w7).alloc (Nat.le_refl _) (.cells #[.int .i64 g, .slice A3 n2 c3] 24)
              have o3 := owns_mono' own3 d7
              have x3 := fun x hx => (ox3 x hx).below d7
              have V9 := V8.below d7
              clear own3 ox3 hb d7 V7 V8 c0 f0 hm3 hl3
              go_wp2_with fail
              refine (HREF.out (some ⟨w.heap.size, 0, none⟩) (N + 5) _ ys HYL.out (HR2.out V9.l) (fun h => by cases h) (by omega)).mono ?_; rintro e w8 ⟨l4, A4, c4, hm4, rfl, own4, ox4, hb⟩
              rw [HRE.out] at hm4 ⊢
              simp only at hm4 ⊢
              have hl4 : l4.length = n2 := by rw [HUS.out, ← hm4, List.length_map]
              rw [hl4] at own4 ⊢
              have HM4 := Lib.hid hm4
              have HL4 := Lib.hid hl4
              have LQ3 := Loc.new w8 #[.int .i64 g, .slice A4 n2 c4] 24
              have d8 := (Below.refl w8.heap.size w8).alloc (Nat.le_refl _) (.cells #[.int .i64 g, .slice A4 n2 c4] 24)
              have o5 := owns_mono' (owns_mono' o3 hb) d8
              have x5 := fun x hx => ((x3 x hx).below hb).below d8
              have o6 := owns_mono' own4 d8
              have x6 := fun x hx => (ox4 x hx).below d8
              have LP4 := (LP3.below hb LP3.lt).below d8 (LP3.below hb LP3.lt).lt
              have V10 := (V9.below hb).below d8
              obtain ⟨p0, p1, _⟩ := loc_two LP4
              obtain ⟨q0, q1, _⟩ := loc_two LQ3
              have hw8 := hb.size
              simp only [World.size_alloc] at hw8
              have hsm : ∀ V', Row V' A3 (txnsCells l3) → Row V' A4 (txnsCells l4) → (∀ x ∈ l3, x.ok V') → (∀ x ∈ l4, x.ok V') → Calls Try.prog 20 #[.agg #[.int .i64 g, .slice A3 n2 c3], .agg #[.int .i64 g, .slice A4 n2 c4]] V' fun e w' => e = .returned (.bool true) ∧ Below V'.heap.size V' w' := fun V' h1 h2 h3 h4 => by
                have := bsame_yes g l3 l4 us A3 A4 c3 c4 V' HM3.out HM4.out h1 h2 h3 h4 HOK2.out.1 HOK2.out.2
                rw [HL3.out, HL4.out] at this
                exact this
              have HSM2 := Lib.hid hsm
              clear own4 ox4 hb d8 V9 o3 x3 LP3 hsm hm4 hl4
              go_wp2_with fail
              refine (HSM2.out _ (Row.of_owns o5) (Row.of_owns o6) (fun x hx => (x5 x hx).ok) (fun x hx => (x6 x hx).ok)).mono ?_; rintro e w9 ⟨rfl, hb⟩
              have V11 := V10.below hb
              obtain ⟨g0, g1, _⟩ := loc_two V11.lp
              obtain ⟨j0, j1, _⟩ := loc_two V11.lq
              clear V10 hb p0 p1 q0 q1 o5 o6 x5 x6 LP4 LQ3
              go_wp2_with fail
              refine (HSM.out _ (Row.of_owns V11.o) (Row.of_owns V11.q) (fun x hx => (V11.x x hx).ok) (fun x hx => (V11.y x hx).ok)).mono ?_; rintro e w10 ⟨rfl, hb⟩
              have b11 := below_then V11.b hb V11.b.size
              clear V11 hb g0 g1 j0 j1
              go_wp2_with fail
              refine (bknown_any _).mono ?_; rintro e w11 ⟨rfl, hb⟩
              go_wp2
              go_ret
              exact ⟨rfl, below_then BW.out (below_then b11 hb b11.size) BW.out.size⟩

set_option maxHeartbeats 1000000 in
theorem bdecodes_any (A : Option Addr) (c : Nat) (xs : Bs) (i : Int) (v : UInt8) (far : Int) (w : World) (hr : Row w A (cellsB xs)) (hl : xs.length ≤ 9223372036854775807) (hz : A = none → xs.length = 0) (hcap : xs.length ≤ c) :
    Calls Try.prog 5 #[.slice A xs.length c, .int .i64 i, .int .u8 v.toNat, .int .i64 far] w fun e w' => e = .returned (.bool true) ∧ Below w.heap.size w w' := by
  by_cases hbig : 200000 < xs.length
  · obtain ⟨N, hN⟩ : ∃ N, N = xs.length := ⟨_, rfl⟩
    rw [← hN] at hbig hl ⊢
    have hb' : (200000 : Int) < (N : Int) := by omega
    clear hN hr hz hcap
    go_enter Try.func5, Try.ntmps5
    go_wp2
    go_ret
    exact ⟨rfl, Below.refl _ _⟩
  by_cases hf1 : 65530 ≤ far
  · by_cases hf2 : far ≤ 65540
    · exact bdec_a A c xs i v far w hr hbig hz hcap ⟨hf1, hf2⟩
    · exact bdec_b A c xs i v far w hr hbig hz hcap hf1 hf2
  · exact bdec_c A c xs i v far w hr hbig hz hcap hf1

theorem bdecodes_row (A : Option Addr) (n c : Nat) (xs : Bs) (i b far : Int) (w : World) (hn : n = xs.length) (hr : Row w A (cellsB xs)) (hz : A = none → n = 0) (hcap : n ≤ c) (hm : c ≤ maxLen) (hb : (Lit.int .u8 b).wf = true) :
    Calls Try.prog 5 #[.slice A n c, .int .i64 i, .int .u8 b, .int .i64 far] w fun e w' => e = .returned (.bool true) ∧ Below w.heap.size w w' := by
  obtain ⟨v, rfl⟩ := byte_wf hb
  subst hn
  exact bdecodes_any A c xs i v far w hr (by unfold maxLen at hm; omega) hz hcap
end Go.Proofs.Ytnmcdifkknphgaa
