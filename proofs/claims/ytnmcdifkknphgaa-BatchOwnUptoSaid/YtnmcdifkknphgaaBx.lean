/- Walk of batch.txn. -/
import Derived.Test.YtnmcdifkknphgaaBt
namespace Go.Proofs.Ytnmcdifkknphgaa
open Go.RowKit

/-- What follows the kind. -/
def readTxnRest (all : Nat) (k : Int) (r : Rdr) : (Txn × Rdr) × Int :=
  if k = 1 then
    if (r.text all).2.err ≠ 0 then ((zeroTxn k, (r.text all).2), (r.text all).2.err) else
    if (procDecode (r.text all).1).2 ≠ 0 then ((zeroTxn k, (r.text all).2), (procDecode (r.text all).1).2) else ((⟨k, (procDecode (r.text all).1).1, emptyB, []⟩, (r.text all).2), 0)
  else if k = 3 then
    if (r.text 32).2.err ≠ 0 then ((zeroTxn k, (r.text 32).2), (r.text 32).2.err) else ((⟨k, .zero, ofBs (r.text 32).1, []⟩, (r.text 32).2), 0)
  else if k = 2 then
    if (r.text 32).2.number.2.err ≠ 0 then ((zeroTxn k, (r.text 32).2.number.2), (r.text 32).2.number.2.err) else
    if 16 < (r.text 32).2.number.1 then ((zeroTxn k, (r.text 32).2.number.2), 4) else
    if (readVals all (r.text 32).2.number.1.toNat (r.text 32).2.number.2 []).2 ≠ 0 then ((zeroTxn k, (readVals all (r.text 32).2.number.1.toNat (r.text 32).2.number.2 []).1.2), (readVals all (r.text 32).2.number.1.toNat (r.text 32).2.number.2 []).2) else
    ((⟨k, .zero, ofBs (r.text 32).1, (readVals all (r.text 32).2.number.1.toNat (r.text 32).2.number.2 []).1.1⟩, (readVals all (r.text 32).2.number.1.toNat (r.text 32).2.number.2 []).1.2), 0)
  else ((zeroTxn k, r), 1)

theorem readTxn_eq {all k : Nat} {s s1 : Rdr} (h : s.byte = (k, s1)) : readTxn all s = if s1.err ≠ 0 then ((zeroTxn k, s1), s1.err) else readTxnRest all k s1 := by
  unfold readTxn readTxnRest
  rw [h]

theorem readVals_step (all k : Nat) (r : Rdr) (l : List Val) : readVals all (k + 1) r l = if (r.text all).2.err ≠ 0 then ((l, (r.text all).2), (r.text all).2.err) else if (datumDecode (r.text all).1).2 ≠ 0 then ((l, (r.text all).2), (datumDecode (r.text all).1).2) else readVals all k (r.text all).2 (l ++ [(datumDecode (r.text all).1).1]) := by
  rw [readVals]

theorem infoVal : (Try.prog.info? 57).map (fun i => (i.zero, i.size, i.bytes)) = some (some (.agg #[.int .i64 0, .int .i64 0, .string ⟨#[]⟩]), 3, 32) := by kernel_rfl

theorem rd_own {w W : World} {r base size n : Nat} {s s' : Rdr} {v : Value} {e : TypeId} {xs : List Value} (hown : w.ownsRow base e size v n xs) (he : e ≠ 137) (hr : Rd w r s) (hS : RdStep w W r s') : W.ownsRow base e size v n xs :=
  owns_keep hown hS.2 (Nat.le_refl _) (fun k hk hr' => by
    obtain ⟨d, h0, _⟩ := hr
    exact owns_ne hown h0 he (hr' ▸ hk))

theorem BSt.grown {w W V : World} {r xb n : Nat} {s : Rdr} {cs : Array Value} {v : Value} {ys : List Value} (h : BSt w W r s xb cs) (hown : W.ownsRow w.heap.size 57 3 v n ys) (hg : W.grownBy V v.ownBlock) : BSt w V r s xb cs := by
  refine ⟨h.z.grown hg (owns_ne hown h.z (by decide)), h.x.grown hg (owns_ne hown h.x (by decide)), ⟨?_, h.rd.2.grown hg h.rd.2.size (fun k hk => .inl (hown.lt k hk).1)⟩, h.hr, h.hx⟩
  obtain ⟨d, h0, h1, h2⟩ := h.rd.1
  exact ⟨d, grown_cell hg h0 (owns_ne hown h0 (by decide)), grown_cell hg h1 (owns_ne hown h1 (by decide)), h2⟩

theorem own_grown {W V : World} {base n m size : Nat} {e : TypeId} {v v1 : Value} {xs ys : List Value} (hown : W.ownsRow base e size v n xs) (h1 : V.ownsRow 0 e size v1 m ys) (hb : ∀ k, v1.ownBlock = some k → v.ownBlock = some k ∨ k = W.heap.size) (hB : base ≤ W.heap.size) : V.ownsRow base e size v1 m ys :=
  owns_base h1 (fun k hk => by
    rcases hb k hk with h | h
    · exact (hown.lt k h).1
    · omega)

set_option maxRecDepth 100000 in
set_option maxHeartbeats 4000000 in
theorem btxn_any (r : Nat) (s : Rdr) (all : Nat) (w : World) (h : Rd w r s) (hal : all ≤ 140737488355328) :
    Calls Try.prog 38 #[.pointer (some ⟨r, 0, none⟩), .int .i64 all] w (TxnPost (readTxn all s) r w) := by
  have ho := rbyte_lt s
  obtain ⟨kN, s1, hks⟩ : ∃ k s1, s.byte = (k, s1) := ⟨_, _, rfl⟩
  have hrt := readTxn_eq (all := all) hks
  obtain ⟨k, hkk⟩ : ∃ k : Int, k = (kN : Int) := ⟨_, rfl⟩
  have hby := fun W (h : Rd W r s) => rbyte_any r s W h
  rw [hks] at ho hby
  simp only at ho hby
  rw [← hkk] at hrt hby
  have hk0 : 0 ≤ k := by omega
  have hk1 : k < 256 := by omega
  obtain ⟨Q, hQ⟩ : ∃ Q, Q = readTxn all s := ⟨_, rfl⟩
  rw [← hQ] at hrt ⊢
  have HQ := Lib.hid hrt
  have HBY := Lib.hid hby
  have hrw := h.lt
  clear hrt hby hQ hks hkk ho
  go_enter Try.func38, Try.ntmps38
  go_wp2_with fail
  refine (HBY.out _ (h.alloc _)).mono ?_; rintro e w1 ⟨rfl, hS1⟩
  have B1 : BSt w (w1.alloc (.cells #[.int .i64 k, .string ⟨#[]⟩, .int .i64 0, .slice none 0 0, .string ⟨#[]⟩, .slice none 0 0] 30)) r s1 w1.heap.size #[.int .i64 k, .string ⟨#[]⟩, .int .i64 0, .slice none 0 0, .string ⟨#[]⟩, .slice none 0 0] := by
    have z := (Loc.new w #[.int .i64 0, .string ⟨#[]⟩, .int .i64 0, .slice none 0 0, .string ⟨#[]⟩, .slice none 0 0] 30).rd hS1 (by omega)
    exact ⟨z.alloc _, Loc.new _ _ _, (((RdStep.refl h).alloc _).then hS1).alloc _, hrw, z.lt⟩
  clear hS1 HBY
  by_cases he1 : s1.err = 0
  · have hq := HQ.out
    rw [if_neg (by simpa using he1)] at hq
    have HQ1 := Lib.hid hq
    have hsu := fun W (hh : Rd W r s1) => bsure_yes r s1 W hh he1
    have HSU := Lib.hid hsu
    clear hq hsu HQ he1
    go_wp2_with fail
    refine (HSU.out _ B1.rd.1).mono ?_; rintro e w2 ⟨rfl, hS⟩
    have B2 := B1.read hS
    obtain ⟨x0, x1, x2, x3, x4, x5⟩ := loc_six B2.x
    obtain ⟨xf0, xf1, xf2, xf3, xf4, xf5⟩ := free_six B2.x
    clear B1 hS HSU
    by_cases k1 : k = 1
    · subst k1
      obtain ⟨m, q, ht⟩ : ∃ m q, s1.text (all : Int) = (m, q) := ⟨_, _, rfl⟩
      have hml := text_len s1 (all : Int)
      obtain ⟨p, pe, hpe⟩ : ∃ p pe, procDecode m = (p, pe) := ⟨_, _, rfl⟩
      have hq := HQ1.out
      unfold readTxnRest at hq
      rw [if_pos rfl, ht] at hq
      simp only at hq
      rw [hpe] at hq
      simp only at hq
      have htx := fun W (hh : Rd W r s1) => rtext_any r s1 (all : Int) (by omega) (by omega) W hh
      rw [ht] at htx hml
      simp only at hml
      have hxl : s1.xs.length ≤ 140737488355328 := by
        obtain ⟨_, _, _, _, h5⟩ := B2.rd.1
        exact h5
      have hml2 : m.length ≤ 140737488355328 := by omega
      have hsz : (ofBs m).size = m.length := by rw [← size_data, ofBs_data]
      have HTX := Lib.hid htx
      have HQ2 := Lib.hid hq
      have HPE := Lib.hid hpe
      have HSZ := Lib.hid hsz
      clear hq htx ht HQ1 hpe hml hxl hsz
      go_wp2_with fail
      refine (HTX.out _ B2.rd.1).mono ?_; rintro e w3 ⟨rfl, hS⟩
      have B3 := B2.read hS
      clear x0 x1 x2 x3 x4 x5 xf0 xf1 xf2 xf3 xf4 xf5 B2 hS HTX
      by_cases hqe : q.err = 0
      · have hq := HQ2.out
        rw [if_neg (by simpa using hqe)] at hq
        have HQ3 := Lib.hid hq
        have hsu := fun W (hh : Rd W r q) => bsure_yes r q W hh hqe
        have HSU := Lib.hid hsu
        clear hq hsu hqe HQ2
        go_wp2_with fail
        refine (HSU.out _ B3.rd.1).mono ?_; rintro e w4 ⟨rfl, hS⟩
        have B4 := B3.read hS
        have htb := run_toBytes (P := Try.prog) 9 39 5 (ofBs m) Try.underlying9 Try.underlying39 Try.underlying5
        clear B3 hS HSU
        go_wp2_with fail
        have hrs := (Row.str w4 (ofBs m) (grownCap w4 (ofBs m).size 0 5) 5)
        rw [show (ofBs m).data.toList = m from ofBs_data m] at hrs
        refine (pdecode_any _ _ _ m _ hrs.drew HSZ.out (fun h => by simp at h) (by rw [HSZ.out]; exact hml2)).mono ?_; rintro e w5 ⟨A', c', rfl, own, hb⟩
        rw [HPE.out] at own ⊢
        simp only at own ⊢
        have hb2 : Below w4.heap.size w4 w5 := below_then (((Below.refl w4.heap.size w4).alloc (Nat.le_refl _) _).drew) hb (by simp)
        have B5 := B4.below hb2
        have own5 := owns_mono (base' := w.heap.size) own (by have := B4.rd.2.size; simp; omega)
        clear htb hrs hb hb2 B4 own
        by_cases hpe0 : pe = 0
        · have hq := HQ3.out
          rw [if_neg (by simpa using hpe0)] at hq
          have HQ4 := Lib.hid hq
          subst hpe0
          clear hq HQ3 HPE
          unfold procCells
          go_wp2_with fail
          refine (unless_yes _ _).mono ?_; rintro e w6 ⟨rfl, rfl⟩
          obtain ⟨x0, x1, x2, x3, x4, x5⟩ := loc_six B5.x
          obtain ⟨xf0, xf1, xf2, xf3, xf4, xf5⟩ := free_six B5.x
          obtain ⟨z0, z1, z2, z3, z4, z5⟩ := loc_six B5.z
          obtain ⟨zf0, zf1, zf2, zf3, zf4, zf5⟩ := free_six B5.z
          have B6 := ((B5.set 1 (.string p.name)).set 2 (.int .i64 p.args)).set 3 (.slice A' p.code.length c')
          simp only [List.setIfInBounds_toArray, List.set_cons_succ, List.set_cons_zero] at B6
          have o1 := owns_setCell (a := ⟨w1.heap.size, 1, none⟩) own5 (owns_ne own5 B5.x (by decide)) (.string p.name)
          have o2 := owns_setCell (a := ⟨w1.heap.size, 2, none⟩) o1 (owns_ne o1 (B5.x.set 1 (.string p.name)) (by decide)) (.int .i64 p.args)
          have o3 := owns_setCell (a := ⟨w1.heap.size, 3, none⟩) o2 (owns_ne o2 ((B5.x.set 1 (.string p.name)).set 2 (.int .i64 p.args)) (by decide)) (.slice A' p.code.length c')
          obtain ⟨gl, gr⟩ := B6.fin (.int .i64 1) (.string p.name) (.int .i64 p.args) (.slice A' p.code.length c') (.string ⟨#[]⟩) (.slice none 0 0)
          have o4 := own_six o3 B6.z (by decide) (.int .i64 1) (.string p.name) (.int .i64 p.args) (.slice A' p.code.length c') (.string ⟨#[]⟩) (.slice none 0 0)
          unfold put6 at gl gr o4
          have hne : ¬ w1.heap.size = w.heap.size := by have := B5.hx; omega
          have hlx := B5.x.lt
          have hlz := B5.z.lt
          have GG := Lib.hid (loc_six (gl.alloc (.cells #[.string p.name, .int .i64 p.args, .slice A' p.code.length c'] 27)))
          have GR := Lib.hid (gr.alloc (.cells #[.string p.name, .int .i64 p.args, .slice A' p.code.length c'] 27))
          have GO := Lib.hid (owns_mono' o4 ((Below.refl _ _).alloc (Nat.le_refl _) (.cells #[.string p.name, .int .i64 p.args, .slice A' p.code.length c'] 27)))
          clear gl gr B5 B6 o1 o2 o3 o4 own5
          go_wp2
          obtain ⟨g0, g1, g2, g3, g4, g5⟩ := GG.out
          exact bodyPost_ret (v := .agg #[.int .i64 1, .string p.name, .int .i64 p.args, .slice A' p.code.length c', .string ⟨#[]⟩, .slice none 0 0]) (by simp [results, Try.results38, go_sem, g0, g1, g2, g3, g4, g5]) rfl (TxnPost.yes (A := none) (B := A') (c := 0) (d := c') HQ4.out rfl ⟨World.ownsRow_nil _ _ _ _, GO.out⟩ GR.out)
        · have hq := HQ3.out
          rw [if_pos hpe0] at hq
          have HQ4 := Lib.hid hq
          have HE := Lib.hid hpe0
          have ht : (pe == 0) = false := by simpa using hpe0
          clear hq HQ3 HPE hpe0
          unfold procCells
          go_wp2_with fail
          refine (unless_no _ _).mono ?_; rintro e w6 ⟨rfl, rfl⟩
          go_wp2
          exact ⟨rfl, TxnPost.no (by rw [HQ4.out]) HE.out (B5.rd.alloc _)⟩
      · have hq := HQ2.out
        rw [if_pos hqe] at hq
        have HQ3 := Lib.hid hq
        have hsu := fun W (hh : Rd W r q) => bsure_no r q W hh hqe
        have HSU := Lib.hid hsu
        have HE := Lib.hid hqe
        clear hq hsu hqe HQ2
        go_wp2_with fail
        refine (HSU.out _ B3.rd.1).mono ?_; rintro e w4 ⟨rfl, hS⟩
        go_wp2
        exact ⟨rfl, TxnPost.no (by rw [HQ3.out]) HE.out (B3.read hS).rd⟩
    · by_cases k3 : k = 3
      · subst k3
        obtain ⟨m, q, ht⟩ : ∃ m q, s1.text 32 = (m, q) := ⟨_, _, rfl⟩
        have hq := HQ1.out
        unfold readTxnRest at hq
        rw [if_neg (by decide), if_pos rfl, ht] at hq
        simp only at hq
        have htx := fun W (hh : Rd W r s1) => rtext_any r s1 32 (by decide) (by decide) W hh
        rw [ht] at htx
        have HTX := Lib.hid htx
        have HQ2 := Lib.hid hq
        clear hq htx ht HQ1
        go_wp2_with fail
        refine (HTX.out _ B2.rd.1).mono ?_; rintro e w3 ⟨rfl, hS⟩
        have B3 := B2.read hS
        clear x0 x1 x2 x3 x4 x5 xf0 xf1 xf2 xf3 xf4 xf5 B2 hS HTX
        obtain ⟨x0, x1, x2, x3, x4, x5⟩ := loc_six B3.x
        obtain ⟨xf0, xf1, xf2, xf3, xf4, xf5⟩ := free_six B3.x
        have B4 := B3.set 4 (.string (ofBs m))
        simp only [List.setIfInBounds_toArray, List.set_cons_succ, List.set_cons_zero] at B4
        clear B3
        by_cases hqe : q.err = 0
        · have hq := HQ2.out
          rw [if_neg (by simpa using hqe)] at hq
          have HQ3 := Lib.hid hq
          have hsu := fun W (hh : Rd W r q) => bsure_yes r q W hh hqe
          have HSU := Lib.hid hsu
          clear hq hsu hqe HQ2
          go_wp2_with fail
          refine (HSU.out _ B4.rd.1).mono ?_; rintro e w4 ⟨rfl, hS⟩
          have B5 := B4.read hS
          clear x0 x1 x2 x3 x4 x5 xf0 xf1 xf2 xf3 xf4 xf5 B4 hS HSU
          obtain ⟨x0, x1, x2, x3, x4, x5⟩ := loc_six B5.x
          obtain ⟨z0, z1, z2, z3, z4, z5⟩ := loc_six B5.z
          obtain ⟨zf0, zf1, zf2, zf3, zf4, zf5⟩ := free_six B5.z
          obtain ⟨gl, gr⟩ := B5.fin (.int .i64 3) (.string ⟨#[]⟩) (.int .i64 0) (.slice none 0 0) (.string (ofBs m)) (.slice none 0 0)
          unfold put6 at gl gr
          have hne : ¬ w1.heap.size = w.heap.size := by have := B5.hx; omega
          have GG := Lib.hid (loc_six gl)
          have GR := Lib.hid gr
          clear gl gr B5
          go_wp2
          obtain ⟨g0, g1, g2, g3, g4, g5⟩ := GG.out
          exact bodyPost_ret (v := .agg #[.int .i64 3, .string ⟨#[]⟩, .int .i64 0, .slice none 0 0, .string (ofBs m), .slice none 0 0]) (by simp [results, Try.results38, go_sem, g0, g1, g2, g3, g4, g5]) rfl (TxnPost.yes (A := none) (B := none) (c := 0) (d := 0) HQ3.out rfl ⟨World.ownsRow_nil _ _ _ _, World.ownsRow_nil _ _ _ _⟩ GR.out)
        · have hq := HQ2.out
          rw [if_pos hqe] at hq
          have HQ3 := Lib.hid hq
          have hsu := fun W (hh : Rd W r q) => bsure_no r q W hh hqe
          have HSU := Lib.hid hsu
          have HE := Lib.hid hqe
          clear hq hsu hqe HQ2
          go_wp2_with fail
          refine (HSU.out _ B4.rd.1).mono ?_; rintro e w4 ⟨rfl, hS⟩
          go_wp2
          exact ⟨rfl, TxnPost.no (by rw [HQ3.out]) HE.out (B4.read hS).rd⟩
      · by_cases k2 : k = 2
        · subst k2
          obtain ⟨m, q, ht⟩ : ∃ m q, s1.text 32 = (m, q) := ⟨_, _, rfl⟩
          obtain ⟨nn, q1, hn⟩ : ∃ nn q1, q.number = (nn, q1) := ⟨_, _, rfl⟩
          have hnz := number_nonneg q
          have hq := HQ1.out
          unfold readTxnRest at hq
          rw [if_neg (by decide), if_neg (by decide), if_pos rfl, ht] at hq
          simp only at hq
          rw [hn] at hq hnz
          simp only at hq hnz
          have htx := fun W (hh : Rd W r s1) => rtext_any r s1 32 (by decide) (by decide) W hh
          have hnu := fun W (hh : Rd W r q) => rnumber_any r q W hh
          rw [ht] at htx
          rw [hn] at hnu
          have HTX := Lib.hid htx
          have HNU := Lib.hid hnu
          have HQ2 := Lib.hid hq
          clear hq htx ht hn hnu HQ1
          go_wp2_with fail
          refine (HTX.out _ B2.rd.1).mono ?_; rintro e w3 ⟨rfl, hS⟩
          have B3 := B2.read hS
          clear x0 x1 x2 x3 x4 x5 xf0 xf1 xf2 xf3 xf4 xf5 B2 hS HTX
          obtain ⟨x0, x1, x2, x3, x4, x5⟩ := loc_six B3.x
          obtain ⟨xf0, xf1, xf2, xf3, xf4, xf5⟩ := free_six B3.x
          have B4 := B3.set 4 (.string (ofBs m))
          simp only [List.setIfInBounds_toArray, List.set_cons_succ, List.set_cons_zero] at B4
          clear B3
          go_wp2_with fail
          refine (HNU.out _ B4.rd.1).mono ?_; rintro e w4 ⟨rfl, hS⟩
          have B5 := B4.read hS
          clear x0 x1 x2 x3 x4 x5 xf0 xf1 xf2 xf3 xf4 xf5 B4 hS HNU
          by_cases hqe : q1.err = 0
          · have hq := HQ2.out
            rw [if_neg (by simpa using hqe)] at hq
            have HQ3 := Lib.hid hq
            have hsu := fun W (hh : Rd W r q1) => bsure_yes r q1 W hh hqe
            have HSU := Lib.hid hsu
            clear hq hsu hqe HQ2
            go_wp2_with fail
            refine (HSU.out _ B5.rd.1).mono ?_; rintro e w5 ⟨rfl, hS⟩
            have B6 := B5.read hS
            clear B5 hS HSU
            by_cases h16 : 16 < nn
            · have hq := HQ3.out
              rw [if_pos h16] at hq
              have HQ4 := Lib.hid hq
              have ht : decide (nn ≤ 16) = false := by simp; omega
              clear hq HQ3
              go_wp2_with fail
              refine (unless_no _ _).mono ?_; rintro e w6 ⟨rfl, rfl⟩
              go_wp2
              exact ⟨rfl, TxnPost.no (by rw [HQ4.out]) (by decide) B6.rd⟩
            · obtain ⟨n, rfl⟩ := Int.eq_ofNat_of_zero_le hnz.1
              have hq := HQ3.out
              rw [if_neg h16, Int.toNat_natCast] at hq
              have HQ4 := Lib.hid hq
              have ht : decide ((n : Int) ≤ 16) = true := by simp; omega
              have hn16 : n ≤ 16 := by omega
              clear hq HQ3 h16
              go_wp2_with fail
              refine (unless_yes _ _).mono ?_; rintro e w6 ⟨rfl, rfl⟩
              go_wp2
              go_loopw [62] (fun i wr => ∃ (j : Nat) (q2 : Rdr) (l : List Val) (A : Option Addr) (c : Nat), j ≤ n ∧ i = .int .i64 j ∧ Hid (l.length = j) ∧ Hid (readVals all n q1 [] = readVals all (n - j) q2 l) ∧
                  BSt w wr r q2 w1.heap.size #[.int .i64 2, .string ⟨#[]⟩, .int .i64 0, .slice none 0 0, .string (ofBs m), .slice A j c] ∧ wr.ownsRow w.heap.size 57 3 (.slice A j c) j (valsCells l)) (fun i _ => n - (intOf i).toNat)
              case atStart => exact ⟨0, q1, [], none, 0, Nat.zero_le _, rfl, Lib.hid rfl, Lib.hid rfl, B6, World.ownsRow_nil _ _ _ _⟩
              case round =>
                obtain ⟨wo, rfl⟩ : ∃ wo, wo = wr := ⟨_, rfl⟩
                obtain ⟨j, q2, l, A, c, hj, rfl, HL, HV, B7, own⟩ := hrel
                clear B6
                by_cases hjn : j < n
                · obtain ⟨f, hf⟩ : ∃ f, n - j = f + 1 := ⟨n - j - 1, by omega⟩
                  obtain ⟨u, q3, ht3⟩ : ∃ u q3, q2.text (all : Int) = (u, q3) := ⟨_, _, rfl⟩
                  have hul := text_len q2 (all : Int)
                  obtain ⟨v, ve, hve⟩ : ∃ v ve, datumDecode u = (v, ve) := ⟨_, _, rfl⟩
                  have hv := HV.out
                  rw [hf, readVals_step, ht3] at hv
                  simp only at hv
                  rw [hve] at hv
                  simp only at hv
                  have hf' : f = n - (j + 1) := by omega
                  have htx := fun W (hh : Rd W r q2) => rtext_any r q2 (all : Int) (by omega) (by omega) W hh
                  rw [ht3] at htx hul
                  simp only at hul
                  have hxl : q2.xs.length ≤ 140737488355328 := by
                    obtain ⟨_, _, _, _, h5⟩ := B7.rd.1
                    exact h5
                  have hul2 : u.length ≤ 140737488355328 := by omega
                  have hsz : (ofBs u).size = u.length := by rw [← size_data, ofBs_data]
                  have HTX := Lib.hid htx
                  have HV2 := Lib.hid hv
                  have HVE := Lib.hid hve
                  have HSZ := Lib.hid hsz
                  have HF := Lib.hid hf'
                  have hjI : (j : Int) < (n : Int) := by omega
                  clear hv htx ht3 hve hul hxl hsz hf hf' HV
                  go_wp2_with fail
                  refine (HTX.out _ B7.rd.1).mono ?_; rintro e w7 ⟨rfl, hS⟩
                  have B8 := B7.read hS
                  have own8 := rd_own own (by decide) B7.rd.1 hS
                  clear B7 hS HTX own
                  by_cases hqe : q3.err = 0
                  · have hv := HV2.out
                    rw [if_neg (by simpa using hqe)] at hv
                    have HV3 := Lib.hid hv
                    have hsu := fun W (hh : Rd W r q3) => bsure_yes r q3 W hh hqe
                    have HSU := Lib.hid hsu
                    clear hv hsu hqe HV2
                    go_wp2_with fail
                    refine (HSU.out _ B8.rd.1).mono ?_; rintro e w8 ⟨rfl, hS⟩
                    have B9 := B8.read hS
                    have own9 := rd_own own8 (by decide) B8.rd.1 hS
                    have htb := run_toBytes (P := Try.prog) 9 39 5 (ofBs u) Try.underlying9 Try.underlying39 Try.underlying5
                    clear B8 hS HSU own8
                    go_wp2_with fail
                    have hrs := (Row.str w8 (ofBs u) (grownCap w8 (ofBs u).size 0 5) 5)
                    rw [show (ofBs u).data.toList = u from ofBs_data u] at hrs
                    refine (ddecode_any _ _ _ u _ hrs.drew HSZ.out (fun h => by simp at h) (by rw [HSZ.out]; exact hul2)).mono ?_; rw [HVE.out]; rintro e w9 ⟨rfl, hb⟩
                    have hb2 : Below w8.heap.size w8 w9 := below_then (((Below.refl w8.heap.size w8).alloc (Nat.le_refl _) _).drew) hb (by simp)
                    have B10 := B9.below hb2
                    have own10 := owns_mono' own9 hb2
                    obtain ⟨vk, vn, vt⟩ := v
                    clear htb hrs hb hb2 B9 own9
                    unfold valCells
                    by_cases hve0 : ve = 0
                    · have hv := HV3.out
                      rw [if_neg (by simpa using hve0)] at hv
                      have HV4 := Lib.hid hv
                      subst hve0
                      clear hv HV3 HVE
                      go_wp2_with fail
                      refine (unless_yes _ _).mono ?_; rintro e w10 ⟨rfl, rfl⟩
                      have B11 := B10.alloc (.cells #[.int .i64 vk, .int .i64 vn, .string vt] 57)
                      have own11 := owns_mono' own10 ((Below.refl _ _).alloc (Nat.le_refl _) (.cells #[.int .i64 vk, .int .i64 vn, .string vt] 57))
                      have B12 := B11.alloc (.cells #[.int .i64 vk, .int .i64 vn, .string vt] 57)
                      have own12 := owns_mono' own11 ((Below.refl _ _).alloc (Nat.le_refl _) (.cells #[.int .i64 vk, .int .i64 vn, .string vt] 57))
                      have hsrc := Row.src (P := Try.prog) (c := 1) (size := 3) (n := 1) (tx := 28) (Row.of_loc (Loc.new (w9.alloc (.cells #[.int .i64 vk, .int .i64 vn, .string vt] 57)) #[.int .i64 vk, .int .i64 vn, .string vt] 57)) Try.underlying28 rfl (by simp [Value.oneCell']) (fun h => by simp at h)
                      simp only [World.size_alloc] at hsrc
                      have HSRC := Lib.hid hsrc
                      obtain ⟨x0, x1, x2, x3, x4, x5⟩ := loc_six B10.x
                      obtain ⟨xf0, xf1, xf2, xf3, xf4, xf5⟩ := free_six B10.x
                      have hlx := B10.x.lt
                      clear hsrc B10 own10 B11 own11
                      go_wp2_with (at_builtin; refine wpList_append_mine _ rfl _ _ 28 28 rfl 57 (.agg #[.int .i64 0, .int .i64 0, .string ⟨#[]⟩]) 3 32 Try.underlying28 infoVal rfl (by decide) (.slice A j c) j (valsCells l) rfl (owns_base (base' := 0) own12 (fun _ _ => Nat.zero_le _)) _ 1 _ rfl HSRC.out (by unfold maxLen; omega) (by omega) ?_; intro A2 c2 w11 hown hg hbl hx; have B13 := B12.grown own12 hg; have own13 := own_grown own12 hown hbl B12.rd.2.size; obtain ⟨y0, y1, y2, y3, y4, y5⟩ := loc_six B13.x; obtain ⟨yf0, yf1, yf2, yf3, yf4, yf5⟩ := free_six B13.x; clear hown hg hbl hx B12 own12)
                      have B14 := B13.set 5 (.slice A2 (j + 1) c2)
                      simp only [List.setIfInBounds_toArray, List.set_cons_succ, List.set_cons_zero] at B14
                      have own14 := owns_setCell (a := ⟨w1.heap.size, 5, none⟩) own13 (owns_ne own13 B13.x (by decide)) (.slice A2 (j + 1) c2)
                      go_roundw
                      case rel =>
                        refine ⟨j + 1, q3, l ++ [⟨vk, vn, vt⟩], A2, c2, by omega, by go_num, Lib.hid (by simp [HL.out]), Lib.hid (by rw [← HF.out]; exact HV4.out), B14, ?_⟩
                        have hvc : valsCells (l ++ [⟨vk, vn, vt⟩]) = valsCells l ++ [.int .i64 vk, .int .i64 vn, .string vt] := by simp [valsCells, valCells]
                        rw [hvc]
                        exact own14
                      case measure => simp [intOf]; omega
                    · have hv := HV3.out
                      rw [if_pos hve0] at hv
                      have hq := HQ4.out
                      rw [hv, if_pos hve0] at hq
                      have HQ5 := Lib.hid hq
                      have HE := Lib.hid hve0
                      have ht : (ve == 0) = false := by simpa using hve0
                      clear hv HV3 HVE hve0 hq HQ4
                      go_wp2_with fail
                      refine (unless_no _ _).mono ?_; rintro e w10 ⟨rfl, rfl⟩
                      go_wp2
                      exact ⟨rfl, TxnPost.no (by rw [HQ5.out]) HE.out (B10.rd.alloc _)⟩
                  · have hv := HV2.out
                    rw [if_pos hqe] at hv
                    have hq := HQ4.out
                    rw [hv, if_pos hqe] at hq
                    have HQ5 := Lib.hid hq
                    have hsu := fun W (hh : Rd W r q3) => bsure_no r q3 W hh hqe
                    have HSU := Lib.hid hsu
                    have HE := Lib.hid hqe
                    clear hv hsu hqe HV2 hq HQ4
                    go_wp2_with fail
                    refine (HSU.out _ B8.rd.1).mono ?_; rintro e w8 ⟨rfl, hS⟩
                    go_wp2
                    exact ⟨rfl, TxnPost.no (by rw [HQ5.out]) HE.out (B8.read hS).rd⟩
                · obtain rfl : j = n := by omega
                  have hv := HV.out
                  rw [Nat.sub_self, readVals] at hv
                  have hq := HQ4.out
                  rw [hv, if_neg (by simp)] at hq
                  have HQ5 := Lib.hid hq
                  obtain ⟨x0, x1, x2, x3, x4, x5⟩ := loc_six B7.x
                  obtain ⟨z0, z1, z2, z3, z4, z5⟩ := loc_six B7.z
                  obtain ⟨zf0, zf1, zf2, zf3, zf4, zf5⟩ := free_six B7.z
                  obtain ⟨gl, gr⟩ := B7.fin (.int .i64 2) (.string ⟨#[]⟩) (.int .i64 0) (.slice none 0 0) (.string (ofBs m)) (.slice A j c)
                  have o1 := own_six own B7.z (by decide) (.int .i64 2) (.string ⟨#[]⟩) (.int .i64 0) (.slice none 0 0) (.string (ofBs m)) (.slice A j c)
                  unfold put6 at gl gr o1
                  have hne : ¬ w1.heap.size = w.heap.size := by have := B7.hx; omega
                  have GG := Lib.hid (loc_six gl)
                  have GR := Lib.hid gr
                  have GO := Lib.hid o1
                  clear gl gr B7 o1 own hv hq HV HQ4
                  go_wp2
                  obtain ⟨g0, g1, g2, g3, g4, g5⟩ := GG.out
                  exact bodyPost_ret (v := .agg #[.int .i64 2, .string ⟨#[]⟩, .int .i64 0, .slice none 0 0, .string (ofBs m), .slice A j c]) (by simp [results, Try.results38, go_sem, g0, g1, g2, g3, g4, g5]) rfl (TxnPost.yes (A := A) (B := none) (c := c) (d := 0) HQ5.out (by unfold TxnC.cells; rw [HL.out]; rfl) ⟨by rw [HL.out]; exact GO.out, World.ownsRow_nil _ _ _ _⟩ GR.out)
          · have hq := HQ2.out
            rw [if_pos hqe] at hq
            have HQ3 := Lib.hid hq
            have hsu := fun W (hh : Rd W r q1) => bsure_no r q1 W hh hqe
            have HSU := Lib.hid hsu
            have HE := Lib.hid hqe
            clear hq hsu hqe HQ2
            go_wp2_with fail
            refine (HSU.out _ B5.rd.1).mono ?_; rintro e w5 ⟨rfl, hS⟩
            go_wp2
            exact ⟨rfl, TxnPost.no (by rw [HQ3.out]) HE.out (B5.read hS).rd⟩
        · have hq := HQ1.out
          unfold readTxnRest at hq
          rw [if_neg k1, if_neg k3, if_neg k2] at hq
          have HQ2 := Lib.hid hq
          have t1 : (k == 1) = false := by simpa using k1
          have t3 : (k == 3) = false := by simpa using k3
          have t2 : (k == 2) = false := by simpa using k2
          clear hq k1 k2 k3
          go_wp2
          exact ⟨rfl, TxnPost.no (by rw [HQ2.out]) (by decide) B2.rd⟩
  · have hq := HQ.out
    rw [if_pos he1] at hq
    have HQ1 := Lib.hid hq
    have hsu := fun W (hh : Rd W r s1) => bsure_no r s1 W hh he1
    have HSU := Lib.hid hsu
    have HE := Lib.hid he1
    clear hq hsu HQ he1
    go_wp2_with fail
    refine (HSU.out _ B1.rd.1).mono ?_; rintro e w2 ⟨rfl, hS⟩
    go_wp2
    exact ⟨rfl, TxnPost.no (by rw [HQ1.out]) HE.out (B1.read hS).rd⟩
end Go.Proofs.Ytnmcdifkknphgaa
