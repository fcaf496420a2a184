/- Walk of treadleref12.Encode. Printed by gen_bi.py. -/
import Derived.Test.YtnmcdifkknphgaaBh
namespace Go.Proofs.Ytnmcdifkknphgaa
open Go.RowKit

theorem keep_below {base : Nat} {F : Nat → Prop} {w W V : World} (hb : Below base w W) (hk : Keep W.heap.size F W V) (hs : base ≤ W.heap.size) (hF : ∀ k, F k → base ≤ k) : Below base w V :=
  ((Keep.of_below hb (fun _ => False)).step hk hs (fun i hi h => by have := hF i h; omega)).below (fun _ _ h => h)

set_option maxRecDepth 100000 in
set_option maxHeartbeats 4000000 in
theorem rbencode_any (first : Int) (l : List TxnC) (L : Option Addr) (cap : Nat) (w : World) (hr : Row w L (txnsCells l)) (hok : ∀ x ∈ l, x.ok w) (hfit : ∀ x ∈ l, x.fit) (hnum : ∀ x ∈ l, ∀ v ∈ x.t.args, i64v v) (hlen : l.length ≤ 140737488355328) :
    Calls Try.prog 16 #[.agg #[.int .i64 first, .slice L l.length cap]] w (RE (batEncode ⟨first, l.map (·.t)⟩) w) := by
  have hck := fun W (hb : Below w.heap.size w W) => rbcheck_any first l L cap W (hr.of_below hb (Nat.le_refl _)) (fun x hx => (hok x hx).below hb) hfit hlen
  have b0 := (Below.refl w.heap.size w).alloc (Nat.le_refl _) (.cells #[.int .i64 first, .slice L l.length cap] 24)
  have L0 := Loc.new w #[.int .i64 first, .slice L l.length cap] 24
  by_cases hz : batCheck ⟨first, l.map (·.t)⟩ = 0
  · rw [hz] at hck
    obtain ⟨⟨hf0, hf1⟩, ⟨hn1, hn2⟩, hall⟩ := batCheck_zero hz
    simp only [List.length_map] at hf0 hf1 hn1 hn2 hall
    have hall' : ∀ x ∈ l, txnCheck x.t = 0 := fun x hx => hall x.t (List.mem_map_of_mem hx)
    obtain ⟨q, hq⟩ : ∃ q, q = batEncode ⟨first, l.map (·.t)⟩ := ⟨_, rfl⟩
    rw [← hq]
    have hq1 : q = if 65536 < (batBytes ⟨first, l.map (·.t)⟩).length then ([], 4) else (batBytes ⟨first, l.map (·.t)⟩, 0) := by rw [hq]; unfold batEncode; rw [if_neg (by simpa using hz)]
    obtain ⟨h1, hh1⟩ : ∃ h1, h1 = [] ++ encNumber first := ⟨_, rfl⟩
    obtain ⟨hd, hhd⟩ : ∃ hd, hd = h1 ++ encNumber (l.length : Int) := ⟨_, rfl⟩
    have g1 := encNumber_le first
    have g2 := encNumber_le (l.length : Int)
    have hl1 : h1.length ≤ 10 := by rw [hh1]; simpa using g1
    have hl2 : hd.length ≤ 20 := by rw [hhd, List.length_append]; omega
    obtain ⟨zj, hzj⟩ : ∃ zj : Nat → Bs, zj = fun j => hd ++ (l.take j).flatMap (fun x => txnBytes x.t) := ⟨_, rfl⟩
    have z0 : zj 0 = hd := by rw [hzj]; simp
    have zl : zj l.length = batBytes ⟨first, l.map (·.t)⟩ := by rw [hzj, hhd, hh1]; simp [batBytes, List.flatMap_map]
    have zs : ∀ j (h : j < l.length), zj (j + 1) = zj j ++ txnBytes l[j].t := fun j h => by
      have htake : l.take (j + 1) = l.take j ++ [l[j]] := List.take_succ_eq_append_getElem h
      rw [hzj]
      simp only [htake, List.flatMap_append, List.flatMap_cons, List.flatMap_nil, List.append_nil, List.append_assoc]
    have zb : ∀ j, j ≤ l.length → (zj j).length ≤ 20 + 31000 * 64 := fun j hj => by
      have h2 := txnsBytes_le (l := (l.take j).map (·.t)) (fun t ht => by
        obtain ⟨x, hx, rfl⟩ := List.mem_map.1 ht
        exact hall' x (List.mem_of_mem_take hx))
      rw [List.flatMap_map] at h2
      rw [hzj]
      simp only [List.length_append, List.length_map, List.length_take] at *; omega
    have hn1c := fun W => rwnumber_any none 0 0 [] first W (Row.nil _ _) rfl (fun _ => rfl) (by omega) (by omega) (by omega)
    have hn2c := fun B d W (h : Row W B (cellsB h1)) (hB : B = none → h1.length = 0) => rwnumber_any B h1.length d h1 (l.length : Int) W h rfl hB (by omega) (by omega) (by omega)
    rw [← hh1] at hn1c
    rw [← hhd] at hn2c
    obtain ⟨n, hn⟩ : ∃ n, n = l.length := ⟨_, rfl⟩
    rw [← hn] at hn2c
    have Z0 := Lib.hid z0
    have ZL := Lib.hid zl
    have ZS := Lib.hid zs
    have ZB := Lib.hid zb
    have HQ := Lib.hid hq1
    have HCK := Lib.hid hck
    have HROW := Lib.hid hr
    have HOK := Lib.hid hok
    have HFIT := Lib.hid hfit
    have HNUM := Lib.hid hnum
    have HALL := Lib.hid hall'
    have HN1 := Lib.hid hn1c
    have HN2 := Lib.hid hn2c
    have HN := Lib.hid hn
    rw [← hn] at HCK L0 b0 hn1 hn2 ⊢
    obtain ⟨b, off, rfl, hbl, hc⟩ := hr.txns (by omega)
    have HC := Lib.hid hc
    clear hck hr hok hfit hnum hall hall' hq1 hq hz hzj z0 zl zs zb hh1 hhd g1 g2 hn hlen hc hn1c hn2c
    go_enter Try.func16, Try.ntmps16
    go_wp2_with fail
    refine (HCK.out _ b0).mono ?_; rintro e w2 ⟨rfl, hb⟩
    have L2 := L0.below hb L0.lt
    have b2 := below_then b0 hb b0.size
    have p0 := L2.cell 0; have p1 := L2.cell 1
    simp at p0 p1
    clear L0 b0 hb
    go_wp2_with fail
    refine (HN1.out _).mono ?_; rintro e w3 ⟨A3, c3, rfl, o3, hb⟩
    have hA3 := (Below.refl w3.heap.size w3).alloc (Nat.le_refl _) (.cells #[.slice A3 h1.length c3, .int .i64 0] 81)
    have b3 := below_then b2 hb b2.size
    have L3 := L2.below hb L2.lt
    have T3 := Loc.new w3 #[.slice A3 h1.length c3, .int .i64 0] 81
    have o3' := owns_mono' (owns_mono o3 b2.size) hA3
    have L3' := L3.below hA3 L3.lt
    have b3' := below_then b3 hA3 b3.size
    have hsz : w.heap.size ≤ w3.heap.size := b3.size
    have hne : ¬ w.heap.size = w3.heap.size := by have := L3.lt; omega
    have p1 := L3'.cell 1; have t0 := T3.cell 0; have t1' := T3.cell 1
    simp at p1 t0 t1'
    clear L2 b2 o3 hb L3 b3 hA3
    go_wp2_with fail
    refine (HN2.out _ _ _ (Row.of_owns o3') (owns_none o3')).mono ?_; rintro e w4 ⟨A4, c4, rfl, o4, hb⟩
    have T4 := T3.below hb T3.lt
    have L4 := L3'.below hb L3'.lt
    have b4 := below_then b3' hb b3'.size
    have e0 := T4.cell 0; have e1 := T4.cell 1; have f0 := T4.free 0; have f1 := T4.free 1; have p1 := L4.cell 1
    simp at e0 e1 p1
    obtain ⟨T5, o5⟩ := ws_put T4 (owns_mono o4 b3'.size)
    have L5 := (L4.other (a := ⟨w3.heap.size, 0, none⟩) hne (.slice A4 hd.length c4)).other (a := ⟨w3.heap.size, 1, none⟩) hne (.int .i64 0)
    have b5 := (b4.setCell (p := ⟨w3.heap.size, 0, none⟩) hsz (.slice A4 hd.length c4)).setCell (p := ⟨w3.heap.size, 1, none⟩) hsz (.int .i64 0)
    have hsrc := (Row.of_owns o5).src (P := Try.prog) (size := 1) (n := hd.length) (c := c4) (tx := 39) Try.underlying39 (by rw [cellsB_length]; omega) (cellsB_one hd) (owns_none o5)
    have HSRC := Lib.hid hsrc
    clear T3 o3' L3' b3' t0 t1' hb T4 L4 b4 o4 hsrc
    go_wp2_with (first | (at_builtin; refine wpList_append_mine _ rfl _ _ 39 39 rfl 5 (.int .u8 0) 1 1 Try.underlying39 infoU8 rfl (by decide) (.slice none 0 0) 0 [] rfl (World.ownsRow_nil _ _ _ _) (.slice A4 hd.length c4) hd.length (cellsB hd) rfl HSRC.out (by unfold maxLen; omega) (by omega) ?_; intro A6 c6 w6 hown6 hg6 hb6 hx6))
    obtain ⟨o6, b6⟩ := own_next0 (World.ownsRow_nil _ w.heap.size _ _) hown6 hg6 hb6 b5.size b5
    rw [Nat.zero_add, List.nil_append] at o6
    have L6 := L5.grown hg6 (by simp [Value.ownBlock])
    clear hown6 hg6 hb6 hx6 T5 o5 L5 b5 HSRC e0 e1 f0 f1 p1 p0
    go_wp2
    go_loopw [6, 7] (fun o i wr => ∃ (k : Nat) (B : Option Addr) (d : Nat), k ≤ n ∧ o = .slice B (zj k).length d ∧ i = .int .i64 (k : Nat) ∧ Loc wr w.heap.size #[.int .i64 first, .slice (some ⟨b, off, none⟩) n cap] 24 ∧ wr.ownsRow w.heap.size 5 1 (.slice B (zj k).length d) (zj k).length (cellsB (zj k)) ∧ Below w.heap.size w wr) (fun _ i _ => n - (intOf i).toNat)
    case atStart => exact ⟨0, A6, c6, Nat.zero_le _, by rw [Z0.out], rfl, L6, by rw [Z0.out]; exact o6, b6⟩
    case round =>
      obtain ⟨wk, rfl⟩ : ∃ wk, wk = wr := ⟨_, rfl⟩
      obtain ⟨k, B, d, hk, rfl, rfl, Lk, ok, bk⟩ := hrel
      clear L6 o6 b6
      have p1 := Lk.cell 1
      simp at p1
      by_cases hkn : k < n
      · have hkl : k < l.length := by rw [← HN.out]; exact hkn
        have hzk := ZS.out k hkl
        have hzb := ZB.out k (by omega)
        have hcx := HC.out k hkl
        have hin := (HFIT.out _ (List.getElem_mem hkl)).r
        have hvs := HNUM.out _ (List.getElem_mem hkl)
        have hck := HALL.out _ (List.getElem_mem hkl)
        have hokx := (HOK.out _ (List.getElem_mem hkl)).below bk
        generalize l[k] = X at *
        have hcl := rblaid_any X B (zj k).length d w.heap.size (zj k) wk hokx hin hvs hck ok rfl bk.size (by omega)
        rw [← hzk] at hcl
        obtain ⟨⟨xk, ⟨xn, xa, xc⟩, xm, xv⟩, XA, xca, XB, xcb⟩ := X
        have hxi : ∀ i, i < 6 → wk.cell? ⟨b, off + k * 6 + i, none⟩ = (TxnC.cells ⟨⟨xk, ⟨xn, xa, xc⟩, xm, xv⟩, XA, xca, XB, xcb⟩)[i]? := fun i hi => (bk.cell (p := ⟨b, off + k * 6 + i, none⟩) hbl).trans (hcx i hi)
        have x0 := hxi 0 (by decide); have x1 := hxi 1 (by decide); have x2 := hxi 2 (by decide); have x3 := hxi 3 (by decide); have x4 := hxi 4 (by decide); have x5 := hxi 5 (by decide)
        simp only [TxnC.cells, List.getElem?_toArray, List.getElem?_cons_zero, List.getElem?_cons_succ, Nat.add_zero] at x0 x1 x2 x3 x4 x5
        unfold TxnC.cells at hcl
        simp only at hcl
        obtain ⟨na, hna⟩ : ∃ na, na = xv.length := ⟨_, rfl⟩
        obtain ⟨nc, hnc⟩ : ∃ nc, nc = xc.length := ⟨_, rfl⟩
        rw [← hna] at hcl x5
        rw [← hnc] at hcl x3
        have HCL := Lib.hid hcl
        have hkn' : (k : Int) < (n : Int) := by omega
        have hOK := Lib.hid ok
        clear hxi hcx hin hvs hck hokx hcl hna hnc hzk ok
        go_wp2_with fail
        refine HCL.out.mono ?_; rintro e w7 ⟨B7, d7, rfl, o7, hkeep⟩
        have hnb : ¬ (Value.slice B (zj k).length d).ownBlock = some w.heap.size := owns_ne hOK.out Lk (by decide)
        have L7 := Lk.keep hkeep Lk.lt hnb
        have b7 := keep_below bk hkeep bk.size (fun j hj => (hOK.out.lt j hj).1)
        clear x0 x1 x2 x3 x4 x5 p1 Lk bk hkeep HCL hOK
        go_wp2
        go_roundw
        case rel => exact ⟨k + 1, B7, d7, by omega, rfl, by go_num, L7, o7, b7⟩
        case measure => simp [intOf]; omega
      · obtain rfl : k = n := by omega
        obtain ⟨ys, hys⟩ : ∃ ys, ys = zj k := ⟨_, rfl⟩
        have hzz : batBytes ⟨first, l.map (·.t)⟩ = ys := by rw [hys, HN.out, ZL.out]
        have hq2 := HQ.out
        rw [hzz] at hq2
        rw [← hys] at ok ⊢
        have HQ2 := Lib.hid hq2
        clear hq2 hzz hys
        by_cases hbig : 65536 < ys.length
        · have hqq : q = ([], 4) := by rw [HQ2.out, if_pos hbig]
          have HQQ := Lib.hid hqq
          have hbI : (65536 : Int) < (ys.length : Int) := by omega
          clear hqq
          go_wp2
          go_ret2
          rw [HQQ.out]
          exact ⟨none, 0, rfl, World.ownsRow_nil _ _ _ _, bk⟩
        · have hqq : q = (ys, 0) := by rw [HQ2.out, if_neg hbig]
          have HQQ := Lib.hid hqq
          have hbI : ¬ (65536 : Int) < (ys.length : Int) := by omega
          clear hqq
          go_wp2
          go_ret2
          rw [HQQ.out]
          exact ⟨B, d, rfl, ok, bk⟩
  · have he : batEncode ⟨first, l.map (·.t)⟩ = ([], batCheck ⟨first, l.map (·.t)⟩) := by unfold batEncode; rw [if_pos hz]
    rw [he]
    obtain ⟨E, hE⟩ : ∃ E, E = batCheck ⟨first, l.map (·.t)⟩ := ⟨_, rfl⟩
    rw [← hE] at hck hz ⊢
    have HCK := Lib.hid hck
    have hE' : (E != 0) = true := by simpa using hz
    clear hck hE hz he hr hok hfit hnum
    go_enter Try.func16, Try.ntmps16
    go_wp2_with fail
    refine (HCK.out _ b0).mono ?_; rintro e w2 ⟨rfl, hb⟩
    go_wp2
    go_ret2
    exact ⟨none, 0, rfl, World.ownsRow_nil _ _ _ _, below_then b0 hb b0.size⟩
end Go.Proofs.Ytnmcdifkknphgaa
