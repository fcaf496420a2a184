/- Walk of PageNothing. -/
import Derived.Test.YtnieminnnkbneaaLlg
import Derived.Test.YtnieminnnkbneaaLkn
namespace Go.Proofs.Ytnieminnnkbneaa
open Go.RowKit

theorem zeroPage (p : Nat) (pl : List PrcC) (es : List Ent) (A B : Option Addr) (ca cb : Nat) (w : World) (L : Loc w p (PW.zero.cells nilS) 27) (hrp : Row w A (prcsCells pl)) (hpo : ∀ y ∈ pl, y.ok w) (hre : Row w B (entsCells es)) (heo : ∀ y ∈ es, y.inR)
    (hpl : pl.length ≤ 140737488355328) (hel : es.length ≤ 140737488355328) :
    Calls Try.prog 8 #[.pointer (some ⟨p, 0, none⟩), .slice A pl.length ca, .slice B es.length cb] w fun e w' => ∃ A c, e = .returned (.tuple #[.slice A 0 c, .int .i64 25]) ∧ Loc w' p (PW.zero.cells nilS) 27 ∧ Keep w.heap.size (· = p) w w' := by
  have h := ppage_any p PW.zero pl es A B ca cb w L hrp hpo hre heo hpl hel (by decide) (by decide) (by decide) (by decide) (by decide)
  have e : pwPage PW.zero (pl.map (·.p)) es = (([], PW.zero), 25) := by unfold pwPage; rw [if_pos (show PW.zero.live = false from rfl)]
  rw [e] at h
  refine h.mono (fun e w' h => ?_)
  obtain ⟨A, n, c, hn, he, _, L, K⟩ := h
  obtain rfl : n = 0 := hn
  exact ⟨A, c, he, L, K⟩
theorem zeroEnd (p : Nat) (w : World) (L : Loc w p (PW.zero.cells nilS) 27) :
    Calls Try.prog 9 #[.pointer (some ⟨p, 0, none⟩)] w fun e w' => ∃ A c, e = .returned (.tuple #[.slice A 0 c, .int .i64 25]) ∧ Loc w' p (PW.zero.cells nilS) 27 ∧ Keep w.heap.size (· = p) w w' := by
  have h := pend_any p PW.zero w L (by decide) (by decide) (by decide) (by decide) (by decide)
  have e : pwEndQ PW.zero = (([], PW.zero), 25) := rfl
  rw [e] at h
  refine h.mono (fun e w' h => ?_)
  obtain ⟨A, n, c, hn, he, _, L, K⟩ := h
  obtain rfl : n = 0 := hn
  exact ⟨A, c, he, L, K⟩
theorem PrcC.came.ok {W : World} {y : PrcC} (h : y.came W) : y.p.code.length ≤ 300 → y.ok W := fun hl => ⟨h.r, by omega, h.i⟩

set_option maxRecDepth 100000 in
set_option maxHeartbeats 8000000 in
theorem pnothing_any (l : List PieceC) (A : Option Addr) (cap : Nat) (w : World) (hr : Row w A (piecesCells l)) (hc : ∀ x ∈ l, x.came w) (hl : l.length ≤ maxLen) :
    Calls Try.prog 3 #[.slice A l.length cap] w fun e w' => e = .returned (.bool true) ∧ Below w.heap.size w w' := by
  have hlong := long_any l A cap w hr hc hl
  unfold maxLen at hl
  obtain ⟨n, hn⟩ : ∃ n, n = l.length := ⟨_, rfl⟩
  rw [← hn] at hl hlong ⊢
  have HR := Lib.hid hr
  have HC := Lib.hid hc
  have HN := Lib.hid hn
  have HLG := Lib.hid hlong
  clear hr hc hn hlong
  go_enter Try.func3, Try.ntmps3
  go_wp2_with fail
  refine HLG.out.mono ?_; rintro e w1 ⟨bb, rfl, b1, hbb⟩
  cases bb with
  | true =>
    go_wp2
    go_ret
    exact ⟨rfl, b1⟩
  | false =>
    have HBB := Lib.hid (hbb rfl)
    clear hbb HLG
    have hsz1 := b1.size
    have L2 : Loc (w1.alloc (.cells #[.bool false, .int .i64 0, .int .i64 0, .int .i64 0, .int .i64 0, .int .i64 0, .string ⟨#[]⟩, .string ⟨#[]⟩, .slice none 0 0] 27)) w1.heap.size (PW.zero.cells nilS) 27 := Loc.new w1 _ _
    have b2 := b1.alloc b1.size (.cells #[.bool false, .int .i64 0, .int .i64 0, .int .i64 0, .int .i64 0, .int .i64 0, .string ⟨#[]⟩, .string ⟨#[]⟩, .slice none 0 0] 27)
    obtain ⟨zb, hzb⟩ : ∃ zb, zb = w1.heap.size := ⟨_, rfl⟩
    go_wp2
    rw [← hzb] at L2 ⊢
    have HZB : Hid (w.heap.size ≤ zb) := Lib.hid (by omega)
    go_loopw [5] (fun i wr => ∃ k : Nat, k ≤ n ∧ i = .int .i64 k ∧ Loc wr zb (PW.zero.cells nilS) 27 ∧ Below w.heap.size w wr) (fun i _ => n - (intOf i).toNat)
    case atStart => exact ⟨0, Nat.zero_le _, rfl, L2, b2⟩
    case round =>
      obtain ⟨wi, rfl⟩ : ∃ wi, wi = wr := ⟨_, rfl⟩
      obtain ⟨k, hk, rfl, LI, bI⟩ := hrel
      clear L2 b2 b1 hzb
      by_cases hkn : k < n
      · have hkn' : (k : Int) < (n : Int) := by omega
        have hkl : k < l.length := by rw [← HN.out]; exact hkn
        obtain ⟨b, off, rfl, hbl, hcc⟩ := HR.out.pieces (by omega)
        have hcx := hcc k hkl
        have hcm := HC.out l[k] (List.getElem_mem hkl)
        have hlg := HBB.out.2 l[k] (List.getElem_mem hkl)
        generalize l[k] = X at *
        obtain ⟨ps, P, cp, es, E, ce, fb⟩ := X
        have x0 := hcx 0 (by decide); have x1 := hcx 1 (by decide)
        simp only [PieceC.cells, List.getElem?_toArray, List.getElem?_cons_zero, List.getElem?_cons_succ, Nat.add_zero] at x0 x1
        have HCM := Lib.hid hcm
        have HLG := Lib.hid hlg
        obtain ⟨np, hnp⟩ : ∃ np, np = ps.length := ⟨_, rfl⟩
        obtain ⟨ne, hne⟩ : ∃ ne, ne = es.length := ⟨_, rfl⟩
        rw [← hnp] at x0
        rw [← hne] at x1
        have HNP := Lib.hid hnp
        have HNE := Lib.hid hne
        have hz1 : ∀ W, Loc W zb (PW.zero.cells nilS) 27 → Below w.heap.size w W → Calls Try.prog 8 #[.pointer (some ⟨zb, 0, none⟩), .slice P np cp, .slice E ne ce] W fun e w' => ∃ A c, e = .returned (.tuple #[.slice A 0 c, .int .i64 25]) ∧ Loc w' zb (PW.zero.cells nilS) 27 ∧ Keep W.heap.size (· = zb) W w' := fun W hL hB => by
          have hcW := HCM.out.below hB
          have hlW := HLG.out
          rw [hnp, hne]
          exact zeroPage zb ps es P E cp ce W hL hcW.rp (fun y hy => (hcW.ip y hy).ok (hlW.2.2 y hy)) hcW.re hcW.ie (by have := hlW.1; simp only at this; omega) (by have := hlW.2.1; simp only at this; omega)
        have HZ1 := Lib.hid hz1
        have HS : Hid (∀ W, Below w.heap.size w W → W.cell? ⟨b, off + k * 3, none⟩ = some (.slice P np cp) ∧ W.cell? ⟨b, off + k * 3 + 1, none⟩ = some (.slice E ne ce)) := Lib.hid (fun W hB => ⟨by rw [← x0]; exact hB.cell (p := ⟨b, off + k * 3, none⟩) hbl, by rw [← x1]; exact hB.cell (p := ⟨b, off + k * 3 + 1, none⟩) hbl⟩)
        have bId := below_then bI ((Below.refl wi.heap.size wi).drew) bI.size
        have hkI : (0 : Int) ≤ (k : Int) := by omega
        clear hcc hcx hcm hlg hnp hne hz1 x0 x1
        go_upto_region 8 with (fail)
        go_region_held3 (fun W => W.cell? ⟨b, off + k * 3, none⟩ = some (.slice P np cp) ∧ W.cell? ⟨b, off + k * 3 + 1, none⟩ = some (.slice E ne ce)) ((first | (with_reducible exact HS.out _ z4) | exact HS.out _ bId | exact HS.out _ bI)) ((go_at_call 8; refine (nilPage_any _ _ _ _ _ _ _).mono ?_; rintro e w4 ⟨rfl, b4⟩; have z4 := below_then bId b4 bId.size))
        go_upto_region 10 with (go_at_call 9; refine (nilEnd_any _).mono ?_; rintro e w5 ⟨rfl, b5⟩)
        have z5 := below_then z4 b5 z4.size
        have z5d := below_then z5 ((Below.refl w5.heap.size w5).drew) z5.size
        have L5 := (LI.drew.below b4 LI.lt).below b5 (by have h1 := b4.size; have h2 := LI.lt; exact Nat.lt_of_lt_of_le h2 h1)
        clear b4 b5 z4
        go_region_held3 (fun W => W.cell? ⟨b, off + k * 3, none⟩ = some (.slice P np cp) ∧ W.cell? ⟨b, off + k * 3 + 1, none⟩ = some (.slice E ne ce)) ((first | (with_reducible exact HS.out _ z6) | exact HS.out _ z5d | exact HS.out _ z5)) ((go_at_call 8; refine (HZ1.out _ L5.drew z5d).mono ?_; rintro e w6 ⟨A6, c6, rfl, L6, K6⟩; have z6 := below_keep z5d K6 z5d.size (fun k hk => hk ▸ HZB.out)))
        have hz2 := zeroEnd zb w6 L6
        have HZ2 := Lib.hid hz2
        have hsz6 := z6.size
        clear hz2 K6 z5 z5d L5 L6
        go_wp2_with (go_at_call 9; refine HZ2.out.mono ?_; rintro e w7 ⟨A7, c7, rfl, L7, K7⟩)
        have b7 := below_keep z6 K7 z6.size (fun k hk => hk ▸ HZB.out)
        go_roundw
        case rel => exact ⟨k + 1, by omega, by go_num, L7, b7⟩
        case measure => simp [intOf]; omega
      · have hkn' : ¬ (k : Int) < (n : Int) := by omega
        go_wp2_with (go_at_call 10; refine (known_any _).mono ?_; rintro e w9 ⟨rfl, b9⟩)
        go_ret
        exact ⟨rfl, below_then bI b9 bI.size⟩
end Go.Proofs.Ytnieminnnkbneaa
