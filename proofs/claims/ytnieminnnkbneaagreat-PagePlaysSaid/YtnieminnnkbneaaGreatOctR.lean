/- Walks of octet.Reader: what is taken. -/
import Derived.Test.YtnieminnnkbneaaGreatOctW
import Derived.BigQuiet
import Derived.Deep.QuietTactic
namespace Go.Proofs.YtnieminnnkbneaaGreat
open Go.RowKit

/-- A reader at r. -/
def Rd (w : World) (r : Nat) (s : Rdr) : Prop :=
  ∃ d, w.heap[r]? = some (.cells #[.slice (some ⟨d, 0, none⟩) s.xs.length s.xs.length, .int .i64 (s.pos : Int), .int .i64 s.err] 118 (0, 0)) ∧
    w.heap[d]? = some (.cells (cellsB s.xs).toArray 5 (0, 0)) ∧ s.pos ≤ s.xs.length ∧ s.xs.length ≤ 140737488355328

def RdStep (w w' : World) (r : Nat) (s : Rdr) : Prop := Rd w' r s ∧ Keep w.heap.size (· = r) w w'

theorem Rd.lt {w : World} {r : Nat} {s : Rdr} (h : Rd w r s) : r < w.heap.size := by
  obtain ⟨d, h0, _⟩ := h
  exact blk_lt h0

theorem Rd.keep {B : Nat} {G : Nat → Prop} {w w' : World} {r : Nat} {s : Rdr} (h : Rd w r s) (hk : Keep B G w w') (hB : w.heap.size ≤ B) (hG : ∀ k, G k → ∃ c t f, w.heap[k]? = some (.cells c t f) ∧ t ≠ 118 ∧ t ≠ 5) : Rd w' r s := by
  obtain ⟨d, h0, h1, h2⟩ := h
  refine ⟨d, ?_, ?_, h2⟩
  · rw [hk.block r (Nat.lt_of_lt_of_le (blk_lt h0) hB) (fun hg => by
      obtain ⟨c, t, f, h, ht, _⟩ := hG r hg
      rw [h] at h0; cases h0; exact ht rfl)]
    exact h0
  · rw [hk.block d (Nat.lt_of_lt_of_le (blk_lt h1) hB) (fun hg => by
      obtain ⟨c, t, f, h, _, ht⟩ := hG d hg
      rw [h] at h1; cases h1; exact ht rfl)]
    exact h1

theorem Rd.below {w w' : World} {r : Nat} {s : Rdr} (h : Rd w r s) (hb : Below w.heap.size w w') : Rd w' r s :=
  h.keep (Keep.of_below hb (fun _ => False)) (Nat.le_refl _) (fun _ f => f.elim)

theorem read_any (A : Option Addr) (n c : Nat) (xs : Bs) (w : World) (hr : Row w A (cellsB xs)) (hn : n = xs.length) (hA : A = none → n = 0) (hlen : n ≤ 140737488355328) :
    Calls Tryz.prog 25 #[.slice A n c] w fun e w' => ∃ r, e = .returned (.pointer (some ⟨r, 0, none⟩)) ∧ w.heap.size ≤ r ∧ Rd w' r (Rdr.new xs) ∧ Below w.heap.size w w' := by
  obtain ⟨i0, hi, hz0, hz1, hz2⟩ := info_parts infoU8
  have Hn := Lib.hid hn
  have Hz2 := Lib.hid hz2
  clear hn hz2
  go_enter Tryz.func25, Tryz.ntmps25
  go_wp2_with (first
    | (at_make; refine wpList_make_row _ rfl _ _ 33 rfl 5 i0 (.int .u8 0) Tryz.underlying33 hi hz0 hz1 rfl .i64 .i64 n rfl rfl (by rw [Hz2.out]; omega) (by omega) ?_)
    | (refine wpList_copy_full _ rfl _ _ 33 33 rfl 5 Tryz.underlying33 (by rw [hi]; exact congrArg some hz1) w.heap.size n n rfl _ 5 (heap_alloc_new w _) (by simp [madeCells]) A c rfl (cellsB xs) (by rw [cellsB_length]; exact Hn.out.symm) (hr.alloc _) hA (cellsB_one xs) ?_; intro w1 hd hg))
  go_ret
  have hz : (w.alloc (.cells (madeCells #[.int .u8 0] n) 5)).heap.size = w.heap.size + 1 := by simp
  have hb : Below w.heap.size w w1 := ((Below.refl w.heap.size w).alloc (Nat.le_refl _) _).grown hg (by omega) (fun k hk => by cases hk; exact Nat.le_refl _)
  have hb1 := hb.alloc hb.size (.cells #[.slice (some ⟨w.heap.size, 0, none⟩) n n, .int .i64 0, .int .i64 0] 118)
  refine ⟨w1.heap.size, rfl, hb.size, ⟨w.heap.size, ?_, ?_, ?_, ?_⟩, hb1⟩
  · rw [heap_alloc_new]; simp [Rdr.new, Hn.out]
  · rw [Below.heap_alloc _ _ _ (by have := hg.size; omega)]; exact hd
  · simp [Rdr.new]
  · simp [Rdr.new]; rw [← Hn.out]; exact hlen

theorem stopped_any (r : Nat) (s : Rdr) (w : World) (h : Rd w r s) :
    Calls Tryz.prog 58 #[.pointer (some ⟨r, 0, none⟩)] w fun e' w' => e' = .returned (.bool (s.err != 0)) ∧ w = w' := by
  obtain ⟨d, h0, _⟩ := h
  have h2 := blk_cell h0 2
  simp at h2
  clear h0
  go_enter Tryz.func58, Tryz.ntmps58
  go_wp2
  go_ret
  exact ⟨rfl, rfl⟩

theorem stopped_no (r : Nat) (s : Rdr) (w : World) (h : Rd w r s) (he : s.err = 0) :
    Calls Tryz.prog 58 #[.pointer (some ⟨r, 0, none⟩)] w fun e' w' => e' = .returned (.bool false) ∧ w = w' :=
  (stopped_any r s w h).mono fun e' w' ⟨h1, h2⟩ => ⟨by rw [h1, he]; rfl, h2⟩
theorem stopped_yes (r : Nat) (s : Rdr) (w : World) (h : Rd w r s) (he : s.err ≠ 0) :
    Calls Tryz.prog 58 #[.pointer (some ⟨r, 0, none⟩)] w fun e' w' => e' = .returned (.bool true) ∧ w = w' :=
  (stopped_any r s w h).mono fun e' w' ⟨h1, h2⟩ => ⟨by rw [h1]; simp [he], h2⟩

theorem Rd.setPos {w : World} {r : Nat} {s : Rdr} (h : Rd w r s) (p : Nat) (hp : p ≤ s.xs.length) : RdStep w (w.setCell ⟨r, 1, none⟩ (.int .i64 (p : Int))) r { s with pos := p } := by
  obtain ⟨d, h0, h1, h2, h3⟩ := h
  refine ⟨⟨d, blk_set h0 1 _, ?_, hp, h3⟩, (Keep.refl _ (· = r) _).setCell (.inr rfl) _⟩
  rw [Below.heap_setCell _ _ _ _ (blk_ne h1 h0 (by decide))]; exact h1

theorem Rd.setErr {w : World} {r : Nat} {s : Rdr} (h : Rd w r s) (e : Int) : RdStep w (w.setCell ⟨r, 2, none⟩ (.int .i64 e)) r (s.fail e) := by
  obtain ⟨d, h0, h1, h2, h3⟩ := h
  refine ⟨⟨d, blk_set h0 2 _, ?_, h2, h3⟩, (Keep.refl _ (· = r) _).setCell (.inr rfl) _⟩
  rw [Below.heap_setCell _ _ _ _ (blk_ne h1 h0 (by decide))]; exact h1

theorem RdStep.refl {w : World} {r : Nat} {s : Rdr} (h : Rd w r s) : RdStep w w r s := ⟨h, Keep.refl _ _ _⟩
theorem RdStep.then {w w1 w2 : World} {r : Nat} {s s' : Rdr} (h : RdStep w w1 r s) (h' : RdStep w1 w2 r s') : RdStep w w2 r s' :=
  ⟨h'.1, h.2.step h'.2 h.2.size (fun _ _ h => h)⟩

theorem RdStep.drewN {w w1 : World} {r : Nat} {s : Rdr} (h : RdStep w w1 r s) (n : Nat) : RdStep w (w1.drewN n) r s := ⟨h.1, h.2.drewN n⟩
theorem RdStep.ofDrewN {w w1 : World} {r : Nat} {s : Rdr} {n : Nat} (h : RdStep (w.drewN n) w1 r s) : RdStep w w1 r s := ⟨h.1, ⟨h.2.os, h.2.tape, h.2.output, h.2.size, h.2.block⟩⟩

theorem rbyte_any (r : Nat) (s : Rdr) (w : World) (h : Rd w r s) :
    Calls Tryz.prog 26 #[.pointer (some ⟨r, 0, none⟩)] w fun e w' => e = .returned (.int .u8 (s.byte.1 : Int)) ∧ RdStep w w' r s.byte.2 := by
  obtain ⟨d, h0, h1, h2, h3⟩ := id h
  have c0 := blk_cell h0 0
  have c1 := blk_cell h0 1
  have c2 := blk_cell h0 2
  have f1 := blk_free h0 1
  have f2 := blk_free h0 2
  have hne := blk_ne h1 h0 (by decide)
  simp at c0 c1 c2
  by_cases he : s.err = 0
  · by_cases hlt : s.pos < s.xs.length
    · have hx := blk_cell h1 s.pos
      simp [cellsB, hlt] at hx
      have hb : s.byte = ((s.xs[s.pos]).toNat, { s with pos := s.pos + 1 }) := by simp [Rdr.byte, he, hlt]
      have HB := Lib.hid hb
      have HE := Lib.hid he
      generalize hg : s.xs[s.pos] = b at *
      have Hg := Lib.hid hg
      clear h0 h1 hb he hg
      have hlt' : (s.pos : Int) < (s.xs.length : Int) := by omega
      go_enter Tryz.func26, Tryz.ntmps26
      go_wp2_with (go_at_call 58; refine (stopped_no _ s _ h HE.out).mono ?_; rintro e w' ⟨rfl, rfl⟩)
      go_quiet (fail)
      go_wp2
      go_quiet (fail)
      go_wp2
      go_ret
      rw [HB.out]
      refine ⟨rfl, ?_⟩
      exact ((Rd.setPos (w := w.drewN _) h (s.pos + 1) (by omega)).ofDrewN).drewN _
    · have hb : s.byte = (0, s.fail 2) := by simp [Rdr.byte, he, List.getElem?_eq_none (Nat.le_of_not_lt hlt)]
      have HB := Lib.hid hb
      have HE := Lib.hid he
      have hp : s.pos = s.xs.length := by omega
      clear h0 h1 hb he h2 hlt
      have hge : (s.xs.length : Int) ≤ (s.pos : Int) := by omega
      have HP := Lib.hid hp
      clear hp
      go_enter Tryz.func26, Tryz.ntmps26
      go_wp2_with (go_at_call 58; refine (stopped_no _ s _ h HE.out).mono ?_; rintro e w' ⟨rfl, rfl⟩)
      go_quiet (fail)
      go_wp2
      go_ret
      rw [HB.out]
      exact ⟨rfl, (Rd.setErr (w := w.drewN _) h 2).ofDrewN⟩
  · have hb : s.byte = (0, s) := by simp [Rdr.byte, he]
    have HB := Lib.hid hb
    have HE := Lib.hid he
    clear h0 h1 hb he
    go_enter Tryz.func26, Tryz.ntmps26
    go_wp2_with (go_at_call 58; refine (stopped_yes _ s _ h HE.out).mono ?_; rintro e w' ⟨rfl, rfl⟩)
    go_ret
    rw [HB.out]
    exact ⟨rfl, RdStep.refl h⟩


set_option maxRecDepth 100000 in
set_option maxHeartbeats 4000000 in
theorem row_any (r : Nat) (s : Rdr) (most last : Nat) (hm : most = 9 ∧ last = 127 ∨ most = 10 ∧ last = 1) (w : World) (h : Rd w r s) (he : s.err = 0) :
    Calls Tryz.prog 59 #[.pointer (some ⟨r, 0, none⟩), .int .i64 most, .int .u8 last] w fun e w' => e = .returned (.int .u64 ((s.row most last).1 : Int)) ∧ RdStep w w' r (s.row most last).2 := by
  obtain ⟨d, h0, h1, h2, h3⟩ := id h
  have c0 := blk_cell h0 0
  have c1 := blk_cell h0 1
  have c2 := blk_cell h0 2
  have f1 := blk_free h0 1
  have f2 := blk_free h0 2
  have hne := blk_ne h1 h0 (by decide)
  simp at c0 c1 c2
  have HE := Lib.hid he
  have H1 := Lib.hid h1
  clear h0 h1 he
  go_enter Tryz.func59, Tryz.ntmps59
  go_wp2
  refine wp_scope_fwd 0 rfl ?_
  go_wp2_with (go_at_call 58; refine (stopped_no _ s _ h HE.out).mono ?_; rintro e w' ⟨rfl, rfl⟩)
  have hm' : most ≤ 10 := by omega
  have hgo0 : ∃ f, most = f ∧ Rdr.rowGo s.xs s.pos most last most 0 0 = Rdr.rowGo s.xs s.pos most last f 0 0 := ⟨most, rfl, rfl⟩
  have HM := Lib.hid hm
  clear hm
  go_loopw [7, 9] (fun u i wr => ∃ (k v f n : Nat), k + f = most ∧ Hid (Rdr.rowGo s.xs s.pos most last most 0 0 = Rdr.rowGo s.xs s.pos most last f k v) ∧ v < 128 ^ k ∧ k < most ∧ u = .int .u64 v ∧ i = .int .i64 k ∧ wr = w.drewN n)
    (fun _ i _ => most - (intOf i).toNat)
  case atStart => exact ⟨0, 0, most, 0, by omega, Lib.hid rfl, by simp, by have := HM.out; omega, rfl, rfl, rfl⟩
  case round =>
    obtain ⟨k, v, f, n, hkf, HG, hv, hk, rfl, rfl, rfl⟩ := hrel
    have hx0 := HM.out
    have HV := Lib.hid hv
    clear hv
    obtain ⟨f, rfl⟩ : ∃ g, f = g + 1 := ⟨f - 1, by omega⟩
    by_cases hlt : s.pos + k < s.xs.length
    · have hx := blk_cell H1.out (s.pos + k)
      simp [cellsB, hlt] at hx
      have hgx : s.xs[s.pos + k]? = some (s.xs[s.pos + k]) := List.getElem?_eq_getElem hlt
      generalize hb : s.xs[s.pos + k] = b at *
      have hlt' : (s.pos : Int) + (k : Int) < (s.xs.length : Int) := by omega
      have HGX := Lib.hid hgx
      have hb255 : b.toNat < 256 := b.toNat_lt
      clear hb hx0 hgx
      by_cases hA : k + 1 = most ∧ last < b.toNat
      · obtain ⟨hA1, hA2⟩ := hA
        have hres : s.row most last = (0, s.fail 15) := by
          simp only [Rdr.row, HE.out]
          rw [HG.out, Rdr.rowGo, HGX.out]; simp [hA1, hA2]
        have HR := Lib.hid hres
        have ht1 : ((k : Int) == (most : Int) - 1) = true := by simp; omega
        have ht2 : ((last : Int) < (b.toNat : Int)) := by omega
        clear hres hA1
        go_wp2
        go_quiet (fail)
        go_wp2
        go_quiet (fail)
        go_wp2
        go_step3
        refine ⟨rfl, ?_⟩
        go_wp2
        rw [Exit.noGoto_ret]
        go_ret
        rw [HR.out]
        exact ⟨rfl, (Rd.setErr (w := w.drewN _) h 15).ofDrewN⟩
      · have hk8 : k ≤ 8 ∨ k = 9 ∧ b.toNat % 128 ≤ 1 := by
          have := HM.out; omega
        obtain ⟨hbits, hv64⟩ := row_bits v k b HV.out hk8
        obtain ⟨v', hv'⟩ : ∃ v', v' = v + b.toNat % 128 * 128 ^ k := ⟨_, rfl⟩
        rw [← hv'] at hbits hv64
        have HV' := Lib.hid hv'
        have HV64 := Lib.hid hv64
        have hA2 : k + 1 = most → ¬ last < b.toNat := fun h1 h2 => hA ⟨h1, h2⟩
        have hgo : Rdr.rowGo s.xs s.pos most last (f + 1) k v = if b.toNat < 128 then (if 0 < k ∧ b.toNat = 0 then (3, 0, 0) else (0, v', k + 1)) else Rdr.rowGo s.xs s.pos most last f (k + 1) v' := by
          rw [Rdr.rowGo, HGX.out, hv']; simp [hA]
        have HGO := Lib.hid hgo
        have ht : ((k : Int) == (most : Int) - 1) = true ∧ ¬ ((last : Int) < (b.toNat : Int)) ∧ b.toNat < 128 ∨ ((k : Int) == (most : Int) - 1) = false ∧ (k + 1 < most) := by
          by_cases h1 : k + 1 = most
          · have := hA2 h1
            have := HM.out
            exact .inl ⟨by simp; omega, by omega, by omega⟩
          · exact .inr ⟨by simp; omega, by omega⟩
        clear hgo hv' hv64 hA hA2
        by_cases hB : b.toNat < 128
        · have ht2 : ((b.toNat : Int) < 128) := by omega
          by_cases hC : 0 < k ∧ b.toNat = 0
          · obtain ⟨hC1, hC2⟩ := hC
            have hres : s.row most last = (0, s.fail 3) := by
              simp only [Rdr.row, HE.out]
              rw [HG.out, HGO.out]; simp [hC1, hC2]
            have HR := Lib.hid hres
            have ht3 : ((b.toNat : Int) == 0) = true := by simp [hC2]
            have ht4 : (0 : Int) < (k : Int) := by omega
            clear hres hC2
            rcases ht with ⟨ht1, ht5, _⟩ | ⟨ht1, _⟩
            all_goals
              go_wp2
              go_quiet (fail)
              go_wp2
              go_quiet (fail)
              go_wp2
              go_step3
              refine ⟨rfl, ?_⟩
              go_wp2
              rw [Exit.noGoto_ret]
              go_ret
              rw [HR.out]
              exact ⟨rfl, (Rd.setErr (w := w.drewN _) h 3).ofDrewN⟩
          · have hres : s.row most last = (v', { s with pos := s.pos + (k + 1) }) := by
              simp only [Rdr.row, HE.out]
              rw [HG.out, HGO.out]; simp [hC, hB]
            have HR := Lib.hid hres
            have ht3 : (0 < k ∧ ((b.toNat : Int) == 0) = false) ∨ ¬ (0 < k) := by
              by_cases h : 0 < k
              · exact .inl ⟨h, by simp; omega⟩
              · exact .inr h
            clear hres hC
            rcases ht with ⟨ht1, ht5, _⟩ | ⟨ht1, _⟩ <;> rcases ht3 with ⟨ht4, ht6⟩ | ht4
            all_goals
              go_wp2
              go_quiet (fail)
              go_wp2
              go_quiet (fail)
              go_wp2
              rw [fwdTo_ret]
              go_ret
              rw [HR.out]
              exact ⟨rfl, (Rd.setPos (w := w.drewN _) h (s.pos + (k + 1)) (by omega)).ofDrewN⟩
        · rcases ht with ⟨_, _, h9⟩ | ⟨ht1, ht5⟩
          · exact absurd h9 hB
          · have ht2 : ¬ ((b.toNat : Int) < 128) := by omega
            have hv1 : v' < 128 ^ (k + 1) := by
              have h1 := HV.out
              have h2 : b.toNat % 128 < 128 := Nat.mod_lt _ (by decide)
              have h3 : (b.toNat % 128 + 1) * 128 ^ k ≤ 128 * 128 ^ k := Nat.mul_le_mul_right _ (by omega)
              rw [HV'.out, Nat.pow_succ, Nat.mul_comm (128 ^ k)]
              rw [Nat.add_mul, Nat.one_mul] at h3
              omega
            have HV1 := Lib.hid hv1
            have HN : Hid (Rdr.rowGo s.xs s.pos most last most 0 0 = Rdr.rowGo s.xs s.pos most last f (k + 1) v') := Lib.hid (by rw [HG.out, HGO.out, if_neg hB])
            clear hv1
            go_wp2
            go_quiet (fail)
            go_wp2
            go_quiet (fail)
            go_wp2
            go_roundw
            case rel => exact ⟨k + 1, v', f, _, by omega, HN, HV1.out, ht5, rfl, by go_num, rfl⟩
            case measure => simp [intOf]; omega
    · have hgx : s.xs[s.pos + k]? = none := List.getElem?_eq_none (by omega)
      have hres : s.row most last = (0, s.fail 2) := by
        simp only [Rdr.row, HE.out]
        rw [HG.out, Rdr.rowGo, hgx]; rfl
      have HR := Lib.hid hres
      have hlt' : (s.xs.length : Int) ≤ (s.pos : Int) + (k : Int) := by omega
      have hb10 : k ≤ 10 := by omega
      clear hres hgx hlt hx0
      go_wp2
      go_quiet (fail)
      go_wp2
      go_step3
      refine ⟨rfl, ?_⟩
      go_wp2
      rw [Exit.noGoto_ret]
      go_ret
      rw [HR.out]
      exact ⟨rfl, (Rd.setErr (w := w.drewN _) h 2).ofDrewN⟩

theorem row_all (r : Nat) (s : Rdr) (most last : Nat) (hm : most = 9 ∧ last = 127 ∨ most = 10 ∧ last = 1) (w : World) (h : Rd w r s) :
    Calls Tryz.prog 59 #[.pointer (some ⟨r, 0, none⟩), .int .i64 most, .int .u8 last] w fun e w' => e = .returned (.int .u64 ((s.row most last).1 : Int)) ∧ RdStep w w' r (s.row most last).2 := by
  by_cases he : s.err = 0
  · exact row_any r s most last hm w h he
  · have hb : s.row most last = (0, s) := by simp [Rdr.row, he]
    have HB := Lib.hid hb
    have HE := Lib.hid he
    clear hb he hm
    go_enter Tryz.func59, Tryz.ntmps59
    go_wp2
    refine wp_scope_fwd 0 rfl ?_
    go_wp2_with (go_at_call 58; refine (stopped_yes _ s _ h HE.out).mono ?_; rintro e w' ⟨rfl, rfl⟩)
    rw [fwdTo_ret]
    go_ret
    rw [HB.out]
    exact ⟨rfl, RdStep.refl h⟩

theorem rnumber_any (r : Nat) (s : Rdr) (w : World) (h : Rd w r s) :
    Calls Tryz.prog 28 #[.pointer (some ⟨r, 0, none⟩)] w fun e w' => e = .returned (.int .i64 s.number.1) ∧ RdStep w w' r s.number.2 := by
  have hl := row9_lt s
  have hn : s.number = (((s.row 9 127).1 : Int), (s.row 9 127).2) := rfl
  have HN := Lib.hid hn
  generalize hu : (s.row 9 127).1 = u at *
  have HU := Lib.hid hu
  clear hn hu
  go_enter Tryz.func28, Tryz.ntmps28
  go_wp2_with (go_at_call 59; refine (row_all _ s 9 127 (.inl ⟨rfl, rfl⟩) _ h).mono ?_; rw [HU.out]; rintro e w1 ⟨rfl, hS⟩)
  go_ret
  rw [HN.out]
  exact ⟨rfl, hS⟩

theorem rint_any (r : Nat) (s : Rdr) (w : World) (h : Rd w r s) :
    Calls Tryz.prog 121 #[.pointer (some ⟨r, 0, none⟩)] w fun e w' => e = .returned (.int .i64 s.int.1) ∧ RdStep w w' r s.int.2 := by
  have hl := row10_lt s
  have hn : s.int = (zag (s.row 10 1).1, (s.row 10 1).2) := rfl
  have HN := Lib.hid hn
  generalize hu : (s.row 10 1).1 = u at *
  have HU := Lib.hid hu
  clear hn hu
  go_enter Tryz.func121, Tryz.ntmps121
  go_wp2_with (go_at_call 59; refine (row_all _ s 10 1 (.inr ⟨rfl, rfl⟩) _ h).mono ?_; rw [HU.out]; rintro e w1 ⟨rfl, hS⟩)
  go_ret
  rw [HN.out, zag_bits u hl]
  exact ⟨rfl, hS⟩

theorem rerr_any (r : Nat) (s : Rdr) (w : World) (h : Rd w r s) :
    Calls Tryz.prog 60 #[.pointer (some ⟨r, 0, none⟩)] w fun e w' => e = .returned (.tuple #[.int .i64 s.err, .int .i64 s.errAt]) ∧ RdStep w w' r s := by
  obtain ⟨d, h0, h1, h2, h3⟩ := id h
  have c1 := blk_cell h0 1
  have c2 := blk_cell h0 2
  simp at c1 c2
  clear h0 h1
  by_cases he : s.err = 0
  · have ht : (s.err == 0) = true := by simp [he]
    have HA : Hid (s.errAt = 0) := Lib.hid (by simp [Rdr.errAt, he])
    have HE := Lib.hid he
    clear he
    go_enter Tryz.func60, Tryz.ntmps60
    go_wp2
    go_ret2
    rw [HA.out]
    first | exact ⟨rfl, RdStep.refl h⟩ | rw [HE.out]
    exact ⟨rfl, RdStep.refl h⟩
  · have ht : (s.err == 0) = false := by simp [he]
    have HA : Hid (s.errAt = s.pos) := Lib.hid (by simp [Rdr.errAt, he])
    clear he
    go_enter Tryz.func60, Tryz.ntmps60
    go_wp2
    go_quiet (fail)
    go_wp2
    go_ret2
    rw [HA.out]
    exact ⟨rfl, (RdStep.refl h).drewN _⟩

theorem rleft_any (r : Nat) (s : Rdr) (w : World) (h : Rd w r s) :
    Calls Tryz.prog 61 #[.pointer (some ⟨r, 0, none⟩)] w fun e w' => e = .returned (.int .i64 ((s.xs.length : Int) - (s.pos : Int))) ∧ RdStep w w' r s := by
  obtain ⟨d, h0, h1, h2, h3⟩ := id h
  have c0 := blk_cell h0 0
  have c1 := blk_cell h0 1
  simp at c0 c1
  clear h0 h1
  go_enter Tryz.func61, Tryz.ntmps61
  go_wp2
  go_quiet (fail)
  go_wp2
  go_ret
  exact ⟨rfl, (RdStep.refl h).drewN _⟩

theorem rend_any (r : Nat) (s : Rdr) (w : World) (h : Rd w r s) :
    Calls Tryz.prog 29 #[.pointer (some ⟨r, 0, none⟩)] w fun e w' => e = .returned (.int .i64 s.end_) ∧ RdStep w w' r s := by
  by_cases he : s.err = 0
  · by_cases hp : s.pos < s.xs.length
    · have ht : (s.err == 0) = true := by simp [he]
      have ht2 : (0 : Int) < (s.xs.length : Int) - (s.pos : Int) := by omega
      have hr : s.end_ = 3 := by simp [Rdr.end_, he, hp]
      have HE := Lib.hid he
      have HR := Lib.hid hr
      clear he hr hp
      go_enter Tryz.func29, Tryz.ntmps29
      go_wp2_with (first
        | (go_at_call 60; refine (rerr_any r s _ h).mono ?_; rintro e w1 ⟨rfl, hS⟩)
        | (go_at_call 61; refine (rleft_any r s _ hS.1).mono ?_; rintro e w2 ⟨rfl, hS2⟩))
      go_ret
      rw [HR.out]
      exact ⟨rfl, hS.then hS2⟩
    · have ht : (s.err == 0) = true := by simp [he]
      have ht2 : ¬ (0 : Int) < (s.xs.length : Int) - (s.pos : Int) := by omega
      have hr : s.end_ = s.err := by simp [Rdr.end_, hp]
      have HE := Lib.hid he
      have HR := Lib.hid hr
      clear he hr hp
      go_enter Tryz.func29, Tryz.ntmps29
      go_wp2_with (first
        | (go_at_call 60; refine (rerr_any r s _ h).mono ?_; rintro e w1 ⟨rfl, hS⟩)
        | (go_at_call 61; refine (rleft_any r s _ hS.1).mono ?_; rintro e w2 ⟨rfl, hS2⟩))
      go_ret
      rw [HR.out]
      exact ⟨rfl, hS.then hS2⟩
  · have ht : (s.err == 0) = false := by simp [he]
    have hr : s.end_ = s.err := by simp [Rdr.end_, he]
    have HE := Lib.hid he
    have HR := Lib.hid hr
    clear he hr
    go_enter Tryz.func29, Tryz.ntmps29
    go_wp2_with (go_at_call 60; refine (rerr_any r s _ h).mono ?_; rintro e w1 ⟨rfl, hS⟩)
    go_ret
    rw [HR.out]
    exact ⟨rfl, hS⟩
end Go.Proofs.YtnieminnnkbneaaGreat
