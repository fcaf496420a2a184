/- Walks of treadleref1's reader, which goes by value. -/
import Derived.Test.YtnmcdifkknphgaaOctT
import Derived.RegionTactic
import Derived.ChangeAlike
namespace Go.Proofs.Ytnmcdifkknphgaa
open Go.RowKit

/-- A reader's value. -/
def rvC (A : Option Addr) (n c : Nat) (pos err st : Int) : Array Value := #[.slice A n c, .int .i64 pos, .int .i64 err, .int .i64 st]

/-- A value and a reader are answered. -/
def RTk (A : Option Addr) (n c : Nat) (v : Value) (s : Rdr) (w : World) (e : Ending) (w' : World) : Prop :=
  ∃ st, e = .returned (.tuple #[v, .agg (rvC A n c s.pos s.err st)]) ∧ Below w.heap.size w w'

theorem Loc.four {w : World} {b : Nat} {v0 v1 v2 v3 : Value} {t : TypeId} (h : Loc w b #[v0, v1, v2, v3] t) :
    w.cell? ⟨b, 0, none⟩ = some v0 ∧ w.cell? ⟨b, 1, none⟩ = some v1 ∧ w.cell? ⟨b, 2, none⟩ = some v2 ∧ w.cell? ⟨b, 3, none⟩ = some v3 ∧
      w.frozen? ⟨b, 0, none⟩ = false ∧ w.frozen? ⟨b, 1, none⟩ = false ∧ w.frozen? ⟨b, 2, none⟩ = false ∧ w.frozen? ⟨b, 3, none⟩ = false :=
  ⟨h.cell 0, h.cell 1, h.cell 2, h.cell 3, h.free 0, h.free 1, h.free 2, h.free 3⟩

/-- A world in which four cells were stored. -/
def put4 (w : World) (b : Nat) (u0 u1 u2 u3 : Value) : World := (((w.setCell ⟨b, 0, none⟩ u0).setCell ⟨b, 1, none⟩ u1).setCell ⟨b, 2, none⟩ u2).setCell ⟨b, 3, none⟩ u3

theorem Loc.put4 {w0 w : World} {b : Nat} {v0 v1 v2 v3 : Value} {t : TypeId} (h : Loc w b #[v0, v1, v2, v3] t) (hb : Below w0.heap.size w0 w) (hw : w0.heap.size ≤ b) (u0 u1 u2 u3 : Value) :
    (put4 w b u0 u1 u2 u3).cell? ⟨b, 0, none⟩ = some u0 ∧ (put4 w b u0 u1 u2 u3).cell? ⟨b, 1, none⟩ = some u1 ∧ (put4 w b u0 u1 u2 u3).cell? ⟨b, 2, none⟩ = some u2 ∧ (put4 w b u0 u1 u2 u3).cell? ⟨b, 3, none⟩ = some u3 ∧
      Loc (put4 w b u0 u1 u2 u3) b #[u0, u1, u2, u3] t ∧ Below w0.heap.size w0 (put4 w b u0 u1 u2 u3) := by
  have g := (((h.set 0 u0).set 1 u1).set 2 u2).set 3 u3
  have g' : Loc (Go.Proofs.Ytnmcdifkknphgaa.put4 w b u0 u1 u2 u3) b #[u0, u1, u2, u3] t := g
  exact ⟨g'.cell 0, g'.cell 1, g'.cell 2, g'.cell 3, g', (((hb.setCell (p := ⟨b, 0, none⟩) hw _).setCell (p := ⟨b, 1, none⟩) hw _).setCell (p := ⟨b, 2, none⟩) hw _).setCell (p := ⟨b, 3, none⟩) hw _⟩

set_option maxRecDepth 100000 in
theorem rends_any (A : Option Addr) (n c : Nat) (p r st e0 : Int) (w : World) :
    Calls Try.prog 72 #[.agg (rvC A n c p r st), .int .i64 e0] w fun e w' => e = .returned (.agg (rvC A n c p e0 p)) ∧ Below w.heap.size w w' := by
  unfold rvC
  go_enter Try.func72, Try.ntmps72
  go_wp2
  refine bodyPost_ret (v := .agg #[.slice A n c, .int .i64 p, .int .i64 e0, .int .i64 p]) (by simp [results, Try.results72, go_sem]) rfl ⟨rfl, ?_⟩
  exact ((Below.refl _ _).alloc (Nat.le_refl _) _).alloc (by simp) _

set_option maxRecDepth 100000 in
set_option maxHeartbeats 1000000 in
theorem rtbyte_any (A : Option Addr) (c : Nat) (s : Rdr) (st : Int) (w : World) (hr : Row w A (cellsB s.xs)) (hp : s.pos ≤ s.xs.length) (hl : s.xs.length ≤ 140737488355328) :
    Calls Try.prog 73 #[.agg (rvC A s.xs.length c s.pos s.err st)] w (RTk A s.xs.length c (.int .u8 (s.byte.1 : Int)) s.byte.2 w) := by
  obtain ⟨N, hN⟩ : ∃ N, N = s.xs.length := ⟨_, rfl⟩
  by_cases he : s.err = 0
  · by_cases hlt : s.pos < s.xs.length
    · obtain ⟨b, off, rfl, hbl, hc⟩ := hr.at (by rw [cellsB_length]; omega)
      have hx := hc s.pos (by rw [cellsB_length]; omega)
      simp [cellsB, hlt] at hx
      have hb : s.byte = ((s.xs[s.pos]).toNat, { s with pos := s.pos + 1 }) := by simp [Rdr.byte, he, hlt]
      have hlt' : (s.pos : Int) < (N : Int) := by omega
      rw [hb]
      obtain ⟨xs, pos, err⟩ := s
      simp only at *
      subst he
      generalize hg : xs[pos] = v at *
      rw [← hN] at hp hl ⊢
      clear hc hb hg hlt hN hr
      unfold rvC
      go_enter Try.func73, Try.ntmps73
      go_wp2
      go_region
      all_goals
        go_wp2
        refine bodyPost_ret (v := .tuple #[.int .u8 v.toNat, .agg #[.slice (some ⟨b, off, none⟩) N c, .int .i64 (pos + 1), .int .i64 0, .int .i64 st]]) (by simp [results, Try.results73, go_sem]) rfl ⟨st, rfl, ?_⟩
        exact (((Below.refl _ _).alloc (Nat.le_refl _) _).alloc (by simp) _).drew
    · have hb : s.byte = (0, s.fail 2) := by simp [Rdr.byte, he, List.getElem?_eq_none (Nat.le_of_not_lt hlt)]
      rw [hb]
      obtain ⟨xs, pos, err⟩ := s
      simp only at *
      subst he
      rw [← hN] at hlt hp hl ⊢
      have hge : (N : Int) ≤ (pos : Int) := by omega
      clear hb hN hr hlt
      have hends := fun W => rends_any A N c pos 0 st 2 W
      unfold rvC at hends ⊢
      unfold Rdr.fail
      go_enter Try.func73, Try.ntmps73
      have Z1 := Loc.new (w.alloc (.cells #[.slice A N c, .int .i64 pos, .int .i64 0, .int .i64 st] 95)) #[.slice none 0 0, .int .i64 0, .int .i64 0, .int .i64 0] 95
      have b1 := ((Below.refl w.heap.size w).alloc (Nat.le_refl _) (.cells #[.slice A N c, .int .i64 pos, .int .i64 0, .int .i64 st] 95)).alloc (by simp) (.cells #[.slice none 0 0, .int .i64 0, .int .i64 0, .int .i64 0] 95)
      simp only [World.size_alloc] at Z1
      go_wp2_with fail
      refine (hends _).mono ?_; rintro e w1 ⟨rfl, hb⟩
      have Z2 := Z1.below hb Z1.lt
      obtain ⟨z0, z1, z2, z3, f0, f1, f2, f3⟩ := Z2.four
      have b2 := below_then b1 hb b1.size
      clear hb Z1 b1 hends
      go_wp2
      obtain ⟨e0, e1, e2, e3, _, be⟩ := Z2.put4 b2 (Nat.le_succ _) (.slice A N c) (.int .i64 pos) (.int .i64 2) (.int .i64 pos)
      refine bodyPost_ret (v := .tuple #[.int .u8 0, .agg #[.slice A N c, .int .i64 pos, .int .i64 2, .int .i64 pos]]) (by unfold put4 at e0 e1 e2 e3; simp [results, Try.results73, go_sem, e0, e1, e2, e3]) rfl ⟨pos, rfl, be⟩
  · have hb : s.byte = (0, s) := by simp [Rdr.byte, he]
    rw [hb]
    obtain ⟨xs, pos, err⟩ := s
    simp only at *
    rw [← hN] at hp hl ⊢
    have he' : (err != 0) = true := by simpa using he
    clear hb hN hr he
    unfold rvC
    go_enter Try.func73, Try.ntmps73
    go_wp2
    go_region
    all_goals
      go_wp2
      refine bodyPost_ret (v := .tuple #[.int .u8 0, .agg #[.slice A N c, .int .i64 pos, .int .i64 err, .int .i64 st]]) (by simp [results, Try.results73, go_sem]) rfl ⟨st, rfl, ?_⟩
      exact (((Below.refl _ _).alloc (Nat.le_refl _) _).alloc (by simp) _).drew
/-- 128 to the power q, closed to the walk. -/
def p128 (q : Nat) : Nat := 128 ^ q
theorem p128_zero : p128 0 = 1 := rfl
theorem p128_succ (q : Nat) : p128 (q + 1) = p128 q * 128 := Nat.pow_succ ..
theorem p128_le {q k : Nat} (h : q ≤ k) : p128 q ≤ p128 k := Nat.pow_le_pow_right (by decide) h
theorem p128_8 : p128 8 = 72057594037927936 := by decide +kernel
theorem p128_9 : p128 9 = 9223372036854775808 := by decide +kernel

/-- What row answers: value, place, error. -/
def RRow (s : Rdr) (most last : Nat) (w : World) (e : Ending) (w' : World) : Prop :=
  ∃ (v : Nat) (a r : Int), e = .returned (.tuple #[.int .u64 (v : Int), .int .i64 a, .int .i64 r]) ∧ Below w.heap.size w w' ∧
    ∃ n, Rdr.rowGo s.xs s.pos most last most 0 0 = (r, v, n) ∧ a = if r = 0 then ((s.pos + n : Nat) : Int) else 0

theorem row_mul (v k : Nat) (b : UInt8) (hv : v < 128 ^ k) (hk : k ≤ 8 ∨ k = 9 ∧ b.toNat % 128 ≤ 1) :
    IntKind.u64.wrap ((b.toNat : Int) % 128 * (p128 k : Int)) = ((b.toNat % 128 * p128 k : Nat) : Int) ∧ IntKind.u64.wrap ((v : Int) + ((b.toNat % 128 * p128 k : Nat) : Int)) = ((v + b.toNat % 128 * 128 ^ k : Nat) : Int) ∧ v + b.toNat % 128 * 128 ^ k < 18446744073709551616 := by
  have h1 : b.toNat % 128 ≤ 127 := by omega
  have h2 : v + b.toNat % 128 * 128 ^ k < 18446744073709551616 := by
    rcases hk with hk | ⟨rfl, hb⟩
    · have h3 : 128 ^ k ≤ 128 ^ 8 := Nat.pow_le_pow_right (by decide) hk
      have h4 : b.toNat % 128 * 128 ^ k ≤ 127 * 128 ^ k := Nat.mul_le_mul_right _ h1
      omega
    · have h4 : b.toNat % 128 * 128 ^ 9 ≤ 1 * 128 ^ 9 := Nat.mul_le_mul_right _ hb
      omega
  have h3 : ((b.toNat : Int) % 128 * (p128 k : Int)) = ((b.toNat % 128 * p128 k : Nat) : Int) := by simp
  have h4 : b.toNat % 128 * p128 k = b.toNat % 128 * 128 ^ k := rfl
  have h5 : ((v : Int) + ((b.toNat % 128 * p128 k : Nat) : Int)) = ((v + b.toNat % 128 * 128 ^ k : Nat) : Int) := by rw [h4]; simp
  refine ⟨?_, ?_, h2⟩
  · rw [h3]; exact wrapU _ (by omega)
  · rw [h5]; exact wrapU _ h2

set_option maxRecDepth 100000 in
set_option maxHeartbeats 4000000 in
theorem rrow_any (A : Option Addr) (c : Nat) (s : Rdr) (st : Int) (most last : Nat) (hm : most = 9 ∧ last = 127 ∨ most = 10 ∧ last = 1) (w : World) (hr : Row w A (cellsB s.xs)) (hp : s.pos ≤ s.xs.length) (hl : s.xs.length ≤ 140737488355328) (hz : A = none → s.xs.length = 0) :
    Calls Try.prog 71 #[.agg (rvC A s.xs.length c s.pos 0 st), .int .i64 most, .int .u8 last] w (RRow s most last w) := by
  obtain ⟨xs, pos, err⟩ := s
  unfold RRow
  simp only at *
  obtain ⟨N, hN⟩ : ∃ N, N = xs.length := ⟨_, rfl⟩
  rw [← hN] at hl hp ⊢
  have HN := Lib.hid hN
  have HR := Lib.hid hr
  have HZ := Lib.hid hz
  have HM := Lib.hid hm
  have hm' : most ≤ 10 := by omega
  have hm9 : 9 ≤ most := by omega
  clear hN hr hz hm
  unfold rvC
  have L0 := Loc.new w #[.slice A N c, .int .i64 pos, .int .i64 0, .int .i64 st] 95
  have b0 := (Below.refl w.heap.size w).alloc (Nat.le_refl _) (.cells #[.slice A N c, .int .i64 pos, .int .i64 0, .int .i64 st] 95)
  go_enter Try.func71, Try.ntmps71
  go_wp2
  obtain ⟨w0, hw0⟩ : ∃ w0, w0 = w.alloc (.cells #[.slice A N c, .int .i64 pos, .int .i64 0, .int .i64 st] 95) := ⟨_, rfl⟩
  rw [← hw0] at L0 b0 ⊢
  clear hw0
  obtain ⟨z0, z1, z2, z3, _⟩ := L0.four
  go_loopw [9, 10] (fun u i wr => ∃ (k v f : Nat), k + f = most ∧ Hid (Rdr.rowGo xs pos most last most 0 0 = Rdr.rowGo xs pos most last f k v) ∧ v < 128 ^ k ∧ k < most ∧ u = .int .u64 v ∧ i = .int .i64 k ∧ wr = w0)
    (fun _ i _ => most - (intOf i).toNat)
  case atStart => exact ⟨0, 0, most, by omega, Lib.hid rfl, by simp, by omega, rfl, rfl, rfl⟩
  case round =>
    obtain ⟨k, v, f, hkf, HG, hv, hk, rfl, rfl, rfl⟩ := hrel
    have HV := Lib.hid hv
    clear hv
    obtain ⟨f, rfl⟩ : ∃ g, f = g + 1 := ⟨f - 1, by omega⟩
    by_cases hlt : pos + k < N
    · have hlx : pos + k < xs.length := by rw [← HN.out]; exact hlt
      obtain ⟨b, off, hA, hbl, hc⟩ := HR.out.at (by rw [cellsB_length]; omega)
      have hx := hc (pos + k) (by rw [cellsB_length]; omega)
      simp [cellsB, hlx] at hx
      have hgx : xs[pos + k]? = some (xs[pos + k]) := List.getElem?_eq_getElem hlx
      have hx := (b0.cell (p := ⟨b, off + (pos + k), none⟩) hbl).trans hx
      generalize hb : xs[pos + k] = b at *
      have hlt' : (pos : Int) + (k : Int) < (N : Int) := by omega
      have HGX := Lib.hid hgx
      have hb255 : b.toNat < 256 := b.toNat_lt
      subst hA
      clear hb hgx hc
      by_cases hA : k + 1 = most ∧ last < b.toNat
      · obtain ⟨hA1, hA2⟩ := hA
        have hres : Rdr.rowGo xs pos most last (f + 1) k v = (15, 0, 0) := by rw [Rdr.rowGo, HGX.out]; simp [hA1, hA2]
        have HS := Lib.hid hres
        have ht1 : ((k : Int) == (most : Int) - 1) = true := by simp; omega
        have ht2 : ((last : Int) < (b.toNat : Int)) := by omega
        clear hres hA1
        go_wp2
        go_ret3
        refine ⟨_, _, _, rfl, b0, 0, HG.out.trans HS.out, ?_⟩
        simp
      · have hk8 : k ≤ 8 ∨ k = 9 ∧ b.toNat % 128 ≤ 1 := by
          have := HM.out; omega
        obtain ⟨hw1, hw2, hv64⟩ := row_mul v k b HV.out hk8
        obtain ⟨m, hm⟩ : ∃ m, m = b.toNat % 128 * p128 k := ⟨_, rfl⟩
        obtain ⟨v', hv'⟩ : ∃ v', v' = v + b.toNat % 128 * 128 ^ k := ⟨_, rfl⟩
        rw [← hm] at hw1 hw2
        rw [← hv'] at hw2 hv64
        have HV' := Lib.hid hv'
        have HV64 := Lib.hid hv64
        have hA2 : k + 1 = most → ¬ last < b.toNat := fun h1 h2 => hA ⟨h1, h2⟩
        have hgo : Rdr.rowGo xs pos most last (f + 1) k v = if b.toNat < 128 then (if 0 < k ∧ b.toNat = 0 then (3, 0, 0) else (0, v', k + 1)) else Rdr.rowGo xs pos most last f (k + 1) v' := by
          rw [Rdr.rowGo, HGX.out, hv']; simp [hA]
        have HGO := Lib.hid hgo
        have ht : ((k : Int) == (most : Int) - 1) = true ∧ ¬ ((last : Int) < (b.toNat : Int)) ∧ b.toNat < 128 ∨ ((k : Int) == (most : Int) - 1) = false ∧ (k + 1 < most) := by
          by_cases h1 : k + 1 = most
          · have := hA2 h1
            have := HM.out
            exact .inl ⟨by simp; omega, by omega, by omega⟩
          · exact .inr ⟨by simp; omega, by omega⟩
        clear hgo hv' hv64 hA hA2 hm
        have h8 := p128_8
        have hpk : ∀ j, j < k → (p128 j : Int) ≤ 72057594037927936 := fun j hj => by
          have := p128_le (q := j) (k := 8) (by omega)
          omega
        have HPK := Lib.hid hpk
        clear h8 hpk
        rcases ht with ⟨ht1, ht5, hBB⟩ | ⟨ht1, ht5⟩
        all_goals
          go_wp2
          go_loop [12, 13] (fun t q => ∃ j : Nat, j ≤ k ∧ t = .int .u64 (p128 j) ∧ q = .int .i64 j) (fun _ q => k - (intOf q).toNat)
          case atStart => exact ⟨0, Nat.zero_le _, by rw [p128_zero]; rfl, rfl⟩
          case round =>
            obtain ⟨j, hj, rfl, rfl⟩ := hrel
            by_cases hjk : j < k
            · have hb7 := HPK.out j hjk
              have hjk' : (j : Int) < (k : Int) := by omega
              go_wp2
              go_round
              case rel => exact ⟨j + 1, by omega, by rw [p128_succ]; go_num, by go_num⟩
              case measure => simp [intOf]; omega
            · obtain rfl : j = k := by omega
              by_cases hB : b.toNat < 128
              · have ht2 : ((b.toNat : Int) < 128) := by omega
                by_cases hC : 0 < j ∧ b.toNat = 0
                · obtain ⟨hC1, hC2⟩ := hC
                  have hres : Rdr.rowGo xs pos most last most 0 0 = (3, 0, 0) := by
                    rw [HG.out, HGO.out]; simp [hC1, hC2]
                  have HS := Lib.hid hres
                  have ht3 : ((b.toNat : Int) == 0) = true := by simp [hC2]
                  have ht4 : (0 : Int) < (j : Int) := by omega
                  clear hres hC2
                  go_wp2
                  go_ret3
                  exact ⟨_, _, _, rfl, b0, 0, HS.out, by simp⟩
                · have hres : Rdr.rowGo xs pos most last most 0 0 = (0, v', j + 1) := by
                    rw [HG.out, HGO.out]; simp [hC, hB]
                  have HS := Lib.hid hres
                  have ht3 : (0 < j ∧ ((b.toNat : Int) == 0) = false) ∨ ¬ (0 < j) := by
                    by_cases h : 0 < j
                    · exact .inl ⟨h, by simp; omega⟩
                    · exact .inr h
                  clear hres hC
                  rcases ht3 with ⟨ht4, ht6⟩ | ht4
                  all_goals
                    go_wp2
                    go_quiet (fail)
                    go_wp2
                    go_ret3
                    refine ⟨_, _, _, rfl, below_drewN b0 _, j + 1, HS.out, ?_⟩
                    simp; omega
              · first
                  | exact absurd hBB hB
                  | (have ht2 : ¬ ((b.toNat : Int) < 128) := by omega
                     have hv1 : v' < 128 ^ (j + 1) := by
                       have h1 := HV.out
                       have h2 : b.toNat % 128 < 128 := Nat.mod_lt _ (by decide)
                       have h3 : (b.toNat % 128 + 1) * 128 ^ j ≤ 128 * 128 ^ j := Nat.mul_le_mul_right _ (by omega)
                       rw [HV'.out, Nat.pow_succ, Nat.mul_comm (128 ^ j)]
                       rw [Nat.add_mul, Nat.one_mul] at h3
                       omega
                     have HV1 := Lib.hid hv1
                     have HN : Hid (Rdr.rowGo xs pos most last most 0 0 = Rdr.rowGo xs pos most last f (j + 1) v') := Lib.hid (by rw [HG.out, HGO.out, if_neg hB])
                     clear hv1
                     go_wp2
                     go_roundw
                     case rel => exact ⟨j + 1, v', f, by omega, HN, HV1.out, ht5, rfl, by go_num, by trivial⟩
                     case measure => simp [intOf]; omega)
    · have hgx : xs[pos + k]? = none := List.getElem?_eq_none (by have := HN.out; omega)
      have hres : Rdr.rowGo xs pos most last (f + 1) k v = (2, 0, 0) := by rw [Rdr.rowGo, hgx]
      have HS := Lib.hid hres
      have hlt' : (N : Int) ≤ (pos : Int) + (k : Int) := by omega
      clear hgx hlt hres
      go_wp2
      go_ret3
      refine ⟨_, _, _, rfl, b0, 0, HG.out.trans HS.out, ?_⟩
      simp
theorem below_four {w w1 : World} {t : TypeId} {v0 v1 v2 v3 : Value} (hb : Below ((w.alloc (.cells #[v0, v1, v2, v3] t)).alloc (.cells #[.slice none 0 0, .int .i64 0, .int .i64 0, .int .i64 0] t)).heap.size ((w.alloc (.cells #[v0, v1, v2, v3] t)).alloc (.cells #[.slice none 0 0, .int .i64 0, .int .i64 0, .int .i64 0] t)) w1) :
    Loc w1 w.heap.size #[v0, v1, v2, v3] t ∧ Loc w1 (w.heap.size + 1) #[.slice none 0 0, .int .i64 0, .int .i64 0, .int .i64 0] t ∧ Below w.heap.size w w1 := by
  have L1 := (Loc.new w #[v0, v1, v2, v3] t).alloc (.cells #[.slice none 0 0, .int .i64 0, .int .i64 0, .int .i64 0] t)
  have Z1 := Loc.new (w.alloc (.cells #[v0, v1, v2, v3] t)) #[.slice none 0 0, .int .i64 0, .int .i64 0, .int .i64 0] t
  simp only [World.size_alloc] at Z1
  exact ⟨L1.below hb L1.lt, Z1.below hb Z1.lt, below_then (((Below.refl w.heap.size w).alloc (Nat.le_refl _) _).alloc (by simp) _) hb (by simp; omega)⟩

theorem rownum {s : Rdr} (he : s.err = 0) {most last v n : Nat} {r : Int} (h : Rdr.rowGo s.xs s.pos most last most 0 0 = (r, v, n)) :
    s.row most last = if r = 0 then (v, { s with pos := s.pos + n }) else (0, s.fail r) := by
  unfold Rdr.row
  rw [if_neg (by simpa using he), h]

set_option maxRecDepth 100000 in
set_option maxHeartbeats 2000000 in
theorem rtnumber_any (A : Option Addr) (c : Nat) (s : Rdr) (st : Int) (w : World) (hr : Row w A (cellsB s.xs)) (hp : s.pos ≤ s.xs.length) (hl : s.xs.length ≤ 140737488355328) (hz : A = none → s.xs.length = 0) :
    Calls Try.prog 41 #[.agg (rvC A s.xs.length c s.pos s.err st)] w (RTk A s.xs.length c (.int .i64 s.number.1) s.number.2 w) := by
  by_cases he : s.err = 0
  · have hrow := fun W (h : Below w.heap.size w W) => rrow_any A c s st 9 127 (.inl ⟨rfl, rfl⟩) W (hr.of_below h (Nat.le_refl _)) hp hl hz
    have hend := fun e0 W => rends_any A s.xs.length c s.pos 0 st e0 W
    have hlt := row9_lt s
    have hnum : s.number = (((s.row 9 127).1 : Int), (s.row 9 127).2) := rfl
    have hro := fun (v n : Nat) (r : Int) h => rownum he (most := 9) (last := 127) (v := v) (n := n) (r := r) h
    obtain ⟨xs, pos, err⟩ := s
    simp only at he hp hl hz hrow hend
    subst he
    obtain ⟨q, hq⟩ : ∃ q, q = (⟨xs, pos, 0⟩ : Rdr).row 9 127 := ⟨_, rfl⟩
    rw [← hq] at hlt hnum hro
    rw [hnum]
    obtain ⟨N, hN⟩ : ∃ N, N = xs.length := ⟨_, rfl⟩
    rw [← hN] at hrow hend ⊢
    have HROW := Lib.hid hrow
    have HEND := Lib.hid hend
    have HRO := Lib.hid hro
    clear hr hrow hend hro hnum hq hN hz
    unfold rvC at *
    go_enter Try.func41, Try.ntmps41
    go_wp2_with fail
    refine (HROW.out _ (((Below.refl _ _).alloc (Nat.le_refl _) _).alloc (by simp) _)).mono ?_; rintro e w1 ⟨v, a, r, rfl, hb, n, hgo, ha⟩
    obtain ⟨L1, Z1, b1⟩ := below_four hb
    have hq := HRO.out v n r hgo
    clear hb hgo HRO
    obtain ⟨l0, l1, l2, l3, lf0, lf1, _⟩ := L1.four
    by_cases h0 : r = 0
    · subst h0
      rw [if_pos rfl] at ha hq
      subst hq
      subst ha
      have hv : (v : Int) < 9223372036854775808 := by simp only at hlt; omega
      have Z2 := Z1.other (a := ⟨w.heap.size, 1, none⟩) (by show w.heap.size + 1 ≠ w.heap.size; omega) (.int .i64 ((pos : Int) + (n : Int)))
      have b2 := b1.setCell (p := ⟨w.heap.size, 1, none⟩) (Nat.le_refl _) (.int .i64 ((pos : Int) + (n : Int)))
      obtain ⟨z0, z1, z2, z3, f0, f1, f2, f3⟩ := Z1.four
      obtain ⟨e0, e1, e2, e3, _, be⟩ := Z2.put4 b2 (Nat.le_succ _) (.slice A N c) (.int .i64 ((pos : Int) + (n : Int))) (.int .i64 0) (.int .i64 st)
      have HE := Lib.hid (And.intro e0 (And.intro e1 (And.intro e2 e3)))
      clear HROW HEND e0 e1 e2 e3 L1 Z1 Z2 b1 b2
      go_wp2
      go_region
      all_goals
        go_wp2
        obtain ⟨e0, e1, e2, e3⟩ := HE.out
        unfold put4 at e0 e1 e2 e3
        refine bodyPost_ret (v := .tuple #[.int .i64 v, .agg #[.slice A N c, .int .i64 (pos + n), .int .i64 0, .int .i64 st]]) (by simp [results, Try.results41, go_sem, e0, e1, e2, e3]) rfl ⟨st, by simp [rvC], be.drew⟩
    · have hr' : (r != 0) = true := by simpa using h0
      rw [if_neg h0] at ha hq
      subst hq
      have HR0 := Lib.hid h0
      clear ha HROW h0
      go_wp2_with fail
      refine (HEND.out r _).mono ?_; rintro e w2 ⟨rfl, hb2⟩
      have Z2 := Z1.below hb2 Z1.lt
      have b2 := below_then b1 hb2 b1.size
      obtain ⟨z0, z1, z2, z3, f0, f1, f2, f3⟩ := Z2.four
      obtain ⟨e0, e1, e2, e3, _, be⟩ := Z2.put4 b2 (Nat.le_succ _) (.slice A N c) (.int .i64 pos) (.int .i64 r) (.int .i64 pos)
      have HE := Lib.hid (And.intro e0 (And.intro e1 (And.intro e2 e3)))
      clear HEND e0 e1 e2 e3 L1 Z1 Z2 b1 b2 hb2
      go_wp2
      obtain ⟨e0, e1, e2, e3⟩ := HE.out
      unfold put4 at e0 e1 e2 e3
      refine bodyPost_ret (v := .tuple #[.int .i64 0, .agg #[.slice A N c, .int .i64 pos, .int .i64 r, .int .i64 pos]]) (by simp [results, Try.results41, go_sem, e0, e1, e2, e3]) rfl ⟨pos, by simp [rvC, Rdr.fail], be⟩
  · have hb : s.number = (0, s) := by simp [Rdr.number, Rdr.row, he]
    rw [hb]
    obtain ⟨N, hN⟩ : ∃ N, N = s.xs.length := ⟨_, rfl⟩
    obtain ⟨xs, pos, err⟩ := s
    simp only at *
    rw [← hN] at hp hl ⊢
    have he' : (err != 0) = true := by simpa using he
    clear hb hN hr he hz
    unfold rvC
    go_enter Try.func41, Try.ntmps41
    go_wp2
    go_region
    all_goals
      go_wp2
      refine bodyPost_ret (v := .tuple #[.int .i64 0, .agg #[.slice A N c, .int .i64 pos, .int .i64 err, .int .i64 st]]) (by simp [results, Try.results41, go_sem]) rfl ⟨st, rfl, ?_⟩
      exact (((Below.refl _ _).alloc (Nat.le_refl _) _).alloc (by simp) _).drew
set_option maxRecDepth 100000 in
set_option maxHeartbeats 2000000 in
theorem rtint_any (A : Option Addr) (c : Nat) (s : Rdr) (st : Int) (w : World) (hr : Row w A (cellsB s.xs)) (hp : s.pos ≤ s.xs.length) (hl : s.xs.length ≤ 140737488355328) (hz : A = none → s.xs.length = 0) :
    Calls Try.prog 98 #[.agg (rvC A s.xs.length c s.pos s.err st)] w (RTk A s.xs.length c (.int .i64 s.int.1) s.int.2 w) := by
  by_cases he : s.err = 0
  · have hrow := fun W (h : Below w.heap.size w W) => rrow_any A c s st 10 1 (.inr ⟨rfl, rfl⟩) W (hr.of_below h (Nat.le_refl _)) hp hl hz
    have hend := fun e0 W => rends_any A s.xs.length c s.pos 0 st e0 W
    have hlt := row10_lt s
    have hnum : s.int = (zag (s.row 10 1).1, (s.row 10 1).2) := rfl
    have hro := fun (v n : Nat) (r : Int) h => rownum he (most := 10) (last := 1) (v := v) (n := n) (r := r) h
    obtain ⟨xs, pos, err⟩ := s
    simp only at he hp hl hz hrow hend
    subst he
    obtain ⟨q, hq⟩ : ∃ q, q = (⟨xs, pos, 0⟩ : Rdr).row 10 1 := ⟨_, rfl⟩
    rw [← hq] at hlt hnum hro
    rw [hnum]
    obtain ⟨N, hN⟩ : ∃ N, N = xs.length := ⟨_, rfl⟩
    rw [← hN] at hrow hend ⊢
    have HROW := Lib.hid hrow
    have HEND := Lib.hid hend
    have HRO := Lib.hid hro
    clear hr hrow hend hro hnum hq hN hz
    unfold rvC at *
    go_enter Try.func98, Try.ntmps98
    go_wp2_with fail
    refine (HROW.out _ (((Below.refl _ _).alloc (Nat.le_refl _) _).alloc (by simp) _)).mono ?_; rintro e w1 ⟨v, a, r, rfl, hb, n, hgo, ha⟩
    obtain ⟨L1, Z1, b1⟩ := below_four hb
    have hq := HRO.out v n r hgo
    clear hb hgo HRO
    obtain ⟨l0, l1, l2, l3, lf0, lf1, _⟩ := L1.four
    by_cases h0 : r = 0
    · subst h0
      rw [if_pos rfl] at ha hq
      subst hq
      subst ha
      have hv : (v : Int) < 18446744073709551616 := by simp only at hlt; omega
      have Z2 := Z1.other (a := ⟨w.heap.size, 1, none⟩) (by show w.heap.size + 1 ≠ w.heap.size; omega) (.int .i64 ((pos : Int) + (n : Int)))
      have b2 := b1.setCell (p := ⟨w.heap.size, 1, none⟩) (Nat.le_refl _) (.int .i64 ((pos : Int) + (n : Int)))
      obtain ⟨z0, z1, z2, z3, f0, f1, f2, f3⟩ := Z1.four
      obtain ⟨e0, e1, e2, e3, _, be⟩ := Z2.put4 b2 (Nat.le_succ _) (.slice A N c) (.int .i64 ((pos : Int) + (n : Int))) (.int .i64 0) (.int .i64 st)
      have HE := Lib.hid (And.intro e0 (And.intro e1 (And.intro e2 e3)))
      clear HROW HEND e0 e1 e2 e3 L1 Z1 Z2 b1 b2
      by_cases hv2 : v % 2 = 0
      · have ht : ((v : Int) % 2 == 0) = true := by simp; omega
        have hzg : zag v = (v : Int) / 2 := by unfold zag; rw [if_pos hv2]; omega
        have HZG := Lib.hid hzg
        clear hzg hv2
        go_wp2
        go_region
        all_goals
          go_wp2
          obtain ⟨e0, e1, e2, e3⟩ := HE.out
          unfold put4 at e0 e1 e2 e3
          refine bodyPost_ret (v := .tuple #[.int .i64 ((v : Int) / 2), .agg #[.slice A N c, .int .i64 (pos + n), .int .i64 0, .int .i64 st]]) (by simp [results, Try.results98, go_sem, e0, e1, e2, e3]) rfl ⟨st, by simp [rvC, HZG.out], be.drew⟩
      · have ht : ((v : Int) % 2 == 0) = false := by simp; omega
        have hzg : zag v = -((v : Int) / 2) - 1 := by unfold zag; rw [if_neg hv2]; omega
        have HZG := Lib.hid hzg
        clear hzg hv2
        go_wp2
        go_region
        all_goals
          go_wp2
          obtain ⟨e0, e1, e2, e3⟩ := HE.out
          unfold put4 at e0 e1 e2 e3
          refine bodyPost_ret (v := .tuple #[.int .i64 (-((v : Int) / 2) - 1), .agg #[.slice A N c, .int .i64 (pos + n), .int .i64 0, .int .i64 st]]) (by simp [results, Try.results98, go_sem, e0, e1, e2, e3]) rfl ⟨st, by simp [rvC, HZG.out], be.drew⟩
    · have hr' : (r != 0) = true := by simpa using h0
      rw [if_neg h0] at ha hq
      subst hq
      have HR0 := Lib.hid h0
      clear ha HROW h0
      go_wp2_with fail
      refine (HEND.out r _).mono ?_; rintro e w2 ⟨rfl, hb2⟩
      have Z2 := Z1.below hb2 Z1.lt
      have b2 := below_then b1 hb2 b1.size
      obtain ⟨z0, z1, z2, z3, f0, f1, f2, f3⟩ := Z2.four
      obtain ⟨e0, e1, e2, e3, _, be⟩ := Z2.put4 b2 (Nat.le_succ _) (.slice A N c) (.int .i64 pos) (.int .i64 r) (.int .i64 pos)
      have HE := Lib.hid (And.intro e0 (And.intro e1 (And.intro e2 e3)))
      clear HEND e0 e1 e2 e3 L1 Z1 Z2 b1 b2 hb2
      go_wp2
      obtain ⟨e0, e1, e2, e3⟩ := HE.out
      unfold put4 at e0 e1 e2 e3
      refine bodyPost_ret (v := .tuple #[.int .i64 0, .agg #[.slice A N c, .int .i64 pos, .int .i64 r, .int .i64 pos]]) (by simp [results, Try.results98, go_sem, e0, e1, e2, e3]) rfl ⟨pos, by simp [rvC, Rdr.fail, zag], be⟩
  · have hb : s.int = (0, s) := by simp [Rdr.int, Rdr.row, he, zag]
    rw [hb]
    obtain ⟨N, hN⟩ : ∃ N, N = s.xs.length := ⟨_, rfl⟩
    obtain ⟨xs, pos, err⟩ := s
    simp only at *
    rw [← hN] at hp hl ⊢
    have he' : (err != 0) = true := by simpa using he
    clear hb hN hr he hz
    unfold rvC
    go_enter Try.func98, Try.ntmps98
    go_wp2
    go_region
    all_goals
      go_wp2
      refine bodyPost_ret (v := .tuple #[.int .i64 0, .agg #[.slice A N c, .int .i64 pos, .int .i64 err, .int .i64 st]]) (by simp [results, Try.results98, go_sem]) rfl ⟨st, rfl, ?_⟩
      exact (((Below.refl _ _).alloc (Nat.le_refl _) _).alloc (by simp) _).drew
end Go.Proofs.Ytnmcdifkknphgaa
