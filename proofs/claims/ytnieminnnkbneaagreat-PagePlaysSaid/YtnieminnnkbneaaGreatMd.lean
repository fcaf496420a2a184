/- Walk of treadleref6.Decode. -/
import Derived.Test.YtnieminnnkbneaaGreatOctT
import Derived.RegionTactic
import Derived.ChangeAlike
import Derived.Test.YtnieminnnkbneaaGreatDat2
import Derived.Test.YtnieminnnkbneaaGreatGen
import Derived.Test.YtnieminnnkbneaaGreatProc7
import Derived.Test.YtnieminnnkbneaaGreatMc
import Derived.Test.YtnieminnnkbneaaGreatOrd
namespace Go.Proofs.YtnieminnnkbneaaGreat
open Go.RowKit

/-- A reader's value. -/
def rvC (A : Option Addr) (n c : Nat) (pos err st : Int) : Array Value := #[.slice A n c, .int .i64 pos, .int .i64 err, .int .i64 st]

/-- A value and a reader are answered. -/
def RTk (A : Option Addr) (n c : Nat) (v : Value) (s : Rdr) (w : World) (e : Ending) (w' : World) : Prop :=
 ∃ st, e = .returned (.tuple #[v, .agg (rvC A n c s.pos s.err st)]) ∧ Below w.heap.size w w'

theorem Loc.rfour {w : World} {b : Nat} {v0 v1 v2 v3 : Value} {t : TypeId} (h : Loc w b #[v0, v1, v2, v3] t) :
  w.cell? ⟨b, 0, none⟩ = some v0 ∧ w.cell? ⟨b, 1, none⟩ = some v1 ∧ w.cell? ⟨b, 2, none⟩ = some v2 ∧ w.cell? ⟨b, 3, none⟩ = some v3 ∧
   w.frozen? ⟨b, 0, none⟩ = false ∧ w.frozen? ⟨b, 1, none⟩ = false ∧ w.frozen? ⟨b, 2, none⟩ = false ∧ w.frozen? ⟨b, 3, none⟩ = false :=
 ⟨h.cell 0, h.cell 1, h.cell 2, h.cell 3, h.free 0, h.free 1, h.free 2, h.free 3⟩

/-- A world in which four cells were stored. -/
def put4 (w : World) (b : Nat) (u0 u1 u2 u3 : Value) : World := (((w.setCell ⟨b, 0, none⟩ u0).setCell ⟨b, 1, none⟩ u1).setCell ⟨b, 2, none⟩ u2).setCell ⟨b, 3, none⟩ u3

theorem Loc.put4 {w0 w : World} {b : Nat} {v0 v1 v2 v3 : Value} {t : TypeId} (h : Loc w b #[v0, v1, v2, v3] t) (hb : Below w0.heap.size w0 w) (hw : w0.heap.size ≤ b) (u0 u1 u2 u3 : Value) :
  (put4 w b u0 u1 u2 u3).cell? ⟨b, 0, none⟩ = some u0 ∧ (put4 w b u0 u1 u2 u3).cell? ⟨b, 1, none⟩ = some u1 ∧ (put4 w b u0 u1 u2 u3).cell? ⟨b, 2, none⟩ = some u2 ∧ (put4 w b u0 u1 u2 u3).cell? ⟨b, 3, none⟩ = some u3 ∧
   Loc (put4 w b u0 u1 u2 u3) b #[u0, u1, u2, u3] t ∧ Below w0.heap.size w0 (put4 w b u0 u1 u2 u3) := by
 have g := (((h.set 0 u0).set 1 u1).set 2 u2).set 3 u3
 have g' : Loc (Go.Proofs.YtnieminnnkbneaaGreat.put4 w b u0 u1 u2 u3) b #[u0, u1, u2, u3] t := g
 exact ⟨g'.cell 0, g'.cell 1, g'.cell 2, g'.cell 3, g', (((hb.setCell (p := ⟨b, 0, none⟩) hw _).setCell (p := ⟨b, 1, none⟩) hw _).setCell (p := ⟨b, 2, none⟩) hw _).setCell (p := ⟨b, 3, none⟩) hw _⟩

set_option maxRecDepth 100000 in
theorem rends_any (A : Option Addr) (n c : Nat) (p r st e0 : Int) (w : World) :
  Calls Tryz.prog 106 #[.agg (rvC A n c p r st), .int .i64 e0] w fun e w' => e = .returned (.agg (rvC A n c p e0 p)) ∧ Below w.heap.size w w' := by
 unfold rvC
 go_enter Tryz.func106, Tryz.ntmps106
 go_wp2
 refine bodyPost_ret (v := .agg #[.slice A n c, .int .i64 p, .int .i64 e0, .int .i64 p]) (by simp [results, Tryz.results106, go_sem]) rfl ⟨rfl, ?_⟩
 exact ((Below.refl _ _).alloc (Nat.le_refl _) _).alloc (by simp) _

set_option maxRecDepth 100000 in
set_option maxHeartbeats 1000000 in
theorem rtbyte_any (A : Option Addr) (c : Nat) (s : Rdr) (st : Int) (w : World) (hr : Row w A (cellsB s.xs)) (hp : s.pos ≤ s.xs.length) (hl : s.xs.length ≤ 140737488355328) :
  Calls Tryz.prog 65 #[.agg (rvC A s.xs.length c s.pos s.err st)] w (RTk A s.xs.length c (.int .u8 (s.byte.1 : Int)) s.byte.2 w) := by
 obtain ⟨N, hN⟩ : ∃ N, N = s.xs.length := ⟨_, rfl⟩
 by_cases he : s.err = 0
 ·by_cases hlt : s.pos < s.xs.length
  ·obtain ⟨b, off, rfl, hbl, hc⟩ := hr.at (by rw [cellsB_length]; omega)
   have hx := hc s.pos (by rw [cellsB_length]; omega)
   simp [cellsB, hlt] at hx
   have hb : s.byte = ((s.xs[s.pos]).toNat, { s with pos := s.pos + 1 }) := by simp [Rdr.byte, he, hlt]
   have hlt' : (s.pos : Int) < (N : Int) := by omega
   rw [hb]
   obtain ⟨xs, pos, err⟩ := s
   simp only at *
   subst he
   generalize hg : xs[pos] = v at *
   rw [← hN] at hp hl ⊢
   clear hc hb hg hlt hN hr
   unfold rvC
   go_enter Tryz.func65, Tryz.ntmps65
   go_wp2
   go_region
   all_goals
    go_wp2
    refine bodyPost_ret (v := .tuple #[.int .u8 v.toNat, .agg #[.slice (some ⟨b, off, none⟩) N c, .int .i64 (pos + 1), .int .i64 0, .int .i64 st]]) (by simp [results, Tryz.results65, go_sem]) rfl ⟨st, rfl, ?_⟩
    exact (((Below.refl _ _).alloc (Nat.le_refl _) _).alloc (by simp) _).drew
  ·have hb : s.byte = (0, s.fail 2) := by simp [Rdr.byte, he, List.getElem?_eq_none (Nat.le_of_not_lt hlt)]
   rw [hb]
   obtain ⟨xs, pos, err⟩ := s
   simp only at *
   subst he
   rw [← hN] at hlt hp hl ⊢
   have hge : (N : Int) ≤ (pos : Int) := by omega
   clear hb hN hr hlt
   have hends := fun W => rends_any A N c pos 0 st 2 W
   unfold rvC at hends ⊢
   unfold Rdr.fail
   go_enter Tryz.func65, Tryz.ntmps65
   have Z1 := Loc.new (w.alloc (.cells #[.slice A N c, .int .i64 pos, .int .i64 0, .int .i64 st] 126)) #[.slice none 0 0, .int .i64 0, .int .i64 0, .int .i64 0] 126
   have b1 := ((Below.refl w.heap.size w).alloc (Nat.le_refl _) (.cells #[.slice A N c, .int .i64 pos, .int .i64 0, .int .i64 st] 126)).alloc (by simp) (.cells #[.slice none 0 0, .int .i64 0, .int .i64 0, .int .i64 0] 126)
   simp only [World.size_alloc] at Z1
   go_wp2_with fail
   refine (hends _).mono ?_; rintro e w1 ⟨rfl, hb⟩
   have Z2 := Z1.below hb Z1.lt
   obtain ⟨z0, z1, z2, z3, f0, f1, f2, f3⟩ := Z2.rfour
   have b2 := below_then b1 hb b1.size
   clear hb Z1 b1 hends
   go_wp2
   obtain ⟨e0, e1, e2, e3, _, be⟩ := Z2.put4 b2 (Nat.le_succ _) (.slice A N c) (.int .i64 pos) (.int .i64 2) (.int .i64 pos)
   refine bodyPost_ret (v := .tuple #[.int .u8 0, .agg #[.slice A N c, .int .i64 pos, .int .i64 2, .int .i64 pos]]) (by unfold put4 at e0 e1 e2 e3; simp [results, Tryz.results65, go_sem, e0, e1, e2, e3]) rfl ⟨pos, rfl, be⟩
 ·have hb : s.byte = (0, s) := by simp [Rdr.byte, he]
  rw [hb]
  obtain ⟨xs, pos, err⟩ := s
  simp only at *
  rw [← hN] at hp hl ⊢
  have he' : (err != 0) = true := by simpa using he
  clear hb hN hr he
  unfold rvC
  go_enter Tryz.func65, Tryz.ntmps65
  go_wp2
  go_region
  all_goals
   go_wp2
   refine bodyPost_ret (v := .tuple #[.int .u8 0, .agg #[.slice A N c, .int .i64 pos, .int .i64 err, .int .i64 st]]) (by simp [results, Tryz.results65, go_sem]) rfl ⟨st, rfl, ?_⟩
   exact (((Below.refl _ _).alloc (Nat.le_refl _) _).alloc (by simp) _).drew
/-- 128 to the power q, closed to the walk. -/
def p128 (q : Nat) : Nat := 128 ^ q
theorem p128_zero : p128 0 = 1 := rfl
theorem p128_succ (q : Nat) : p128 (q + 1) = p128 q * 128 := Nat.pow_succ ..
theorem p128_le {q k : Nat} (h : q ≤ k) : p128 q ≤ p128 k := Nat.pow_le_pow_right (by decide) h
theorem p128_8 : p128 8 = 72057594037927936 := by decide +kernel
/-- What row answers: value, place, error. -/
def RRow (s : Rdr) (most last : Nat) (w : World) (e : Ending) (w' : World) : Prop :=
 ∃ (v : Nat) (a r : Int), e = .returned (.tuple #[.int .u64 (v : Int), .int .i64 a, .int .i64 r]) ∧ Below w.heap.size w w' ∧
  ∃ n, Rdr.rowGo s.xs s.pos most last most 0 0 = (r, v, n) ∧ a = if r = 0 then ((s.pos + n : Nat) : Int) else 0

theorem row_mul (v k : Nat) (b : UInt8) (hv : v < 128 ^ k) (hk : k ≤ 8 ∨ k = 9 ∧ b.toNat % 128 ≤ 1) :
  IntKind.u64.wrap ((b.toNat : Int) % 128 * (p128 k : Int)) = ((b.toNat % 128 * p128 k : Nat) : Int) ∧ IntKind.u64.wrap ((v : Int) + ((b.toNat % 128 * p128 k : Nat) : Int)) = ((v + b.toNat % 128 * 128 ^ k : Nat) : Int) ∧ v + b.toNat % 128 * 128 ^ k < 18446744073709551616 := by
 have h1 : b.toNat % 128 ≤ 127 := by omega
 have h2 : v + b.toNat % 128 * 128 ^ k < 18446744073709551616 := by
  rcases hk with hk | ⟨rfl, hb⟩
  ·have h3 : 128 ^ k ≤ 128 ^ 8 := Nat.pow_le_pow_right (by decide) hk
   have h4 : b.toNat % 128 * 128 ^ k ≤ 127 * 128 ^ k := Nat.mul_le_mul_right _ h1
   omega
  ·have h4 : b.toNat % 128 * 128 ^ 9 ≤ 1 * 128 ^ 9 := Nat.mul_le_mul_right _ hb
   omega
 have h3 : ((b.toNat : Int) % 128 * (p128 k : Int)) = ((b.toNat % 128 * p128 k : Nat) : Int) := by simp
 have h4 : b.toNat % 128 * p128 k = b.toNat % 128 * 128 ^ k := rfl
 have h5 : ((v : Int) + ((b.toNat % 128 * p128 k : Nat) : Int)) = ((v + b.toNat % 128 * 128 ^ k : Nat) : Int) := by rw [h4]; simp
 refine ⟨?_, ?_, h2⟩
 ·rw [h3]; exact wrapU _ (by omega)
 ·rw [h5]; exact wrapU _ h2

set_option maxRecDepth 100000 in
set_option maxHeartbeats 4000000 in
theorem rrow_any (A : Option Addr) (c : Nat) (s : Rdr) (st : Int) (most last : Nat) (hm : most = 9 ∧ last = 127 ∨ most = 10 ∧ last = 1) (w : World) (hr : Row w A (cellsB s.xs)) (hp : s.pos ≤ s.xs.length) (hl : s.xs.length ≤ 140737488355328) (hz : A = none → s.xs.length = 0) :
  Calls Tryz.prog 107 #[.agg (rvC A s.xs.length c s.pos 0 st), .int .i64 most, .int .u8 last] w (RRow s most last w) := by
 obtain ⟨xs, pos, err⟩ := s
 unfold RRow
 simp only at *
 obtain ⟨N, hN⟩ : ∃ N, N = xs.length := ⟨_, rfl⟩
 rw [← hN] at hl hp ⊢
 have HN := Lib.hid hN
 have HR := Lib.hid hr
 have HZ := Lib.hid hz
 have HM := Lib.hid hm
 have hm' : most ≤ 10 := by omega
 have hm9 : 9 ≤ most := by omega
 clear hN hr hz hm
 unfold rvC
 have L0 := Loc.new w #[.slice A N c, .int .i64 pos, .int .i64 0, .int .i64 st] 126
 have b0 := (Below.refl w.heap.size w).alloc (Nat.le_refl _) (.cells #[.slice A N c, .int .i64 pos, .int .i64 0, .int .i64 st] 126)
 go_enter Tryz.func107, Tryz.ntmps107
 go_wp2
 obtain ⟨w0, hw0⟩ : ∃ w0, w0 = w.alloc (.cells #[.slice A N c, .int .i64 pos, .int .i64 0, .int .i64 st] 126) := ⟨_, rfl⟩
 rw [← hw0] at L0 b0 ⊢
 clear hw0
 obtain ⟨z0, z1, z2, z3, _⟩ := L0.rfour
 go_loopw [9, 10] (fun u i wr => ∃ (k v f : Nat), k + f = most ∧ Hid (Rdr.rowGo xs pos most last most 0 0 = Rdr.rowGo xs pos most last f k v) ∧ v < 128 ^ k ∧ k < most ∧ u = .int .u64 v ∧ i = .int .i64 k ∧ wr = w0)
  (fun _ i _ => most - (intOf i).toNat)
 case atStart => exact ⟨0, 0, most, by omega, Lib.hid rfl, by simp, by omega, rfl, rfl, rfl⟩
 case round =>
  obtain ⟨k, v, f, hkf, HG, hv, hk, rfl, rfl, rfl⟩ := hrel
  have HV := Lib.hid hv
  clear hv
  obtain ⟨f, rfl⟩ : ∃ g, f = g + 1 := ⟨f - 1, by omega⟩
  by_cases hlt : pos + k < N
  ·have hlx : pos + k < xs.length := by rw [← HN.out]; exact hlt
   obtain ⟨b, off, hA, hbl, hc⟩ := HR.out.at (by rw [cellsB_length]; omega)
   have hx := hc (pos + k) (by rw [cellsB_length]; omega)
   simp [cellsB, hlx] at hx
   have hgx : xs[pos + k]? = some (xs[pos + k]) := List.getElem?_eq_getElem hlx
   have hx := (b0.cell (p := ⟨b, off + (pos + k), none⟩) hbl).trans hx
   generalize hb : xs[pos + k] = b at *
   have hlt' : (pos : Int) + (k : Int) < (N : Int) := by omega
   have HGX := Lib.hid hgx
   have hb255 : b.toNat < 256 := b.toNat_lt
   subst hA
   clear hb hgx hc
   by_cases hA : k + 1 = most ∧ last < b.toNat
   ·obtain ⟨hA1, hA2⟩ := hA
    have hres : Rdr.rowGo xs pos most last (f + 1) k v = (15, 0, 0) := by rw [Rdr.rowGo, HGX.out]; simp [hA1, hA2]
    have HS := Lib.hid hres
    have ht1 : ((k : Int) == (most : Int) - 1) = true := by simp; omega
    have ht2 : ((last : Int) < (b.toNat : Int)) := by omega
    clear hres hA1
    go_wp2
    go_ret3
    refine ⟨_, _, _, rfl, b0, 0, HG.out.trans HS.out, ?_⟩
    simp
   ·have hk8 : k ≤ 8 ∨ k = 9 ∧ b.toNat % 128 ≤ 1 := by
     have := HM.out; omega
    obtain ⟨hw1, hw2, hv64⟩ := row_mul v k b HV.out hk8
    obtain ⟨m, hm⟩ : ∃ m, m = b.toNat % 128 * p128 k := ⟨_, rfl⟩
    obtain ⟨v', hv'⟩ : ∃ v', v' = v + b.toNat % 128 * 128 ^ k := ⟨_, rfl⟩
    rw [← hm] at hw1 hw2
    rw [← hv'] at hw2 hv64
    have HV' := Lib.hid hv'
    have HV64 := Lib.hid hv64
    have hA2 : k + 1 = most → ¬ last < b.toNat := fun h1 h2 => hA ⟨h1, h2⟩
    have hgo : Rdr.rowGo xs pos most last (f + 1) k v = if b.toNat < 128 then (if 0 < k ∧ b.toNat = 0 then (3, 0, 0) else (0, v', k + 1)) else Rdr.rowGo xs pos most last f (k + 1) v' := by
     rw [Rdr.rowGo, HGX.out, hv']; simp [hA]
    have HGO := Lib.hid hgo
    have ht : ((k : Int) == (most : Int) - 1) = true ∧ ¬ ((last : Int) < (b.toNat : Int)) ∧ b.toNat < 128 ∨ ((k : Int) == (most : Int) - 1) = false ∧ (k + 1 < most) := by
     by_cases h1 : k + 1 = most
     ·have := hA2 h1
      have := HM.out
      exact .inl ⟨by simp; omega, by omega, by omega⟩
     ·exact .inr ⟨by simp; omega, by omega⟩
    clear hgo hv' hv64 hA hA2 hm
    have h8 := p128_8
    have hpk : ∀ j, j < k → (p128 j : Int) ≤ 72057594037927936 := fun j hj => by
     have := p128_le (q := j) (k := 8) (by omega)
     omega
    have HPK := Lib.hid hpk
    clear h8 hpk
    rcases ht with ⟨ht1, ht5, hBB⟩ | ⟨ht1, ht5⟩
    all_goals
     go_wp2
     go_loop [12, 13] (fun t q => ∃ j : Nat, j ≤ k ∧ t = .int .u64 (p128 j) ∧ q = .int .i64 j) (fun _ q => k - (intOf q).toNat)
     case atStart => exact ⟨0, Nat.zero_le _, by rw [p128_zero]; rfl, rfl⟩
     case round =>
      obtain ⟨j, hj, rfl, rfl⟩ := hrel
      by_cases hjk : j < k
      ·have hb7 := HPK.out j hjk
       have hjk' : (j : Int) < (k : Int) := by omega
       go_wp2
       go_round
       case rel => exact ⟨j + 1, by omega, by rw [p128_succ]; go_num, by go_num⟩
       case measure => simp [intOf]; omega
      ·obtain rfl : j = k := by omega
       by_cases hB : b.toNat < 128
       ·have ht2 : ((b.toNat : Int) < 128) := by omega
        by_cases hC : 0 < j ∧ b.toNat = 0
        ·obtain ⟨hC1, hC2⟩ := hC
         have hres : Rdr.rowGo xs pos most last most 0 0 = (3, 0, 0) := by
          rw [HG.out, HGO.out]; simp [hC1, hC2]
         have HS := Lib.hid hres
         have ht3 : ((b.toNat : Int) == 0) = true := by simp [hC2]
         have ht4 : (0 : Int) < (j : Int) := by omega
         clear hres hC2
         go_wp2
         go_ret3
         exact ⟨_, _, _, rfl, b0, 0, HS.out, by simp⟩
        ·have hres : Rdr.rowGo xs pos most last most 0 0 = (0, v', j + 1) := by
          rw [HG.out, HGO.out]; simp [hC, hB]
         have HS := Lib.hid hres
         have ht3 : (0 < j ∧ ((b.toNat : Int) == 0) = false) ∨ ¬ (0 < j) := by
          by_cases h : 0 < j
          ·exact .inl ⟨h, by simp; omega⟩
          ·exact .inr h
         clear hres hC
         rcases ht3 with ⟨ht4, ht6⟩ | ht4
         all_goals
          go_wp2
          go_quiet (fail)
          go_wp2
          go_ret3
          refine ⟨_, _, _, rfl, below_drewN b0 _, j + 1, HS.out, ?_⟩
          simp; omega
       ·first
         | exact absurd hBB hB
         | (have ht2 : ¬ ((b.toNat : Int) < 128) := by omega
            have hv1 : v' < 128 ^ (j + 1) := by
             have h1 := HV.out
             have h2 : b.toNat % 128 < 128 := Nat.mod_lt _ (by decide)
             have h3 : (b.toNat % 128 + 1) * 128 ^ j ≤ 128 * 128 ^ j := Nat.mul_le_mul_right _ (by omega)
             rw [HV'.out, Nat.pow_succ, Nat.mul_comm (128 ^ j)]
             rw [Nat.add_mul, Nat.one_mul] at h3
             omega
            have HV1 := Lib.hid hv1
            have HN : Hid (Rdr.rowGo xs pos most last most 0 0 = Rdr.rowGo xs pos most last f (j + 1) v') := Lib.hid (by rw [HG.out, HGO.out, if_neg hB])
            clear hv1
            go_wp2
            go_roundw
            case rel => exact ⟨j + 1, v', f, by omega, HN, HV1.out, ht5, rfl, by go_num, by trivial⟩
            case measure => simp [intOf]; omega)
  ·have hgx : xs[pos + k]? = none := List.getElem?_eq_none (by have := HN.out; omega)
   have hres : Rdr.rowGo xs pos most last (f + 1) k v = (2, 0, 0) := by rw [Rdr.rowGo, hgx]
   have HS := Lib.hid hres
   have hlt' : (N : Int) ≤ (pos : Int) + (k : Int) := by omega
   clear hgx hlt hres
   go_wp2
   go_ret3
   refine ⟨_, _, _, rfl, b0, 0, HG.out.trans HS.out, ?_⟩
   simp
theorem below_four {w w1 : World} {t : TypeId} {v0 v1 v2 v3 : Value} (hb : Below ((w.alloc (.cells #[v0, v1, v2, v3] t)).alloc (.cells #[.slice none 0 0, .int .i64 0, .int .i64 0, .int .i64 0] t)).heap.size ((w.alloc (.cells #[v0, v1, v2, v3] t)).alloc (.cells #[.slice none 0 0, .int .i64 0, .int .i64 0, .int .i64 0] t)) w1) :
  Loc w1 w.heap.size #[v0, v1, v2, v3] t ∧ Loc w1 (w.heap.size + 1) #[.slice none 0 0, .int .i64 0, .int .i64 0, .int .i64 0] t ∧ Below w.heap.size w w1 := by
 have L1 := (Loc.new w #[v0, v1, v2, v3] t).alloc (.cells #[.slice none 0 0, .int .i64 0, .int .i64 0, .int .i64 0] t)
 have Z1 := Loc.new (w.alloc (.cells #[v0, v1, v2, v3] t)) #[.slice none 0 0, .int .i64 0, .int .i64 0, .int .i64 0] t
 simp only [World.size_alloc] at Z1
 exact ⟨L1.below hb L1.lt, Z1.below hb Z1.lt, below_then (((Below.refl w.heap.size w).alloc (Nat.le_refl _) _).alloc (by simp) _) hb (by simp; omega)⟩

theorem rownum {s : Rdr} (he : s.err = 0) {most last v n : Nat} {r : Int} (h : Rdr.rowGo s.xs s.pos most last most 0 0 = (r, v, n)) :
  s.row most last = if r = 0 then (v, { s with pos := s.pos + n }) else (0, s.fail r) := by
 unfold Rdr.row
 rw [if_neg (by simpa using he), h]

set_option maxRecDepth 100000 in
set_option maxHeartbeats 2000000 in
theorem rtnumber_any (A : Option Addr) (c : Nat) (s : Rdr) (st : Int) (w : World) (hr : Row w A (cellsB s.xs)) (hp : s.pos ≤ s.xs.length) (hl : s.xs.length ≤ 140737488355328) (hz : A = none → s.xs.length = 0) :
  Calls Tryz.prog 66 #[.agg (rvC A s.xs.length c s.pos s.err st)] w (RTk A s.xs.length c (.int .i64 s.number.1) s.number.2 w) := by
 by_cases he : s.err = 0
 ·have hrow := fun W (h : Below w.heap.size w W) => rrow_any A c s st 9 127 (.inl ⟨rfl, rfl⟩) W (hr.of_below h (Nat.le_refl _)) hp hl hz
  have hend := fun e0 W => rends_any A s.xs.length c s.pos 0 st e0 W
  have hlt := row9_lt s
  have hnum : s.number = (((s.row 9 127).1 : Int), (s.row 9 127).2) := rfl
  have hro := fun (v n : Nat) (r : Int) h => rownum he (most := 9) (last := 127) (v := v) (n := n) (r := r) h
  obtain ⟨xs, pos, err⟩ := s
  simp only at he hp hl hz hrow hend
  subst he
  obtain ⟨q, hq⟩ : ∃ q, q = (⟨xs, pos, 0⟩ : Rdr).row 9 127 := ⟨_, rfl⟩
  rw [← hq] at hlt hnum hro
  rw [hnum]
  obtain ⟨N, hN⟩ : ∃ N, N = xs.length := ⟨_, rfl⟩
  rw [← hN] at hrow hend ⊢
  have HROW := Lib.hid hrow
  have HEND := Lib.hid hend
  have HRO := Lib.hid hro
  clear hr hrow hend hro hnum hq hN hz
  unfold rvC at *
  go_enter Tryz.func66, Tryz.ntmps66
  go_wp2_with fail
  refine (HROW.out _ (((Below.refl _ _).alloc (Nat.le_refl _) _).alloc (by simp) _)).mono ?_; rintro e w1 ⟨v, a, r, rfl, hb, n, hgo, ha⟩
  obtain ⟨L1, Z1, b1⟩ := below_four hb
  have hq := HRO.out v n r hgo
  clear hb hgo HRO
  obtain ⟨l0, l1, l2, l3, lf0, lf1, _⟩ := L1.rfour
  by_cases h0 : r = 0
  ·subst h0
   rw [if_pos rfl] at ha hq
   subst hq
   subst ha
   have hv : (v : Int) < 9223372036854775808 := by simp only at hlt; omega
   have Z2 := Z1.other (a := ⟨w.heap.size, 1, none⟩) (by show w.heap.size + 1 ≠ w.heap.size; omega) (.int .i64 ((pos : Int) + (n : Int)))
   have b2 := b1.setCell (p := ⟨w.heap.size, 1, none⟩) (Nat.le_refl _) (.int .i64 ((pos : Int) + (n : Int)))
   obtain ⟨z0, z1, z2, z3, f0, f1, f2, f3⟩ := Z1.rfour
   obtain ⟨e0, e1, e2, e3, _, be⟩ := Z2.put4 b2 (Nat.le_succ _) (.slice A N c) (.int .i64 ((pos : Int) + (n : Int))) (.int .i64 0) (.int .i64 st)
   have HE := Lib.hid (And.intro e0 (And.intro e1 (And.intro e2 e3)))
   clear HROW HEND e0 e1 e2 e3 L1 Z1 Z2 b1 b2
   go_wp2
   go_region
   all_goals
    go_wp2
    obtain ⟨e0, e1, e2, e3⟩ := HE.out
    unfold put4 at e0 e1 e2 e3
    refine bodyPost_ret (v := .tuple #[.int .i64 v, .agg #[.slice A N c, .int .i64 (pos + n), .int .i64 0, .int .i64 st]]) (by simp [results, Tryz.results66, go_sem, e0, e1, e2, e3]) rfl ⟨st, by simp [rvC], be.drew⟩
  ·have hr' : (r != 0) = true := by simpa using h0
   rw [if_neg h0] at ha hq
   subst hq
   have HR0 := Lib.hid h0
   clear ha HROW h0
   go_wp2_with fail
   refine (HEND.out r _).mono ?_; rintro e w2 ⟨rfl, hb2⟩
   have Z2 := Z1.below hb2 Z1.lt
   have b2 := below_then b1 hb2 b1.size
   obtain ⟨z0, z1, z2, z3, f0, f1, f2, f3⟩ := Z2.rfour
   obtain ⟨e0, e1, e2, e3, _, be⟩ := Z2.put4 b2 (Nat.le_succ _) (.slice A N c) (.int .i64 pos) (.int .i64 r) (.int .i64 pos)
   have HE := Lib.hid (And.intro e0 (And.intro e1 (And.intro e2 e3)))
   clear HEND e0 e1 e2 e3 L1 Z1 Z2 b1 b2 hb2
   go_wp2
   obtain ⟨e0, e1, e2, e3⟩ := HE.out
   unfold put4 at e0 e1 e2 e3
   refine bodyPost_ret (v := .tuple #[.int .i64 0, .agg #[.slice A N c, .int .i64 pos, .int .i64 r, .int .i64 pos]]) (by simp [results, Tryz.results66, go_sem, e0, e1, e2, e3]) rfl ⟨pos, by simp [rvC, Rdr.fail], be⟩
 ·have hb : s.number = (0, s) := by simp [Rdr.number, Rdr.row, he]
  rw [hb]
  obtain ⟨N, hN⟩ : ∃ N, N = s.xs.length := ⟨_, rfl⟩
  obtain ⟨xs, pos, err⟩ := s
  simp only at *
  rw [← hN] at hp hl ⊢
  have he' : (err != 0) = true := by simpa using he
  clear hb hN hr he hz
  unfold rvC
  go_enter Tryz.func66, Tryz.ntmps66
  go_wp2
  go_region
  all_goals
   go_wp2
   refine bodyPost_ret (v := .tuple #[.int .i64 0, .agg #[.slice A N c, .int .i64 pos, .int .i64 err, .int .i64 st]]) (by simp [results, Tryz.results66, go_sem]) rfl ⟨st, rfl, ?_⟩
   exact (((Below.refl _ _).alloc (Nat.le_refl _) _).alloc (by simp) _).drew
set_option maxRecDepth 100000 in
set_option maxHeartbeats 2000000 in
theorem rtint_any (A : Option Addr) (c : Nat) (s : Rdr) (st : Int) (w : World) (hr : Row w A (cellsB s.xs)) (hp : s.pos ≤ s.xs.length) (hl : s.xs.length ≤ 140737488355328) (hz : A = none → s.xs.length = 0) :
  Calls Tryz.prog 125 #[.agg (rvC A s.xs.length c s.pos s.err st)] w (RTk A s.xs.length c (.int .i64 s.int.1) s.int.2 w) := by
 by_cases he : s.err = 0
 ·have hrow := fun W (h : Below w.heap.size w W) => rrow_any A c s st 10 1 (.inr ⟨rfl, rfl⟩) W (hr.of_below h (Nat.le_refl _)) hp hl hz
  have hend := fun e0 W => rends_any A s.xs.length c s.pos 0 st e0 W
  have hlt := row10_lt s
  have hnum : s.int = (zag (s.row 10 1).1, (s.row 10 1).2) := rfl
  have hro := fun (v n : Nat) (r : Int) h => rownum he (most := 10) (last := 1) (v := v) (n := n) (r := r) h
  obtain ⟨xs, pos, err⟩ := s
  simp only at he hp hl hz hrow hend
  subst he
  obtain ⟨q, hq⟩ : ∃ q, q = (⟨xs, pos, 0⟩ : Rdr).row 10 1 := ⟨_, rfl⟩
  rw [← hq] at hlt hnum hro
  rw [hnum]
  obtain ⟨N, hN⟩ : ∃ N, N = xs.length := ⟨_, rfl⟩
  rw [← hN] at hrow hend ⊢
  have HROW := Lib.hid hrow
  have HEND := Lib.hid hend
  have HRO := Lib.hid hro
  clear hr hrow hend hro hnum hq hN hz
  unfold rvC at *
  go_enter Tryz.func125, Tryz.ntmps125
  go_wp2_with fail
  refine (HROW.out _ (((Below.refl _ _).alloc (Nat.le_refl _) _).alloc (by simp) _)).mono ?_; rintro e w1 ⟨v, a, r, rfl, hb, n, hgo, ha⟩
  obtain ⟨L1, Z1, b1⟩ := below_four hb
  have hq := HRO.out v n r hgo
  clear hb hgo HRO
  obtain ⟨l0, l1, l2, l3, lf0, lf1, _⟩ := L1.rfour
  by_cases h0 : r = 0
  ·subst h0
   rw [if_pos rfl] at ha hq
   subst hq
   subst ha
   have hv : (v : Int) < 18446744073709551616 := by simp only at hlt; omega
   have Z2 := Z1.other (a := ⟨w.heap.size, 1, none⟩) (by show w.heap.size + 1 ≠ w.heap.size; omega) (.int .i64 ((pos : Int) + (n : Int)))
   have b2 := b1.setCell (p := ⟨w.heap.size, 1, none⟩) (Nat.le_refl _) (.int .i64 ((pos : Int) + (n : Int)))
   obtain ⟨z0, z1, z2, z3, f0, f1, f2, f3⟩ := Z1.rfour
   obtain ⟨e0, e1, e2, e3, _, be⟩ := Z2.put4 b2 (Nat.le_succ _) (.slice A N c) (.int .i64 ((pos : Int) + (n : Int))) (.int .i64 0) (.int .i64 st)
   have HE := Lib.hid (And.intro e0 (And.intro e1 (And.intro e2 e3)))
   clear HROW HEND e0 e1 e2 e3 L1 Z1 Z2 b1 b2
   by_cases hv2 : v % 2 = 0
   ·have ht : ((v : Int) % 2 == 0) = true := by simp; omega
    have hzg : zag v = (v : Int) / 2 := by unfold zag; rw [if_pos hv2]; omega
    have HZG := Lib.hid hzg
    clear hzg hv2
    go_wp2
    go_region
    all_goals
     go_wp2
     obtain ⟨e0, e1, e2, e3⟩ := HE.out
     unfold put4 at e0 e1 e2 e3
     refine bodyPost_ret (v := .tuple #[.int .i64 ((v : Int) / 2), .agg #[.slice A N c, .int .i64 (pos + n), .int .i64 0, .int .i64 st]]) (by simp [results, Tryz.results125, go_sem, e0, e1, e2, e3]) rfl ⟨st, by simp [rvC, HZG.out], be.drew⟩
   ·have ht : ((v : Int) % 2 == 0) = false := by simp; omega
    have hzg : zag v = -((v : Int) / 2) - 1 := by unfold zag; rw [if_neg hv2]; omega
    have HZG := Lib.hid hzg
    clear hzg hv2
    go_wp2
    go_region
    all_goals
     go_wp2
     obtain ⟨e0, e1, e2, e3⟩ := HE.out
     unfold put4 at e0 e1 e2 e3
     refine bodyPost_ret (v := .tuple #[.int .i64 (-((v : Int) / 2) - 1), .agg #[.slice A N c, .int .i64 (pos + n), .int .i64 0, .int .i64 st]]) (by simp [results, Tryz.results125, go_sem, e0, e1, e2, e3]) rfl ⟨st, by simp [rvC, HZG.out], be.drew⟩
  ·have hr' : (r != 0) = true := by simpa using h0
   rw [if_neg h0] at ha hq
   subst hq
   have HR0 := Lib.hid h0
   clear ha HROW h0
   go_wp2_with fail
   refine (HEND.out r _).mono ?_; rintro e w2 ⟨rfl, hb2⟩
   have Z2 := Z1.below hb2 Z1.lt
   have b2 := below_then b1 hb2 b1.size
   obtain ⟨z0, z1, z2, z3, f0, f1, f2, f3⟩ := Z2.rfour
   obtain ⟨e0, e1, e2, e3, _, be⟩ := Z2.put4 b2 (Nat.le_succ _) (.slice A N c) (.int .i64 pos) (.int .i64 r) (.int .i64 pos)
   have HE := Lib.hid (And.intro e0 (And.intro e1 (And.intro e2 e3)))
   clear HEND e0 e1 e2 e3 L1 Z1 Z2 b1 b2 hb2
   go_wp2
   obtain ⟨e0, e1, e2, e3⟩ := HE.out
   unfold put4 at e0 e1 e2 e3
   refine bodyPost_ret (v := .tuple #[.int .i64 0, .agg #[.slice A N c, .int .i64 pos, .int .i64 r, .int .i64 pos]]) (by simp [results, Tryz.results125, go_sem, e0, e1, e2, e3]) rfl ⟨pos, by simp [rvC, Rdr.fail, zag], be⟩
 ·have hb : s.int = (0, s) := by simp [Rdr.int, Rdr.row, he, zag]
  rw [hb]
  obtain ⟨N, hN⟩ : ∃ N, N = s.xs.length := ⟨_, rfl⟩
  obtain ⟨xs, pos, err⟩ := s
  simp only at *
  rw [← hN] at hp hl ⊢
  have he' : (err != 0) = true := by simpa using he
  clear hb hN hr he hz
  unfold rvC
  go_enter Tryz.func125, Tryz.ntmps125
  go_wp2
  go_region
  all_goals
   go_wp2
   refine bodyPost_ret (v := .tuple #[.int .i64 0, .agg #[.slice A N c, .int .i64 pos, .int .i64 err, .int .i64 st]]) (by simp [results, Tryz.results125, go_sem]) rfl ⟨st, rfl, ?_⟩
   exact (((Below.refl _ _).alloc (Nat.le_refl _) _).alloc (by simp) _).drew
end Go.Proofs.YtnieminnnkbneaaGreat

namespace Go.Proofs.YtnieminnnkbneaaGreat
open Go.RowKit

theorem rowGo_le (xs : Bs) (pos most last : Nat) : ∀ f i u v n, Rdr.rowGo xs pos most last f i u = (0, v, n) → pos + n ≤ xs.length
 | 0, i, u, v, n, h => by simp [Rdr.rowGo] at h
 | f + 1, i, u, v, n, h => by
  rw [Rdr.rowGo] at h
  split at h
  ·simp at h
  ·rename_i b hb
   have hi : pos + i < xs.length := (List.getElem?_eq_some_iff.1 hb).1
   split at h
   ·simp at h
   ·split at h
    ·split at h
     ·simp at h
     ·simp at h; omega
    ·exact rowGo_le xs pos most last f _ _ v n h

theorem row_pos {s : Rdr} {most last : Nat} (h : s.pos ≤ s.xs.length) : (s.row most last).2.pos ≤ s.xs.length := by
 unfold Rdr.row
 split
 ·exact h
 ·rcases hg : Rdr.rowGo s.xs s.pos most last most 0 0 with ⟨e, u, n⟩
  simp only
  split
  ·rename_i he
   subst he
   exact rowGo_le _ _ _ _ _ _ _ _ _ hg
  ·exact h

theorem number_pos {s : Rdr} (h : s.pos ≤ s.xs.length) : s.number.2.pos ≤ s.xs.length := row_pos (most := 9) (last := 127) h
theorem int_pos {s : Rdr} (h : s.pos ≤ s.xs.length) : s.int.2.pos ≤ s.xs.length := row_pos (most := 10) (last := 1) h
theorem int_xs (r : Rdr) : r.int.2.xs = r.xs := row_xs r 10 1

theorem loc_put4a {w0 w : World} {b : Nat} {v0 v1 v2 v3 : Value} {t : TypeId} (h : Loc w b #[v0, v1, v2, v3] t) (hb : Below w0.heap.size w0 w) (hw : w0.heap.size ≤ b) (u0 u1 u2 u3 : Value) (o : Obj) :
  ((put4 w b u0 u1 u2 u3).alloc o).cell? ⟨b, 0, none⟩ = some u0 ∧ ((put4 w b u0 u1 u2 u3).alloc o).cell? ⟨b, 1, none⟩ = some u1 ∧ ((put4 w b u0 u1 u2 u3).alloc o).cell? ⟨b, 2, none⟩ = some u2 ∧ ((put4 w b u0 u1 u2 u3).alloc o).cell? ⟨b, 3, none⟩ = some u3 ∧
   Below w0.heap.size w0 ((put4 w b u0 u1 u2 u3).alloc o) := by
 obtain ⟨_, _, _, _, L, be⟩ := h.put4 hb hw u0 u1 u2 u3
 obtain ⟨e0, e1, e2, e3, _⟩ := (L.alloc o).rfour
 exact ⟨e0, e1, e2, e3, be.alloc be.size o⟩

set_option maxRecDepth 100000 in
set_option maxHeartbeats 4000000 in
theorem rttext_any (A : Option Addr) (c : Nat) (s : Rdr) (st most : Int) (hm0 : -9223372036854775808 ≤ most) (hm1 : most ≤ 9223372036854775807) (w : World) (hr : Row w A (cellsB s.xs)) (hp : s.pos ≤ s.xs.length) (hl : s.xs.length ≤ 140737488355328) (hz : A = none → s.xs.length = 0) (hcap : s.xs.length ≤ c) :
  Calls Tryz.prog 68 #[.agg (rvC A s.xs.length c s.pos s.err st), .int .i64 most] w (RTk A s.xs.length c (.string (ofBs (s.text most).1)) (s.text most).2 w) := by
 by_cases he : s.err = 0
 ·have hnn := number_nonneg s
  have hxs := number_xs s
  have hpp := number_pos hp
  obtain ⟨n, q, hnq⟩ : ∃ n q, s.number = (n, q) := ⟨_, _, rfl⟩
  have hnum := fun W (h : Below w.heap.size w W) => rtnumber_any A c s st W (hr.of_below h (Nat.le_refl _)) hp hl hz
  have hend := fun e0 W => rends_any A s.xs.length c s.pos 0 st e0 W
  have htext : s.text most = if q.err ≠ 0 then ([], q) else if (if most < 0 then 0 else most) < n then ([], s.fail 4) else if ((q.xs.length : Int) - q.pos) < n then ([], s.fail 2) else ((q.xs.drop q.pos).take n.toNat, { q with pos := q.pos + n.toNat }) := by
   have hmax : max most 0 = if most < 0 then 0 else most := by split <;> omega
   simp only [Rdr.text, he, hnq, hmax]; rfl
  rw [hnq] at hxs hnn hpp hnum
  simp only at hxs hnn hpp hnum
  obtain ⟨hn0, hn1⟩ := hnn
  rw [hxs] at htext
  obtain ⟨xs, pos, err⟩ := s
  simp only at he hp hl hz hcap hpp hnum hend hr hxs htext
  subst he
  obtain ⟨N, hN⟩ : ∃ N, N = xs.length := ⟨_, rfl⟩
  rw [← hN] at hp hl hz hcap hpp hnum hend htext ⊢
  obtain ⟨T, hT⟩ : ∃ T, T = (⟨xs, pos, 0⟩ : Rdr).text most := ⟨_, rfl⟩
  rw [← hT] at htext ⊢
  have HNUM := Lib.hid hnum
  have HEND := Lib.hid hend
  have HT := Lib.hid htext
  have HN := Lib.hid hN
  have HROW := Lib.hid hr
  have HZ := Lib.hid hz
  have HXS := Lib.hid hxs
  clear hnq hnum hend htext hT hN hr hz hxs
  unfold rvC at *
  go_enter Tryz.func68, Tryz.ntmps68
  go_wp2_with fail
  refine (HNUM.out _ (((Below.refl _ _).alloc (Nat.le_refl _) _).alloc (by simp) _)).mono ?_; rintro e w1 ⟨st', rfl, hb⟩
  unfold rvC
  obtain ⟨L1, Z1, b1⟩ := below_four hb
  clear hb HNUM
  obtain ⟨qxs, qp, qe⟩ := q
  simp only at hpp ⊢
  have hlt0 := L1.lt
  have hlt1 := Z1.lt
  have b2 := b1.alloc b1.size (.cells #[.slice A N c, .int .i64 (qp : Int), .int .i64 qe, .int .i64 st'] 126)
  obtain ⟨l0, l1, l2, l3, _⟩ := L1.rfour
  obtain ⟨z0, z1, z2, z3, f0, f1, f2, f3⟩ := Z1.rfour
  have Z2 := Z1.alloc (.cells #[.slice A N c, .int .i64 (qp : Int), .int .i64 qe, .int .i64 st'] 126)
  by_cases hq : qe = 0
  ·subst hq
   by_cases hmx : (if most < 0 then 0 else most) < n
   ·have hres : T = ([], (⟨xs, pos, 0⟩ : Rdr).fail 4) := by rw [HT.out, if_neg (by simp), if_pos hmx]
    have HR := Lib.hid hres
    clear hres HT
    go_wp2_with fail
    all_goals
     refine (HEND.out 4 _).mono ?_; rintro e w2 ⟨rfl, hb2⟩
     have Z3 := Z2.below hb2 Z2.lt
     have b3 := below_then b2 hb2 b2.size
     clear z0 z1 z2 z3 f0 f1 f2 f3
     obtain ⟨z0, z1, z2, z3, f0, f1, f2, f3⟩ := Z3.rfour
     obtain ⟨e0, e1, e2, e3, _, be⟩ := Z3.put4 b3 (Nat.le_succ _) (.slice A N c) (.int .i64 pos) (.int .i64 4) (.int .i64 pos)
     have HE := Lib.hid (And.intro e0 (And.intro e1 (And.intro e2 e3)))
     clear HEND e0 e1 e2 e3 L1 Z1 Z2 Z3 b1 b2 b3 hb2
     go_wp2
     obtain ⟨e0, e1, e2, e3⟩ := HE.out
     unfold put4 at e0 e1 e2 e3
     refine bodyPost_ret (v := .tuple #[.string ⟨#[]⟩, .agg #[.slice A N c, .int .i64 pos, .int .i64 4, .int .i64 pos]]) (by simp [results, Tryz.results68, go_sem, e0, e1, e2, e3]) rfl ?_
     unfold RTk
     rw [HR.out]
     exact ⟨pos, rfl, be⟩
   ·by_cases hsh : ((N : Int) - qp) < n
    ·have hres : T = ([], (⟨xs, pos, 0⟩ : Rdr).fail 2) := by rw [HT.out, if_neg (by simp), if_neg hmx, if_pos hsh]
     have HR := Lib.hid hres
     clear hres HT
     go_wp2_with fail
     all_goals
      refine (HEND.out 2 _).mono ?_; rintro e w2 ⟨rfl, hb2⟩
      have Z3 := Z2.below hb2 Z2.lt
      have b3 := below_then b2 hb2 b2.size
      clear z0 z1 z2 z3 f0 f1 f2 f3
      obtain ⟨z0, z1, z2, z3, f0, f1, f2, f3⟩ := Z3.rfour
      obtain ⟨e0, e1, e2, e3, _, be⟩ := Z3.put4 b3 (Nat.le_succ _) (.slice A N c) (.int .i64 pos) (.int .i64 2) (.int .i64 pos)
      have HE := Lib.hid (And.intro e0 (And.intro e1 (And.intro e2 e3)))
      clear HEND e0 e1 e2 e3 L1 Z1 Z2 Z3 b1 b2 b3 hb2
      go_wp2
      obtain ⟨e0, e1, e2, e3⟩ := HE.out
      unfold put4 at e0 e1 e2 e3
      refine bodyPost_ret (v := .tuple #[.string ⟨#[]⟩, .agg #[.slice A N c, .int .i64 pos, .int .i64 2, .int .i64 pos]]) (by simp [results, Tryz.results68, go_sem, e0, e1, e2, e3]) rfl ?_
      unfold RTk
      rw [HR.out]
      exact ⟨pos, rfl, be⟩
    ·have hxs : qxs = xs := HXS.out
     have hres : T = ((xs.drop qp).take n.toNat, ⟨xs, qp + n.toNat, 0⟩) := by rw [HT.out, if_neg (by simp), if_neg hmx, if_neg hsh, ← hxs]
     obtain ⟨m, rfl⟩ := Int.eq_ofNat_of_zero_le hn0
     have hlen : qp + m ≤ N := by omega
     have hsz1 : (Tryz.prog.info? 5).map (·.size) = some 1 := by kernel_rfl
     have hsl0 : ∀ W, (Instr.slice 33 (.slice A N c) (some (.int .i64 (qp : Int))) (some (.int .i64 ((qp : Int) + (m : Int)))) none).run Tryz.prog W = .ok (.slice (subAddr A qp c 1) (qp + m - qp) (c - qp)) W := fun W => run_subs (P := Tryz.prog) 33 5 1 Tryz.underlying33 hsz1 A N c qp (qp + m) (by omega) (by omega) W
     have hrow2 := HROW.out.subs 1 qp m c (by rw [cellsB_length, ← HN.out]; omega) (by rw [cellsB_length, ← HN.out]; omega)
     obtain ⟨A', hA'⟩ : ∃ A', A' = subAddr A qp c 1 := ⟨_, rfl⟩
     obtain ⟨c', hc'⟩ : ∃ c', c' = c - qp := ⟨_, rfl⟩
     obtain ⟨bs, hbs⟩ : ∃ bs, bs = (xs.drop qp).take m := ⟨_, rfl⟩
     have hbl : m = bs.length := by rw [hbs]; simp; rw [← HN.out]; omega
     have hAn : A' = none → m = 0 := fun h => by
      have h1 : A = none := by
       rw [hA'] at h
       unfold subAddr at h
       split at h
       ·exact h
       ·simpa using h
      have := HZ.out h1
      omega
     rw [← hA', show (cellsB xs |>.drop (qp * 1) |>.take m) = cellsB bs from by rw [hbs]; simp [cellsB]] at hrow2
     simp only [← hA', ← hc', Nat.add_sub_cancel_left] at hsl0
     have hconv : ∀ W, Below w.heap.size w W → (convert 33 9 (.slice A' m c')).run Tryz.prog W = .ok (.string ⟨bs.toArray⟩) W := fun W hW =>
      run_ofBytes (P := Tryz.prog) 33 9 5 Tryz.underlying33 Tryz.underlying5 Tryz.underlying9 (A := A') m c' hbl (hrow2.of_below hW (Nat.le_refl _)) hAn
     have hcv := hconv _ b2
     have HR : Hid (T = (bs, ⟨xs, qp + m, 0⟩)) := Lib.hid (by rw [hres, hbs]; rfl)
     obtain ⟨e0, e1, e2, e3, be⟩ := loc_put4a Z1 b1 (Nat.le_succ _) (.slice A N c) (.int .i64 ((qp : Int) + (m : Int))) (.int .i64 0) (.int .i64 st') (.cells #[.slice A N c, .int .i64 ((qp : Int) + (m : Int)), .int .i64 0, .int .i64 st'] 126)
     have HE := Lib.hid (And.intro e0 (And.intro e1 (And.intro e2 e3)))
     clear hA' hc' hbs hbl hrow2 hconv hres hxs hAn HEND e0 e1 e2 e3 L1 Z1 Z2 b1 b2
     go_wp2
     all_goals
      go_region
      go_wp2
      obtain ⟨e0, e1, e2, e3⟩ := HE.out
      unfold put4 at e0 e1 e2 e3
      refine bodyPost_ret (v := .tuple #[.string ⟨bs.toArray⟩, .agg #[.slice A N c, .int .i64 (qp + m), .int .i64 0, .int .i64 st']]) (by simp [results, Tryz.results68, go_sem, e0, e1, e2, e3]) rfl ?_
      unfold RTk
      rw [HR.out]
      exact ⟨st', rfl, be.drew⟩
  ·have ht : (qe != 0) = true := by simp [hq]
   have hres : T = ([], ⟨qxs, qp, qe⟩) := by rw [HT.out, if_pos hq]
   have HR := Lib.hid hres
   clear hq hres HEND HT
   obtain ⟨e0, e1, e2, e3, be⟩ := loc_put4a Z1 b1 (Nat.le_succ _) (.slice A N c) (.int .i64 qp) (.int .i64 qe) (.int .i64 st') (.cells #[.slice A N c, .int .i64 (qp : Int), .int .i64 qe, .int .i64 st'] 126)
   have HE := Lib.hid (And.intro e0 (And.intro e1 (And.intro e2 e3)))
   clear e0 e1 e2 e3 L1 Z1 Z2 b1 b2
   go_wp2
   go_region
   all_goals
    go_wp2
    obtain ⟨e0, e1, e2, e3⟩ := HE.out
    unfold put4 at e0 e1 e2 e3
    refine bodyPost_ret (v := .tuple #[.string ⟨#[]⟩, .agg #[.slice A N c, .int .i64 qp, .int .i64 qe, .int .i64 st']]) (by simp [results, Tryz.results68, go_sem, e0, e1, e2, e3]) rfl ?_
    unfold RTk
    rw [HR.out]
    exact ⟨st', rfl, be.drew⟩
 ·have hb : s.text most = ([], s) := by simp [Rdr.text, he]
  rw [hb]
  obtain ⟨N, hN⟩ : ∃ N, N = s.xs.length := ⟨_, rfl⟩
  obtain ⟨xs, pos, err⟩ := s
  simp only at *
  rw [← hN] at hp hl ⊢
  have he' : (err != 0) = true := by simpa using he
  clear hb hN hr he hz hcap
  unfold rvC
  go_enter Tryz.func68, Tryz.ntmps68
  go_wp2
  go_region
  all_goals
   go_wp2
   refine bodyPost_ret (v := .tuple #[.string ⟨#[]⟩, .agg #[.slice A N c, .int .i64 pos, .int .i64 err, .int .i64 st]]) (by simp [results, Tryz.results68, go_sem]) rfl ⟨st, rfl, ?_⟩
   exact (((Below.refl _ _).alloc (Nat.le_refl _) _).alloc (by simp) _).drew
theorem rtread_any (A : Option Addr) (n c : Nat) (w : World) :
  Calls Tryz.prog 64 #[.slice A n c] w fun e w' => e = .returned (.agg (rvC A n c 0 0 0)) ∧ Below w.heap.size w w' := by
 unfold rvC
 go_enter Tryz.func64, Tryz.ntmps64
 go_wp2
 refine bodyPost_ret (v := .agg #[.slice A n c, .int .i64 0, .int .i64 0, .int .i64 0]) (by simp [results, Tryz.results64, go_sem]) rfl ⟨rfl, ?_⟩
 exact (Below.refl _ _).alloc (Nat.le_refl _) _

theorem rtend_any (A : Option Addr) (c : Nat) (s : Rdr) (st : Int) (w : World) (hp : s.pos ≤ s.xs.length) (hl : s.xs.length ≤ 140737488355328) :
  Calls Tryz.prog 67 #[.agg (rvC A s.xs.length c s.pos s.err st)] w fun e w' => e = .returned (.int .i64 s.end_) ∧ Below w.heap.size w w' := by
 obtain ⟨xs, pos, err⟩ := s
 simp only at *
 obtain ⟨E, hE⟩ : ∃ E, E = (⟨xs, pos, err⟩ : Rdr).end_ := ⟨_, rfl⟩
 rw [← hE]
 have hend : E = if err = 0 ∧ pos < xs.length then 3 else err := hE
 obtain ⟨N, hN⟩ : ∃ N, N = xs.length := ⟨_, rfl⟩
 rw [← hN] at hp hl hend ⊢
 have HE := Lib.hid hend
 have b1 := (Below.refl w.heap.size w).alloc (Nat.le_refl _) (.cells #[.slice A N c, .int .i64 pos, .int .i64 err, .int .i64 st] 126)
 clear hE hend hN
 unfold rvC
 by_cases he : err = 0
 ·subst he
  by_cases hlt : pos < N
  ·have hr : E = 3 := by rw [HE.out, if_pos ⟨rfl, hlt⟩]
   have HR := Lib.hid hr
   have hlt' : (pos : Int) < (N : Int) := by omega
   clear hr hlt
   go_enter Tryz.func67, Tryz.ntmps67
   go_wp2
   go_ret
   rw [HR.out]
   exact ⟨rfl, b1⟩
  ·have hr : E = 0 := by rw [HE.out, if_neg (by omega)]
   have HR := Lib.hid hr
   have hge : ¬ (pos : Int) < (N : Int) := by omega
   clear hr hlt
   go_enter Tryz.func67, Tryz.ntmps67
   go_wp2
   go_ret
   rw [HR.out]
   exact ⟨rfl, b1⟩
 ·have hr : E = err := by rw [HE.out, if_neg (by omega)]
  have HR := Lib.hid hr
  have he' : (err == 0) = false := by simpa using he
  clear hr he
  go_enter Tryz.func67, Tryz.ntmps67
  go_wp2
  go_ret
  rw [HR.out]
  exact ⟨rfl, b1⟩
end Go.Proofs.YtnieminnnkbneaaGreat

namespace Go.Proofs.YtnieminnnkbneaaGreat
open Go.RowKit

theorem loc_put4o {w : World} {b b' : Nat} {c : Array Value} {t : TypeId} (h : Loc w b' c t) (hne : b' ≠ b) (u0 u1 u2 u3 : Value) : Loc (put4 w b u0 u1 u2 u3) b' c t :=
 (((h.other (a := ⟨b, 0, none⟩) hne _).other (a := ⟨b, 1, none⟩) hne _).other (a := ⟨b, 2, none⟩) hne _).other (a := ⟨b, 3, none⟩) hne _

def put3 (w : World) (b : Nat) (u0 u1 u2 : Value) : World := ((w.setCell ⟨b, 0, none⟩ u0).setCell ⟨b, 1, none⟩ u1).setCell ⟨b, 2, none⟩ u2

theorem loc_put3 {w0 w : World} {b : Nat} {v0 v1 v2 : Value} {t : TypeId} (h : Loc w b #[v0, v1, v2] t) (hb : Below w0.heap.size w0 w) (hw : w0.heap.size ≤ b) (u0 u1 u2 : Value) :
  (put3 w b u0 u1 u2).cell? ⟨b, 0, none⟩ = some u0 ∧ (put3 w b u0 u1 u2).cell? ⟨b, 1, none⟩ = some u1 ∧ (put3 w b u0 u1 u2).cell? ⟨b, 2, none⟩ = some u2 ∧
   Loc (put3 w b u0 u1 u2) b #[u0, u1, u2] t ∧ Below w0.heap.size w0 (put3 w b u0 u1 u2) := by
 have g : Loc (put3 w b u0 u1 u2) b #[u0, u1, u2] t := ((h.set 0 u0).set 1 u1).set 2 u2
 exact ⟨g.cell 0, g.cell 1, g.cell 2, g, ((hb.setCell (p := ⟨b, 0, none⟩) hw _).setCell (p := ⟨b, 1, none⟩) hw _).setCell (p := ⟨b, 2, none⟩) hw _⟩

theorem loc_three {w : World} {b : Nat} {v0 v1 v2 : Value} {t : TypeId} (h : Loc w b #[v0, v1, v2] t) :
  w.cell? ⟨b, 0, none⟩ = some v0 ∧ w.cell? ⟨b, 1, none⟩ = some v1 ∧ w.cell? ⟨b, 2, none⟩ = some v2 ∧
   w.frozen? ⟨b, 0, none⟩ = false ∧ w.frozen? ⟨b, 1, none⟩ = false ∧ w.frozen? ⟨b, 2, none⟩ = false :=
 ⟨h.cell 0, h.cell 1, h.cell 2, h.free 0, h.free 1, h.free 2⟩

theorem byte_xs (r : Rdr) : r.byte.2.xs = r.xs := by
 unfold Rdr.byte
 split
 ·rfl
 ·split <;> rfl
theorem byte_pos {s : Rdr} (h : s.pos ≤ s.xs.length) : s.byte.2.pos ≤ s.xs.length := by
 unfold Rdr.byte
 split
 ·exact h
 ·split
  ·exact h
  ·rename_i b hb
   exact (List.getElem?_eq_some_iff.1 hb).1

theorem text_xs (r : Rdr) (m : Int) : (r.text m).2.xs = r.xs := by
 unfold Rdr.text
 have := number_xs r
 split
 ·rfl
 ·dsimp only
  split
  ·exact this
  ·split
   ·rfl
   ·split
    ·rfl
    ·exact this
theorem text_pos {s : Rdr} (m : Int) (h : s.pos ≤ s.xs.length) : (s.text m).2.pos ≤ s.xs.length := by
 unfold Rdr.text
 have h1 := number_xs s
 have h2 := number_pos h
 have h3 := number_nonneg s
 split
 ·exact h
 ·dsimp only
  split
  ·exact h2
  ·split
   ·exact h
   ·split
    ·exact h
    ·show s.number.2.pos + s.number.1.toNat ≤ _
     rw [h1] at *
     omega

set_option maxRecDepth 100000 in
set_option maxHeartbeats 1000000 in
theorem rddec_any (A : Option Addr) (c : Nat) (xs : Bs) (w : World) (hr : Row w A (cellsB xs)) (hl : xs.length ≤ 140737488355328) (hz : A = none → xs.length = 0) (hcap : xs.length ≤ c) :
  Calls Tryz.prog 109 #[.slice A xs.length c] w fun e w' => e = .returned (.tuple #[.agg (valCells (datumDecode xs).1), .int .i64 (datumDecode xs).2]) ∧ Below w.heap.size w w' := by
 obtain ⟨k, s1, hks⟩ : ∃ k s1, (Rdr.new xs).byte = (k, s1) := ⟨_, _, rfl⟩
 have hlt := rbyte_lt (Rdr.new xs)
 have hx1 := byte_xs (Rdr.new xs)
 have hp1 := byte_pos (s := Rdr.new xs) (Nat.zero_le _)
 have hby := fun W (h : Below w.heap.size w W) => rtbyte_any A c (Rdr.new xs) 0 W (hr.of_below h (Nat.le_refl _)) (Nat.zero_le _) hl
 rw [hks] at hlt hx1 hp1 hby
 simp only at hlt hx1 hp1 hby
 obtain ⟨kI, hkI⟩ : ∃ kI : Int, kI = (k : Int) := ⟨_, rfl⟩
 rw [← hkI] at hby
 obtain ⟨dd, hdd⟩ : ∃ dd, dd = datumDecode xs := ⟨_, rfl⟩
 have hde := fun h => ddec_err (xs := xs) hks h
 have hdk := fun h h2 => ddec_kind (xs := xs) hks h h2
 have hdo := fun h v s2 hv => ddec_ok (xs := xs) hks h v s2 hv
 rw [← hdd] at hde hdk hdo ⊢
 obtain ⟨N, hN⟩ : ∃ N, N = xs.length := ⟨_, rfl⟩
 have e1 : (Rdr.new xs).xs = xs := rfl
 rw [e1] at hby hx1 hp1
 rw [← hN] at hby hl hcap hp1 ⊢
 have HBY := Lib.hid hby
 have HDE := Lib.hid hde
 have HDK := Lib.hid hdk
 have HDO := Lib.hid hdo
 have HROW := Lib.hid hr
 have HN := Lib.hid hN
 have HZ := Lib.hid hz
 have HX1 := Lib.hid hx1
 have HKI := Lib.hid hkI
 have hk256 : 0 ≤ kI ∧ kI < 256 := by omega
 obtain ⟨hkl, hkh⟩ := hk256
 have hrd := fun W => rtread_any A N c W
 have HRD := Lib.hid hrd
 clear hkI hlt hr hz hks hx1 hby hdd hde hdk hdo hN e1 hrd
 unfold rvC at *
 go_enter Tryz.func109, Tryz.ntmps109
 have Z1 := Loc.new w #[.int .i64 0, .int .i64 0, .string ⟨#[]⟩] 60
 have b1 := (Below.refl w.heap.size w).alloc (Nat.le_refl _) (.cells #[.int .i64 0, .int .i64 0, .string ⟨#[]⟩] 60)
 go_wp2_with fail
 refine (HRD.out _).mono ?_; rintro e w1 ⟨rfl, hb⟩
 have Z2 := Z1.below hb Z1.lt
 have b2 := below_then b1 hb b1.size
 have Z3 := Z2.alloc (.cells #[.slice A N c, .int .i64 0, .int .i64 0, .int .i64 0] 126)
 have R3 := Loc.new w1 #[.slice A N c, .int .i64 0, .int .i64 0, .int .i64 0] 126
 have b3 := b2.alloc b2.size (.cells #[.slice A N c, .int .i64 0, .int .i64 0, .int .i64 0] 126)
 have hlt1 := Z2.lt
 have hw1 := b2.size
 clear Z1 b1 hb Z2 b2 HRD
 go_wp2_with fail
 refine (HBY.out _ b3).mono ?_; rintro e w2 ⟨st, rfl, hb⟩
 unfold rvC
 obtain ⟨xs1, p1, e1⟩ := s1
 simp only at hp1 ⊢
 have Z4 := Z3.below hb Z3.lt
 have R4 := R3.below hb R3.lt
 have b4 := below_then b3 hb b3.size
 obtain ⟨r0, r1, r2, r3, rf0, rf1, rf2, rf3⟩ := R4.rfour
 obtain ⟨_, _, _, _, R5, b5⟩ := R4.put4 b4 hw1 (.slice A N c) (.int .i64 p1) (.int .i64 e1) (.int .i64 st)
 have Z5 := loc_put4o Z4 (show w.heap.size ≠ w1.heap.size by omega) (.slice A N c) (.int .i64 p1) (.int .i64 e1) (.int .i64 st)
 clear Z3 R3 b3 hb HBY b4
 by_cases he1 : e1 = 0
 ·subst he1
  obtain rfl : xs1 = xs := HX1.out
  have hsz5 : (put4 w2 w1.heap.size (.slice A N c) (.int .i64 p1) (.int .i64 0) (.int .i64 st)).heap.size = w2.heap.size := by simp [put4]
  have V6 := Loc.new (put4 w2 w1.heap.size (.slice A N c) (.int .i64 p1) (.int .i64 0) (.int .i64 st)) #[.int .i64 kI, .int .i64 0, .string ⟨#[]⟩] 60
  rw [hsz5] at V6
  have Z6 := Z5.alloc (.cells #[.int .i64 kI, .int .i64 0, .string ⟨#[]⟩] 60)
  have R6 := R5.alloc (.cells #[.int .i64 kI, .int .i64 0, .string ⟨#[]⟩] 60)
  have b6 := b5.alloc b5.size (.cells #[.int .i64 kI, .int .i64 0, .string ⟨#[]⟩] 60)
  have hk2 : w1.heap.size < w2.heap.size := R4.lt
  clear hsz5 R4 R5
  by_cases hk : k = 0 ∨ k = 1 ∨ k = 2
  ·clear Z4 Z5 b5
   rcases hk with rfl | rfl | rfl
   ·obtain rfl : kI = 0 := HKI.out
    have hend := fun W => rtend_any A c ⟨xs1, p1, 0⟩ st W (by rw [← HN.out]; exact hp1) (by rw [← HN.out]; exact hl)
    rw [show (⟨xs1, p1, 0⟩ : Rdr).xs.length = N from HN.out.symm] at hend
    unfold rvC at hend
    obtain ⟨E, hE⟩ : ∃ E, E = (⟨xs1, p1, 0⟩ : Rdr).end_ := ⟨_, rfl⟩
    have hdd := HDO.out rfl ⟨0, 0, ⟨#[]⟩⟩ ⟨xs1, p1, 0⟩ (.inl ⟨rfl, rfl, rfl⟩)
    rw [← hE] at hend hdd
    have HEND := Lib.hid hend
    have HDD := Lib.hid hdd
    clear hend hdd hE
    go_wp2_with fail
    refine (HEND.out _).mono ?_; rintro e w9 ⟨rfl, hb⟩
    have Z9 := Z6.below hb Z6.lt
    have V9 := V6.below hb V6.lt
    have b9 := below_then b6 hb b6.size
    have hvz := V6.lt
    obtain ⟨x0, x1, x2, _⟩ := loc_three V9
    obtain ⟨z0, z1, z2, zf0, zf1, zf2⟩ := loc_three Z9
    by_cases hE0 : E = 0
    ·subst hE0
     have hd : dd = (⟨0, 0, ⟨#[]⟩⟩, 0) := by rw [HDD.out, if_neg (by simp)]
     have HD := Lib.hid hd
     obtain ⟨y0, y1, y2, _, be⟩ := loc_put3 Z9 b9 (Nat.le_refl _) (.int .i64 0) (.int .i64 0) (.string ⟨#[]⟩)
     have HY := Lib.hid (And.intro y0 (And.intro y1 y2))
     clear y0 y1 y2 Z9 V9 b9 hb hd Z6 V6 b6 HDD
     go_wp2
     obtain ⟨y0, y1, y2⟩ := HY.out
     unfold put3 at y0 y1 y2 be
     refine bodyPost_ret (v := .tuple #[.agg #[.int .i64 0, .int .i64 0, .string ⟨#[]⟩], .int .i64 0]) (by simp [results, Tryz.results109, go_sem, y0, y1, y2]) rfl ?_
     rw [HD.out]
     exact ⟨rfl, be⟩
    ·have hd : dd = (.zero, E) := by rw [HDD.out, if_pos hE0]
     have HD := Lib.hid hd
     have hE' : (E != 0) = true := by simpa using hE0
     obtain ⟨y0, y1, y2, _, be⟩ := loc_put3 Z9 b9 (Nat.le_refl _) (.int .i64 0) (.int .i64 0) (.string ⟨#[]⟩)
     have HY := Lib.hid (And.intro y0 (And.intro y1 y2))
     clear y0 y1 y2 Z9 V9 b9 hb hd Z6 V6 b6 HDD hE0
     go_wp2
     obtain ⟨y0, y1, y2⟩ := HY.out
     unfold put3 at y0 y1 y2 be
     refine bodyPost_ret (v := .tuple #[.agg #[.int .i64 0, .int .i64 0, .string ⟨#[]⟩], .int .i64 E]) (by simp [results, Tryz.results109, go_sem, y0, y1, y2]) rfl ?_
     rw [HD.out]
     exact ⟨rfl, be⟩
   ·obtain rfl : kI = 1 := HKI.out
    have hxs2 := int_xs ⟨xs1, p1, 0⟩
    have hp2 := int_pos (s := ⟨xs1, p1, 0⟩) (by rw [← HN.out]; exact hp1)
    have hmo := fun W (h : Below w.heap.size w W) => rtint_any A c ⟨xs1, p1, 0⟩ st W (HROW.out.of_below h (Nat.le_refl _)) (by rw [← HN.out]; exact hp1) (by rw [← HN.out]; exact hl) HZ.out
    obtain ⟨m, s2, hms⟩ : ∃ m s2, (⟨xs1, p1, 0⟩ : Rdr).int = (m, s2) := ⟨_, _, rfl⟩
    have hspec := HDO.out rfl _ _ (.inr (.inl ⟨rfl, rfl, rfl⟩))
    rw [hms] at hxs2 hp2 hmo hspec
    simp only at hxs2 hp2 hmo hspec
    obtain ⟨xs2, p2, e2⟩ := s2
    simp only at hxs2 hp2 hmo
    subst hxs2
    rw [← HN.out] at hmo hp2
    have HMO := Lib.hid hmo
    have HSPEC := Lib.hid hspec
    clear hms hmo hspec
    unfold rvC at HMO
    go_wp2_with fail
    refine (HMO.out _ b6).mono ?_; rintro e w3 ⟨st2, rfl, hb⟩
    unfold rvC
    have V7 := V6.below hb V6.lt
    have Z7 := Z6.below hb Z6.lt
    have R7 := R6.below hb R6.lt
    have b7 := below_then b6 hb b6.size
    obtain ⟨v0, v1, v2, vf0, vf1, vf2⟩ := loc_three V7
    obtain ⟨q0, q1, q2, q3, qf0, qf1, qf2, qf3⟩ := R7.rfour
    have V8 := V7.set 1 (.int .i64 m)
    have Z8 := Z7.other (a := ⟨w2.heap.size, 1, none⟩) (show w.heap.size ≠ w2.heap.size by omega) (.int .i64 m)
    have R8 := R7.other (a := ⟨w2.heap.size, 1, none⟩) (show w1.heap.size ≠ w2.heap.size by omega) (.int .i64 m)
    have b8 := b7.setCell (p := ⟨w2.heap.size, 1, none⟩) (show w.heap.size ≤ w2.heap.size by omega) (.int .i64 m)
    obtain ⟨_, _, _, _, R9, c9⟩ := R8.put4 b8 hw1 (.slice A N c) (.int .i64 p2) (.int .i64 e2) (.int .i64 st2)
    have Y9 := loc_put4o Z8 (show w.heap.size ≠ w1.heap.size by omega) (.slice A N c) (.int .i64 p2) (.int .i64 e2) (.int .i64 st2)
    have X9 := loc_put4o V8 (show w2.heap.size ≠ w1.heap.size by omega) (.slice A N c) (.int .i64 p2) (.int .i64 e2) (.int .i64 st2)
    simp only [List.setIfInBounds_toArray, List.set_cons_succ, List.set_cons_zero] at X9
    have hn1 : ¬ w2.heap.size = w1.heap.size := by omega
    have hn2 : ¬ w1.heap.size = w2.heap.size := by omega
    clear V6 Z6 R6 b6 hb V7 Z7 R7 b7 V8 Z8 R8 b8 HMO
    have hend := fun W => rtend_any A c ⟨xs2, p2, e2⟩ st2 W (by rw [← HN.out]; exact hp2) (by rw [← HN.out]; exact hl)
    rw [show (⟨xs2, p2, e2⟩ : Rdr).xs.length = N from HN.out.symm] at hend
    unfold rvC at hend
    obtain ⟨E, hE⟩ : ∃ E, E = (⟨xs2, p2, e2⟩ : Rdr).end_ := ⟨_, rfl⟩
    have hdd := HSPEC.out
    rw [← hE] at hend hdd
    have HEND := Lib.hid hend
    have HDD := Lib.hid hdd
    clear hend hdd hE
    go_wp2_with fail
    refine (HEND.out _).mono ?_; rintro e w9 ⟨rfl, hb⟩
    have Z9 := Y9.below hb Y9.lt
    have V9 := X9.below hb X9.lt
    have b9 := below_then c9 hb c9.size
    have hvz := X9.lt
    obtain ⟨x0, x1, x2, _⟩ := loc_three V9
    obtain ⟨z0, z1, z2, zf0, zf1, zf2⟩ := loc_three Z9
    by_cases hE0 : E = 0
    ·subst hE0
     have hd : dd = (⟨1, m, ⟨#[]⟩⟩, 0) := by rw [HDD.out, if_neg (by simp)]
     have HD := Lib.hid hd
     obtain ⟨y0, y1, y2, _, be⟩ := loc_put3 Z9 b9 (Nat.le_refl _) (.int .i64 1) (.int .i64 m) (.string ⟨#[]⟩)
     have HY := Lib.hid (And.intro y0 (And.intro y1 y2))
     clear y0 y1 y2 Z9 V9 b9 hb hd Y9 X9 c9 HDD
     go_wp2
     obtain ⟨y0, y1, y2⟩ := HY.out
     unfold put3 at y0 y1 y2 be
     refine bodyPost_ret (v := .tuple #[.agg #[.int .i64 1, .int .i64 m, .string ⟨#[]⟩], .int .i64 0]) (by simp [results, Tryz.results109, go_sem, y0, y1, y2]) rfl ?_
     rw [HD.out]
     exact ⟨rfl, be⟩
    ·have hd : dd = (.zero, E) := by rw [HDD.out, if_pos hE0]
     have HD := Lib.hid hd
     have hE' : (E != 0) = true := by simpa using hE0
     obtain ⟨y0, y1, y2, _, be⟩ := loc_put3 Z9 b9 (Nat.le_refl _) (.int .i64 0) (.int .i64 0) (.string ⟨#[]⟩)
     have HY := Lib.hid (And.intro y0 (And.intro y1 y2))
     clear y0 y1 y2 Z9 V9 b9 hb hd Y9 X9 c9 HDD hE0
     go_wp2
     obtain ⟨y0, y1, y2⟩ := HY.out
     unfold put3 at y0 y1 y2 be
     refine bodyPost_ret (v := .tuple #[.agg #[.int .i64 0, .int .i64 0, .string ⟨#[]⟩], .int .i64 E]) (by simp [results, Tryz.results109, go_sem, y0, y1, y2]) rfl ?_
     rw [HD.out]
     exact ⟨rfl, be⟩
   ·obtain rfl : kI = 2 := HKI.out
    have hxs2 := text_xs ⟨xs1, p1, 0⟩ 256
    have hp2 := text_pos (s := ⟨xs1, p1, 0⟩) 256 (by rw [← HN.out]; exact hp1)
    have hmo := fun W (h : Below w.heap.size w W) => rttext_any A c ⟨xs1, p1, 0⟩ st 256 (by decide) (by decide) W (HROW.out.of_below h (Nat.le_refl _)) (by rw [← HN.out]; exact hp1) (by rw [← HN.out]; exact hl) HZ.out (by rw [← HN.out]; exact hcap)
    obtain ⟨m, s2, hms⟩ : ∃ m s2, (⟨xs1, p1, 0⟩ : Rdr).text 256 = (m, s2) := ⟨_, _, rfl⟩
    have hspec := HDO.out rfl _ _ (.inr (.inr ⟨rfl, rfl, rfl⟩))
    rw [hms] at hxs2 hp2 hmo hspec
    simp only at hxs2 hp2 hmo hspec
    obtain ⟨xs2, p2, e2⟩ := s2
    simp only at hxs2 hp2 hmo
    subst hxs2
    rw [← HN.out] at hmo hp2
    have HMO := Lib.hid hmo
    have HSPEC := Lib.hid hspec
    clear hms hmo hspec
    unfold rvC at HMO
    go_wp2_with fail
    refine (HMO.out _ b6).mono ?_; rintro e w3 ⟨st2, rfl, hb⟩
    unfold rvC
    have V7 := V6.below hb V6.lt
    have Z7 := Z6.below hb Z6.lt
    have R7 := R6.below hb R6.lt
    have b7 := below_then b6 hb b6.size
    obtain ⟨v0, v1, v2, vf0, vf1, vf2⟩ := loc_three V7
    obtain ⟨q0, q1, q2, q3, qf0, qf1, qf2, qf3⟩ := R7.rfour
    have V8 := V7.set 2 (.string (ofBs m))
    have Z8 := Z7.other (a := ⟨w2.heap.size, 2, none⟩) (show w.heap.size ≠ w2.heap.size by omega) (.string (ofBs m))
    have R8 := R7.other (a := ⟨w2.heap.size, 2, none⟩) (show w1.heap.size ≠ w2.heap.size by omega) (.string (ofBs m))
    have b8 := b7.setCell (p := ⟨w2.heap.size, 2, none⟩) (show w.heap.size ≤ w2.heap.size by omega) (.string (ofBs m))
    obtain ⟨_, _, _, _, R9, c9⟩ := R8.put4 b8 hw1 (.slice A N c) (.int .i64 p2) (.int .i64 e2) (.int .i64 st2)
    have Y9 := loc_put4o Z8 (show w.heap.size ≠ w1.heap.size by omega) (.slice A N c) (.int .i64 p2) (.int .i64 e2) (.int .i64 st2)
    have X9 := loc_put4o V8 (show w2.heap.size ≠ w1.heap.size by omega) (.slice A N c) (.int .i64 p2) (.int .i64 e2) (.int .i64 st2)
    simp only [List.setIfInBounds_toArray, List.set_cons_succ, List.set_cons_zero] at X9
    have hn1 : ¬ w2.heap.size = w1.heap.size := by omega
    have hn2 : ¬ w1.heap.size = w2.heap.size := by omega
    clear V6 Z6 R6 b6 hb V7 Z7 R7 b7 V8 Z8 R8 b8 HMO
    have hend := fun W => rtend_any A c ⟨xs2, p2, e2⟩ st2 W (by rw [← HN.out]; exact hp2) (by rw [← HN.out]; exact hl)
    rw [show (⟨xs2, p2, e2⟩ : Rdr).xs.length = N from HN.out.symm] at hend
    unfold rvC at hend
    obtain ⟨E, hE⟩ : ∃ E, E = (⟨xs2, p2, e2⟩ : Rdr).end_ := ⟨_, rfl⟩
    have hdd := HSPEC.out
    rw [← hE] at hend hdd
    have HEND := Lib.hid hend
    have HDD := Lib.hid hdd
    clear hend hdd hE
    go_wp2_with fail
    refine (HEND.out _).mono ?_; rintro e w9 ⟨rfl, hb⟩
    have Z9 := Y9.below hb Y9.lt
    have V9 := X9.below hb X9.lt
    have b9 := below_then c9 hb c9.size
    have hvz := X9.lt
    obtain ⟨x0, x1, x2, _⟩ := loc_three V9
    obtain ⟨z0, z1, z2, zf0, zf1, zf2⟩ := loc_three Z9
    by_cases hE0 : E = 0
    ·subst hE0
     have hd : dd = (⟨2, 0, ofBs m⟩, 0) := by rw [HDD.out, if_neg (by simp)]
     have HD := Lib.hid hd
     obtain ⟨y0, y1, y2, _, be⟩ := loc_put3 Z9 b9 (Nat.le_refl _) (.int .i64 2) (.int .i64 0) (.string (ofBs m))
     have HY := Lib.hid (And.intro y0 (And.intro y1 y2))
     clear y0 y1 y2 Z9 V9 b9 hb hd Y9 X9 c9 HDD
     go_wp2
     obtain ⟨y0, y1, y2⟩ := HY.out
     unfold put3 at y0 y1 y2 be
     refine bodyPost_ret (v := .tuple #[.agg #[.int .i64 2, .int .i64 0, .string (ofBs m)], .int .i64 0]) (by simp [results, Tryz.results109, go_sem, y0, y1, y2]) rfl ?_
     rw [HD.out]
     exact ⟨rfl, be⟩
    ·have hd : dd = (.zero, E) := by rw [HDD.out, if_pos hE0]
     have HD := Lib.hid hd
     have hE' : (E != 0) = true := by simpa using hE0
     obtain ⟨y0, y1, y2, _, be⟩ := loc_put3 Z9 b9 (Nat.le_refl _) (.int .i64 0) (.int .i64 0) (.string ⟨#[]⟩)
     have HY := Lib.hid (And.intro y0 (And.intro y1 y2))
     clear y0 y1 y2 Z9 V9 b9 hb hd Y9 X9 c9 HDD hE0
     go_wp2
     obtain ⟨y0, y1, y2⟩ := HY.out
     unfold put3 at y0 y1 y2 be
     refine bodyPost_ret (v := .tuple #[.agg #[.int .i64 0, .int .i64 0, .string ⟨#[]⟩], .int .i64 E]) (by simp [results, Tryz.results109, go_sem, y0, y1, y2]) rfl ?_
     rw [HD.out]
     exact ⟨rfl, be⟩
  ·have hd : dd = (.zero, 3) := HDK.out rfl hk
   have HD := Lib.hid hd
   have hk0 : (kI == 0) = false := by have := HKI.out; simp; omega
   have hk1 : (kI == 1) = false := by have := HKI.out; simp; omega
   have hk2' : (kI == 2) = false := by have := HKI.out; simp; omega
   obtain ⟨z0, z1, z2, zf0, zf1, zf2⟩ := loc_three Z4
   obtain ⟨_, _, _, Zp, be⟩ := loc_put3 Z5 b5 (Nat.le_refl _) (.int .i64 0) (.int .i64 0) (.string ⟨#[]⟩)
   obtain ⟨y0, y1, y2, _⟩ := loc_three (Zp.alloc (.cells #[.int .i64 kI, .int .i64 0, .string ⟨#[]⟩] 60))
   have be := be.alloc be.size (.cells #[.int .i64 kI, .int .i64 0, .string ⟨#[]⟩] 60)
   have HY := Lib.hid (And.intro y0 (And.intro y1 y2))
   have hn1 : ¬ w.heap.size = w1.heap.size := by omega
   have hn2 : w.heap.size < w2.heap.size := by omega
   clear y0 y1 y2 V6 R6 Z6 b6 hd hk Z4 Z5 b5 Zp
   go_wp2
   obtain ⟨y0, y1, y2⟩ := HY.out
   unfold put3 put4 at y0 y1 y2 be
   refine bodyPost_ret (v := .tuple #[.agg #[.int .i64 0, .int .i64 0, .string ⟨#[]⟩], .int .i64 3]) (by simp [results, Tryz.results109, go_sem, y0, y1, y2]) rfl ?_
   rw [HD.out]
   exact ⟨rfl, be⟩
 ·have he : dd = (.zero, e1) := HDE.out he1
  have HE := Lib.hid he
  have he' : (e1 != 0) = true := by simpa using he1
  clear he he1 HDK HDO
  obtain ⟨z0, z1, z2, zf0, zf1, zf2⟩ := loc_three Z4
  obtain ⟨y0, y1, y2, _, be⟩ := loc_put3 Z5 b5 (Nat.le_refl _) (.int .i64 0) (.int .i64 0) (.string ⟨#[]⟩)
  have HY := Lib.hid (And.intro y0 (And.intro y1 y2))
  have hne : ¬ w.heap.size = w1.heap.size := by omega
  clear y0 y1 y2 Z4 Z5 R4 R5
  go_wp2
  go_region
  all_goals
   go_wp2
   obtain ⟨y0, y1, y2⟩ := HY.out
   unfold put3 put4 at y0 y1 y2
   unfold put3 put4 at be
   refine bodyPost_ret (v := .tuple #[.agg #[.int .i64 0, .int .i64 0, .string ⟨#[]⟩], .int .i64 e1]) (by simp [results, Tryz.results109, go_sem, y0, y1, y2]) rfl ?_
   rw [HE.out]
   exact ⟨rfl, be.drew⟩
end Go.Proofs.YtnieminnnkbneaaGreat

namespace Go.Proofs.YtnieminnnkbneaaGreat
open Go.RowKit

/-- A field, read. -/
def takenM (r : Rdr) (x : Ins) (c : UInt8) : (Rdr × Ins) × Int :=
 if c = 65 then ((r.byte.2, { x with a := (r.byte.1 : Int) }), r.byte.2.err) else if c = 66 then ((r.byte.2, { x with b := (r.byte.1 : Int) }), r.byte.2.err) else if c = 67 then ((r.byte.2, { x with c := (r.byte.1 : Int) }), r.byte.2.err)
 else if c = 97 then ((r.number.2, { x with a := r.number.1 }), r.number.2.err) else if c = 78 then ((r.number.2, { x with n := r.number.1 }), r.number.2.err)
 else if (r.text r.xs.length).2.err = 0 then (((r.text r.xs.length).2, { x with v := (datumDecode (r.text r.xs.length).1).1 }), (datumDecode (r.text r.xs.length).1).2) else (((r.text r.xs.length).2, x), (r.text r.xs.length).2.err)

theorem loc_eight {w : World} {b : Nat} {v0 v1 v2 v3 v4 v5 v6 v7 : Value} {t : TypeId} (h : Loc w b #[v0, v1, v2, v3, v4, v5, v6, v7] t) :
  w.cell? ⟨b, 0, none⟩ = some v0 ∧ w.cell? ⟨b, 1, none⟩ = some v1 ∧ w.cell? ⟨b, 2, none⟩ = some v2 ∧ w.cell? ⟨b, 3, none⟩ = some v3 ∧ w.cell? ⟨b, 4, none⟩ = some v4 ∧ w.cell? ⟨b, 5, none⟩ = some v5 ∧ w.cell? ⟨b, 6, none⟩ = some v6 ∧ w.cell? ⟨b, 7, none⟩ = some v7 :=
 ⟨h.cell 0, h.cell 1, h.cell 2, h.cell 3, h.cell 4, h.cell 5, h.cell 6, h.cell 7⟩
theorem free_eight {w : World} {b : Nat} {c : Array Value} {t : TypeId} (h : Loc w b c t) :
  w.frozen? ⟨b, 0, none⟩ = false ∧ w.frozen? ⟨b, 1, none⟩ = false ∧ w.frozen? ⟨b, 2, none⟩ = false ∧ w.frozen? ⟨b, 3, none⟩ = false ∧ w.frozen? ⟨b, 4, none⟩ = false ∧ w.frozen? ⟨b, 5, none⟩ = false ∧ w.frozen? ⟨b, 6, none⟩ = false ∧ w.frozen? ⟨b, 7, none⟩ = false :=
 ⟨h.free 0, h.free 1, h.free 2, h.free 3, h.free 4, h.free 5, h.free 6, h.free 7⟩

/-- An instruction laid cell by cell. -/
def putX (w : World) (b : Nat) (x : Ins) : World :=
 (((((((w.setCell ⟨b, 0, none⟩ (.int .i64 x.op)).setCell ⟨b, 1, none⟩ (.int .i64 x.a)).setCell ⟨b, 2, none⟩ (.int .i64 x.b)).setCell ⟨b, 3, none⟩ (.int .i64 x.c)).setCell ⟨b, 4, none⟩ (.int .i64 x.n)).setCell ⟨b, 5, none⟩ (.int .i64 x.v.kind)).setCell ⟨b, 6, none⟩ (.int .i64 x.v.num)).setCell ⟨b, 7, none⟩ (.string x.v.text)

theorem putX_loc {w : World} {b : Nat} {c0 c1 c2 c3 c4 c5 c6 c7 : Value} {t : TypeId} (h : Loc w b #[c0, c1, c2, c3, c4, c5, c6, c7] t) (x : Ins) : Loc (putX w b x) b (insCells x) t := by
 have L := (((((((h.set 0 (.int .i64 x.op)).set 1 (.int .i64 x.a)).set 2 (.int .i64 x.b)).set 3 (.int .i64 x.c)).set 4 (.int .i64 x.n)).set 5 (.int .i64 x.v.kind)).set 6 (.int .i64 x.v.num)).set 7 (.string x.v.text)
 simp only [List.setIfInBounds_toArray, List.set_cons_zero, List.set_cons_succ] at L
 exact L
theorem putX_other {w : World} {b b' : Nat} {c : Array Value} {t : TypeId} (h : Loc w b' c t) (hne : b' ≠ b) (x : Ins) : Loc (putX w b x) b' c t :=
 (((((((h.other (a := ⟨b, 0, none⟩) hne _).other (a := ⟨b, 1, none⟩) hne _).other (a := ⟨b, 2, none⟩) hne _).other (a := ⟨b, 3, none⟩) hne _).other (a := ⟨b, 4, none⟩) hne _).other (a := ⟨b, 5, none⟩) hne _).other (a := ⟨b, 6, none⟩) hne _).other (a := ⟨b, 7, none⟩) hne _
theorem putX_below {B : Nat} {a w : World} {b : Nat} (h : Below B a w) (hb : B ≤ b) (x : Ins) : Below B a (putX w b x) :=
 (((((((h.setCell (p := ⟨b, 0, none⟩) hb _).setCell (p := ⟨b, 1, none⟩) hb _).setCell (p := ⟨b, 2, none⟩) hb _).setCell (p := ⟨b, 3, none⟩) hb _).setCell (p := ⟨b, 4, none⟩) hb _).setCell (p := ⟨b, 5, none⟩) hb _).setCell (p := ⟨b, 6, none⟩) hb _).setCell (p := ⟨b, 7, none⟩) hb _

/-- The blocks of taken: the reader, the instruction, the results of both. -/
structure TSt (w W : World) (c0 c1 c2 c3 : Value) (X : Array Value) : Prop where
 r : Loc W w.heap.size #[c0, c1, c2, c3] 126
 x : Loc W (w.heap.size + 1) X 109
 rr : Loc W (w.heap.size + 2) #[.slice none 0 0, .int .i64 0, .int .i64 0, .int .i64 0] 126
 xx : Loc W (w.heap.size + 3) #[.int .i64 0, .int .i64 0, .int .i64 0, .int .i64 0, .int .i64 0, .int .i64 0, .int .i64 0, .string ⟨#[]⟩] 109
 b : Below w.heap.size w W

theorem TSt.new (w : World) (c0 c1 c2 c3 : Value) (X : Array Value) :
  TSt w ((((w.alloc (.cells #[c0, c1, c2, c3] 126)).alloc (.cells X 109)).alloc (.cells #[.slice none 0 0, .int .i64 0, .int .i64 0, .int .i64 0] 126)).alloc (.cells #[.int .i64 0, .int .i64 0, .int .i64 0, .int .i64 0, .int .i64 0, .int .i64 0, .int .i64 0, .string ⟨#[]⟩] 109)) c0 c1 c2 c3 X := by
 have r := (((Loc.new w #[c0, c1, c2, c3] 126).alloc (.cells X 109)).alloc (.cells #[.slice none 0 0, .int .i64 0, .int .i64 0, .int .i64 0] 126)).alloc (.cells #[.int .i64 0, .int .i64 0, .int .i64 0, .int .i64 0, .int .i64 0, .int .i64 0, .int .i64 0, .string ⟨#[]⟩] 109)
 have x := ((Loc.new (w.alloc (.cells #[c0, c1, c2, c3] 126)) X 109).alloc (.cells #[.slice none 0 0, .int .i64 0, .int .i64 0, .int .i64 0] 126)).alloc (.cells #[.int .i64 0, .int .i64 0, .int .i64 0, .int .i64 0, .int .i64 0, .int .i64 0, .int .i64 0, .string ⟨#[]⟩] 109)
 have rr := (Loc.new ((w.alloc (.cells #[c0, c1, c2, c3] 126)).alloc (.cells X 109)) #[.slice none 0 0, .int .i64 0, .int .i64 0, .int .i64 0] 126).alloc (.cells #[.int .i64 0, .int .i64 0, .int .i64 0, .int .i64 0, .int .i64 0, .int .i64 0, .int .i64 0, .string ⟨#[]⟩] 109)
 have xx := Loc.new (((w.alloc (.cells #[c0, c1, c2, c3] 126)).alloc (.cells X 109)).alloc (.cells #[.slice none 0 0, .int .i64 0, .int .i64 0, .int .i64 0] 126)) #[.int .i64 0, .int .i64 0, .int .i64 0, .int .i64 0, .int .i64 0, .int .i64 0, .int .i64 0, .string ⟨#[]⟩] 109
 simp only [World.size_alloc] at x rr xx
 exact ⟨r, x, rr, xx, ((((Below.refl w.heap.size w).alloc (Nat.le_refl _) _).alloc (by simp) _).alloc (by simp; omega) _).alloc (by simp; omega) _⟩

namespace TSt
variable {w W V : World} {c0 c1 c2 c3 : Value} {X : Array Value}
theorem below (h : TSt w W c0 c1 c2 c3 X) (hb : Below W.heap.size W V) : TSt w V c0 c1 c2 c3 X :=
 ⟨h.r.below hb h.r.lt, h.x.below hb h.x.lt, h.rr.below hb h.rr.lt, h.xx.below hb h.xx.lt, below_then h.b hb h.b.size⟩
theorem putR (h : TSt w W c0 c1 c2 c3 X) (u0 u1 u2 u3 : Value) : TSt w (put4 W w.heap.size u0 u1 u2 u3) u0 u1 u2 u3 X := by
 obtain ⟨_, _, _, _, r, b⟩ := h.r.put4 h.b (Nat.le_refl _) u0 u1 u2 u3
 exact ⟨r, loc_put4o h.x (by omega) _ _ _ _, loc_put4o h.rr (by omega) _ _ _ _, loc_put4o h.xx (by omega) _ _ _ _, b⟩
theorem setX (h : TSt w W c0 c1 c2 c3 X) (i : Nat) (v : Value) : TSt w (W.setCell ⟨w.heap.size + 1, i, none⟩ v) c0 c1 c2 c3 (X.setIfInBounds i v) :=
 ⟨h.r.other (a := ⟨w.heap.size + 1, i, none⟩) (show w.heap.size ≠ w.heap.size + 1 by omega) v, h.x.set i v, h.rr.other (a := ⟨w.heap.size + 1, i, none⟩) (show w.heap.size + 2 ≠ w.heap.size + 1 by omega) v,
  h.xx.other (a := ⟨w.heap.size + 1, i, none⟩) (show w.heap.size + 3 ≠ w.heap.size + 1 by omega) v, h.b.setCell (p := ⟨w.heap.size + 1, i, none⟩) (Nat.le_succ _) v⟩
theorem fin (h : TSt w W c0 c1 c2 c3 X) (u0 u1 u2 u3 : Value) (x : Ins) :
  Loc (putX (put4 W (w.heap.size + 2) u0 u1 u2 u3) (w.heap.size + 3) x) (w.heap.size + 2) #[u0, u1, u2, u3] 126 ∧ Loc (putX (put4 W (w.heap.size + 2) u0 u1 u2 u3) (w.heap.size + 3) x) (w.heap.size + 3) (insCells x) 109 ∧
   Below w.heap.size w (putX (put4 W (w.heap.size + 2) u0 u1 u2 u3) (w.heap.size + 3) x) := by
 obtain ⟨_, _, _, _, r, b⟩ := h.rr.put4 h.b (by omega) u0 u1 u2 u3
 exact ⟨putX_other r (by omega) x, putX_loc (loc_put4o h.xx (by omega) _ _ _ _) x, putX_below b (by omega) x⟩
end TSt

/-- What taken answers. -/
def RTaken (A : Option Addr) (n c : Nat) (q : (Rdr × Ins) × Int) (w : World) (e : Ending) (w' : World) : Prop :=
 ∃ st, e = .returned (.tuple #[.agg (rvC A n c q.1.1.pos q.1.1.err st), .agg (insCells q.1.2), .int .i64 q.2]) ∧ Below w.heap.size w w'


set_option maxRecDepth 100000 in
set_option maxHeartbeats 4000000 in
theorem taken_65 (A : Option Addr) (c : Nat) (s : Rdr) (st : Int) (x : Ins) (w : World) (hr : Row w A (cellsB s.xs)) (hp : s.pos ≤ s.xs.length) (hl : s.xs.length ≤ 140737488355328) (hz : A = none → s.xs.length = 0) :
  Calls Tryz.prog 108 #[.agg (rvC A s.xs.length c s.pos s.err st), .agg (insCells x), .int .u8 65] w (RTaken A s.xs.length c (takenM s x 65) w) := by
 have hby := fun W (h : Below w.heap.size w W) => rtbyte_any A c s st W (hr.of_below h (Nat.le_refl _)) hp hl
 have hm : takenM s x 65 = ((s.byte.2, { x with a := (s.byte.1 : Int) }), s.byte.2.err) := rfl
 rw [hm]
 obtain ⟨m, q, hq⟩ : ∃ m q, s.byte = (m, q) := ⟨_, _, rfl⟩
 have hlt := rbyte_lt s
 rw [hq] at hby hlt ⊢
 simp only at hlt
 obtain ⟨N, hN⟩ : ∃ N, N = s.xs.length := ⟨_, rfl⟩
 obtain ⟨xs, p, e0⟩ := s
 simp only at hby hN ⊢
 rw [← hN] at hby ⊢
 obtain ⟨op, xa, xb, xc, xn, xv⟩ := x
 obtain ⟨qxs, qp, qe⟩ := q
 have HBY := Lib.hid hby
 clear hby hr hp hl hz hm hq hN
 unfold rvC at *
 unfold insCells
 go_enter Tryz.func108, Tryz.ntmps108
 have T0 := TSt.new w (.slice A N c) (.int .i64 p) (.int .i64 e0) (.int .i64 st) #[.int .i64 op, .int .i64 xa, .int .i64 xb, .int .i64 xc, .int .i64 xn, .int .i64 xv.kind, .int .i64 xv.num, .string xv.text]
 go_wp2_with fail
 refine (HBY.out _ T0.b).mono ?_; rintro e w1 ⟨st2, rfl, hb⟩
 unfold rvC
 have T1 := T0.below hb
 clear T0 hb HBY
 obtain ⟨r0, r1, r2, r3, rf0, rf1, rf2, rf3⟩ := T1.r.rfour
 obtain ⟨z0, z1, z2, z3, zf0, zf1, zf2, zf3⟩ := T1.rr.rfour
 obtain ⟨x0, x1, x2, x3, x4, x5, x6, x7⟩ := loc_eight T1.x
 obtain ⟨y0, y1, y2, y3, y4, y5, y6, y7⟩ := loc_eight T1.xx
 obtain ⟨xf0, xf1, xf2, xf3, xf4, xf5, xf6, xf7⟩ := free_eight T1.x
 obtain ⟨yf0, yf1, yf2, yf3, yf4, yf5, yf6, yf7⟩ := free_eight T1.xx

 have T3 := (T1.putR (.slice A N c) (.int .i64 qp) (.int .i64 qe) (.int .i64 st2)).setX 1 (.int .i64 (m : Int))
 simp only [List.setIfInBounds_toArray, List.set_cons_succ, List.set_cons_zero] at T3
 unfold put4 at T3
 obtain ⟨gr, gx, gb⟩ := T3.fin (.slice A N c) (.int .i64 qp) (.int .i64 qe) (.int .i64 st2) ⟨op, (m : Int), xb, xc, xn, xv⟩
 unfold put4 putX at gr gx gb
 obtain ⟨g0, g1, g2, g3, _⟩ := gr.rfour
 simp only [insCells] at gx
 obtain ⟨k0, k1, k2, k3, k4, k5, k6, k7⟩ := loc_eight gx
 have HG := Lib.hid (And.intro g0 (And.intro g1 (And.intro g2 (And.intro g3 (And.intro k0 (And.intro k1 (And.intro k2 (And.intro k3 (And.intro k4 (And.intro k5 (And.intro k6 k7)))))))))))
 have GB := Lib.hid gb
 clear g0 g1 g2 g3 k0 k1 k2 k3 k4 k5 k6 k7 gr gx gb
 go_wp2
 go_region
 all_goals
  go_wp2
  obtain ⟨g0, g1, g2, g3, k0, k1, k2, k3, k4, k5, k6, k7⟩ := HG.out
  refine bodyPost_ret (v := .tuple #[.agg #[.slice A N c, .int .i64 qp, .int .i64 qe, .int .i64 st2], .agg #[.int .i64 op, .int .i64 (m : Int), .int .i64 xb, .int .i64 xc, .int .i64 xn, .int .i64 xv.kind, .int .i64 xv.num, .string xv.text], .int .i64 qe]) (by simp [results, Tryz.results108, go_sem, g0, g1, g2, g3, k0, k1, k2, k3, k4, k5, k6, k7]) rfl ?_
  exact ⟨st2, rfl, GB.out.drew⟩

set_option maxRecDepth 100000 in
set_option maxHeartbeats 4000000 in
theorem taken_66 (A : Option Addr) (c : Nat) (s : Rdr) (st : Int) (x : Ins) (w : World) (hr : Row w A (cellsB s.xs)) (hp : s.pos ≤ s.xs.length) (hl : s.xs.length ≤ 140737488355328) (hz : A = none → s.xs.length = 0) :
  Calls Tryz.prog 108 #[.agg (rvC A s.xs.length c s.pos s.err st), .agg (insCells x), .int .u8 66] w (RTaken A s.xs.length c (takenM s x 66) w) := by
 have hby := fun W (h : Below w.heap.size w W) => rtbyte_any A c s st W (hr.of_below h (Nat.le_refl _)) hp hl
 have hm : takenM s x 66 = ((s.byte.2, { x with b := (s.byte.1 : Int) }), s.byte.2.err) := rfl
 rw [hm]
 obtain ⟨m, q, hq⟩ : ∃ m q, s.byte = (m, q) := ⟨_, _, rfl⟩
 have hlt := rbyte_lt s
 rw [hq] at hby hlt ⊢
 simp only at hlt
 obtain ⟨N, hN⟩ : ∃ N, N = s.xs.length := ⟨_, rfl⟩
 obtain ⟨xs, p, e0⟩ := s
 simp only at hby hN ⊢
 rw [← hN] at hby ⊢
 obtain ⟨op, xa, xb, xc, xn, xv⟩ := x
 obtain ⟨qxs, qp, qe⟩ := q
 have HBY := Lib.hid hby
 clear hby hr hp hl hz hm hq hN
 unfold rvC at *
 unfold insCells
 go_enter Tryz.func108, Tryz.ntmps108
 have T0 := TSt.new w (.slice A N c) (.int .i64 p) (.int .i64 e0) (.int .i64 st) #[.int .i64 op, .int .i64 xa, .int .i64 xb, .int .i64 xc, .int .i64 xn, .int .i64 xv.kind, .int .i64 xv.num, .string xv.text]
 go_wp2_with fail
 refine (HBY.out _ T0.b).mono ?_; rintro e w1 ⟨st2, rfl, hb⟩
 unfold rvC
 have T1 := T0.below hb
 clear T0 hb HBY
 obtain ⟨r0, r1, r2, r3, rf0, rf1, rf2, rf3⟩ := T1.r.rfour
 obtain ⟨z0, z1, z2, z3, zf0, zf1, zf2, zf3⟩ := T1.rr.rfour
 obtain ⟨x0, x1, x2, x3, x4, x5, x6, x7⟩ := loc_eight T1.x
 obtain ⟨y0, y1, y2, y3, y4, y5, y6, y7⟩ := loc_eight T1.xx
 obtain ⟨xf0, xf1, xf2, xf3, xf4, xf5, xf6, xf7⟩ := free_eight T1.x
 obtain ⟨yf0, yf1, yf2, yf3, yf4, yf5, yf6, yf7⟩ := free_eight T1.xx

 have T3 := (T1.putR (.slice A N c) (.int .i64 qp) (.int .i64 qe) (.int .i64 st2)).setX 2 (.int .i64 (m : Int))
 simp only [List.setIfInBounds_toArray, List.set_cons_succ, List.set_cons_zero] at T3
 unfold put4 at T3
 obtain ⟨gr, gx, gb⟩ := T3.fin (.slice A N c) (.int .i64 qp) (.int .i64 qe) (.int .i64 st2) ⟨op, xa, (m : Int), xc, xn, xv⟩
 unfold put4 putX at gr gx gb
 obtain ⟨g0, g1, g2, g3, _⟩ := gr.rfour
 simp only [insCells] at gx
 obtain ⟨k0, k1, k2, k3, k4, k5, k6, k7⟩ := loc_eight gx
 have HG := Lib.hid (And.intro g0 (And.intro g1 (And.intro g2 (And.intro g3 (And.intro k0 (And.intro k1 (And.intro k2 (And.intro k3 (And.intro k4 (And.intro k5 (And.intro k6 k7)))))))))))
 have GB := Lib.hid gb
 clear g0 g1 g2 g3 k0 k1 k2 k3 k4 k5 k6 k7 gr gx gb
 go_wp2
 go_region
 all_goals
  go_wp2
  obtain ⟨g0, g1, g2, g3, k0, k1, k2, k3, k4, k5, k6, k7⟩ := HG.out
  refine bodyPost_ret (v := .tuple #[.agg #[.slice A N c, .int .i64 qp, .int .i64 qe, .int .i64 st2], .agg #[.int .i64 op, .int .i64 xa, .int .i64 (m : Int), .int .i64 xc, .int .i64 xn, .int .i64 xv.kind, .int .i64 xv.num, .string xv.text], .int .i64 qe]) (by simp [results, Tryz.results108, go_sem, g0, g1, g2, g3, k0, k1, k2, k3, k4, k5, k6, k7]) rfl ?_
  exact ⟨st2, rfl, GB.out.drew⟩

set_option maxRecDepth 100000 in
set_option maxHeartbeats 4000000 in
theorem taken_67 (A : Option Addr) (c : Nat) (s : Rdr) (st : Int) (x : Ins) (w : World) (hr : Row w A (cellsB s.xs)) (hp : s.pos ≤ s.xs.length) (hl : s.xs.length ≤ 140737488355328) (hz : A = none → s.xs.length = 0) :
  Calls Tryz.prog 108 #[.agg (rvC A s.xs.length c s.pos s.err st), .agg (insCells x), .int .u8 67] w (RTaken A s.xs.length c (takenM s x 67) w) := by
 have hby := fun W (h : Below w.heap.size w W) => rtbyte_any A c s st W (hr.of_below h (Nat.le_refl _)) hp hl
 have hm : takenM s x 67 = ((s.byte.2, { x with c := (s.byte.1 : Int) }), s.byte.2.err) := rfl
 rw [hm]
 obtain ⟨m, q, hq⟩ : ∃ m q, s.byte = (m, q) := ⟨_, _, rfl⟩
 have hlt := rbyte_lt s
 rw [hq] at hby hlt ⊢
 simp only at hlt
 obtain ⟨N, hN⟩ : ∃ N, N = s.xs.length := ⟨_, rfl⟩
 obtain ⟨xs, p, e0⟩ := s
 simp only at hby hN ⊢
 rw [← hN] at hby ⊢
 obtain ⟨op, xa, xb, xc, xn, xv⟩ := x
 obtain ⟨qxs, qp, qe⟩ := q
 have HBY := Lib.hid hby
 clear hby hr hp hl hz hm hq hN
 unfold rvC at *
 unfold insCells
 go_enter Tryz.func108, Tryz.ntmps108
 have T0 := TSt.new w (.slice A N c) (.int .i64 p) (.int .i64 e0) (.int .i64 st) #[.int .i64 op, .int .i64 xa, .int .i64 xb, .int .i64 xc, .int .i64 xn, .int .i64 xv.kind, .int .i64 xv.num, .string xv.text]
 go_wp2_with fail
 refine (HBY.out _ T0.b).mono ?_; rintro e w1 ⟨st2, rfl, hb⟩
 unfold rvC
 have T1 := T0.below hb
 clear T0 hb HBY
 obtain ⟨r0, r1, r2, r3, rf0, rf1, rf2, rf3⟩ := T1.r.rfour
 obtain ⟨z0, z1, z2, z3, zf0, zf1, zf2, zf3⟩ := T1.rr.rfour
 obtain ⟨x0, x1, x2, x3, x4, x5, x6, x7⟩ := loc_eight T1.x
 obtain ⟨y0, y1, y2, y3, y4, y5, y6, y7⟩ := loc_eight T1.xx
 obtain ⟨xf0, xf1, xf2, xf3, xf4, xf5, xf6, xf7⟩ := free_eight T1.x
 obtain ⟨yf0, yf1, yf2, yf3, yf4, yf5, yf6, yf7⟩ := free_eight T1.xx

 have T3 := (T1.putR (.slice A N c) (.int .i64 qp) (.int .i64 qe) (.int .i64 st2)).setX 3 (.int .i64 (m : Int))
 simp only [List.setIfInBounds_toArray, List.set_cons_succ, List.set_cons_zero] at T3
 unfold put4 at T3
 obtain ⟨gr, gx, gb⟩ := T3.fin (.slice A N c) (.int .i64 qp) (.int .i64 qe) (.int .i64 st2) ⟨op, xa, xb, (m : Int), xn, xv⟩
 unfold put4 putX at gr gx gb
 obtain ⟨g0, g1, g2, g3, _⟩ := gr.rfour
 simp only [insCells] at gx
 obtain ⟨k0, k1, k2, k3, k4, k5, k6, k7⟩ := loc_eight gx
 have HG := Lib.hid (And.intro g0 (And.intro g1 (And.intro g2 (And.intro g3 (And.intro k0 (And.intro k1 (And.intro k2 (And.intro k3 (And.intro k4 (And.intro k5 (And.intro k6 k7)))))))))))
 have GB := Lib.hid gb
 clear g0 g1 g2 g3 k0 k1 k2 k3 k4 k5 k6 k7 gr gx gb
 go_wp2
 go_region
 all_goals
  go_wp2
  obtain ⟨g0, g1, g2, g3, k0, k1, k2, k3, k4, k5, k6, k7⟩ := HG.out
  refine bodyPost_ret (v := .tuple #[.agg #[.slice A N c, .int .i64 qp, .int .i64 qe, .int .i64 st2], .agg #[.int .i64 op, .int .i64 xa, .int .i64 xb, .int .i64 (m : Int), .int .i64 xn, .int .i64 xv.kind, .int .i64 xv.num, .string xv.text], .int .i64 qe]) (by simp [results, Tryz.results108, go_sem, g0, g1, g2, g3, k0, k1, k2, k3, k4, k5, k6, k7]) rfl ?_
  exact ⟨st2, rfl, GB.out.drew⟩

set_option maxRecDepth 100000 in
set_option maxHeartbeats 4000000 in
theorem taken_97 (A : Option Addr) (c : Nat) (s : Rdr) (st : Int) (x : Ins) (w : World) (hr : Row w A (cellsB s.xs)) (hp : s.pos ≤ s.xs.length) (hl : s.xs.length ≤ 140737488355328) (hz : A = none → s.xs.length = 0) :
  Calls Tryz.prog 108 #[.agg (rvC A s.xs.length c s.pos s.err st), .agg (insCells x), .int .u8 97] w (RTaken A s.xs.length c (takenM s x 97) w) := by
 have hby := fun W (h : Below w.heap.size w W) => rtnumber_any A c s st W (hr.of_below h (Nat.le_refl _)) hp hl hz
 have hm : takenM s x 97 = ((s.number.2, { x with a := s.number.1 }), s.number.2.err) := rfl
 rw [hm]
 obtain ⟨m, q, hq⟩ : ∃ m q, s.number = (m, q) := ⟨_, _, rfl⟩
 have hlt := number_nonneg s
 rw [hq] at hby hlt ⊢
 simp only at hlt
 obtain ⟨N, hN⟩ : ∃ N, N = s.xs.length := ⟨_, rfl⟩
 obtain ⟨xs, p, e0⟩ := s
 simp only at hby hN ⊢
 rw [← hN] at hby ⊢
 obtain ⟨op, xa, xb, xc, xn, xv⟩ := x
 obtain ⟨qxs, qp, qe⟩ := q
 have HBY := Lib.hid hby
 clear hby hr hp hl hz hm hq hN
 unfold rvC at *
 unfold insCells
 go_enter Tryz.func108, Tryz.ntmps108
 have T0 := TSt.new w (.slice A N c) (.int .i64 p) (.int .i64 e0) (.int .i64 st) #[.int .i64 op, .int .i64 xa, .int .i64 xb, .int .i64 xc, .int .i64 xn, .int .i64 xv.kind, .int .i64 xv.num, .string xv.text]
 go_wp2_with fail
 refine (HBY.out _ T0.b).mono ?_; rintro e w1 ⟨st2, rfl, hb⟩
 unfold rvC
 have T1 := T0.below hb
 clear T0 hb HBY
 obtain ⟨r0, r1, r2, r3, rf0, rf1, rf2, rf3⟩ := T1.r.rfour
 obtain ⟨z0, z1, z2, z3, zf0, zf1, zf2, zf3⟩ := T1.rr.rfour
 obtain ⟨x0, x1, x2, x3, x4, x5, x6, x7⟩ := loc_eight T1.x
 obtain ⟨y0, y1, y2, y3, y4, y5, y6, y7⟩ := loc_eight T1.xx
 obtain ⟨xf0, xf1, xf2, xf3, xf4, xf5, xf6, xf7⟩ := free_eight T1.x
 obtain ⟨yf0, yf1, yf2, yf3, yf4, yf5, yf6, yf7⟩ := free_eight T1.xx

 have T3 := (T1.setX 1 (.int .i64 m)).putR (.slice A N c) (.int .i64 qp) (.int .i64 qe) (.int .i64 st2)
 simp only [List.setIfInBounds_toArray, List.set_cons_succ, List.set_cons_zero] at T3
 unfold put4 at T3
 obtain ⟨gr, gx, gb⟩ := T3.fin (.slice A N c) (.int .i64 qp) (.int .i64 qe) (.int .i64 st2) ⟨op, m, xb, xc, xn, xv⟩
 unfold put4 putX at gr gx gb
 obtain ⟨g0, g1, g2, g3, _⟩ := gr.rfour
 simp only [insCells] at gx
 obtain ⟨k0, k1, k2, k3, k4, k5, k6, k7⟩ := loc_eight gx
 have HG := Lib.hid (And.intro g0 (And.intro g1 (And.intro g2 (And.intro g3 (And.intro k0 (And.intro k1 (And.intro k2 (And.intro k3 (And.intro k4 (And.intro k5 (And.intro k6 k7)))))))))))
 have GB := Lib.hid gb
 clear g0 g1 g2 g3 k0 k1 k2 k3 k4 k5 k6 k7 gr gx gb
 go_wp2
 go_region
 all_goals
  go_wp2
  obtain ⟨g0, g1, g2, g3, k0, k1, k2, k3, k4, k5, k6, k7⟩ := HG.out
  refine bodyPost_ret (v := .tuple #[.agg #[.slice A N c, .int .i64 qp, .int .i64 qe, .int .i64 st2], .agg #[.int .i64 op, .int .i64 m, .int .i64 xb, .int .i64 xc, .int .i64 xn, .int .i64 xv.kind, .int .i64 xv.num, .string xv.text], .int .i64 qe]) (by simp [results, Tryz.results108, go_sem, g0, g1, g2, g3, k0, k1, k2, k3, k4, k5, k6, k7]) rfl ?_
  exact ⟨st2, rfl, GB.out.drew⟩

set_option maxRecDepth 100000 in
set_option maxHeartbeats 4000000 in
theorem taken_78 (A : Option Addr) (c : Nat) (s : Rdr) (st : Int) (x : Ins) (w : World) (hr : Row w A (cellsB s.xs)) (hp : s.pos ≤ s.xs.length) (hl : s.xs.length ≤ 140737488355328) (hz : A = none → s.xs.length = 0) :
  Calls Tryz.prog 108 #[.agg (rvC A s.xs.length c s.pos s.err st), .agg (insCells x), .int .u8 78] w (RTaken A s.xs.length c (takenM s x 78) w) := by
 have hby := fun W (h : Below w.heap.size w W) => rtnumber_any A c s st W (hr.of_below h (Nat.le_refl _)) hp hl hz
 have hm : takenM s x 78 = ((s.number.2, { x with n := s.number.1 }), s.number.2.err) := rfl
 rw [hm]
 obtain ⟨m, q, hq⟩ : ∃ m q, s.number = (m, q) := ⟨_, _, rfl⟩
 have hlt := number_nonneg s
 rw [hq] at hby hlt ⊢
 simp only at hlt
 obtain ⟨N, hN⟩ : ∃ N, N = s.xs.length := ⟨_, rfl⟩
 obtain ⟨xs, p, e0⟩ := s
 simp only at hby hN ⊢
 rw [← hN] at hby ⊢
 obtain ⟨op, xa, xb, xc, xn, xv⟩ := x
 obtain ⟨qxs, qp, qe⟩ := q
 have HBY := Lib.hid hby
 clear hby hr hp hl hz hm hq hN
 unfold rvC at *
 unfold insCells
 go_enter Tryz.func108, Tryz.ntmps108
 have T0 := TSt.new w (.slice A N c) (.int .i64 p) (.int .i64 e0) (.int .i64 st) #[.int .i64 op, .int .i64 xa, .int .i64 xb, .int .i64 xc, .int .i64 xn, .int .i64 xv.kind, .int .i64 xv.num, .string xv.text]
 go_wp2_with fail
 refine (HBY.out _ T0.b).mono ?_; rintro e w1 ⟨st2, rfl, hb⟩
 unfold rvC
 have T1 := T0.below hb
 clear T0 hb HBY
 obtain ⟨r0, r1, r2, r3, rf0, rf1, rf2, rf3⟩ := T1.r.rfour
 obtain ⟨z0, z1, z2, z3, zf0, zf1, zf2, zf3⟩ := T1.rr.rfour
 obtain ⟨x0, x1, x2, x3, x4, x5, x6, x7⟩ := loc_eight T1.x
 obtain ⟨y0, y1, y2, y3, y4, y5, y6, y7⟩ := loc_eight T1.xx
 obtain ⟨xf0, xf1, xf2, xf3, xf4, xf5, xf6, xf7⟩ := free_eight T1.x
 obtain ⟨yf0, yf1, yf2, yf3, yf4, yf5, yf6, yf7⟩ := free_eight T1.xx

 have T3 := (T1.setX 4 (.int .i64 m)).putR (.slice A N c) (.int .i64 qp) (.int .i64 qe) (.int .i64 st2)
 simp only [List.setIfInBounds_toArray, List.set_cons_succ, List.set_cons_zero] at T3
 unfold put4 at T3
 obtain ⟨gr, gx, gb⟩ := T3.fin (.slice A N c) (.int .i64 qp) (.int .i64 qe) (.int .i64 st2) ⟨op, xa, xb, xc, m, xv⟩
 unfold put4 putX at gr gx gb
 obtain ⟨g0, g1, g2, g3, _⟩ := gr.rfour
 simp only [insCells] at gx
 obtain ⟨k0, k1, k2, k3, k4, k5, k6, k7⟩ := loc_eight gx
 have HG := Lib.hid (And.intro g0 (And.intro g1 (And.intro g2 (And.intro g3 (And.intro k0 (And.intro k1 (And.intro k2 (And.intro k3 (And.intro k4 (And.intro k5 (And.intro k6 k7)))))))))))
 have GB := Lib.hid gb
 clear g0 g1 g2 g3 k0 k1 k2 k3 k4 k5 k6 k7 gr gx gb
 go_wp2
 go_region
 all_goals
  go_wp2
  obtain ⟨g0, g1, g2, g3, k0, k1, k2, k3, k4, k5, k6, k7⟩ := HG.out
  refine bodyPost_ret (v := .tuple #[.agg #[.slice A N c, .int .i64 qp, .int .i64 qe, .int .i64 st2], .agg #[.int .i64 op, .int .i64 xa, .int .i64 xb, .int .i64 xc, .int .i64 m, .int .i64 xv.kind, .int .i64 xv.num, .string xv.text], .int .i64 qe]) (by simp [results, Tryz.results108, go_sem, g0, g1, g2, g3, k0, k1, k2, k3, k4, k5, k6, k7]) rfl ?_
  exact ⟨st2, rfl, GB.out.drew⟩

set_option maxRecDepth 100000 in
set_option maxHeartbeats 4000000 in
theorem taken_86 (A : Option Addr) (c : Nat) (s : Rdr) (st : Int) (x : Ins) (w : World) (hr : Row w A (cellsB s.xs)) (hp : s.pos ≤ s.xs.length) (hl : s.xs.length ≤ 140737488355328) (hz : A = none → s.xs.length = 0) (hcap : s.xs.length ≤ c) :
  Calls Tryz.prog 108 #[.agg (rvC A s.xs.length c s.pos s.err st), .agg (insCells x), .int .u8 86] w (RTaken A s.xs.length c (takenM s x 86) w) := by
 have hby := fun W (h : Below w.heap.size w W) => rttext_any A c s st (s.xs.length : Int) (by omega) (by omega) W (hr.of_below h (Nat.le_refl _)) hp hl hz hcap
 have hm : takenM s x 86 = if (s.text s.xs.length).2.err = 0 then (((s.text s.xs.length).2, { x with v := (datumDecode (s.text s.xs.length).1).1 }), (datumDecode (s.text s.xs.length).1).2) else (((s.text s.xs.length).2, x), (s.text s.xs.length).2.err) := rfl
 have hml := text_len s (s.xs.length : Int)
 obtain ⟨m, q, hq⟩ : ∃ m q, s.text (s.xs.length : Int) = (m, q) := ⟨_, _, rfl⟩
 rw [hq] at hby hm hml
 obtain ⟨TT, hTT⟩ : ∃ TT, TT = takenM s x 86 := ⟨_, rfl⟩
 rw [← hTT] at hm ⊢
 simp only at hml
 obtain ⟨N, hN⟩ : ∃ N, N = s.xs.length := ⟨_, rfl⟩
 obtain ⟨xs, p, e0⟩ := s
 simp only at hby hN hml hm ⊢
 rw [← hN] at hby hml hl ⊢
 obtain ⟨V, ve, hdd⟩ : ∃ V ve, datumDecode m = (V, ve) := ⟨_, _, rfl⟩
 have hde := fun g W (h : Row W (some ⟨g, 0, none⟩) (cellsB m)) c' (hc' : m.length ≤ c') => rddec_any (some ⟨g, 0, none⟩) c' m W h (by omega) (fun h => by cases h) hc'
 rw [hdd] at hde hm
 obtain ⟨op, xa, xb, xc, xn, xv⟩ := x
 obtain ⟨qxs, qp, qe⟩ := q
 have hsz : (ofBs m).size = m.length := by rw [← size_data, ofBs_data]
 have HDE := Lib.hid hde
 have HM := Lib.hid hm
 have HSZ := Lib.hid hsz
 have HBY := Lib.hid hby
 clear hby hr hp hz hm hq hN hdd hde hsz hcap hTT
 unfold rvC at *
 unfold insCells
 go_enter Tryz.func108, Tryz.ntmps108
 have T0 := TSt.new w (.slice A N c) (.int .i64 p) (.int .i64 e0) (.int .i64 st) #[.int .i64 op, .int .i64 xa, .int .i64 xb, .int .i64 xc, .int .i64 xn, .int .i64 xv.kind, .int .i64 xv.num, .string xv.text]
 go_wp2_with fail
 refine (HBY.out _ T0.b).mono ?_; rintro e w1 ⟨st2, rfl, hb⟩
 unfold rvC
 have T1 := T0.below hb
 clear T0 hb HBY
 obtain ⟨r0, r1, r2, r3, rf0, rf1, rf2, rf3⟩ := T1.r.rfour
 obtain ⟨z0, z1, z2, z3, zf0, zf1, zf2, zf3⟩ := T1.rr.rfour
 obtain ⟨x0, x1, x2, x3, x4, x5, x6, x7⟩ := loc_eight T1.x
 obtain ⟨y0, y1, y2, y3, y4, y5, y6, y7⟩ := loc_eight T1.xx
 obtain ⟨xf0, xf1, xf2, xf3, xf4, xf5, xf6, xf7⟩ := free_eight T1.x
 obtain ⟨yf0, yf1, yf2, yf3, yf4, yf5, yf6, yf7⟩ := free_eight T1.xx
 have T2 := T1.putR (.slice A N c) (.int .i64 qp) (.int .i64 qe) (.int .i64 st2)
 unfold put4 at T2
 by_cases hq0 : qe = 0
 ·subst hq0
  go_upto_if 72 with (fail)
  obtain ⟨w2, hw2⟩ : ∃ w2, w2 = (((w1.setCell ⟨w.heap.size, 0, none⟩ (.slice A N c)).setCell ⟨w.heap.size, 1, none⟩ (.int .i64 qp)).setCell ⟨w.heap.size, 2, none⟩ (.int .i64 0)).setCell ⟨w.heap.size, 3, none⟩ (.int .i64 st2) := ⟨_, rfl⟩
  rw [← hw2] at T2 ⊢
  clear hw2 r0 r1 r2 r3 rf0 rf1 rf2 rf3 z0 z1 z2 z3 zf0 zf1 zf2 zf3 x0 x1 x2 x3 x4 x5 x6 x7 y0 y1 y2 y3 y4 y5 y6 y7 xf0 xf1 xf2 xf3 xf4 xf5 xf6 xf7 yf0 yf1 yf2 yf3 yf4 yf5 yf6 yf7 T1
  obtain ⟨r0, r1, r2, r3, _⟩ := T2.r.rfour
  have htb := run_toBytes (P := Tryz.prog) 9 33 5 (ofBs m) Tryz.underlying9 Tryz.underlying33 Tryz.underlying5
  have hrs := (Row.str w2 (ofBs m) (grownCap w2 (ofBs m).size 0 5) 5)
  rw [show (ofBs m).data.toList = m from ofBs_data m] at hrs
  have hgc := grownCap_ge w2 (ofBs m).size 0 5
  have hb3 := ((Below.refl w2.heap.size w2).alloc (Nat.le_refl _) (strObj (ofBs m) (grownCap w2 (ofBs m).size 0 5) 5)).drew
  have HSR := Lib.hid hrs
  have hdz := fun W h c' hc' => HDE.out w2.heap.size W h c' hc'
  rw [← HSZ.out] at hdz
  have HDZ := Lib.hid hdz
  clear hrs hdz HDE
  go_wp2_with fail
  refine (HDZ.out _ HSR.out.drew _ hgc).mono ?_; rintro e w3 ⟨rfl, hb⟩
  have T3 := (T2.below hb3).below hb
  have T4 := ((T3.setX 5 (.int .i64 V.kind)).setX 6 (.int .i64 V.num)).setX 7 (.string V.text)
  simp only [List.setIfInBounds_toArray, List.set_cons_succ, List.set_cons_zero] at T4
  have h1 := T3.xx.lt
  have h2 := T3.x.lt
  have h3 := T3.rr.lt
  have h4 := T3.r.lt
  clear hb hb3 T2 r0 r1 r2 r3 htb
  obtain ⟨r0, r1, r2, r3, rf0, rf1, rf2, rf3⟩ := T3.r.rfour
  obtain ⟨z0, z1, z2, z3, zf0, zf1, zf2, zf3⟩ := T3.rr.rfour
  obtain ⟨x0, x1, x2, x3, x4, x5, x6, x7⟩ := loc_eight T3.x
  obtain ⟨y0, y1, y2, y3, y4, y5, y6, y7⟩ := loc_eight T3.xx
  obtain ⟨xf0, xf1, xf2, xf3, xf4, xf5, xf6, xf7⟩ := free_eight T3.x
  obtain ⟨yf0, yf1, yf2, yf3, yf4, yf5, yf6, yf7⟩ := free_eight T3.xx
  unfold valCells
  obtain ⟨vk, vn, vt⟩ := V
  simp only at T4 ⊢
  obtain ⟨gr, gx, gb⟩ := T4.fin (.slice A N c) (.int .i64 qp) (.int .i64 0) (.int .i64 st2) ⟨op, xa, xb, xc, xn, ⟨vk, vn, vt⟩⟩
  unfold put4 putX at gr gx gb
  have gr := gr.alloc (.cells #[.int .i64 vk, .int .i64 vn, .string vt] 60)
  have gx := gx.alloc (.cells #[.int .i64 vk, .int .i64 vn, .string vt] 60)
  have gb := gb.alloc gb.size (.cells #[.int .i64 vk, .int .i64 vn, .string vt] 60)
  obtain ⟨g0, g1, g2, g3, _⟩ := gr.rfour
  simp only [insCells] at gx
  obtain ⟨k0, k1, k2, k3, k4, k5, k6, k7⟩ := loc_eight gx
  have HG := Lib.hid (And.intro g0 (And.intro g1 (And.intro g2 (And.intro g3 (And.intro k0 (And.intro k1 (And.intro k2 (And.intro k3 (And.intro k4 (And.intro k5 (And.intro k6 k7)))))))))))
  have GB := Lib.hid gb
  clear g0 g1 g2 g3 k0 k1 k2 k3 k4 k5 k6 k7 gr gx gb
  go_wp2
  go_region
  all_goals
   go_wp2
   obtain ⟨g0, g1, g2, g3, k0, k1, k2, k3, k4, k5, k6, k7⟩ := HG.out
   refine bodyPost_ret (v := .tuple #[.agg #[.slice A N c, .int .i64 qp, .int .i64 0, .int .i64 st2], .agg #[.int .i64 op, .int .i64 xa, .int .i64 xb, .int .i64 xc, .int .i64 xn, .int .i64 vk, .int .i64 vn, .string vt], .int .i64 ve]) (by simp [results, Tryz.results108, go_sem, g0, g1, g2, g3, k0, k1, k2, k3, k4, k5, k6, k7]) rfl ?_
   rw [show TT = ((⟨qxs, qp, 0⟩, ⟨op, xa, xb, xc, xn, ⟨vk, vn, vt⟩⟩), ve) from by rw [HM.out]; simp]
   exact ⟨st2, rfl, GB.out.drew⟩
 ·have hq1 : (qe == 0) = false := by simpa using hq0
  clear T1
  have HQ0 := Lib.hid hq0
  clear hq0
  obtain ⟨gr, gx, gb⟩ := T2.fin (.slice A N c) (.int .i64 qp) (.int .i64 qe) (.int .i64 st2) ⟨op, xa, xb, xc, xn, xv⟩
  unfold put4 putX at gr gx gb
  obtain ⟨g0, g1, g2, g3, _⟩ := gr.rfour
  simp only [insCells] at gx
  obtain ⟨k0, k1, k2, k3, k4, k5, k6, k7⟩ := loc_eight gx
  have HG := Lib.hid (And.intro g0 (And.intro g1 (And.intro g2 (And.intro g3 (And.intro k0 (And.intro k1 (And.intro k2 (And.intro k3 (And.intro k4 (And.intro k5 (And.intro k6 k7)))))))))))
  have GB := Lib.hid gb
  clear g0 g1 g2 g3 k0 k1 k2 k3 k4 k5 k6 k7 gr gx gb
  go_wp2
  go_region
  all_goals
   go_wp2
   obtain ⟨g0, g1, g2, g3, k0, k1, k2, k3, k4, k5, k6, k7⟩ := HG.out
   refine bodyPost_ret (v := .tuple #[.agg #[.slice A N c, .int .i64 qp, .int .i64 qe, .int .i64 st2], .agg #[.int .i64 op, .int .i64 xa, .int .i64 xb, .int .i64 xc, .int .i64 xn, .int .i64 xv.kind, .int .i64 xv.num, .string xv.text], .int .i64 qe]) (by simp [results, Tryz.results108, go_sem, g0, g1, g2, g3, k0, k1, k2, k3, k4, k5, k6, k7]) rfl ?_
   rw [show TT = ((⟨qxs, qp, qe⟩, ⟨op, xa, xb, xc, xn, xv⟩), qe) from by rw [HM.out]; exact if_neg HQ0.out]
   exact ⟨st2, rfl, GB.out.drew⟩
end Go.Proofs.YtnieminnnkbneaaGreat

namespace Go.Proofs.YtnieminnnkbneaaGreat

def takeAll : Rdr → Ins → Bs → (Rdr × Ins) × Int
 | r, x, [] => ((r, x), 0)
 | r, x, c :: l => if (takenM r x c).2 ≠ 0 then takenM r x c else takeAll (takenM r x c).1.1 (takenM r x c).1.2 l

def Fld.lett : Fld → UInt8
 | .a => 65
 | .b => 66
 | .c => 67
 | .arg | .how | .many => 78
 | .skip => 97

theorem fieldsS_eq {op : Int} (h1 : 1 ≤ op) (h2 : op ≤ 16) : fieldsS op = (fieldsOf op).map Fld.lett ++ (if hasVal op then [86] else []) := by
 have h : op = 1 ∨ op = 2 ∨ op = 3 ∨ op = 4 ∨ op = 5 ∨ op = 6 ∨ op = 7 ∨ op = 8 ∨ op = 9 ∨ op = 10 ∨ op = 11 ∨ op = 12 ∨ op = 13 ∨ op = 14 ∨ op = 15 ∨ op = 16 := by omega
 rcases h with rfl | rfl | rfl | rfl | rfl | rfl | rfl | rfl | rfl | rfl | rfl | rfl | rfl | rfl | rfl | rfl <;> decide

theorem fieldsS_none {op : Int} (h : op < 1 ∨ 16 < op) : fieldsS op = [63] := by
 unfold fieldsS
 simp only [show ¬ op = 1 by omega, show ¬ op = 2 by omega, show ¬ op = 3 by omega, show ¬ op = 4 by omega, show ¬ op = 5 by omega, show ¬ op = 6 by omega, show ¬ op = 7 by omega, show ¬ op = 8 by omega, show ¬ op = 9 by omega, show ¬ op = 10 by omega, show ¬ op = 11 by omega, show ¬ op = 12 by omega, show ¬ op = 13 by omega, show ¬ op = 14 by omega, show ¬ op = 15 by omega, show ¬ op = 16 by omega, or_self, if_false]

theorem fieldsS_some {op : Int} (h1 : 1 ≤ op) (h2 : op ≤ 16) : fieldsS op ≠ [63] := by
 have h : op = 1 ∨ op = 2 ∨ op = 3 ∨ op = 4 ∨ op = 5 ∨ op = 6 ∨ op = 7 ∨ op = 8 ∨ op = 9 ∨ op = 10 ∨ op = 11 ∨ op = 12 ∨ op = 13 ∨ op = 14 ∨ op = 15 ∨ op = 16 := by omega
 rcases h with rfl | rfl | rfl | rfl | rfl | rfl | rfl | rfl | rfl | rfl | rfl | rfl | rfl | rfl | rfl | rfl <;> decide

theorem taken_fld (r : Rdr) (x : Ins) (f : Fld) : takenM r x f.lett = (((readFld r x f).2, (readFld r x f).1), (readFld r x f).2.err) := by
 cases f <;> simp [takenM, readFld, Fld.lett, Fld.one, Fld.put]

theorem takeAll_flds (l : List Fld) : ∀ (r : Rdr) (x : Ins) (t : Bs), takeAll r x (l.map Fld.lett ++ t) =
  if (readFlds r x l).2 ≠ 0 then (((readFlds r x l).1.2, (readFlds r x l).1.1), (readFlds r x l).2) else takeAll (readFlds r x l).1.2 (readFlds r x l).1.1 t := by
 induction l with
 | nil => intro r x t; simp [readFlds]
 | cons f l ih =>
  intro r x t
  simp only [List.map_cons, List.cons_append, takeAll, taken_fld]
  rw [readFlds]
  simp only
  split
  ·rfl
  ·exact ih _ _ t

theorem readFld_xs (r : Rdr) (x : Ins) (f : Fld) : (readFld r x f).2.xs = r.xs := by
 unfold readFld
 split
 ·exact byte_xs r
 ·exact number_xs r

theorem readFlds_xs (l : List Fld) : ∀ (r : Rdr) (x : Ins), (readFlds r x l).1.2.xs = r.xs := by
 induction l with
 | nil => intro r x; rfl
 | cons f l ih =>
  intro r x
  rw [readFlds]
  simp only
  split
  ·exact readFld_xs r x f
  ·rw [ih]; exact readFld_xs r x f

/-- An instruction as the document reads it. -/
def rIns (r : Rdr) : (Rdr × Ins) × Int :=
 if r.byte.2.err ≠ 0 then ((r.byte.2, zeroIns 0), r.byte.2.err) else if fieldsS r.byte.1 = [63] then ((r.byte.2, zeroIns 0), 16) else takeAll r.byte.2 (zeroIns r.byte.1) (fieldsS r.byte.1)

theorem rIns_eq (r : Rdr) : (readIns r.xs.length r).2 = (rIns r).2 ∧ ((rIns r).2 = 0 → (readIns r.xs.length r).1 = ((rIns r).1.2, (rIns r).1.1)) := by
 have hx := byte_xs r
 unfold rIns readIns
 generalize r.byte = Q at hx ⊢
 obtain ⟨o, q⟩ := Q
 simp only at hx ⊢
 by_cases h0 : q.err = 0
 ·have e0 : (q.err ≠ 0) = False := by simp [h0]
  simp only [e0, if_false]
  by_cases h1 : (o : Int) < 1 ∨ 16 < (o : Int)
  ·simp only [h1, if_true, fieldsS_none h1]
   simp
  ·have ho1 : 1 ≤ (o : Int) := by omega
   have ho2 : (o : Int) ≤ 16 := by omega
   simp only [h1, if_false, fieldsS_some ho1 ho2]
   rw [fieldsS_eq ho1 ho2, takeAll_flds]
   have hfx := readFlds_xs (fieldsOf o) q (zeroIns o)
   generalize readFlds q (zeroIns o) (fieldsOf o) = Q at hfx ⊢
   obtain ⟨⟨x, q2⟩, e⟩ := Q
   simp only at hfx ⊢
   by_cases he : e = 0
   ·have e1 : (e ≠ 0) = False := by simp [he]
    simp only [e1, if_false]
    cases hv : hasVal (o : Int) with
    | true =>
     simp only [if_true, takeAll]
     have hm : takenM q2 x 86 = if (q2.text q2.xs.length).2.err = 0 then (((q2.text q2.xs.length).2, { x with v := (datumDecode (q2.text q2.xs.length).1).1 }), (datumDecode (q2.text q2.xs.length).1).2) else (((q2.text q2.xs.length).2, x), (q2.text q2.xs.length).2.err) := rfl
     rw [hm, hfx, hx]
     rcases q2.text (r.xs.length : Int) with ⟨s, q3⟩
     simp only
     by_cases h3 : q3.err = 0
     ·have e3 : (q3.err ≠ 0) = False := by simp [h3]
      simp only [h3, if_true]
      rcases datumDecode s with ⟨v, e2⟩
      simp only
      by_cases h4 : e2 = 0
      ·simp [h4]
      ·simp [h4]
     ·simp [h3]
    | false => simp [takeAll]
   ·have e1 : (e ≠ 0) = True := by simp [he]
    simp only [e1, if_true]
    exact ⟨trivial, fun h => absurd h he⟩
 ·simp [h0]
end Go.Proofs.YtnieminnnkbneaaGreat

namespace Go.Proofs.YtnieminnnkbneaaGreat
open Go.RowKit

theorem taken_any (A : Option Addr) (c : Nat) (s : Rdr) (st : Int) (x : Ins) (u : UInt8) (hu : u = 65 ∨ u = 66 ∨ u = 67 ∨ u = 97 ∨ u = 78 ∨ u = 86) (w : World) (hr : Row w A (cellsB s.xs)) (hp : s.pos ≤ s.xs.length) (hl : s.xs.length ≤ 140737488355328) (hz : A = none → s.xs.length = 0) (hcap : s.xs.length ≤ c) :
  Calls Tryz.prog 108 #[.agg (rvC A s.xs.length c s.pos s.err st), .agg (insCells x), .int .u8 (u.toNat : Int)] w (RTaken A s.xs.length c (takenM s x u) w) := by
 rcases hu with rfl | rfl | rfl | rfl | rfl | rfl
 ·exact taken_65 A c s st x w hr hp hl hz
 ·exact taken_66 A c s st x w hr hp hl hz
 ·exact taken_67 A c s st x w hr hp hl hz
 ·exact taken_97 A c s st x w hr hp hl hz
 ·exact taken_78 A c s st x w hr hp hl hz
 ·exact taken_86 A c s st x w hr hp hl hz hcap

theorem takenM_xs (r : Rdr) (x : Ins) (c : UInt8) : (takenM r x c).1.1.xs = r.xs := by
 unfold takenM
 repeat' split
 all_goals first
  | exact byte_xs r
  | exact number_xs r
  | exact text_xs r _
theorem takenM_pos {r : Rdr} (x : Ins) (c : UInt8) (h : r.pos ≤ r.xs.length) : (takenM r x c).1.1.pos ≤ r.xs.length := by
 unfold takenM
 repeat' split
 all_goals first
  | exact byte_pos h
  | exact number_pos h
  | exact text_pos _ h
theorem takenM_err {r : Rdr} {x : Ins} {c : UInt8} : (takenM r x c).2 = 0 → (takenM r x c).1.1.err = 0 := by
 unfold takenM
 repeat' split
 all_goals first
  | exact fun h => h
  | (intro _; assumption)

theorem let_letter {op : Int} (h1 : 1 ≤ op) (h2 : op ≤ 16) : ∀ c ∈ fieldsS op, c = 65 ∨ c = 66 ∨ c = 67 ∨ c = 97 ∨ c = 78 ∨ c = 86 := by
 have h : op = 1 ∨ op = 2 ∨ op = 3 ∨ op = 4 ∨ op = 5 ∨ op = 6 ∨ op = 7 ∨ op = 8 ∨ op = 9 ∨ op = 10 ∨ op = 11 ∨ op = 12 ∨ op = 13 ∨ op = 14 ∨ op = 15 ∨ op = 16 := by omega
 rcases h with rfl | rfl | rfl | rfl | rfl | rfl | rfl | rfl | rfl | rfl | rfl | rfl | rfl | rfl | rfl | rfl <;> decide

/-- The blocks of Decode: the result, the reader, the procedure, its code. -/
structure CSt (w W : World) (rb pb : Nat) (c0 c1 c2 c3 p0 p1 p2 V : Value) (n : Nat) (cs : List Value) : Prop where
 z : Loc W w.heap.size #[.string ⟨#[]⟩, .int .i64 0, .slice none 0 0] 54
 r : Loc W rb #[c0, c1, c2, c3] 126
 p : Loc W pb #[p0, p1, p2] 54
 o : W.ownsRow w.heap.size 109 8 V n cs
 b : Below w.heap.size w W
 lr : w.heap.size < rb
 lp : rb < pb

namespace CSt
variable {w W X : World} {rb pb : Nat} {c0 c1 c2 c3 p0 p1 p2 V : Value} {n : Nat} {cs : List Value}
theorem below (h : CSt w W rb pb c0 c1 c2 c3 p0 p1 p2 V n cs) (hb : Below W.heap.size W X) : CSt w X rb pb c0 c1 c2 c3 p0 p1 p2 V n cs :=
 ⟨h.z.below hb h.z.lt, h.r.below hb h.r.lt, h.p.below hb h.p.lt, owns_mono' h.o hb, below_then h.b hb h.b.size, h.lr, h.lp⟩
theorem putR (h : CSt w W rb pb c0 c1 c2 c3 p0 p1 p2 V n cs) (u0 u1 u2 u3 : Value) : CSt w (put4 W rb u0 u1 u2 u3) rb pb u0 u1 u2 u3 p0 p1 p2 V n cs := by
 obtain ⟨_, _, _, _, r, b⟩ := h.r.put4 h.b (Nat.le_of_lt h.lr) u0 u1 u2 u3
 have l0 := h.r.set 0 u0
 have l1 := l0.set 1 u1
 have l2 := l1.set 2 u2
 have o0 := owns_setCell (a := ⟨rb, 0, none⟩) h.o (owns_ne h.o h.r (by decide)) u0
 have o1 := owns_setCell (a := ⟨rb, 1, none⟩) o0 (owns_ne o0 l0 (by decide)) u1
 have o2 := owns_setCell (a := ⟨rb, 2, none⟩) o1 (owns_ne o1 l1 (by decide)) u2
 have o3 := owns_setCell (a := ⟨rb, 3, none⟩) o2 (owns_ne o2 l2 (by decide)) u3
 have lr := h.lr
 have lp := h.lp
 exact ⟨loc_put4o h.z (by omega) _ _ _ _, r, loc_put4o h.p (by omega) _ _ _ _, o3, b, lr, lp⟩
theorem set0 (h : CSt w W rb pb c0 c1 c2 c3 p0 p1 p2 V n cs) (v : Value) : CSt w (W.setCell ⟨pb, 0, none⟩ v) rb pb c0 c1 c2 c3 v p1 p2 V n cs := by
 have lr := h.lr
 have lp := h.lp
 exact ⟨h.z.other (a := ⟨pb, 0, none⟩) (show w.heap.size ≠ pb by omega) v, h.r.other (a := ⟨pb, 0, none⟩) (show rb ≠ pb by omega) v, h.p.set 0 v, owns_setCell (a := ⟨pb, 0, none⟩) h.o (owns_ne h.o h.p (by decide)) v,
  h.b.setCell (p := ⟨pb, 0, none⟩) (show w.heap.size ≤ pb by omega) v, lr, lp⟩
theorem set1 (h : CSt w W rb pb c0 c1 c2 c3 p0 p1 p2 V n cs) (v : Value) : CSt w (W.setCell ⟨pb, 1, none⟩ v) rb pb c0 c1 c2 c3 p0 v p2 V n cs := by
 have lr := h.lr
 have lp := h.lp
 exact ⟨h.z.other (a := ⟨pb, 1, none⟩) (show w.heap.size ≠ pb by omega) v, h.r.other (a := ⟨pb, 1, none⟩) (show rb ≠ pb by omega) v, h.p.set 1 v, owns_setCell (a := ⟨pb, 1, none⟩) h.o (owns_ne h.o h.p (by decide)) v,
  h.b.setCell (p := ⟨pb, 1, none⟩) (show w.heap.size ≤ pb by omega) v, lr, lp⟩
theorem set2 (h : CSt w W rb pb c0 c1 c2 c3 p0 p1 p2 V n cs) (v : Value) : CSt w (W.setCell ⟨pb, 2, none⟩ v) rb pb c0 c1 c2 c3 p0 p1 v V n cs := by
 have lr := h.lr
 have lp := h.lp
 exact ⟨h.z.other (a := ⟨pb, 2, none⟩) (show w.heap.size ≠ pb by omega) v, h.r.other (a := ⟨pb, 2, none⟩) (show rb ≠ pb by omega) v, h.p.set 2 v, owns_setCell (a := ⟨pb, 2, none⟩) h.o (owns_ne h.o h.p (by decide)) v,
  h.b.setCell (p := ⟨pb, 2, none⟩) (show w.heap.size ≤ pb by omega) v, lr, lp⟩
theorem putXb (h : CSt w W rb pb c0 c1 c2 c3 p0 p1 p2 V n cs) {xb : Nat} (hx : pb < xb) (ho : ∀ k, V.ownBlock = some k → k < xb) (x : Ins) : CSt w (putX W xb x) rb pb c0 c1 c2 c3 p0 p1 p2 V n cs := by
 have lr := h.lr
 have lp := h.lp
 have hne : ∀ i : Nat, V.ownBlock ≠ some (⟨xb, i, none⟩ : Addr).block := fun i e => by have := ho xb e; omega
 exact ⟨putX_other h.z (by omega) x, putX_other h.r (by omega) x, putX_other h.p (by omega) x,
  owns_setCell (owns_setCell (owns_setCell (owns_setCell (owns_setCell (owns_setCell (owns_setCell (owns_setCell h.o (hne 0) _) (hne 1) _) (hne 2) _) (hne 3) _) (hne 4) _) (hne 5) _) (hne 6) _) (hne 7) _,
  putX_below h.b (by omega) x, lr, lp⟩
theorem grown (h : CSt w W rb pb c0 c1 c2 c3 p0 p1 p2 V n cs) {V1 : Value} {m : Nat} {ds : List Value} (hown : X.ownsRow 0 109 8 V1 m ds) (hg : W.grownBy X V.ownBlock) (hb : ∀ k, V1.ownBlock = some k → V.ownBlock = some k ∨ k = W.heap.size) :
  CSt w X rb pb c0 c1 c2 c3 p0 p1 p2 V1 m ds := by
 obtain ⟨o, b⟩ := own_next0 h.o hown hg hb h.b.size h.b
 exact ⟨h.z.grown hg (owns_ne h.o h.z (by decide)), h.r.grown hg (owns_ne h.o h.r (by decide)), h.p.grown hg (owns_ne h.o h.p (by decide)), o, b, h.lr, h.lp⟩
theorem drew (h : CSt w W rb pb c0 c1 c2 c3 p0 p1 p2 V n cs) : CSt w W.drew rb pb c0 c1 c2 c3 p0 p1 p2 V n cs := ⟨h.z, h.r, h.p, h.o, h.b.drew, h.lr, h.lp⟩
end CSt

theorem dpost0 {xs : Bs} {w W : World} {E : Int} (hb : Below w.heap.size w W) (hd : procDecode xs = (.zero, E)) : DPost xs w (.returned (.tuple #[.agg #[.string ⟨#[]⟩, .int .i64 0, .slice none 0 0], .int .i64 E])) W := by
 unfold DPost
 rw [hd]
 exact ⟨none, 0, rfl, World.ownsRow_nil _ _ _ _, hb⟩

theorem decTail_err {s : Bs} {a e : Int} {l : List Ins} {r : Rdr} (h : e ≠ 0) : decTail s a ((l, r), e) = (.zero, e) := by
 unfold decTail
 rw [if_pos h]

theorem readCode_stop {xs : Bs} {f : Nat} {q : Rdr} {l : List Ins} {s : Bs} {a e : Int} (hx : q.xs = xs) (h : (rIns q).2 = e) (he : e ≠ 0) : decTail s a (readCode xs.length (f + 1) q l) = (.zero, e) := by
 subst hx
 have k := (rIns_eq q).1
 rw [h] at k
 rw [readCode_step, k, if_pos he]
 exact decTail_err he

theorem readCode_go {xs : Bs} {f : Nat} {q q2 : Rdr} {x : Ins} {l : List Ins} (hx : q.xs = xs) (h : rIns q = ((q2, x), 0)) : readCode xs.length (f + 1) q l = readCode xs.length f q2 (l ++ [x]) := by
 subst hx
 have k := rIns_eq q
 rw [h] at k
 rw [readCode_step, k.1, if_neg (by simp), k.2 rfl]


set_option maxRecDepth 100000 in
set_option maxHeartbeats 3000000 in
theorem refDecode_any (A : Option Addr) (c : Nat) (xs : Bs) (w : World) (hr : Row w A (cellsB xs)) (hl : xs.length ≤ 140737488355328) (hz : A = none → xs.length = 0) (hcap : xs.length ≤ c) :
  Calls Tryz.prog 69 #[.slice A xs.length c] w (DPost xs w) := by
 obtain ⟨s, r1, h1⟩ : ∃ s r1, (Rdr.new xs).text 32 = (s, r1) := ⟨_, _, rfl⟩
 obtain ⟨a, r2, h2⟩ : ∃ a r2, r1.number = (a, r2) := ⟨_, _, rfl⟩
 obtain ⟨n, r3, h3⟩ : ∃ n r3, r2.number = (n, r3) := ⟨_, _, rfl⟩
 have hpd := procDecode_eq h1 h2 h3
 have x1 := text_xs (Rdr.new xs) 32
 have p1 := text_pos (s := Rdr.new xs) 32 (Nat.zero_le _)
 rw [h1] at x1 p1
 simp only [show (Rdr.new xs).xs = xs from rfl] at x1 p1
 have x2 := number_xs r1
 have p2 := number_pos (s := r1) (by rw [x1]; exact p1)
 rw [h2, x1] at x2 p2
 simp only at x2 p2
 have x3 := number_xs r2
 have p3 := number_pos (s := r2) (by rw [x2]; exact p2)
 have hn := number_nonneg r2
 rw [h3, x2] at x3 p3
 rw [h3] at hn
 simp only at x3 p3 hn
 have c1 := fun W (h : Below w.heap.size w W) => rttext_any A c (Rdr.new xs) 0 32 (by decide) (by decide) W (hr.of_below h (Nat.le_refl _)) (Nat.zero_le _) hl hz hcap
 have c2 := fun st W (h : Below w.heap.size w W) => rtnumber_any A c r1 st W (by rw [x1]; exact hr.of_below h (Nat.le_refl _)) (by rw [x1]; exact p1) (by rw [x1]; exact hl) (by rw [x1]; exact hz)
 have c3 := fun st W (h : Below w.heap.size w W) => rtnumber_any A c r2 st W (by rw [x2]; exact hr.of_below h (Nat.le_refl _)) (by rw [x2]; exact p2) (by rw [x2]; exact hl) (by rw [x2]; exact hz)
 have cb := fun (q : Rdr) st W (hx : q.xs = xs) (hq : q.pos ≤ xs.length) (h : Below w.heap.size w W) => rtbyte_any A c q st W (by rw [hx]; exact hr.of_below h (Nat.le_refl _)) (by rw [hx]; exact hq) (by rw [hx]; exact hl)
 have ct := fun (q : Rdr) st x u hu W (hx : q.xs = xs) (hq : q.pos ≤ xs.length) (h : Below w.heap.size w W) => taken_any A c q st x u hu W (by rw [hx]; exact hr.of_below h (Nat.le_refl _)) (by rw [hx]; exact hq) (by rw [hx]; exact hl) (by rw [hx]; exact hz) (by rw [hx]; exact hcap)
 have ce := fun (q : Rdr) st W (hx : q.xs = xs) (hq : q.pos ≤ xs.length) => rtend_any A c q st W (by rw [hx]; exact hq) (by rw [hx]; exact hl)
 rw [h1] at c1
 rw [h2, x1] at c2
 rw [h3, x2] at c3
 obtain ⟨N, hN⟩ : ∃ N, N = xs.length := ⟨_, rfl⟩
 simp only [show (Rdr.new xs).xs = xs from rfl, show (Rdr.new xs).pos = 0 from rfl, show (Rdr.new xs).err = 0 from rfl, show ((0 : Nat) : Int) = 0 from rfl] at c1 c2 c3
 rw [← hN] at c1 c2 c3 p1 p2 p3 hl hcap
 rw [show (.slice A xs.length c : Value) = .slice A N c by rw [hN]]
 have crd := fun W => rtread_any A N c W
 have HPD := Lib.hid hpd
 have HN := Lib.hid hN
 have C1 := Lib.hid c1
 have C2 := Lib.hid c2
 have C3 := Lib.hid c3
 have CB := Lib.hid cb
 have CT := Lib.hid ct
 have CE := Lib.hid ce
 have CRD := Lib.hid crd
 have HX3 := Lib.hid x3
 clear hr hz h1 h2 h3 hpd x1 x2 x3 c1 c2 c3 cb ct ce crd hN
 unfold rvC at C1 C2 C3 CRD
 go_enter Tryz.func69, Tryz.ntmps69
 have Z1 := Loc.new w #[.string ⟨#[]⟩, .int .i64 0, .slice none 0 0] 54
 have b1 := (Below.refl w.heap.size w).alloc (Nat.le_refl _) (.cells #[.string ⟨#[]⟩, .int .i64 0, .slice none 0 0] 54)
 go_wp2_with fail
 refine (CRD.out _).mono ?_; rintro e w1 ⟨rfl, hb⟩
 have C0 : CSt w ((w1.alloc (.cells #[.slice A N c, .int .i64 0, .int .i64 0, .int .i64 0] 126)).alloc (.cells #[.string ⟨#[]⟩, .int .i64 0, .slice none 0 0] 54)) w1.heap.size (w1.heap.size + 1) (.slice A N c) (.int .i64 0) (.int .i64 0) (.int .i64 0) (.string ⟨#[]⟩) (.int .i64 0) (.slice none 0 0) (.slice none 0 0) 0 [] := by
  have Z2 := Z1.below hb Z1.lt
  have b2 := below_then b1 hb b1.size
  have pn := Loc.new (w1.alloc (.cells #[.slice A N c, .int .i64 0, .int .i64 0, .int .i64 0] 126)) #[.string ⟨#[]⟩, .int .i64 0, .slice none 0 0] 54
  simp only [World.size_alloc] at pn
  exact ⟨(Z2.alloc _).alloc _, (Loc.new w1 _ _).alloc _, pn, World.ownsRow_nil _ _ _ _, (b2.alloc b2.size _).alloc (by have := b2.size; simp; omega) _, Z2.lt, by omega⟩
 clear Z1 b1 hb CRD
 generalize hpb : w1.heap.size + 1 = pb at C0
 have hpb1 : w1.heap.size < pb := by omega
 have HPB := Lib.hid hpb
 go_wp2_with fail
 refine (C1.out _ C0.b).mono ?_; rintro e w2 ⟨st1, rfl, hb⟩
 unfold rvC
 have D1 := C0.below hb
 clear C0 hb C1 hpb

 obtain ⟨r0, r1', r2', r3', rf0, rf1, rf2, rf3⟩ := D1.r.rfour
 obtain ⟨q0, q1, q2, qf0, qf1, qf2⟩ := loc_three D1.p
 have D2 := (D1.set0 (.string (ofBs s))).putR (.slice A N c) (.int .i64 r1.pos) (.int .i64 r1.err) (.int .i64 st1)
 unfold put4 at D2
 have hne1 : ¬ w1.heap.size = pb := by omega
 have hne2 : ¬ pb = w1.heap.size := by omega
 clear D1
 go_wp2_with fail
 refine (C2.out st1 _ D2.b).mono ?_; rintro e w3 ⟨st2, rfl, hb⟩
 unfold rvC
 have D3 := D2.below hb
 clear D2 hb C2
 clear r0 r1' r2' r3' rf0 rf1 rf2 rf3 q0 q1 q2 qf0 qf1 qf2
 obtain ⟨r0, r1', r2', r3', rf0, rf1, rf2, rf3⟩ := D3.r.rfour
 obtain ⟨q0, q1, q2, qf0, qf1, qf2⟩ := loc_three D3.p
 have D4 := (D3.set1 (.int .i64 a)).putR (.slice A N c) (.int .i64 r2.pos) (.int .i64 r2.err) (.int .i64 st2)
 unfold put4 at D4
 clear D3
 go_wp2_with fail
 refine (C3.out st2 _ D4.b).mono ?_; rintro e w4 ⟨st3, rfl, hb⟩
 unfold rvC
 have D5 := D4.below hb
 clear D4 hb C3
 clear r0 r1' r2' r3' rf0 rf1 rf2 rf3 q0 q1 q2 qf0 qf1 qf2
 obtain ⟨r0, r1', r2', r3', rf0, rf1, rf2, rf3⟩ := D5.r.rfour
 obtain ⟨q0, q1, q2, qf0, qf1, qf2⟩ := loc_three D5.p
 have D6 := D5.putR (.slice A N c) (.int .i64 r3.pos) (.int .i64 r3.err) (.int .i64 st3)
 unfold put4 at D6
 obtain ⟨z0, z1, z2, zf0, zf1, zf2⟩ := loc_three D5.z
 have hne3 : ¬ w.heap.size = w1.heap.size := by have := D5.lr; omega
 have hne4 : ¬ w1.heap.size = w.heap.size := by have := D5.lr; omega
 clear D5
 by_cases he3 : r3.err = 0
 ·have he3' : (r3.err != 0) = false := by simp [he3]
  by_cases hn64 : 64 < n
  ·have hd : procDecode xs = (.zero, 4) := by rw [HPD.out, if_neg (by simpa using he3), if_pos hn64]
   clear he3
   obtain ⟨y0, y1, y2, _, be⟩ := loc_put3 D6.z D6.b (Nat.le_refl _) (.string ⟨#[]⟩) (.int .i64 0) (.slice none 0 0)
   unfold put3 at y0 y1 y2 be
   have HY := Lib.hid (And.intro y0 (And.intro y1 y2))
   have HB := Lib.hid be
   have HD := Lib.hid hd
   clear y0 y1 y2 be
   go_wp2
   obtain ⟨y0, y1, y2⟩ := HY.out
   exact bodyPost_ret (v := .tuple #[.agg #[.string ⟨#[]⟩, .int .i64 0, .slice none 0 0], .int .i64 4]) (by simp [results, Tryz.results69, go_sem, y0, y1, y2]) rfl (dpost0 HB.out HD.out)
  ·obtain ⟨m, rfl⟩ := Int.eq_ofNat_of_zero_le hn.1
   have hd0 : procDecode xs = decTail s a (readCode xs.length m r3 []) := by rw [HPD.out, if_neg (by simpa using he3), if_neg hn64, Int.toNat_natCast]
   have HD0 := Lib.hid hd0
   have hm : m ≤ 64 := by omega
   rw [he3] at D6 ⊢
   clear hd0 HPD
   go_wp2
   go_loopw [7] (fun i wr => ∃ (k : Nat) (q : Rdr) (st : Int) (l : List Ins) (B : Option Addr) (d : Nat), k ≤ m ∧ i = .int .i64 k ∧ Hid (l.length = k) ∧ Hid (q.xs = xs) ∧ Hid (q.err = 0) ∧ q.pos ≤ N ∧ Hid (procDecode xs = decTail s a (readCode xs.length (m - k) q l)) ∧ CSt w wr w1.heap.size pb (.slice A N c) (.int .i64 q.pos) (.int .i64 0) (.int .i64 st) (.string (ofBs s)) (.int .i64 a) (.slice B k d) (.slice B k d) k (codeCells l)) (fun i _ => m - (intOf i).toNat)
   case atStart => exact ⟨0, r3, st3, [], none, 0, Nat.zero_le _, rfl, Lib.hid rfl, HX3, Lib.hid he3, p3, HD0, D6⟩
   case round =>
    clear D6 r0 r1' r2' r3' rf0 rf1 rf2 rf3 q0 q1 q2 qf0 qf1 qf2 z0 z1 z2 zf0 zf1 zf2 he3' HD0
    obtain ⟨wi, rfl⟩ : ∃ wi, wi = wr := ⟨_, rfl⟩
    obtain ⟨k, q, st, l, B, d, hk, rfl, HLK, HQX, HQE, hqp, HREL, D⟩ := hrel
    by_cases hkm : k < m
    ·obtain ⟨f, hf⟩ : ∃ f, m - k = f + 1 := ⟨m - k - 1, by omega⟩
     have hrel := HREL.out
     rw [hf] at hrel
     have HREL2 := Lib.hid hrel
     have hf' : f = m - (k + 1) := by omega
     have HF := Lib.hid hf'
     have cby := CB.out q st wi HQX.out (by rw [← HN.out]; exact hqp) D.b
     have ho := rbyte_lt q
     have hx1 := byte_xs q
     have hp1 := byte_pos (s := q) (by rw [HQX.out, ← HN.out]; exact hqp)
     have hri : rIns q = if q.byte.2.err ≠ 0 then ((q.byte.2, zeroIns 0), q.byte.2.err) else if fieldsS q.byte.1 = [63] then ((q.byte.2, zeroIns 0), 16) else takeAll q.byte.2 (zeroIns q.byte.1) (fieldsS q.byte.1) := rfl
     rw [HQX.out, ← HN.out, HQE.out] at cby
     rw [HQX.out] at hx1 hp1
     rw [← HN.out] at hp1
     obtain ⟨oN, q1, hq1⟩ : ∃ oN q1, q.byte = (oN, q1) := ⟨_, _, rfl⟩
     rw [hq1] at cby ho hx1 hp1 hri
     simp only at ho hx1 hp1 hri
     obtain ⟨o, hoo⟩ : ∃ o : Int, o = (oN : Int) := ⟨_, rfl⟩
     rw [← hoo] at cby hri
     have ho0 : 0 ≤ o := by omega
     have ho1 : o < 256 := by omega
     unfold rvC at cby
     have CBY := Lib.hid cby
     have HX1 := Lib.hid hx1
     have HRI := Lib.hid hri
     have hkm' : (k : Int) < (m : Int) := by omega
     have hlr := D.lr
     obtain ⟨g0, g1, g2, g3, _⟩ := D.r.rfour
     have hlp := D.lp
     clear hrel hf hf' HREL cby hx1 hq1 hri hoo ho
     go_wp2_with fail
     refine CBY.out.mono ?_; rintro e w5 ⟨st5, rfl, hb⟩
     unfold rvC
     have E1 := D.below hb
     have hsz5 := hb.size
     clear D hb CBY g0 g1 g2 g3
     obtain ⟨r0, r1', r2', r3', rf0, rf1, rf2, rf3⟩ := E1.r.rfour
     obtain ⟨z0, z1, z2, zf0, zf1, zf2⟩ := loc_three E1.z
     have E2 := E1.putR (.slice A N c) (.int .i64 q1.pos) (.int .i64 q1.err) (.int .i64 st5)
     unfold put4 at E2
     have hrb5 := E1.r.lt
     have hpb5 := E1.p.lt
     have hob := owns_lt E1.o
     have hz5 : w.heap.size < w5.heap.size := by omega
     have HOB := Lib.hid hob
     clear E1 hob
     by_cases he1 : q1.err = 0
     ·have he1' : (q1.err != 0) = false := by simp [he1]
      have hri : rIns q = if fieldsS o = [63] then ((q1, zeroIns 0), 16) else takeAll q1 (zeroIns o) (fieldsS o) := by rw [HRI.out, if_neg (by simpa using he1)]
      rw [he1] at E2 ⊢
      have HE1 := Lib.hid he1
      have hfi := fun W => refFields_any o W
      obtain ⟨fs, hfs⟩ : ∃ fs, fs = fieldsS o := ⟨_, rfl⟩
      rw [← hfs] at hri hfi
      have HRI2 := Lib.hid hri
      have HFI := Lib.hid hfi
      have HFS := Lib.hid hfs
      have hsz6 : ((((w5.setCell ⟨w1.heap.size, 0, none⟩ (.slice A N c)).setCell ⟨w1.heap.size, 1, none⟩ (.int .i64 q1.pos)).setCell ⟨w1.heap.size, 2, none⟩ (.int .i64 0)).setCell ⟨w1.heap.size, 3, none⟩ (.int .i64 st5)).heap.size = w5.heap.size := by simp
      have X3 := Loc.new ((((w5.setCell ⟨w1.heap.size, 0, none⟩ (.slice A N c)).setCell ⟨w1.heap.size, 1, none⟩ (.int .i64 q1.pos)).setCell ⟨w1.heap.size, 2, none⟩ (.int .i64 0)).setCell ⟨w1.heap.size, 3, none⟩ (.int .i64 st5)) #[.int .i64 o, .int .i64 0, .int .i64 0, .int .i64 0, .int .i64 0, .int .i64 0, .int .i64 0, .string ⟨#[]⟩] 109
      rw [hsz6] at X3
      have E3 := E2.below ((Below.refl _ _).alloc (Nat.le_refl _) (.cells #[.int .i64 o, .int .i64 0, .int .i64 0, .int .i64 0, .int .i64 0, .int .i64 0, .int .i64 0, .string ⟨#[]⟩] 109))
      clear he1 hri HRI hfi hfs hsz6
      go_wp2_with fail
      refine (HFI.out _).mono ?_; rintro e w6 ⟨rfl, rfl⟩
      by_cases h63 : fs = [63]
      ·have hS : ((ofBs fs).toList == [63]) = true := by rw [ByteArray.toList_eq, ofBs_data, h63]; rfl
       have hd : procDecode xs = (.zero, 16) := by rw [HREL2.out]; exact readCode_stop HQX.out (by rw [HRI2.out, if_pos h63]) (by decide)
       have ZZ := And.intro z0 (And.intro z1 (And.intro z2 (And.intro zf0 (And.intro zf1 zf2))))
       clear h63 E3 X3
       obtain ⟨z0, z1, z2, zf0, zf1, zf2⟩ := ZZ
       obtain ⟨_, _, _, Zp, be0⟩ := loc_put3 E2.z E2.b (Nat.le_refl _) (.string ⟨#[]⟩) (.int .i64 0) (.slice none 0 0)
       unfold put3 at Zp be0
       obtain ⟨y0, y1, y2, _⟩ := loc_three (Zp.alloc (.cells #[.int .i64 o, .int .i64 0, .int .i64 0, .int .i64 0, .int .i64 0, .int .i64 0, .int .i64 0, .string ⟨#[]⟩] 109))
       have be := be0.alloc be0.size (.cells #[.int .i64 o, .int .i64 0, .int .i64 0, .int .i64 0, .int .i64 0, .int .i64 0, .int .i64 0, .string ⟨#[]⟩] 109)
       have HY := Lib.hid (And.intro y0 (And.intro y1 y2))
       have HB := Lib.hid be
       have HD := Lib.hid hd
       clear y0 y1 y2 be Zp be0
       go_wp2
       obtain ⟨y0, y1, y2⟩ := HY.out
       exact bodyPost_ret (v := .tuple #[.agg #[.string ⟨#[]⟩, .int .i64 0, .slice none 0 0], .int .i64 16]) (by simp [results, Tryz.results69, go_sem, y0, y1, y2]) rfl (dpost0 HB.out HD.out)
      ·have hS : ((ofBs fs).toList == [63]) = false := by rw [ByteArray.toList_eq, ofBs_data]; simpa using h63
       have hrt : rIns q = takeAll q1 (zeroIns o) fs := by rw [HRI2.out, if_neg h63]
       have hoR : 1 ≤ o ∧ o ≤ 16 := by
        rcases Classical.em (1 ≤ o ∧ o ≤ 16) with h | h
        ·exact h
        ·exact absurd (HFS.out.trans (fieldsS_none (by omega))) h63
       have hlet : ∀ u ∈ fs, u = 65 ∨ u = 66 ∨ u = 67 ∨ u = 97 ∨ u = 78 ∨ u = 86 := by rw [HFS.out]; exact let_letter hoR.1 hoR.2
       have HLET := Lib.hid hlet
       have hfl : fs.length ≤ 4 := by rw [HFS.out]; exact fieldsS_le _
       obtain ⟨sf, hsf⟩ : ∃ sf, sf = ofBs fs := ⟨_, rfl⟩
       have hsz : sf.size = fs.length := by rw [hsf, ← size_data, ofBs_data]
       have hget : ∀ k (h : k < sf.size) (h' : k < fs.length), sf[k] = fs[k] := fun k h h' => by
        have h1 := bget sf k h
        have hd : sf.data.toList = fs := by rw [hsf, ofBs_data]
        rw [hd, List.getElem?_eq_getElem h'] at h1
        exact (Option.some.inj h1).symm
       rw [← hsf] at hS ⊢
       obtain ⟨L, hL⟩ : ∃ L, L = fs.length := ⟨_, rfl⟩
       rw [← hL] at hfl
       have HL := Lib.hid hL
       have HSZ := Lib.hid hsz
       have HG := Lib.hid hget
       have HRT0 : Hid (rIns q = takeAll q1 (zeroIns o) (fs.drop 0)) := Lib.hid hrt
       clear h63 hrt hoR hlet hsf hsz hget hL HRI2 z0 z1 z2 zf0 zf1 zf2 r0 r1' r2' r3' rf0 rf1 rf2 rf3 E2
       go_wp2
       go_loopw [11] (fun i wk => ∃ (j : Nat) (q2 : Rdr) (st2 : Int) (x2 : Ins), j ≤ L ∧ i = .int .i64 j ∧ Hid (q2.xs = xs) ∧ Hid (q2.err = 0) ∧ q2.pos ≤ N ∧ Hid (rIns q = takeAll q2 x2 (fs.drop j)) ∧ CSt w wk w1.heap.size pb (.slice A N c) (.int .i64 q2.pos) (.int .i64 0) (.int .i64 st2) (.string (ofBs s)) (.int .i64 a) (.slice B k d) (.slice B k d) k (codeCells l) ∧ Loc wk w5.heap.size (insCells x2) 109) (fun i _ => L - (intOf i).toNat)
       case atStart => exact ⟨0, q1, st5, zeroIns o, Nat.zero_le _, rfl, HX1, HE1, hp1, HRT0, E3, X3⟩
       case round =>
        clear E3 X3 HX1 HE1 HRT0 hp1
        obtain ⟨w8, rfl⟩ : ∃ w8, w8 = wr := ⟨_, rfl⟩
        obtain ⟨j, q2, st2, x2, hj, rfl, HX2, HE2, hp2, HRT, G, X⟩ := hrel
        obtain ⟨xo, xa, xb, xc, xn, xv⟩ := x2
        simp only [insCells] at X
        obtain ⟨r0, r1', r2', r3', rf0, rf1, rf2, rf3⟩ := G.r.rfour
        obtain ⟨x0, x1, x2, x3, x4, x5, x6, x7⟩ := loc_eight X
        by_cases hjL : j < L
        ·have hjf : j < fs.length := by rw [← HL.out]; exact hjL
         have hjs : j < sf.size := by rw [HSZ.out]; exact hjf
         have hu := HLET.out fs[j] (List.getElem_mem hjf)
         have hsj := HG.out j hjs hjf
         have hdrop : fs.drop j = fs[j] :: fs.drop (j + 1) := List.drop_eq_getElem_cons hjf
         have hrt := HRT.out
         rw [hdrop] at hrt
         have htk := CT.out q2 st2 ⟨xo, xa, xb, xc, xn, xv⟩ fs[j] hu w8.drew HX2.out (by rw [← HN.out]; exact hp2) G.b.drew
         rw [HX2.out, ← HN.out, HE2.out] at htk
         have hx9 := takenM_xs q2 ⟨xo, xa, xb, xc, xn, xv⟩ fs[j]
         have hp9 := takenM_pos (r := q2) ⟨xo, xa, xb, xc, xn, xv⟩ fs[j] (by rw [HX2.out, ← HN.out]; exact hp2)
         have he9 := takenM_err (r := q2) (x := ⟨xo, xa, xb, xc, xn, xv⟩) (c := fs[j])
         rw [HX2.out] at hx9 hp9
         rw [← HN.out] at hp9
         simp only [takeAll] at hrt
         obtain ⟨T9, hT9⟩ : ∃ T9, takenM q2 ⟨xo, xa, xb, xc, xn, xv⟩ fs[j] = T9 := ⟨_, rfl⟩
         rw [hT9] at htk hx9 hp9 he9 hrt
         rw [← hsj] at htk
         obtain ⟨⟨q9, y9⟩, e9⟩ := T9
         obtain ⟨yo, ya, yb, yc, yn, yv⟩ := y9
         simp only at hx9 hp9 he9 hrt
         unfold RTaken at htk
         simp only [rvC, insCells] at htk
         have HX9 := Lib.hid hx9
         have HE9 := Lib.hid he9
         have HTK := Lib.hid htk
         have HRT2 := Lib.hid hrt
         have HSJ := Lib.hid hsj
         have hjI : (j : Int) < (L : Int) := by omega
         have hjs' : (j : Int) < (sf.size : Int) := by omega
         have hjs0 : (0 : Int) ≤ (j : Int) := by omega
         clear hu hsj hdrop hrt htk HRT hx9 he9 hT9
         go_wp2_with fail
         have hH : (w8.drew).cell? ⟨w1.heap.size, 0, none⟩ = some (.slice A N c) ∧ (w8.drew).cell? ⟨w1.heap.size, 1, none⟩ = some (.int .i64 q2.pos) ∧ (w8.drew).cell? ⟨w1.heap.size, 2, none⟩ = some (.int .i64 0) ∧ (w8.drew).cell? ⟨w1.heap.size, 3, none⟩ = some (.int .i64 st2) ∧ (w8.drew).cell? ⟨w5.heap.size, 0, none⟩ = some (.int .i64 xo) ∧ (w8.drew).cell? ⟨w5.heap.size, 1, none⟩ = some (.int .i64 xa) ∧ (w8.drew).cell? ⟨w5.heap.size, 2, none⟩ = some (.int .i64 xb) ∧ (w8.drew).cell? ⟨w5.heap.size, 3, none⟩ = some (.int .i64 xc) ∧ (w8.drew).cell? ⟨w5.heap.size, 4, none⟩ = some (.int .i64 xn) ∧ (w8.drew).cell? ⟨w5.heap.size, 5, none⟩ = some (.int .i64 xv.kind) ∧ (w8.drew).cell? ⟨w5.heap.size, 6, none⟩ = some (.int .i64 xv.num) ∧ (w8.drew).cell? ⟨w5.heap.size, 7, none⟩ = some (.string xv.text) := ⟨r0, r1', r2', r3', x0, x1, x2, x3, x4, x5, x6, x7⟩
         go_wp2_with fail
         refine wp_region_till (c := 5) (S := fun W => W.cell? ⟨w1.heap.size, 0, none⟩ = some (.slice A N c) ∧ W.cell? ⟨w1.heap.size, 1, none⟩ = some (.int .i64 q2.pos) ∧ W.cell? ⟨w1.heap.size, 2, none⟩ = some (.int .i64 0) ∧ W.cell? ⟨w1.heap.size, 3, none⟩ = some (.int .i64 st2) ∧ W.cell? ⟨w5.heap.size, 0, none⟩ = some (.int .i64 xo) ∧ W.cell? ⟨w5.heap.size, 1, none⟩ = some (.int .i64 xa) ∧ W.cell? ⟨w5.heap.size, 2, none⟩ = some (.int .i64 xb) ∧ W.cell? ⟨w5.heap.size, 3, none⟩ = some (.int .i64 xc) ∧ W.cell? ⟨w5.heap.size, 4, none⟩ = some (.int .i64 xn) ∧ W.cell? ⟨w5.heap.size, 5, none⟩ = some (.int .i64 xv.kind) ∧ W.cell? ⟨w5.heap.size, 6, none⟩ = some (.int .i64 xv.num) ∧ W.cell? ⟨w5.heap.size, 7, none⟩ = some (.string xv.text)) (by kernel_rfl) ?_
         refine wpTill_take 74 (i := 0) (v := ?_) rfl rfl (by kernel_rfl) (by kernel_rfl) (by kernel_rfl) rfl rfl (by kernel_rfl) (fun _ _ _ h => h) (Or.inl ⟨by rfl, ?_⟩) hH ?_
         rotate_left
         ·intro W hW
          obtain ⟨r0, r1, r2, r3, x0, x1, x2, x3, x4, x5, x6, x7⟩ := hW
          go_simp
          try with_reducible rfl
         try simp only [Act.put, List.setIfInBounds_toArray, List.set_cons_zero, List.set_cons_succ]
         refine wpTill_take 75 (i := 1) (v := ?_) rfl rfl (by kernel_rfl) (by kernel_rfl) (by kernel_rfl) rfl rfl (by kernel_rfl) (fun _ _ _ h => h) (Or.inl ⟨by rfl, ?_⟩) hH ?_
         rotate_left
         ·intro W hW
          obtain ⟨r0, r1, r2, r3, x0, x1, x2, x3, x4, x5, x6, x7⟩ := hW
          go_simp
          try with_reducible rfl
         try simp only [Act.put, List.setIfInBounds_toArray, List.set_cons_zero, List.set_cons_succ]
         refine wpTill_calm 76 (i := 2) (v := ?_) rfl rfl (by kernel_rfl) (by kernel_rfl) (by kernel_rfl) rfl (fun _ _ _ h => h) (Or.inl ⟨by rfl, ?_⟩) (fun _ => hH) ?_
         rotate_left
         ·intro W hW
          clear hW
          go_simp
          try with_reducible rfl
         try simp only [Act.put, List.setIfInBounds_toArray, List.set_cons_zero, List.set_cons_succ]
         refine wpTill_calm 77 (i := 3) (v := ?_) rfl rfl (by kernel_rfl) (by kernel_rfl) (by kernel_rfl) rfl (fun _ _ _ h => h) (Or.inl ⟨by rfl, ?_⟩) (fun _ => hH) ?_
         rotate_left
         ·intro W hW
          clear hW
          go_simp
          try with_reducible rfl
         try simp only [Act.put, List.setIfInBounds_toArray, List.set_cons_zero, List.set_cons_succ]
         refine wpTill_calm 78 (i := 4) (v := ?_) rfl rfl (by kernel_rfl) (by kernel_rfl) (by kernel_rfl) rfl (fun _ _ _ h => h) (Or.inl ⟨by rfl, ?_⟩) (fun _ => hH) ?_
         rotate_left
         ·intro W hW
          clear hW
          go_simp
          try with_reducible rfl
         try simp only [Act.put, List.setIfInBounds_toArray, List.set_cons_zero, List.set_cons_succ]
         refine wpTill_one (i := 5) (by kernel_rfl) rfl (by kernel_rfl) (fun K hK => ?_)
         go_simp
         refine (HTK.out.mono ?_)
         rintro e w9 ⟨st9, rfl, hb⟩
         refine hK.out _ _ ?_
         clear hK K
         try simp only [Act.put, List.setIfInBounds_toArray, List.set_cons_zero, List.set_cons_succ]
         refine wpTill_calm 73 (i := 6) (v := ?_) rfl rfl (by kernel_rfl) (by kernel_rfl) (by kernel_rfl) rfl (fun _ _ _ h => h) (Or.inl ⟨by rfl, ?_⟩) (Till.past (by kernel_rfl)) ?_
         rotate_left
         ·intro W hW
          clear hW
          go_simp
          try with_reducible rfl
         try simp only [Act.put, List.setIfInBounds_toArray, List.set_cons_zero, List.set_cons_succ]
         refine wpTill_calm 80 (i := 7) (v := ?_) rfl rfl (by kernel_rfl) (by kernel_rfl) (by kernel_rfl) rfl (fun _ _ _ h => h) (Or.inl ⟨by rfl, ?_⟩) (Till.past (by kernel_rfl)) ?_
         rotate_left
         ·intro W hW
          clear hW
          go_simp
          try with_reducible rfl
         try simp only [Act.put, List.setIfInBounds_toArray, List.set_cons_zero, List.set_cons_succ]
         refine wpTill_calm 81 (i := 8) (v := ?_) rfl rfl (by kernel_rfl) (by kernel_rfl) (by kernel_rfl) rfl (fun _ _ _ h => h) (Or.inl ⟨by rfl, ?_⟩) (Till.past (by kernel_rfl)) ?_
         rotate_left
         ·intro W hW
          clear hW
          go_simp
          try with_reducible rfl
         try simp only [Act.put, List.setIfInBounds_toArray, List.set_cons_zero, List.set_cons_succ]
         refine wpTill_calm 82 (i := 9) (v := ?_) rfl rfl (by kernel_rfl) (by kernel_rfl) (by kernel_rfl) rfl (fun _ _ _ h => h) (Or.inl ⟨by rfl, ?_⟩) (Till.past (by kernel_rfl)) ?_
         rotate_left
         ·intro W hW
          clear hW
          go_simp
          try with_reducible rfl
         try simp only [Act.put, List.setIfInBounds_toArray, List.set_cons_zero, List.set_cons_succ]
         have G9 := G.drew.below hb
         have X9 := (X.drew).below hb X.lt
         clear r0 r1' r2' r3' rf0 rf1 rf2 rf3 x0 x1 x2 x3 x4 x5 x6 x7 hH
         obtain ⟨r0, r1', r2', r3', rf0, rf1, rf2, rf3⟩ := G9.r.rfour
         obtain ⟨x0, x1, x2, x3, x4, x5, x6, x7⟩ := loc_eight X9
         obtain ⟨xf0, xf1, xf2, xf3, xf4, xf5, xf6, xf7⟩ := free_eight X9
         refine wpTill_one (i := 10) (by kernel_rfl) rfl (by kernel_rfl) (fun K hK => ?_)
         go_simp
         refine hK.out _ _ ?_
         clear hK K
         try simp only [Act.put, List.setIfInBounds_toArray, List.set_cons_zero, List.set_cons_succ]
         refine wpTill_one (i := 11) (by kernel_rfl) rfl (by kernel_rfl) (fun K hK => ?_)
         go_simp
         refine hK.out _ _ ?_
         clear hK K
         try simp only [Act.put, List.setIfInBounds_toArray, List.set_cons_zero, List.set_cons_succ]
         refine wpTill_calm 12 (i := 12) (v := ?_) rfl rfl (by kernel_rfl) (by kernel_rfl) (by kernel_rfl) rfl (fun _ _ _ h => h) (Or.inl ⟨by rfl, ?_⟩) (Till.past (by kernel_rfl)) ?_
         rotate_left
         ·intro W hW
          clear hW
          go_simp
          try with_reducible rfl
         try simp only [Act.put, List.setIfInBounds_toArray, List.set_cons_zero, List.set_cons_succ]
         refine wpTill_done (by kernel_rfl) ?_ _
         have H0 := (G9.putR (.slice A N c) (.int .i64 q9.pos) (.int .i64 q9.err) (.int .i64 st9)).putXb hpb5 HOB.out ⟨yo, ya, yb, yc, yn, yv⟩
         have Y0 := putX_loc (loc_put4o X9 (show w5.heap.size ≠ w1.heap.size by omega) (.slice A N c) (.int .i64 q9.pos) (.int .i64 q9.err) (.int .i64 st9)) ⟨yo, ya, yb, yc, yn, yv⟩
         unfold putX put4 at H0 Y0
         simp only at H0 Y0
         obtain ⟨z0, z1, z2, zf0, zf1, zf2⟩ := loc_three G9.z
         have hn5 : ¬ w.heap.size = w5.heap.size := by omega
         have hn6 : ¬ w5.heap.size = w.heap.size := by omega
         clear G9 X9 hb G X
         by_cases he9 : e9 = 0
         ·have hq9 := HE9.out he9
          subst he9
          have HQ9 := Lib.hid hq9
          have hrt := HRT2.out
          rw [if_neg (by simp)] at hrt
          have HRT3 := Lib.hid hrt
          rw [hq9] at H0 Y0 ⊢
          clear hq9 hrt HRT2
          go_wp2
          go_roundw
          case rel => exact ⟨j + 1, q9, st9, ⟨yo, ya, yb, yc, yn, yv⟩, by omega, by go_num, HX9, HQ9, hp9, HRT3, H0, Y0⟩
          case measure => simp [intOf]; omega
         ·have hE' : (e9 != 0) = true := by simpa using he9
          have hrt := HRT2.out
          rw [if_pos he9] at hrt
          have hd : procDecode xs = (.zero, e9) := by rw [HREL2.out]; exact readCode_stop HQX.out (by rw [hrt]) he9
          clear hrt he9 Y0
          obtain ⟨y0, y1, y2, _, be⟩ := loc_put3 H0.z H0.b (Nat.le_refl _) (.string ⟨#[]⟩) (.int .i64 0) (.slice none 0 0)
          unfold put3 at y0 y1 y2 be
          have HY := Lib.hid (And.intro y0 (And.intro y1 y2))
          have HB := Lib.hid be
          have HD := Lib.hid hd
          clear y0 y1 y2 be
          go_wp2
          obtain ⟨y0, y1, y2⟩ := HY.out
          exact bodyPost_ret (v := .tuple #[.agg #[.string ⟨#[]⟩, .int .i64 0, .slice none 0 0], .int .i64 e9]) (by simp [results, Tryz.results69, go_sem, y0, y1, y2]) rfl (dpost0 HB.out HD.out)
        ·obtain rfl : j = L := by omega
         have hrt := HRT.out
         rw [HL.out, List.drop_length] at hrt
         have hgo := readCode_go (f := f) (l := l) HQX.out hrt
         have hrel := HREL2.out
         rw [hgo] at hrel
         have hjs' : (sf.size : Int) ≤ (j : Int) := by have := HSZ.out; have := HL.out; omega
         have hsrc := Row.src (P := Tryz.prog) (c := 1) (size := 8) (n := 1) (tx := 52) (Row.of_loc (Loc.new w8 #[.int .i64 xo, .int .i64 xa, .int .i64 xb, .int .i64 xc, .int .i64 xn, .int .i64 xv.kind, .int .i64 xv.num, .string xv.text] 109)) Tryz.underlying52 rfl (by simp [Value.oneCell']) (fun h => by simp at h)
         have HSRC := Lib.hid hsrc
         have HREL3 := Lib.hid hrel
         have G9 := G.below ((Below.refl _ _).alloc (Nat.le_refl _) (.cells #[.int .i64 xo, .int .i64 xa, .int .i64 xb, .int .i64 xc, .int .i64 xn, .int .i64 xv.kind, .int .i64 xv.num, .string xv.text] 109))
         obtain ⟨q0, q1', q2', qf0, qf1, qf2⟩ := loc_three G.p
         have hk64 : k ≤ 64 := by omega
         clear hrt hgo hrel hsrc HREL2 HRT G
         go_wp2_with (at_builtin; refine wpList_append_mine _ rfl _ _ 52 52 rfl 109 (.agg #[.int .i64 0, .int .i64 0, .int .i64 0, .int .i64 0, .int .i64 0, .int .i64 0, .int .i64 0, .string ⟨#[]⟩]) 8 72 Tryz.underlying52 infoIns rfl (by decide) (.slice B k d) k (codeCells l) rfl (owns_base (base' := 0) G9.o (fun _ _ => Nat.zero_le _)) _ 1 _ rfl HSRC.out (by unfold maxLen; omega) (by omega) ?_; intro A2 d2 w10 hown4 hg4 hb4 hx4; have G10 := G9.grown hown4 hg4 hb4; clear hown4 hg4 hb4 hx4 G9; obtain ⟨p0', p1', p2', pf0, pf1, pf2⟩ := loc_three G10.p)
         go_roundw
         case rel =>
          refine ⟨k + 1, q2, st2, l ++ [⟨xo, xa, xb, xc, xn, xv⟩], A2, d2, by omega, by go_num, Lib.hid (by simp [HLK.out]), HX2, HE2, hp2, Lib.hid (by rw [← HF.out]; exact HREL3.out), ?_⟩
          have := G10.set2 (.slice A2 (k + 1) d2)
          rw [codeCells_append]
          exact this
         case measure => simp [intOf]; omega
     ·have he1' : (q1.err != 0) = true := by simpa using he1
      have hd : procDecode xs = (.zero, q1.err) := by rw [HREL2.out]; exact readCode_stop HQX.out (by rw [HRI.out, if_pos (by simpa using he1)]) he1
      clear he1
      obtain ⟨y0, y1, y2, _, be⟩ := loc_put3 E2.z E2.b (Nat.le_refl _) (.string ⟨#[]⟩) (.int .i64 0) (.slice none 0 0)
      unfold put3 at y0 y1 y2 be
      have HY := Lib.hid (And.intro y0 (And.intro y1 y2))
      have HB := Lib.hid be
      have HD := Lib.hid hd
      clear y0 y1 y2 be
      go_wp2
      go_region
      all_goals
       go_wp2
       obtain ⟨y0, y1, y2⟩ := HY.out
       exact bodyPost_ret (v := .tuple #[.agg #[.string ⟨#[]⟩, .int .i64 0, .slice none 0 0], .int .i64 q1.err]) (by simp [results, Tryz.results69, go_sem, y0, y1, y2]) rfl (dpost0 HB.out.drew HD.out)
    ·obtain rfl : k = m := by omega
     have hrel := HREL.out
     rw [Nat.sub_self, readCode] at hrel
     have hpt : procDecode xs = if q.end_ ≠ 0 then (.zero, q.end_) else if (procCheck ⟨ofBs s, a, l⟩).2 ≠ 0 then (.zero, (procCheck ⟨ofBs s, a, l⟩).2) else (⟨ofBs s, a, l⟩, 0) := by
      rw [hrel]; unfold decTail; simp
     have ce := fun W => CE.out q st W HQX.out (by rw [← HN.out]; exact hqp)
     rw [HQX.out, ← HN.out, HQE.out] at ce
     obtain ⟨E, hE⟩ : ∃ E, E = q.end_ := ⟨_, rfl⟩
     obtain ⟨Z1, Z2, hZ⟩ : ∃ Z1 Z2, procCheck ⟨ofBs s, a, l⟩ = (Z1, Z2) := ⟨_, _, rfl⟩
     have ck := fun W (h : Row W B (codeCells l)) => refCheck_any ⟨ofBs s, a, l⟩ B d W h (by show l.length ≤ _; have := HLK.out; omega)
     rw [hZ] at ck hpt
     simp only [procCells] at ck
     rw [HLK.out] at ck
     rw [← hE] at ce hpt
     unfold rvC at ce
     have HCE := Lib.hid ce
     have HCK := Lib.hid ck
     have HPT := Lib.hid hpt
     obtain ⟨r0, r1', r2', r3', _⟩ := D.r.rfour
     clear ce ck hpt hE hZ hrel HREL
     have hkk : (k : Int) ≤ (k : Int) := Int.le_refl _
     go_wp2_with fail
     refine (HCE.out _).mono ?_; rintro e w5 ⟨rfl, hb⟩
     have E1 := D.below hb
     have hlr := D.lr
     have hlp := D.lp
     clear D hb r0 r1' r2' r3' HCE
     by_cases hE0 : E = 0
     ·have hE' : (E != 0) = false := by simp [hE0]
      have hpt := HPT.out
      rw [if_neg (by simpa using hE0)] at hpt
      have HPT2 := Lib.hid hpt
      obtain ⟨q0, q1, q2, qf0, qf1, qf2⟩ := loc_three E1.p
      clear hE0 hpt HPT
      go_wp2_with fail
      refine (HCK.out _ (Row.of_owns E1.o)).mono ?_; rintro e w6 ⟨rfl, hb⟩
      have E2 := E1.below hb
      clear E1 hb q0 q1 q2 qf0 qf1 qf2
      obtain ⟨q0, q1, q2, qf0, qf1, qf2⟩ := loc_three E2.p
      have hnz : ¬ w.heap.size = pb := by omega
      have hnz2 : ¬ pb = w.heap.size := by omega
      by_cases hZ0 : Z2 = 0
      ·have hZ' : (Z2 != 0) = false := by simp [hZ0]
       have hpt := HPT2.out
       rw [if_neg (by simpa using hZ0)] at hpt
       have HPT3 := Lib.hid hpt
       obtain ⟨z0, z1, z2, zf0, zf1, zf2⟩ := loc_three E2.z
       obtain ⟨y0, y1, y2, Zp, be⟩ := loc_put3 E2.z E2.b (Nat.le_refl _) (.string (ofBs s)) (.int .i64 a) (.slice B k d)
       have o1 := owns_setCell (a := ⟨w.heap.size, 0, none⟩) E2.o (owns_ne E2.o E2.z (by decide)) (.string (ofBs s))
       have o2 := owns_setCell (a := ⟨w.heap.size, 1, none⟩) o1 (owns_ne o1 (E2.z.set 0 (.string (ofBs s))) (by decide)) (.int .i64 a)
       have o3 := owns_setCell (a := ⟨w.heap.size, 2, none⟩) o2 (owns_ne o2 ((E2.z.set 0 (.string (ofBs s))).set 1 (.int .i64 a)) (by decide)) (.slice B k d)
       unfold put3 at y0 y1 y2 be
       have HY := Lib.hid (And.intro y0 (And.intro y1 y2))
       have HB := Lib.hid be
       have HO := Lib.hid o3
       clear hZ0 hpt HPT2 y0 y1 y2 be Zp o1 o2 o3
       go_wp2
       obtain ⟨y0, y1, y2⟩ := HY.out
       refine bodyPost_ret (v := .tuple #[.agg #[.string (ofBs s), .int .i64 a, .slice B k d], .int .i64 0]) (by simp [results, Tryz.results69, go_sem, y0, y1, y2]) rfl ?_
       unfold DPost
       rw [HPT3.out]
       simp only [procCells, HLK.out]
       exact ⟨B, d, rfl, HO.out, HB.out⟩
      ·have hZ' : (Z2 != 0) = true := by simpa using hZ0
       have hd : procDecode xs = (.zero, Z2) := by rw [HPT2.out, if_pos hZ0]
       clear hZ0 HPT2
       obtain ⟨z0, z1, z2, zf0, zf1, zf2⟩ := loc_three E2.z
       obtain ⟨y0, y1, y2, _, be⟩ := loc_put3 E2.z E2.b (Nat.le_refl _) (.string ⟨#[]⟩) (.int .i64 0) (.slice none 0 0)
       unfold put3 at y0 y1 y2 be
       have HY := Lib.hid (And.intro y0 (And.intro y1 y2))
       have HB := Lib.hid be
       have HD := Lib.hid hd
       clear y0 y1 y2 be
       go_wp2
       obtain ⟨y0, y1, y2⟩ := HY.out
       exact bodyPost_ret (v := .tuple #[.agg #[.string ⟨#[]⟩, .int .i64 0, .slice none 0 0], .int .i64 Z2]) (by simp [results, Tryz.results69, go_sem, y0, y1, y2]) rfl (dpost0 HB.out HD.out)
     ·have hE' : (E != 0) = true := by simpa using hE0
      have hd : procDecode xs = (.zero, E) := by rw [HPT.out, if_pos hE0]
      clear hE0 HPT
      obtain ⟨z0, z1, z2, zf0, zf1, zf2⟩ := loc_three E1.z
      obtain ⟨y0, y1, y2, _, be⟩ := loc_put3 E1.z E1.b (Nat.le_refl _) (.string ⟨#[]⟩) (.int .i64 0) (.slice none 0 0)
      unfold put3 at y0 y1 y2 be
      have HY := Lib.hid (And.intro y0 (And.intro y1 y2))
      have HB := Lib.hid be
      have HD := Lib.hid hd
      clear y0 y1 y2 be
      go_wp2
      obtain ⟨y0, y1, y2⟩ := HY.out
      exact bodyPost_ret (v := .tuple #[.agg #[.string ⟨#[]⟩, .int .i64 0, .slice none 0 0], .int .i64 E]) (by simp [results, Tryz.results69, go_sem, y0, y1, y2]) rfl (dpost0 HB.out HD.out)
 ·have hd : procDecode xs = (.zero, r3.err) := by rw [HPD.out, if_pos (by simpa using he3)]
  have he3' : (r3.err != 0) = true := by simpa using he3
  clear he3
  obtain ⟨y0, y1, y2, _, be⟩ := loc_put3 D6.z D6.b (Nat.le_refl _) (.string ⟨#[]⟩) (.int .i64 0) (.slice none 0 0)
  unfold put3 at y0 y1 y2 be
  have HY := Lib.hid (And.intro y0 (And.intro y1 y2))
  have HB := Lib.hid be
  have HD := Lib.hid hd
  clear y0 y1 y2 be
  go_wp2
  go_region
  all_goals
   go_wp2
   obtain ⟨y0, y1, y2⟩ := HY.out
   exact bodyPost_ret (v := .tuple #[.agg #[.string ⟨#[]⟩, .int .i64 0, .slice none 0 0], .int .i64 r3.err]) (by simp [results, Tryz.results69, go_sem, y0, y1, y2]) rfl (dpost0 HB.out.drew HD.out)
end Go.Proofs.YtnieminnnkbneaaGreat
