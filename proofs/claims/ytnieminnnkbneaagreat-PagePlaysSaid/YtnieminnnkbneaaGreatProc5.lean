/- Walks of proc.reading.sure and of the closure that recovers. -/
import Derived.Test.YtnieminnnkbneaaGreatDat2
import Derived.Recover
namespace Go.Proofs.YtnieminnnkbneaaGreat
open Go.RowKit

/-- What Decode gives up by. -/
def refusal (e : Int) : List PanicEntry := [{ v := .iface 202 (.int .i64 e), recovered := false }]

theorem sure_any (r : Nat) (s : Rdr) (all : Int) (w : World) (h : Rd w r s) :
    Calls Tryz.prog 119 #[.agg #[.pointer (some ⟨r, 0, none⟩), .int .i64 all]] w fun e w' => e = (if s.err = 0 then .returned (.tuple #[]) else .panicked (refusal s.err)) ∧ RdStep w w' r s := by
  have hs : ∀ w1, RdStep (w.alloc (.cells #[.pointer (some ⟨r, 0, none⟩), .int .i64 all] 205)) w1 r s → RdStep w w1 r s := fun w1 h1 =>
    ⟨h1.1, ((Keep.refl w.heap.size (· = r) w).alloc (Nat.le_refl _) _).step h1.2 (by simp) (fun _ _ h => h)⟩
  go_enter Tryz.func119, Tryz.ntmps119
  go_wp2_with fail
  refine (rerr_any r _ _ (h.alloc _)).mono ?_; rintro e w1 ⟨rfl, hS⟩
  have hS1 := hs _ hS
  by_cases he : s.err = 0
  · have ht : (s.err != 0) = false := by simp [he]
    go_wp2
    go_end0
    exact ⟨rfl, hS1⟩
  · have ht : (s.err != 0) = true := by simp [he]
    go_wp2
    exact ⟨rfl, rfl, hS1⟩

set_option maxRecDepth 100000 in
/-- The closure in a frame that gives up: it lays the zero procedure and the error. -/
theorem catch_panicking (p q : Nat) (c0 c1 c2 e0 : Value) (E : Int) (older : List PanicEntry) (w : World) (hp : Loc w p #[c0, c1, c2] 54) (hq : Loc w q #[e0] 25) (hpq : p ≠ q) :
    CallsD Tryz.prog 118 #[.pointer (some ⟨p, 0, none⟩), .pointer (some ⟨q, 0, none⟩)] (.panicking ({ v := .iface 202 (.int .i64 E), recovered := false } :: older)) w fun e u' w' =>
      e = .returned (.tuple #[]) ∧ u' = .panicking ({ v := .iface 202 (.int .i64 E), recovered := true } :: older) ∧
        w' = (((w.setCell ⟨p, 0, none⟩ (.string ⟨#[]⟩)).setCell ⟨p, 1, none⟩ (.int .i64 0)).setCell ⟨p, 2, none⟩ (.slice none 0 0)).setCell ⟨q, 0, none⟩ (.int .i64 E) := by
  have ta : ∀ t W, (Instr.typeAssert (.iface 202 (.int .i64 E)) t 202 true).run Tryz.prog W = .ok (.tuple #[.int .i64 E, .bool true]) W := fun t W => by kernel_rfl
  have k0 := hp.cell 0; have k1 := hp.cell 1; have k2 := hp.cell 2; have k3 := hq.cell 0
  have f0 := hp.free 0; have f1 := hp.free 1; have f2 := hp.free 2; have f3 := hq.free 0
  simp at k0 k1 k2 k3
  refine callsD_of_wpS Tryz.func118 rfl fun c₀ cs hu => ?_
  apply wpS_seq
  apply wpS_region
  simp [wpOpsS, go_sem, recoverD, hu, Tryz.ntmps118, Exit.thenS, ta]
  apply wpS_seq
  apply wpS_region
  simp [wpOpsS, go_sem, Exit.thenS]
  refine wpS_cond (t := true) (by simp [Act.eval]) ?_
  simp only [if_true]
  refine wpS_of_wp ?_
  simp [Array.replicate]
  go_wp2
  simp [bodyPostS, results, Tryz.results118]

set_option maxRecDepth 100000 in
theorem catch_idle (p q : Nat) (w : World) :
    CallsD Tryz.prog 118 #[.pointer (some ⟨p, 0, none⟩), .pointer (some ⟨q, 0, none⟩)] .returning w fun e u' w' => e = .returned (.tuple #[]) ∧ u' = .returning ∧ w' = w := by
  have ta : ∀ t W, (Instr.typeAssert .nilIface t 202 true).run Tryz.prog W = .ok (.tuple #[.int .i64 0, .bool false]) W := fun t W => by kernel_rfl
  refine callsD_of_wpS Tryz.func118 rfl fun c₀ cs hu => ?_
  apply wpS_seq
  apply wpS_region
  simp [wpOpsS, go_sem, recoverD, hu, Tryz.ntmps118, Exit.thenS, ta]
  apply wpS_seq
  apply wpS_region
  simp [wpOpsS, go_sem, Exit.thenS]
  refine wpS_cond (t := false) (by simp [Act.eval]) ?_
  simp only [Bool.false_eq_true, if_false]
  refine wpS_of_wp (wp_skip ?_)
  cases c₀
  simp_all [bodyPostS, results, Tryz.results118]
end Go.Proofs.YtnieminnnkbneaaGreat
