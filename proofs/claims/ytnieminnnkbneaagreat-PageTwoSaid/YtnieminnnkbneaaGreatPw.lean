/- Walks of page.Writer: New, frame. -/
import Derived.Test.YtnieminnnkbneaaGreatNxt
import Derived.Test.YtnieminnnkbneaaGreatOrd
namespace Go.Proofs.YtnieminnnkbneaaGreat
open Go.RowKit

/-- One alone may come up, and S stands behind it. -/
theorem wpTill_ahead {P : Program} {ops : Array Oper} {Q : Exit → Act → World → Prop} {md : Region.Mode} {S : World → Prop} {c i : Nat} {o : Oper} {f : Nat} {l : Array Bool} {a : Act} {w : World} (hr : Region.ready md ops l = [i]) (ho : ops[i]? = some o)
    (h : ∀ K' : Act → World → Prop, Shut (∀ a w, S w → wpTill P md ops Q S c f (l.setIfInBounds i true) a w → K' a w) → if Region.wanted o (yielded ops a.tmps) = true then Oper.wp P o a w K' Q else K' (a.put o.dst undef) w) : wpTill P md ops Q S c (f + 1) l a w :=
  ⟨(fun h0 => by rw [hr] at h0; cases h0), fun j hj => by
    rw [hr] at hj
    simp at hj
    subst hj
    exact wpOp_step ho (fun K' hK => h K' (fun a w hS hW => hK a w ⟨fun _ => hS, hW⟩))⟩

/-- A Writer's fields but out. -/
structure PW where
  live : Bool
  number : Nat
  mark : Nat
  frames : Nat
  procs : Nat
  entries : Nat
  name : ByteArray
  key : ByteArray
def PW.cells (x : PW) (out : Value) : Array Value := #[.bool x.live, .int .i64 x.number, .int .i64 x.mark, .int .i64 x.frames, .int .i64 x.procs, .int .i64 x.entries, .string x.name, .string x.key, out]
def PW.new (number mark : Nat) : PW := ⟨true, number, mark, 0, 0, 0, emptyB, emptyB⟩

set_option maxHeartbeats 1000000 in
theorem pnew_any (a b : Nat) (h0 : 1 ≤ a) (h1 : a ≤ 281474976710655) (h2 : b ≤ 281474976710655) (w : World) :
    Calls Tryz.prog 7 #[.int .i64 a, .int .i64 b] w fun e w' => e = .returned (.tuple #[.pointer (some ⟨w.heap.size, 0, none⟩), .int .i64 0]) ∧ w' = w.alloc (.cells ((PW.new a b).cells (.slice none 0 0)) 56) := by
  have i0 : ¬ (a : Int) < 1 := by omega
  have i1 : ¬ (281474976710655 : Int) < (a : Int) := by omega
  have i2 : ¬ (b : Int) < 0 := by omega
  have i3 : ¬ (281474976710655 : Int) < (b : Int) := by omega
  go_enter Tryz.func7, Tryz.ntmps7
  go_wp2
  go_ret2
  exact ⟨rfl, rfl⟩

/-- What lays the rest of a frame. -/
def More (f : FuncId) (cb : Nat) (w : World) (pre extra : Bs) : Prop :=
  ∀ W, Lay w.heap.size (fun _ => False) w W pre → Calls Tryz.prog f #[.pointer (some ⟨w.heap.size, 0, none⟩), .pointer (some ⟨cb, 0, none⟩)] W fun e w' => e = .returned (.tuple #[]) ∧ Lay w.heap.size (fun _ => False) w w' (pre ++ extra)

/-- A frame's body and the frame. -/
def bodyF (kind : UInt8) (frames : Nat) (extra : Bs) : Bs := kind :: encNumber frames ++ extra
def frameB (kind : UInt8) (frames : Nat) (extra : Bs) : Bs := headB (bodyF kind frames extra) ++ bodyF kind frames extra
/-- What frame has done. -/
def Framed (p : Nat) (x : PW) (kind : UInt8) (extra ys : Bs) (w w' : World) : Prop :=
  ∃ g c' m, m = (ys ++ frameB kind x.frames extra).length ∧ Loc w' p (({ x with frames := x.frames + 1 } : PW).cells (.slice (some ⟨g, 0, none⟩) m c')) 56 ∧
    w'.ownsRow w.heap.size 5 1 (.slice (some ⟨g, 0, none⟩) m c') m (cellsB (ys ++ frameB kind x.frames extra)) ∧ Keep w.heap.size (· = p) w w'

theorem Lay.fresh (w : World) : Lay w.heap.size (fun _ => False) w (w.alloc (.cells #[.slice none 0 0, .int .i64 0] 146)) [] :=
  ⟨_, Wr.fresh w, fun _ hk => ⟨Nat.le_of_eq hk.symm, fun h => h⟩, (Below.refl _ _).alloc (Nat.le_refl _) _⟩

theorem Lay.drew {q : Nat} {w0 w : World} {xs : Bs} {N : Nat → Prop} (h : Lay q N w0 w xs) : Lay q N w0 w.drew xs := by
  obtain ⟨F, h1, h2, h3⟩ := h
  exact ⟨F, h1.drewN 1, h2, h3.drew⟩

theorem Lay.lt {q : Nat} {w0 w : World} {xs : Bs} {N : Nat → Prop} (h : Lay q N w0 w xs) : q < w.heap.size := by
  obtain ⟨F, h1, _, _⟩ := h
  exact h1.lt

theorem Lay.call0 {P : Program} {f : FuncId} {args : Array Value} {v : Ending} {q : Nat} {w0 w : World} {xs ys : Bs} (h : Lay q (fun _ => False) w0 w xs)
    (hc : ∀ F, Wr w F q xs → Calls P f args w fun e w' => e = v ∧ WrStep w w' F q ys) :
    Calls P f args w fun e w' => e = v ∧ Lay q (fun _ => False) w0 w' ys :=
  (h.call (Nat.le_of_lt h.lt) (fun _ f => f.elim) hc).mono fun _ _ h => ⟨h.1, h.2.1⟩

end Go.Proofs.YtnieminnnkbneaaGreat
