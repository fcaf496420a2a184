/- page.Read: the map of kinds. -/
import Derived.Test.YtnieminnnkbneaaGreatRdm
import Derived.Maps.Own
namespace Go.Proofs.YtnieminnnkbneaaGreat
open Go.RowKit Go.ChangeMaps

theorem key8 {P : Program} {key : TypeId} (hk : P.underlying key = some (.int .u8)) (k : Int) (h0 : 0 ≤ k) (h1 : k < 256) : keyOf P key (.int .u8 k) = some (.int .u8 k) := by
  have hw : (Lit.int .u8 k).wf = true := by simp [Lit.wf, IntKind.min, IntKind.max, IntKind.signed, IntKind.bits]; omega
  simp [keyOf, hk, mapKey, hw]

theorem run_insert8 {P : Program} {w : World} {t key elem : TypeId} (ht : P.underlying t = some (.map key elem)) (hk : P.underlying key = some (.int .u8)) {b : Nat} {es : Array MapEntry} {clock : Nat} (hb : w.heap[b]? = some (.map es clock)) (k : Int) (h0 : 0 ≤ k) (h1 : k < 256) (v : Value)
    (hn : Instr.findNow (.int .u8) (.int .u8 k) es.toList 0 = some none) : (Instr.mapUpdate t (.map (some b)) (.int .u8 k) v).run P w = .ok () (setBlock w b (.map (es.push ⟨.int .u8 k, v, clock⟩) (clock + 1))) := by
  have hc := (Maps.int_keyed hk).check w false (key8 hk k h0 h1)
  have hf : (Instr.findKey key (.int .u8 k) es.toList).run P w = .ok none w := by
    simp [Instr.findKey, run_underlying hk, hn]
  simp [Instr.mapUpdate, run_underlying ht, MapKept.run_getObj_map hb, hc, hf, MapKept.run_setObj_map _ hb, Result.andThen, setBlock]

theorem run_lookup8 {P : Program} {w : World} {t key elem : TypeId} (ht : P.underlying t = some (.map key elem)) (hk : P.underlying key = some (.int .u8)) {b : Nat} {es : Array MapEntry} {clock : Nat} (hb : w.heap[b]? = some (.map es clock)) (k : Int) (h0 : 0 ≤ k) (h1 : k < 256) (z : Value) (hz : (zeroValue elem).run P w = .ok z w)
    (q : Option (Nat × Value)) (hn : Instr.findNow (.int .u8) (.int .u8 k) es.toList 0 = some q) :
    (Instr.lookup t (.map (some b)) (.int .u8 k) true).run P w = .ok (.tuple #[(match q with | some (_, v) => v | none => z), .bool q.isSome]) w := by
  have hc := (Maps.int_keyed hk).check w es.isEmpty (key8 hk k h0 h1)
  have hf : (Instr.findKey key (.int .u8 k) es.toList).run P w = .ok q w := by
    simp [Instr.findKey, run_underlying hk, hn]
  cases q with
  | none => simp [Instr.lookup, run_underlying ht, MapKept.run_getObj_map hb, hc, hf, hz, Result.andThen]
  | some x => obtain ⟨i, v⟩ := x; simp [Instr.lookup, run_underlying ht, MapKept.run_getObj_map hb, hc, hf, Result.andThen]

/-- What reads each kind. -/
def kfn (rb : Nat) (f : FuncId) : Value := .func (.func f) #[.pointer (some ⟨rb, 0, none⟩)] #[]
def kfs (rb : Nat) : Array MapEntry := #[⟨.int .u8 1, kfn rb 52, 0⟩, ⟨.int .u8 2, kfn rb 53, 1⟩, ⟨.int .u8 3, kfn rb 54, 2⟩, ⟨.int .u8 4, kfn rb 55, 3⟩]
def KM (W : World) (km rb : Nat) : Prop := W.heap[km]? = some (.map (kfs rb) 4)

theorem KM.below {W V : World} {km rb : Nat} (h : KM W km rb) (hb : Below W.heap.size W V) : KM V km rb := by
  unfold KM at *
  rw [hb.block km (blk_lt h)]
  exact h

theorem below_block {B : Nat} {a w : World} (h : Below B a w) (o : Obj) : Below B a (setBlock w B o) :=
  h.trans ⟨rfl, rfl, rfl, by simp [setBlock], fun k hk => by simp [setBlock, Array.getElem?_setIfInBounds_ne (by omega : B ≠ k)]⟩
theorem setBlock_size (w : World) (b : Nat) (o : Obj) : (setBlock w b o).heap.size = w.heap.size := by simp [setBlock]

set_option maxHeartbeats 1000000 in
theorem kinds_any (rb : Nat) (w : World) : Calls Tryz.prog 23 #[.pointer (some ⟨rb, 0, none⟩)] w fun e w' => e = .returned (.map (some w.heap.size)) ∧ KM w' w.heap.size rb ∧ Below w.heap.size w w' := by
  have hmk := @run_makeMap Tryz.prog 75 w
  have h0 : (w.alloc (.map #[] 0)).heap[w.heap.size]? = some (.map #[] 0) := heap_alloc_new w _
  have b0 : Below w.heap.size w (w.alloc (.map #[] 0)) := (Below.refl _ _).alloc (Nat.le_refl _) _
  obtain ⟨W0, hW0⟩ : ∃ W0, W0 = w.alloc (.map #[] 0) := ⟨_, rfl⟩
  rw [← hW0] at h0 b0 hmk
  clear hW0
  have i0 := run_insert8 (P := Tryz.prog) Tryz.underlying75 Tryz.underlying5 h0 1 (by decide) (by decide) (kfn rb 52) rfl
  have h1 := heap_setBlock_same h0 (.map (#[].push ⟨.int .u8 1, kfn rb 52, 0⟩) 1)
  have b1 := below_block b0 (.map (#[].push ⟨.int .u8 1, kfn rb 52, 0⟩) 1)
  obtain ⟨W1, hW1⟩ : ∃ W, W = setBlock W0 w.heap.size (.map (#[].push ⟨.int .u8 1, kfn rb 52, 0⟩) 1) := ⟨_, rfl⟩
  rw [← hW1] at i0 h1 b1
  clear hW1
  have i1 := run_insert8 (P := Tryz.prog) Tryz.underlying75 Tryz.underlying5 h1 2 (by decide) (by decide) (kfn rb 53) rfl
  have h2 := heap_setBlock_same h1 (.map ((#[].push ⟨.int .u8 1, kfn rb 52, 0⟩).push ⟨.int .u8 2, kfn rb 53, 1⟩) 2)
  have b2 := below_block b1 (.map ((#[].push ⟨.int .u8 1, kfn rb 52, 0⟩).push ⟨.int .u8 2, kfn rb 53, 1⟩) 2)
  obtain ⟨W2, hW2⟩ : ∃ W, W = setBlock W1 w.heap.size (.map ((#[].push ⟨.int .u8 1, kfn rb 52, 0⟩).push ⟨.int .u8 2, kfn rb 53, 1⟩) 2) := ⟨_, rfl⟩
  rw [← hW2] at i1 h2 b2
  clear hW2
  have i2 := run_insert8 (P := Tryz.prog) Tryz.underlying75 Tryz.underlying5 h2 3 (by decide) (by decide) (kfn rb 54) rfl
  have h3 := heap_setBlock_same h2 (.map (((#[].push ⟨.int .u8 1, kfn rb 52, 0⟩).push ⟨.int .u8 2, kfn rb 53, 1⟩).push ⟨.int .u8 3, kfn rb 54, 2⟩) 3)
  have b3 := below_block b2 (.map (((#[].push ⟨.int .u8 1, kfn rb 52, 0⟩).push ⟨.int .u8 2, kfn rb 53, 1⟩).push ⟨.int .u8 3, kfn rb 54, 2⟩) 3)
  obtain ⟨W3, hW3⟩ : ∃ W, W = setBlock W2 w.heap.size (.map (((#[].push ⟨.int .u8 1, kfn rb 52, 0⟩).push ⟨.int .u8 2, kfn rb 53, 1⟩).push ⟨.int .u8 3, kfn rb 54, 2⟩) 3) := ⟨_, rfl⟩
  rw [← hW3] at i2 h3 b3
  clear hW3
  have i3 := run_insert8 (P := Tryz.prog) Tryz.underlying75 Tryz.underlying5 h3 4 (by decide) (by decide) (kfn rb 55) rfl
  have h4 := heap_setBlock_same h3 (.map ((((#[].push ⟨.int .u8 1, kfn rb 52, 0⟩).push ⟨.int .u8 2, kfn rb 53, 1⟩).push ⟨.int .u8 3, kfn rb 54, 2⟩).push ⟨.int .u8 4, kfn rb 55, 3⟩) 4)
  have b4 := below_block b3 (.map ((((#[].push ⟨.int .u8 1, kfn rb 52, 0⟩).push ⟨.int .u8 2, kfn rb 53, 1⟩).push ⟨.int .u8 3, kfn rb 54, 2⟩).push ⟨.int .u8 4, kfn rb 55, 3⟩) 4)
  obtain ⟨W4, hW4⟩ : ∃ W, W = setBlock W3 w.heap.size (.map ((((#[].push ⟨.int .u8 1, kfn rb 52, 0⟩).push ⟨.int .u8 2, kfn rb 53, 1⟩).push ⟨.int .u8 3, kfn rb 54, 2⟩).push ⟨.int .u8 4, kfn rb 55, 3⟩) 4) := ⟨_, rfl⟩
  rw [← hW4] at i3 h4 b4
  clear hW4
  have HK : Hid (KM W4 w.heap.size rb) := Lib.hid h4
  clear h0 h1 h2 h3 h4 b0 b1 b2 b3
  unfold kfn at i0 i1 i2 i3
  go_enter Tryz.func23, Tryz.ntmps23
  go_wp2
  go_ret
  exact ⟨rfl, HK.out, b4⟩
end Go.Proofs.YtnieminnnkbneaaGreat
