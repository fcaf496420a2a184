/- The laws' arguments, opened: an instruction, a procedure. -/
import Derived.Test.YtnieminnnkbneaaGreatProc3
import Derived.Test.YtnieminnnkbneaaGreatRound
import Derived.ProofKit
import Derived.OpenShut
import Derived.Deep.Slices
namespace Go.Proofs.YtnieminnnkbneaaGreat
open Go.ChangeShapes Go.WideShapes Go.ChangeAt Go.RowKit Go.Deep

section
variable {H : Type} {enc : TypeId × Value → H} {w : World} {base : Nat} {spare : Nat → Bool} {held : Bool}

instance : Inhabited Ins := ⟨zeroIns 0⟩

theorem cells26 : Tryz.prog.cellsOf 60 = 3 := by kernel_rfl
theorem cells28 : Tryz.prog.cellsOf 109 = 8 := by kernel_rfl
theorem cells24 : Tryz.prog.cellsOf 54 = 3 := by kernel_rfl
theorem wf_i64 {n : Int} (h : (Lit.int .i64 n).wf = true) : i64R n := by
  have := bounds_i64 h
  unfold i64R
  omega

set_option maxRecDepth 100000 in
theorem trod_val {fuel : Nat} {cs : List Value} {x : DataW H × List MemPlace} (h : DataW.trod enc Tryz.prog w base spare held fuel 60 cs = some x) : ∃ v : Val, cs = (valCells v).toList ∧ i64R v.kind ∧ i64R v.num := by
  obtain ⟨xs, n, _, _, hl, hlen, hf⟩ := DataW.trod_struct Tryz.underlying60 h
  have h0 := hf 0 _ rfl
  have h1 := hf 1 _ rfl
  have h2 := hf 2 _ rfl
  rw [cells26] at hl
  match xs, hlen, cs, hl with
  | [y0, y1, y2], _, [c0, c1, c2], _ =>
    simp only [List.getElem?_cons_zero, List.getElem?_cons_succ] at h0 h1 h2
    obtain ⟨n0, e0, _, w0⟩ := DataW.trod_int Tryz.underlying3 h0
    obtain ⟨n1, e1, _, w1⟩ := DataW.trod_int Tryz.underlying2 h1
    obtain ⟨s2, e2, _, _⟩ := DataW.trod_string Tryz.underlying9 h2
    cases e0; cases e1; cases e2
    exact ⟨⟨n0, n1, s2⟩, rfl, wf_i64 w0, wf_i64 w1⟩

set_option maxRecDepth 100000 in
theorem trod_ins {fuel : Nat} {cs : List Value} {x : DataW H × List MemPlace} (h : DataW.trod enc Tryz.prog w base spare held fuel 109 cs = some x) : ∃ i : Ins, cs = (insCells i).toList ∧ i.inR := by
  obtain ⟨xs, n, _, _, hl, hlen, hf⟩ := DataW.trod_struct Tryz.underlying109 h
  have h0 := hf 0 _ rfl
  have h1 := hf 1 _ rfl
  have h2 := hf 2 _ rfl
  have h3 := hf 3 _ rfl
  have h4 := hf 4 _ rfl
  have h5 := hf 5 _ rfl
  rw [cells28] at hl
  match xs, hlen, cs, hl with
  | [y0, y1, y2, y3, y4, y5], _, [c0, c1, c2, c3, c4, c5, c6, c7], _ =>
    simp only [List.getElem?_cons_zero, List.getElem?_cons_succ] at h0 h1 h2 h3 h4 h5
    obtain ⟨n0, e0, _, w0⟩ := DataW.trod_int Tryz.underlying3 h0
    obtain ⟨n1, e1, _, w1⟩ := DataW.trod_int Tryz.underlying3 h1
    obtain ⟨n2, e2, _, w2⟩ := DataW.trod_int Tryz.underlying3 h2
    obtain ⟨n3, e3, _, w3⟩ := DataW.trod_int Tryz.underlying3 h3
    obtain ⟨n4, e4, _, w4⟩ := DataW.trod_int Tryz.underlying3 h4
    obtain ⟨v, e5, w5, w6⟩ := trod_val h5
    cases e0; cases e1; cases e2; cases e3; cases e4
    obtain ⟨vk, vn, vt⟩ := v
    simp only [valCells] at e5
    cases e5
    exact ⟨⟨n0, n1, n2, n3, n4, ⟨vk, vn, vt⟩⟩, rfl, wf_i64 w0, wf_i64 w1, wf_i64 w2, wf_i64 w3, wf_i64 w4, w5, w6⟩

/-- A list of instructions: the elements, and the room behind them. -/
theorem trod_code {fuel : Nat} {c : Value} {x : DataW H × List MemPlace} (h : DataW.trod enc Tryz.prog w base spare held fuel 52 [c] = some x) :
    ∃ A n cap, ∃ l : List Ins, c = .slice A n cap ∧ n = l.length ∧ Row w A (codeCells l) ∧ (A = none → n = 0) ∧ n ≤ cap ∧ cap ≤ maxLen ∧ ∀ i ∈ l, i.inR := by
  rcases open_slice Tryz.underlying52 h with ⟨hc, _⟩ | ⟨a, len, cap, m, n, D, Pl, hc, _, hl, hm, hmm, _, hel⟩
  · cases hc
    exact ⟨none, 0, 0, [], rfl, rfl, Row.nil _ _, fun _ => rfl, Nat.le_refl _, Nat.zero_le _, fun _ h => by simp at h⟩
  · cases hc
    rw [cells28] at hel
    have hlm : len ≤ m := by rw [hmm]; split <;> omega
    have hI : ∃ f : Nat → Ins, ∀ i, i < len → w.cells? base (a.add (i * 8)) 8 = some (insCells (f i)).toList ∧ (f i).inR :=
      choose_lt (α := Ins) (p := fun i v => w.cells? base (a.add (i * 8)) 8 = some (insCells v).toList ∧ v.inR) (fun i hi => by
        obtain ⟨cs', h1, h2⟩ := hel i (by omega)
        obtain ⟨v, hv, hin⟩ := trod_ins h2
        exact ⟨v, by rw [h1, hv], hin⟩)
    obtain ⟨f, hf⟩ := hI
    refine ⟨some a, len, cap, (List.range len).map f, rfl, by simp, ?_, fun h => by simp at h, hl, hm, fun i hi => by
      obtain ⟨j, hj, rfl⟩ := List.mem_map.1 hi
      exact (hf j (List.mem_range.1 hj)).2⟩
    by_cases h0 : len = 0
    · subst h0; exact Row.nil _ _
    · obtain ⟨b, off, spot⟩ := a
      have hcell : ∀ i, i < len → ∀ r, r < 8 → w.cell? ((⟨b, off, spot⟩ : Addr).add (i * 8 + r)) = (insCells (f i)).toList[r]? := fun i hi r hr => by
        obtain ⟨_, _, h2⟩ := World.cells?_some (hf i hi).1
        have := h2 r hr
        rw [add_add] at this
        exact this
      have h00 := hcell 0 (by omega) 0 (by omega)
      have hspot : spot = none := by
        have h1 : w.cell? ⟨b, off, spot⟩ = some (.int .i64 (f 0).op) := by simpa [Addr.add, insCells] using h00
        exact World.cell?_spot h1
      subst hspot
      refine .inr ⟨b, off, rfl, fun j hj => ?_⟩
      rw [codeCells_length, List.length_map, List.length_range] at hj
      have h1 := hcell (j / 8) (by omega) (j % 8) (by omega)
      rw [add_plain, show j / 8 * 8 + j % 8 = j by omega] at h1
      have h2 := codeCells_get ((List.range len).map f) (j / 8) (by simp; omega) (j % 8) (by omega)
      rw [show j / 8 * 8 + j % 8 = j by omega] at h2
      rw [h1, h2]
      simp

set_option maxRecDepth 100000 in
/-- A procedure. -/
theorem trod_proc {fuel : Nat} {cs : List Value} {x : DataW H × List MemPlace} (h : DataW.trod enc Tryz.prog w base spare held fuel 54 cs = some x) :
    ∃ (p : Prc) (A : Option Addr) (cap : Nat), cs = (procCells p.name p.args A p.code.length cap).toList ∧ Row w A (codeCells p.code) ∧ (A = none → p.code.length = 0) ∧ p.code.length ≤ cap ∧ cap ≤ maxLen ∧ p.inR := by
  obtain ⟨xs, n, _, _, hl, hlen, hf⟩ := DataW.trod_struct Tryz.underlying54 h
  have h0 := hf 0 _ rfl
  have h1 := hf 1 _ rfl
  have h2 := hf 2 _ rfl
  rw [cells24] at hl
  match xs, hlen, cs, hl with
  | [y0, y1, y2], _, [c0, c1, c2], _ =>
    simp only [List.getElem?_cons_zero, List.getElem?_cons_succ] at h0 h1 h2
    obtain ⟨nm, e0, _, _⟩ := DataW.trod_string Tryz.underlying9 h0
    obtain ⟨ar, e1, _, w1⟩ := DataW.trod_int Tryz.underlying3 h1
    obtain ⟨A, n, cap, l, e2, hn, hr, hA, hc, hm, hin⟩ := trod_code h2
    cases e0; cases e1; subst e2; subst hn
    exact ⟨⟨nm, ar, l⟩, A, cap, rfl, hr, hA, hc, hm, wf_i64 w1, hin⟩

end
end Go.Proofs.YtnieminnnkbneaaGreat
