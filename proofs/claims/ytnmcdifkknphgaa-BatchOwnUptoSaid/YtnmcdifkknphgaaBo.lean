/- The laws' arguments of chapter 12, opened: a transaction, a batch. -/
import Derived.Test.YtnmcdifkknphgaaArg
import Derived.Test.YtnmcdifkknphgaaBck
namespace Go.Proofs.Ytnmcdifkknphgaa
open Go.ChangeShapes Go.WideShapes Go.ChangeAt Go.RowKit Go.Deep

section
variable {H : Type} {enc : TypeId × Value → H} {w : World} {base : Nat} {spare : Nat → Bool} {held : Bool}

instance : Inhabited Val := ⟨.zero⟩
instance : Inhabited TxnC := ⟨⟨⟨0, .zero, emptyB, []⟩, none, 0, none, 0⟩⟩

theorem cellsTxn : Try.prog.cellsOf 30 = 6 := by kernel_rfl
theorem cellsBatch : Try.prog.cellsOf 24 = 2 := by kernel_rfl

/-- What a transaction that came in holds. -/
structure TxnC.came (w : World) (x : TxnC) : Prop where
  ok : x.ok w
  c : x.t.args.length ≤ x.c
  cm : x.c ≤ maxLen
  d : x.t.proc.code.length ≤ x.d
  dm : x.d ≤ maxLen
  r : x.t.proc.inR
  k : i64R x.t.kind
  v : ∀ v ∈ x.t.args, i64R v.kind ∧ i64R v.num

/-- A list of values. -/
theorem trod_vals {fuel : Nat} {c : Value} {x : DataW H × List MemPlace} (h : DataW.trod enc Try.prog w base spare held fuel 28 [c] = some x) :
    ∃ A n cap, ∃ l : List Val, c = .slice A n cap ∧ n = l.length ∧ Row w A (valsCells l) ∧ (A = none → n = 0) ∧ n ≤ cap ∧ cap ≤ maxLen ∧ ∀ v ∈ l, i64R v.kind ∧ i64R v.num := by
  rcases open_slice Try.underlying28 h with ⟨hc, _⟩ | ⟨a, len, cap, m, n, D, Pl, hc, _, hl, hm, hmm, _, hel⟩
  · cases hc
    exact ⟨none, 0, 0, [], rfl, rfl, Row.nil _ _, fun _ => rfl, Nat.le_refl _, Nat.zero_le _, fun _ h => by simp at h⟩
  · cases hc
    rw [cells26] at hel
    have hlm : len ≤ m := by rw [hmm]; split <;> omega
    have hI : ∃ f : Nat → Val, ∀ i, i < len → w.cells? base (a.add (i * 3)) 3 = some (valCells (f i)).toList ∧ (i64R (f i).kind ∧ i64R (f i).num) :=
      choose_lt (α := Val) (p := fun i v => w.cells? base (a.add (i * 3)) 3 = some (valCells v).toList ∧ (i64R v.kind ∧ i64R v.num)) (fun i hi => by
        obtain ⟨cs', h1, h2⟩ := hel i (by omega)
        obtain ⟨v, hv, hin⟩ := trod_val h2
        exact ⟨v, by rw [h1, hv], hin⟩)
    obtain ⟨f, hf⟩ := hI
    refine ⟨some a, len, cap, (List.range len).map f, rfl, by simp, ?_, fun h => by simp at h, hl, hm, fun i hi => by
      obtain ⟨j, hj, rfl⟩ := List.mem_map.1 hi
      exact (hf j (List.mem_range.1 hj)).2⟩
    by_cases h0 : len = 0
    · subst h0; exact Row.nil _ _
    · obtain ⟨b, off, spot⟩ := a
      have hcell : ∀ i, i < len → ∀ r, r < 3 → w.cell? ((⟨b, off, spot⟩ : Addr).add (i * 3 + r)) = (valCells (f i)).toList[r]? := fun i hi r hr => by
        obtain ⟨_, _, h2⟩ := World.cells?_some (hf i hi).1
        have := h2 r hr
        rw [add_add] at this
        exact this
      have h00 := hcell 0 (by omega) 0 (by omega)
      have hspot : spot = none := by
        have h1 : w.cell? ⟨b, off, spot⟩ = some (.int .i64 (f 0).kind) := by simpa [Addr.add, valCells] using h00
        exact World.cell?_spot h1
      subst hspot
      refine .inr ⟨b, off, rfl, fun j hj => ?_⟩
      rw [valsCells_length, List.length_map, List.length_range] at hj
      have h1 := hcell (j / 3) (by omega) (j % 3) (by omega)
      rw [add_plain, show j / 3 * 3 + j % 3 = j by omega] at h1
      have h2 := valsCells_get ((List.range len).map f) (j / 3) (by simp; omega) (j % 3) (by omega)
      rw [show j / 3 * 3 + j % 3 = j by omega] at h2
      rw [h1, h2]
      simp

set_option maxRecDepth 100000 in
/-- A transaction. -/
theorem trod_txn {fuel : Nat} {cs : List Value} {x : DataW H × List MemPlace} (h : DataW.trod enc Try.prog w base spare held fuel 30 cs = some x) : ∃ t : TxnC, cs = t.cells.toList ∧ t.came w := by
  obtain ⟨xs, n, _, _, hl, hlen, hf⟩ := DataW.trod_struct Try.underlying30 h
  have h0 := hf 0 _ rfl
  have h1 := hf 1 _ rfl
  have h2 := hf 2 _ rfl
  have h3 := hf 3 _ rfl
  rw [cellsTxn] at hl
  match xs, hlen, cs, hl with
  | [y0, y1, y2, y3], _, [c0, c1, c2, c3, c4, c5], _ =>
    simp only [List.getElem?_cons_zero, List.getElem?_cons_succ] at h0 h1 h2 h3
    obtain ⟨k, e0, _, w0⟩ := DataW.trod_int Try.underlying3 h0
    obtain ⟨p, B, d, e1, hr1, hA1, hc1, hm1, hin1⟩ := trod_proc h1
    obtain ⟨nm, e2, _, _⟩ := DataW.trod_string Try.underlying9 h2
    obtain ⟨A, n, cap, l, e3, hn, hr, hA, hc, hm, hin⟩ := trod_vals h3
    cases e0; cases e2; subst e3; subst hn
    simp only [procCells] at e1
    cases e1
    exact ⟨⟨⟨k, p, nm, l⟩, A, cap, B, d⟩, rfl, ⟨hr, hA, hr1, hA1⟩, hc, hm, hc1, hm1, hin1, wf_i64 w0, hin⟩

/-- A list of transactions. -/
theorem trod_txns {fuel : Nat} {c : Value} {x : DataW H × List MemPlace} (h : DataW.trod enc Try.prog w base spare held fuel 22 [c] = some x) :
    ∃ A n cap, ∃ l : List TxnC, c = .slice A n cap ∧ n = l.length ∧ Row w A (txnsCells l) ∧ (A = none → n = 0) ∧ n ≤ cap ∧ cap ≤ maxLen ∧ ∀ t ∈ l, t.came w := by
  rcases open_slice Try.underlying22 h with ⟨hc, _⟩ | ⟨a, len, cap, m, n, D, Pl, hc, _, hl, hm, hmm, _, hel⟩
  · cases hc
    exact ⟨none, 0, 0, [], rfl, rfl, Row.nil _ _, fun _ => rfl, Nat.le_refl _, Nat.zero_le _, fun _ h => by simp at h⟩
  · cases hc
    rw [cellsTxn] at hel
    have hlm : len ≤ m := by rw [hmm]; split <;> omega
    have hI : ∃ f : Nat → TxnC, ∀ i, i < len → w.cells? base (a.add (i * 6)) 6 = some (f i).cells.toList ∧ (f i).came w :=
      choose_lt (α := TxnC) (p := fun i v => w.cells? base (a.add (i * 6)) 6 = some v.cells.toList ∧ v.came w) (fun i hi => by
        obtain ⟨cs', h1, h2⟩ := hel i (by omega)
        obtain ⟨v, hv, hin⟩ := trod_txn h2
        exact ⟨v, by rw [h1, hv], hin⟩)
    obtain ⟨f, hf⟩ := hI
    refine ⟨some a, len, cap, (List.range len).map f, rfl, by simp, ?_, fun h => by simp at h, hl, hm, fun i hi => by
      obtain ⟨j, hj, rfl⟩ := List.mem_map.1 hi
      exact (hf j (List.mem_range.1 hj)).2⟩
    by_cases h0 : len = 0
    · subst h0; exact Row.nil _ _
    · obtain ⟨b, off, spot⟩ := a
      have hcell : ∀ i, i < len → ∀ r, r < 6 → w.cell? ((⟨b, off, spot⟩ : Addr).add (i * 6 + r)) = (f i).cells.toList[r]? := fun i hi r hr => by
        obtain ⟨_, _, h2⟩ := World.cells?_some (hf i hi).1
        have := h2 r hr
        rw [add_add] at this
        exact this
      have h00 := hcell 0 (by omega) 0 (by omega)
      have hspot : spot = none := by
        have h1 : w.cell? ⟨b, off, spot⟩ = some (.int .i64 (f 0).t.kind) := by simpa [Addr.add, TxnC.cells] using h00
        exact World.cell?_spot h1
      subst hspot
      refine .inr ⟨b, off, rfl, fun j hj => ?_⟩
      rw [txnsCells_length, List.length_map, List.length_range] at hj
      have h1 := hcell (j / 6) (by omega) (j % 6) (by omega)
      rw [add_plain, show j / 6 * 6 + j % 6 = j by omega] at h1
      have h2 := txnsCells_get ((List.range len).map f) (j / 6) (by simp; omega) (j % 6) (by omega)
      rw [show j / 6 * 6 + j % 6 = j by omega] at h2
      rw [h1, h2]
      simp

set_option maxRecDepth 100000 in
theorem open_txn {r : Reach} {b0 : Nat} {v : Value} {d : DataW H} {p : List MemPlace} (hv : Value.okWide Try.prog w r b0 30 v) (h : DataW.Trod enc Try.prog w base spare held 30 v d p) :
    ∃ x : TxnC, v = .agg x.cells ∧ x.came w := by
  obtain ⟨cs, rfl, _⟩ := okWide_struct Try.underlying30 hv
  obtain ⟨fuel, hf⟩ := h
  obtain ⟨x, hc, hin⟩ := trod_txn hf
  refine ⟨x, ?_, hin⟩
  have : cs = x.cells := Array.toList_inj.1 hc
  rw [this]

set_option maxRecDepth 100000 in
/-- A batch. -/
theorem open_batch {r : Reach} {b0 : Nat} {v : Value} {d : DataW H} {p : List MemPlace} (hv : Value.okWide Try.prog w r b0 24 v) (h : DataW.Trod enc Try.prog w base spare held 24 v d p) :
    ∃ (f : Int) (A : Option Addr) (cap : Nat) (l : List TxnC), v = .agg #[.int .i64 f, .slice A l.length cap] ∧ Row w A (txnsCells l) ∧ (A = none → l.length = 0) ∧ l.length ≤ cap ∧ cap ≤ maxLen ∧ i64R f ∧ ∀ t ∈ l, t.came w := by
  obtain ⟨cs, rfl, _⟩ := okWide_struct Try.underlying24 hv
  obtain ⟨fuel, hf0⟩ := h
  obtain ⟨xs, n, _, _, hl, hlen, hf⟩ := DataW.trod_struct Try.underlying24 hf0
  have h0 := hf 0 _ rfl
  have h1 := hf 1 _ rfl
  rw [cellsBatch] at hl
  obtain ⟨cl, hcl⟩ : ∃ cl, cl = cs.toList := ⟨_, rfl⟩
  simp only [Value.cells, ← hcl] at hl h0 h1
  match xs, hlen, cl, hl with
  | [y0, y1], _, [c0, c1], _ =>
    simp only [List.getElem?_cons_zero, List.getElem?_cons_succ] at h0 h1
    obtain ⟨k, e0, _, w0⟩ := DataW.trod_int Try.underlying3 h0
    obtain ⟨A, n, cap, l, e1, hn, hr, hA, hc, hm, hin⟩ := trod_txns h1
    cases e0; subst e1; subst hn
    refine ⟨k, A, cap, l, ?_, hr, hA, hc, hm, wf_i64 w0, hin⟩
    have : cs = #[.int .i64 k, .slice A l.length cap] := Array.toList_inj.1 hcl.symm
    rw [this]
end
end Go.Proofs.Ytnmcdifkknphgaa
