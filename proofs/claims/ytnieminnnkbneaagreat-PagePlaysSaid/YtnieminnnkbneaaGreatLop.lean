/- The laws' arguments of chapter 14, opened: procedures, entries, pieces. -/
import Derived.Test.YtnieminnnkbneaaGreatArg
import Derived.Test.YtnieminnnkbneaaGreatMm
namespace Go.Proofs.YtnieminnnkbneaaGreat
open Go.ChangeShapes Go.WideShapes Go.ChangeAt Go.RowKit Go.Deep

theorem flat_length {α : Type} (f : α → List Value) (sz : Nat) (hf : ∀ a, (f a).length = sz) (l : List α) : (l.flatMap f).length = l.length * sz := by
 induction l with
 | nil => simp
 | cons x l ih => rw [List.flatMap_cons, List.length_append, ih, hf, List.length_cons, Nat.add_mul, Nat.one_mul, Nat.add_comm]
theorem flat_get {α : Type} (f : α → List Value) (sz : Nat) (hf : ∀ a, (f a).length = sz) (l : List α) (k : Nat) (h : k < l.length) (j : Nat) (hj : j < sz) : (l.flatMap f)[k * sz + j]? = (f l[k])[j]? := by
 induction l generalizing k with
 | nil => simp at h
 | cons x l ih =>
  rw [List.flatMap_cons]
  cases k with
  | zero =>
   rw [List.getElem?_append_left (by rw [hf]; omega)]
   simp
  | succ k =>
   rw [List.getElem?_append_right (by rw [hf, Nat.add_mul]; omega), hf, show (k + 1) * sz + j - sz = k * sz + j by rw [Nat.add_mul]; omega, ih k (by simpa using h)]
   rfl

section
variable {H : Type} {enc : TypeId × Value → H} {w : World} {base : Nat} {spare : Nat → Bool} {held : Bool}

/-- A list of things of some cells each. -/
theorem trod_list {α : Type} [Inhabited α] (T LT : TypeId) (sz : Nat) (f : α → List Value) (hf : ∀ a, (f a).length = sz) (h0 : 0 < sz) (hu : Tryz.prog.underlying LT = some (.slice T)) (hc : Tryz.prog.cellsOf T = sz) (Q : α → Prop)
  (hel0 : ∀ fuel cs x, DataW.trod enc Tryz.prog w base spare held fuel T cs = some x → ∃ a, cs = f a ∧ Q a)
  {fuel : Nat} {c : Value} {x : DataW H × List MemPlace} (h : DataW.trod enc Tryz.prog w base spare held fuel LT [c] = some x) :
  ∃ A n cap, ∃ l : List α, c = .slice A n cap ∧ n = l.length ∧ Row w A (l.flatMap f) ∧ (A = none → n = 0) ∧ n ≤ cap ∧ cap ≤ maxLen ∧ ∀ a ∈ l, Q a := by
 rcases open_slice hu h with ⟨hc, _⟩ | ⟨a, len, cap, m, n, D, Pl, hc', _, hl, hm, hmm, _, hel⟩
 ·cases hc
  exact ⟨none, 0, 0, [], rfl, rfl, Row.nil _ _, fun _ => rfl, Nat.le_refl _, Nat.zero_le _, fun _ h => by simp at h⟩
 ·cases hc'
  rw [hc] at hel
  have hlm : len ≤ m := by rw [hmm]; split <;> omega
  have hI : ∃ g : Nat → α, ∀ i, i < len → w.cells? base (a.add (i * sz)) sz = some (f (g i)) ∧ Q (g i) :=
   choose_lt (α := α) (p := fun i v => w.cells? base (a.add (i * sz)) sz = some (f v) ∧ Q v) (fun i hi => by
    obtain ⟨cs', h1, h2⟩ := hel i (by omega)
    obtain ⟨v, hv, hin⟩ := hel0 _ _ _ h2
    exact ⟨v, by rw [h1, hv], hin⟩)
  obtain ⟨g, hg⟩ := hI
  refine ⟨some a, len, cap, (List.range len).map g, rfl, by simp, ?_, fun h => by simp at h, hl, hm, fun i hi => by
   obtain ⟨j, hj, rfl⟩ := List.mem_map.1 hi
   exact (hg j (List.mem_range.1 hj)).2⟩
  by_cases hz : len = 0
  ·subst hz; exact Row.nil _ _
  ·obtain ⟨b, off, spot⟩ := a
   have hcell : ∀ i, i < len → ∀ r, r < sz → w.cell? ((⟨b, off, spot⟩ : Addr).add (i * sz + r)) = (f (g i))[r]? := fun i hi r hr => by
    obtain ⟨_, _, h2⟩ := World.cells?_some (hg i hi).1
    have := h2 r hr
    rw [add_add] at this
    exact this
   have h00 := hcell 0 (by omega) 0 h0
   have hspot : spot = none := by
    have h2 : (f (g 0))[0]? = some ((f (g 0))[0]'(by rw [hf]; exact h0)) := List.getElem?_eq_getElem _
    rw [h2] at h00
    have h1 : w.cell? ⟨b, off, spot⟩ = some ((f (g 0))[0]'(by rw [hf]; exact h0)) := by
     rw [← h00]
     simp [Addr.add]
    exact World.cell?_spot h1
   subst hspot
   refine .inr ⟨b, off, rfl, fun j hj => ?_⟩
   rw [flat_length f sz hf, List.length_map, List.length_range] at hj
   have hd : j / sz < len := Nat.div_lt_of_lt_mul (by rw [Nat.mul_comm]; exact hj)
   have hmd : j % sz < sz := Nat.mod_lt _ h0
   have hjj : j / sz * sz + j % sz = j := by rw [Nat.mul_comm]; exact Nat.div_add_mod j sz
   have h1 := hcell (j / sz) hd (j % sz) hmd
   rw [add_plain, hjj] at h1
   have h2 := flat_get f sz hf ((List.range len).map g) (j / sz) (by simpa using hd) (j % sz) hmd
   rw [hjj] at h2
   rw [h1, h2]
   simp

instance : Inhabited Prc := ⟨.zero⟩
instance : Inhabited PrcC := ⟨⟨.zero, none, 0⟩⟩
instance : Inhabited Ent := ⟨⟨emptyB, .zero⟩⟩

/-- What a procedure that came in holds. -/
structure PrcC.came (w : World) (y : PrcC) : Prop where
 r : Row w y.A (codeCells y.p.code)
 a : y.A = none → y.p.code.length = 0
 l : y.p.code.length ≤ y.c
 m : y.c ≤ maxLen
 i : y.p.inR
theorem PrcC.came.below {W V : World} {y : PrcC} (h : y.came W) (hb : Below W.heap.size W V) : y.came V := ⟨h.r.of_below hb (Nat.le_refl _), h.a, h.l, h.m, h.i⟩

theorem trod_prcc {fuel : Nat} {cs : List Value} {x : DataW H × List MemPlace} (h : DataW.trod enc Tryz.prog w base spare held fuel 54 cs = some x) : ∃ y : PrcC, cs = y.cells.toList ∧ y.came w := by
 obtain ⟨p, A, cap, hc, hr, hA, hl, hm, hi⟩ := trod_proc h
 exact ⟨⟨p, A, cap⟩, hc, hr, hA, hl, hm, hi⟩
theorem cellsEntry : Tryz.prog.cellsOf 62 = 4 := by kernel_rfl
set_option maxRecDepth 100000 in
theorem trod_ent {fuel : Nat} {cs : List Value} {x : DataW H × List MemPlace} (h : DataW.trod enc Tryz.prog w base spare held fuel 62 cs = some x) : ∃ y : Ent, cs = y.cells.toList ∧ y.inR := by
 obtain ⟨xs, n, _, _, hl, hlen, hf⟩ := DataW.trod_struct Tryz.underlying62 h
 have h0 := hf 0 _ rfl
 have h1 := hf 1 _ rfl
 rw [cellsEntry] at hl
 match xs, hlen, cs, hl with
 | [y0, y1], _, [c0, c1, c2, c3], _ =>
  simp only [List.getElem?_cons_zero, List.getElem?_cons_succ] at h0 h1
  obtain ⟨s, e0, _, _⟩ := DataW.trod_string Tryz.underlying9 h0
  obtain ⟨v, e1, w5, w6⟩ := trod_val h1
  cases e0
  obtain ⟨vk, vn, vt⟩ := v
  simp only [valCells] at e1
  cases e1
  exact ⟨⟨s, ⟨vk, vn, vt⟩⟩, rfl, w5, w6⟩

theorem trod_prcs {fuel : Nat} {c : Value} {x : DataW H × List MemPlace} (h : DataW.trod enc Tryz.prog w base spare held fuel 36 [c] = some x) :
  ∃ A n cap, ∃ l : List PrcC, c = .slice A n cap ∧ n = l.length ∧ Row w A (prcsCells l) ∧ (A = none → n = 0) ∧ n ≤ cap ∧ cap ≤ maxLen ∧ ∀ y ∈ l, y.came w :=
 trod_list 54 36 3 (fun y : PrcC => y.cells.toList) (fun _ => rfl) (by decide) Tryz.underlying36 cells24 (PrcC.came w) (fun _ _ _ h => trod_prcc h) h
theorem trod_ents {fuel : Nat} {c : Value} {x : DataW H × List MemPlace} (h : DataW.trod enc Tryz.prog w base spare held fuel 37 [c] = some x) :
  ∃ A n cap, ∃ l : List Ent, c = .slice A n cap ∧ n = l.length ∧ Row w A (entsCells l) ∧ (A = none → n = 0) ∧ n ≤ cap ∧ cap ≤ maxLen ∧ ∀ y ∈ l, y.inR :=
 trod_list 62 37 4 (fun y : Ent => y.cells.toList) (fun _ => rfl) (by decide) Tryz.underlying37 cellsEntry Ent.inR (fun _ _ _ h => trod_ent h) h

/-- A piece and where its lists lie. -/
structure PieceC where
 ps : List PrcC
 P : Option Addr
 cp : Nat
 es : List Ent
 E : Option Addr
 ce : Nat
 fin : Bool
instance : Inhabited PieceC := ⟨⟨[], none, 0, [], none, 0, false⟩⟩
def PieceC.cells (x : PieceC) : Array Value := #[.slice x.P x.ps.length x.cp, .slice x.E x.es.length x.ce, .bool x.fin]
structure PieceC.came (w : World) (x : PieceC) : Prop where
 rp : Row w x.P (prcsCells x.ps)
 ap : x.P = none → x.ps.length = 0
 lp : x.ps.length ≤ x.cp
 mp : x.cp ≤ maxLen
 ip : ∀ y ∈ x.ps, y.came w
 re : Row w x.E (entsCells x.es)
 ae : x.E = none → x.es.length = 0
 le : x.es.length ≤ x.ce
 me : x.ce ≤ maxLen
 ie : ∀ y ∈ x.es, y.inR
theorem PieceC.came.below {W V : World} {x : PieceC} (h : x.came W) (hb : Below W.heap.size W V) : x.came V :=
 ⟨h.rp.of_below hb (Nat.le_refl _), h.ap, h.lp, h.mp, fun y hy => (h.ip y hy).below hb, h.re.of_below hb (Nat.le_refl _), h.ae, h.le, h.me, h.ie⟩
def piecesCells (l : List PieceC) : List Value := l.flatMap fun x => x.cells.toList
theorem Row.pieces {w : World} {A : Option Addr} {l : List PieceC} (h : Row w A (piecesCells l)) (hp : 0 < l.length) : ∃ b off, A = some ⟨b, off, none⟩ ∧ b < w.heap.size ∧ ∀ j (hj : j < l.length), ∀ i, i < 3 → w.cell? ⟨b, off + j * 3 + i, none⟩ = (l[j]).cells[i]? := by
 have hlen := flat_length (fun x : PieceC => x.cells.toList) 3 (fun _ => rfl) l
 obtain ⟨b, off, hA, hlt, hc⟩ := h.at (by unfold piecesCells; rw [hlen]; omega)
 refine ⟨b, off, hA, hlt, fun j hj i hi => ?_⟩
 rw [Nat.add_assoc, hc _ (by unfold piecesCells; rw [hlen]; omega)]
 have := flat_get (fun x : PieceC => x.cells.toList) 3 (fun _ => rfl) l j hj i hi
 unfold piecesCells
 rw [this]
 simp

theorem cellsPiece : Tryz.prog.cellsOf 39 = 3 := by kernel_rfl
set_option maxRecDepth 100000 in
theorem trod_piece {fuel : Nat} {cs : List Value} {x : DataW H × List MemPlace} (h : DataW.trod enc Tryz.prog w base spare held fuel 39 cs = some x) : ∃ y : PieceC, cs = y.cells.toList ∧ y.came w := by
 obtain ⟨xs, n, _, _, hl, hlen, hf⟩ := DataW.trod_struct Tryz.underlying39 h
 have h0 := hf 0 _ rfl
 have h1 := hf 1 _ rfl
 have h2 := hf 2 _ rfl
 rw [cellsPiece] at hl
 match xs, hlen, cs, hl with
 | [y0, y1, y2], _, [c0, c1, c2], _ =>
  simp only [List.getElem?_cons_zero, List.getElem?_cons_succ] at h0 h1 h2
  obtain ⟨P, n, cp, ps, e0, hn, a1, a2, a3, a4, a5⟩ := trod_prcs h0
  obtain ⟨E, m, ce, es, e1, hm, b1, b2, b3, b4, b5⟩ := trod_ents h1
  obtain ⟨b, e2, _⟩ := DataW.trod_bool Tryz.underlying4 h2
  subst e0; subst e1; subst hn; subst hm; cases e2
  exact ⟨⟨ps, P, cp, es, E, ce, b⟩, rfl, a1, a2, a3, a4, a5, b1, b2, b3, b4, b5⟩
set_option maxRecDepth 100000 in
theorem open_pieces {r : Reach} {b0 : Nat} {v : Value} {d : DataW H} {p : List MemPlace} (hv : Value.okWide Tryz.prog w r b0 22 v) (h : DataW.Trod enc Tryz.prog w base spare held 22 v d p) :
  ∃ A cap, ∃ l : List PieceC, v = .slice A l.length cap ∧ Row w A (piecesCells l) ∧ (A = none → l.length = 0) ∧ l.length ≤ cap ∧ cap ≤ maxLen ∧ ∀ y ∈ l, y.came w := by
 obtain ⟨A, n, cap, rfl⟩ := okWide_slice Tryz.underlying22 hv
 obtain ⟨fuel, hf⟩ := h
 obtain ⟨A', n', cap', l, hc, hn, h1, h2, h3, h4, h5⟩ := trod_list 39 22 3 (fun y : PieceC => y.cells.toList) (fun _ => rfl) (by decide) Tryz.underlying22 cellsPiece (PieceC.came w) (fun _ _ _ h => trod_piece h) hf
 simp only [Value.slice.injEq] at hc
 obtain ⟨rfl, rfl, rfl⟩ := hc
 subst hn
 exact ⟨A, cap, l, rfl, h1, h2, h3, h4, h5⟩
end
end Go.Proofs.YtnieminnnkbneaaGreat
