/- The document's Read: what stands in memory while frame runs. -/
import Derived.Test.YtnieminnnkbneaaGreatRfp
import Derived.Test.YtnieminnnkbneaaGreatMi
import Derived.Test.YtnieminnnkbneaaGreatMd
import Derived.Test.YtnieminnnkbneaaGreatRnx
import Derived.Deep.RegionHeld3
namespace Go.Proofs.YtnieminnnkbneaaGreat
open Go.RowKit
set_option linter.unusedVariables false

/-- Where an image's rows lie. -/
structure RG where
 pl : List PrcC
 P : Option Addr
 cp : Nat
 E : Option Addr
 ce : Nat
def RG.zero : RG := ⟨[], none, 0, none, 0⟩
def imV (s : RS) (g : RG) : Array Value := #[.int .i64 s.number, .int .i64 s.mark, .slice g.P g.pl.length g.cp, .slice g.E s.entries.length g.ce]
/-- An image's rows, of one's own. -/
structure Img (B : Nat) (W : World) (s : RS) (g : RG) : Prop where
 hp : g.pl.map (·.p) = s.procs
 op : W.ownsRow B 54 3 (.slice g.P g.pl.length g.cp) g.pl.length (prcsCells g.pl)
 oc : ∀ y ∈ g.pl, y.own W B
 oe : W.ownsRow B 62 4 (.slice g.E s.entries.length g.ce) s.entries.length (entsCells s.entries)
theorem Img.below {B : Nat} {W V : World} {s : RS} {g : RG} (h : Img B W s g) (hb : Below W.heap.size W V) : Img B V s g :=
 ⟨h.hp, owns_mono' h.op hb, fun y hy => owns_mono' (h.oc y hy) hb, owns_mono' h.oe hb⟩
/-- A block of another type is written. -/
theorem Img.other {B : Nat} {W : World} {s : RS} {g : RG} {b : Nat} {c : Array Value} {t : TypeId} (h : Img B W s g) (hl : Loc W b c t) (h2 : 54 ≠ t) (h3 : 109 ≠ t) (h4 : 62 ≠ t) (i : Nat) (v : Value) : Img B (W.setCell ⟨b, i, none⟩ v) s g :=
 ⟨h.hp, owns_setCell (a := ⟨b, i, none⟩) h.op (owns_ne h.op hl h2) v, fun y hy => owns_setCell (a := ⟨b, i, none⟩) (h.oc y hy) (owns_ne (h.oc y hy) hl h3) v, owns_setCell (a := ⟨b, i, none⟩) h.oe (owns_ne h.oe hl h4) v⟩
/-- The same rows under another count of what was read. -/
theorem Img.same {B : Nat} {W : World} {s s' : RS} {g : RG} (h : Img B W s g) (h1 : s'.procs = s.procs) (h2 : s'.entries = s.entries) : Img B W s' g :=
 ⟨by rw [h1]; exact h.hp, h.op, h.oc, by rw [h2]; exact h.oe⟩
/-- The blocks that the rows lie in. -/
def RG.F (g : RG) (k : Nat) : Prop := (Value.slice g.P 0 0).ownBlock = some k ∨ (Value.slice g.E 0 0).ownBlock = some k

/-- Four cells laid. -/
def putM (w : World) (b : Nat) (s : RS) (g : RG) : World := put4 w b (.int .i64 s.number) (.int .i64 s.mark) (.slice g.P g.pl.length g.cp) (.slice g.E s.entries.length g.ce)

/-- What a reading of a frame's part answers: an image and a writer, or that it is not so. -/
def FPost (B : Nat) (w : World) (g : RG) (f : Nat) (q : Option RS) (ok : Bool → Array Value → Array Value → Ending) (e : Ending) (w' : World) : Prop :=
 Keep w.heap.size g.F w w' ∧
  ∃ (b : Bool) (x : PW) (s7 : RS) (g7 : RG), e = ok b x.val (imV s7 g7) ∧ Img B w' s7 g7 ∧ (∀ k, g7.F k → g.F k ∨ w.heap.size ≤ k) ∧ (∀ s', q = some s' → b = true ∧ s7 = s' ∧ x = s'.pw f) ∧ (q = none → b = false)

/-- What stands while entries runs: the reader, the writer, the image, the two results. -/
structure EnS (B : Nat) (w W : World) (g0 : RG) (A : Option Addr) (n c : Nat) (q : Rdr) (st : Int) (x : PW) (s : RS) (g : RG) : Prop where
 lr : Loc W w.heap.size (rvC A n c q.pos q.err st) 126
 lw : VLoc W (w.heap.size + 1) x
 li : Loc W (w.heap.size + 2) (imV s g) 41
 l6 : VLoc W (w.heap.size + 3) PW.zero
 l7 : Loc W (w.heap.size + 4) #[.int .i64 0, .int .i64 0, .slice none 0 0, .slice none 0 0] 41
 im : Img B W s g
 b : Keep w.heap.size g0.F w W
 hF : ∀ k, g.F k → g0.F k ∨ w.heap.size ≤ k
 hB : B ≤ w.heap.size
namespace EnS
variable {B : Nat} {w W V : World} {g0 g : RG} {A : Option Addr} {n c : Nat} {q : Rdr} {st : Int} {x : PW} {s : RS}
theorem below (h : EnS B w W g0 A n c q st x s g) (hb : Below W.heap.size W V) : EnS B w V g0 A n c q st x s g :=
 ⟨h.lr.below hb h.lr.lt, Loc.below h.lw hb (Loc.lt h.lw), h.li.below hb h.li.lt, Loc.below h.l6 hb (Loc.lt h.l6), h.l7.below hb h.l7.lt, h.im.below hb, h.b.step (Keep.of_below hb (fun _ => False)) h.b.size (fun _ _ f => f.elim), h.hF, h.hB⟩
theorem drew (h : EnS B w W g0 A n c q st x s g) : EnS B w W.drew g0 A n c q st x s g := h.below (Below.refl _ _).drew
theorem alloc (h : EnS B w W g0 A n c q st x s g) (o : Obj) : EnS B w (W.alloc o) g0 A n c q st x s g := h.below ((Below.refl _ _).alloc (Nat.le_refl _) o)
/-- The reader is laid anew. -/
theorem putR (h : EnS B w W g0 A n c q st x s g) (q' : Rdr) (st' : Int) : EnS B w (put4 W w.heap.size (.slice A n c) (.int .i64 q'.pos) (.int .i64 q'.err) (.int .i64 st')) g0 A n c q' st' x s g := by
 have L0 := h.lr
 have L1 := L0.set 0 (.slice A n c)
 have L2 := L1.set 1 (.int .i64 q'.pos)
 have L3 := L2.set 2 (.int .i64 q'.err)
 have L4 := L3.set 3 (.int .i64 st')
 refine ⟨L4, loc_put4o h.lw (by omega) _ _ _ _, loc_put4o h.li (by omega) _ _ _ _, loc_put4o h.l6 (by omega) _ _ _ _, loc_put4o h.l7 (by omega) _ _ _ _, ?_, ?_, h.hF, h.hB⟩
 ·exact (((h.im.other L0 (by decide) (by decide) (by decide) 0 _).other L1 (by decide) (by decide) (by decide) 1 _).other L2 (by decide) (by decide) (by decide) 2 _).other L3 (by decide) (by decide) (by decide) 3 _
 ·exact (((h.b.setCell (p := ⟨w.heap.size, 0, none⟩) (.inl (Nat.le_refl _)) _).setCell (p := ⟨w.heap.size, 1, none⟩) (.inl (Nat.le_refl _)) _).setCell (p := ⟨w.heap.size, 2, none⟩) (.inl (Nat.le_refl _)) _).setCell (p := ⟨w.heap.size, 3, none⟩) (.inl (Nat.le_refl _)) _
/-- A cell of the writer is laid. -/
theorem putW (h : EnS B w W g0 A n c q st x s g) (i : Nat) (v : Value) {x' : PW} (hx : x'.val = x.val.setIfInBounds i v) : EnS B w (W.setCell ⟨w.heap.size + 1, i, none⟩ v) g0 A n c q st x' s g := by
 have L := Loc.set h.lw i v
 rw [← hx] at L
 exact ⟨h.lr.other (a := ⟨w.heap.size + 1, i, none⟩) (by show w.heap.size ≠ w.heap.size + 1; omega) v, L, h.li.other (a := ⟨w.heap.size + 1, i, none⟩) (by show w.heap.size + 2 ≠ w.heap.size + 1; omega) v, Loc.other h.l6 (a := ⟨w.heap.size + 1, i, none⟩) (by show w.heap.size + 3 ≠ w.heap.size + 1; omega) v, h.l7.other (a := ⟨w.heap.size + 1, i, none⟩) (by show w.heap.size + 4 ≠ w.heap.size + 1; omega) v,
  h.im.other h.lw (by decide) (by decide) (by decide) i v, h.b.setCell (p := ⟨w.heap.size + 1, i, none⟩) (.inl (by show w.heap.size ≤ w.heap.size + 1; omega)) v, h.hF, h.hB⟩
/-- The row of entries has grown; it is not yet laid. -/
theorem grownE (h : EnS B w W g0 A n c q st x s g) (hg : W.grownBy V (Value.slice g.E s.entries.length g.ce).ownBlock) : Loc V (w.heap.size + 2) (imV s g) 41 := h.li.grown hg (owns_ne h.im.oe h.li (by decide))
theorem addE {y : Ent} {E : Option Addr} {ce : Nat} (h : EnS B w W g0 A n c q st x s g) (ho : V.ownsRow 0 62 4 (.slice E (s.entries.length + 1) ce) (s.entries.length + 1) (entsCells s.entries ++ y.cells.toList)) (hg : W.grownBy V (Value.slice g.E s.entries.length g.ce).ownBlock)
  (hb : ∀ k, (Value.slice E (s.entries.length + 1) ce).ownBlock = some k → (Value.slice g.E s.entries.length g.ce).ownBlock = some k ∨ k = W.heap.size) :
  EnS B w (V.setCell ⟨w.heap.size + 2, 3, none⟩ (.slice E (s.entries.length + 1) ce)) g0 A n c q st x { s with key := y.key, entries := s.entries ++ [y] } { g with E := E, ce := ce } := by
 have hsz : w.heap.size ≤ W.heap.size := h.b.size
 have li := h.grownE hg
 have lr := h.lr.grown hg (owns_ne h.im.oe h.lr (by decide))
 have lw := Loc.grown h.lw hg (owns_ne h.im.oe h.lw (by decide))
 have l6 := Loc.grown h.l6 hg (owns_ne h.im.oe h.l6 (by decide))
 have l7 := h.l7.grown hg (owns_ne h.im.oe h.l7 (by decide))
 have op := owns_two h.im.oe h.im.op (by decide) hg
 have oc := fun y hy => owns_two h.im.oe (h.im.oc y hy) (by decide) hg
 have oe := own_grown h.im.oe ho hb (Nat.le_trans h.hB hsz)
 have hlen : (s.entries ++ [y]).length = s.entries.length + 1 := by simp
 have hbb := fun (k : Nat) (hk : (Value.slice g.E s.entries.length g.ce).ownBlock = some k) => h.hF k (.inr (obP hk))
 refine ⟨lr.other (a := ⟨w.heap.size + 2, 3, none⟩) (by show w.heap.size ≠ w.heap.size + 2; omega) _, Loc.other lw (a := ⟨w.heap.size + 2, 3, none⟩) (by show w.heap.size + 1 ≠ w.heap.size + 2; omega) _, ?_, Loc.other l6 (a := ⟨w.heap.size + 2, 3, none⟩) (by show w.heap.size + 3 ≠ w.heap.size + 2; omega) _, l7.other (a := ⟨w.heap.size + 2, 3, none⟩) (by show w.heap.size + 4 ≠ w.heap.size + 2; omega) _, ⟨h.im.hp, ?_, fun z hz => ?_, ?_⟩, ?_, ?_, h.hB⟩
 ·have := li.set 3 (.slice E (s.entries.length + 1) ce)
  rw [← hlen] at this ⊢
  exact this
 ·exact owns_setCell (a := ⟨w.heap.size + 2, 3, none⟩) op (owns_ne op li (by decide)) _
 ·exact owns_setCell (a := ⟨w.heap.size + 2, 3, none⟩) (oc z hz) (owns_ne (oc z hz) li (by decide)) _
 ·have := owns_setCell (a := ⟨w.heap.size + 2, 3, none⟩) oe (owns_ne oe li (by decide)) (.slice E (s.entries.length + 1) ce)
  have e : entsCells (s.entries ++ [y]) = entsCells s.entries ++ y.cells.toList := by simp [entsCells]
  show World.ownsRow _ _ _ _ _ _ (entsCells (s.entries ++ [y]))
  rw [e]
  show World.ownsRow _ _ _ _ (.slice E (s.entries ++ [y]).length ce) (s.entries ++ [y]).length _
  rw [hlen]
  exact this
 ·refine (h.b.grown hg (Nat.le_trans (Nat.le_refl _) hsz) (fun k hk => ?_)).setCell (p := ⟨w.heap.size + 2, 3, none⟩) (.inl (by show w.heap.size ≤ w.heap.size + 2; omega)) _
  rcases hbb k hk with h1 | h1
  ·exact .inr h1
  ·exact .inl h1
 ·intro k hk
  rcases hk with hk | hk
  ·exact h.hF k (.inl hk)
  ·rcases hb k (obP hk) with h1 | h1
   ·exact hbb k h1
   ·exact .inr (by omega)
theorem c3 (h : EnS B w W g0 A n c q st x s g) : W.cell? ⟨w.heap.size + 2, 0, none⟩ = some (.int .i64 s.number) ∧ W.cell? ⟨w.heap.size + 2, 1, none⟩ = some (.int .i64 s.mark) ∧ W.cell? ⟨w.heap.size + 2, 2, none⟩ = some (.slice g.P g.pl.length g.cp) ∧ W.cell? ⟨w.heap.size + 2, 3, none⟩ = some (.slice g.E s.entries.length g.ce) :=
 ⟨h.li.cell 0, h.li.cell 1, h.li.cell 2, h.li.cell 3⟩
/-- A block that was made later is written. -/
theorem young {q0 : Rdr} {st0 : Int} {x0 : PW} (h0 : EnS B w W g0 A n c q0 st0 x0 s g) (h : EnS B w V g0 A n c q st x s g) {a : Addr} (ha : W.heap.size ≤ a.block) (v : Value) : EnS B w (V.setCell a v) g0 A n c q st x s g := by
 have k0 := h0.lr.lt
 have k1 := Loc.lt h0.lw
 have k2 := h0.li.lt
 have k3 := Loc.lt h0.l6
 have k4 := h0.l7.lt
 refine ⟨h.lr.other (by omega) v, Loc.other h.lw (by omega) v, h.li.other (by omega) v, Loc.other h.l6 (by omega) v, h.l7.other (by omega) v, ⟨h.im.hp, owns_setCell h.im.op (fun e => ?_) v, fun y hy => owns_setCell (h.im.oc y hy) (fun e => ?_) v, owns_setCell h.im.oe (fun e => ?_) v⟩, h.b.setCell (.inl (by omega)) v, h.hF, h.hB⟩
 ·have := (h0.im.op.lt _ e).2; omega
 ·have := ((h0.im.oc y hy).lt _ e).2; omega
 ·have := (h0.im.oe.lt _ e).2; omega
/-- Both results are laid. -/
theorem fin (h : EnS B w W g0 A n c q st x s g) : VLoc (putM (putV W (w.heap.size + 3) x) (w.heap.size + 4) s g).drew (w.heap.size + 3) x ∧ Loc (putM (putV W (w.heap.size + 3) x) (w.heap.size + 4) s g).drew (w.heap.size + 4) (imV s g) 41 ∧
  Keep w.heap.size g0.F w (putM (putV W (w.heap.size + 3) x) (w.heap.size + 4) s g).drew ∧ Img B (putM (putV W (w.heap.size + 3) x) (w.heap.size + 4) s g).drew s g := by
 have a6 := putV_loc h.l6 x
 have b7 := putV_other h.l7 (show w.heap.size + 4 ≠ w.heap.size + 3 by omega) x
 have L1 := b7.set 0 (.int .i64 s.number)
 have L2 := L1.set 1 (.int .i64 s.mark)
 have L3 := L2.set 2 (.slice g.P g.pl.length g.cp)
 have L4 := L3.set 3 (.slice g.E s.entries.length g.ce)
 have hne : ∀ k, w.heap.size ≤ k → ∀ i, (w.heap.size ≤ (⟨k, i, none⟩ : Addr).block ∨ g0.F (⟨k, i, none⟩ : Addr).block) := fun k hk i => .inl hk
 refine ⟨Loc.drew (loc_put4o a6 (by omega) _ _ _ _), Loc.drew L4, ?_, ?_⟩
 ·exact Keep.drew (((((putV_keep h.b (by omega) x).setCell (hne _ (by omega) 0) _).setCell (hne _ (by omega) 1) _).setCell (hne _ (by omega) 2) _).setCell (hne _ (by omega) 3) _)
 ·have i6 : Img B (putV W (w.heap.size + 3) x) s g :=
   ⟨h.im.hp, putV_own h.im.op (owns_ne h.im.op h.l6 (by decide)) x, fun y hy => putV_own (h.im.oc y hy) (owns_ne (h.im.oc y hy) h.l6 (by decide)) x, putV_own h.im.oe (owns_ne h.im.oe h.l6 (by decide)) x⟩
  have i7 := (((i6.other b7 (by decide) (by decide) (by decide) 0 (.int .i64 s.number)).other L1 (by decide) (by decide) (by decide) 1 (.int .i64 s.mark)).other L2 (by decide) (by decide) (by decide) 2 (.slice g.P g.pl.length g.cp)).other L3 (by decide) (by decide) (by decide) 3 (.slice g.E s.entries.length g.ce)
  exact i7.below ((Below.refl _ _).drew)
end EnS
theorem putV_far (W : World) (b : Nat) (x : PW) {b' : Nat} (hne : b' ≠ b) (i : Nat) : (putV W b x).cell? ⟨b', i, none⟩ = W.cell? ⟨b', i, none⟩ := by
 unfold putV
 rw [World.cell?_setCell_far _ _ _ _ hne.symm, World.cell?_setCell_far _ _ _ _ hne.symm, World.cell?_setCell_far _ _ _ _ hne.symm, World.cell?_setCell_far _ _ _ _ hne.symm, World.cell?_setCell_far _ _ _ _ hne.symm, World.cell?_setCell_far _ _ _ _ hne.symm, World.cell?_setCell_far _ _ _ _ hne.symm, World.cell?_setCell_far _ _ _ _ hne.symm]
theorem putM_far (W : World) (b : Nat) (s : RS) (g : RG) {b' : Nat} (hne : b' ≠ b) (i : Nat) : (putM W b s g).cell? ⟨b', i, none⟩ = W.cell? ⟨b', i, none⟩ := by
 unfold putM put4
 rw [World.cell?_setCell_far _ _ _ _ hne.symm, World.cell?_setCell_far _ _ _ _ hne.symm, World.cell?_setCell_far _ _ _ _ hne.symm, World.cell?_setCell_far _ _ _ _ hne.symm]
/-- What stands at the two results while a region that draws lays them. -/
structure ResL (B : Nat) (w W : World) (a6 a7 : Nat) (g0 : RG) (s : RS) (g : RG) (y6 : PW) (s7 : RS) (g7 : RG) : Prop where
 l6 : VLoc W a6 y6
 l7 : Loc W a7 (imV s7 g7) 41
 im : Img B W s g
 b : Keep w.heap.size g0.F w W
 hF : ∀ k, g.F k → g0.F k ∨ w.heap.size ≤ k
 h6 : w.heap.size ≤ a6
 h7 : w.heap.size ≤ a7
 ne : a6 ≠ a7
namespace ResL
variable {B : Nat} {w W V : World} {a6 a7 : Nat} {g0 g g7 : RG} {s s7 : RS} {y6 : PW}
theorem below (h : ResL B w W a6 a7 g0 s g y6 s7 g7) (hb : Below W.heap.size W V) : ResL B w V a6 a7 g0 s g y6 s7 g7 :=
 ⟨Loc.below h.l6 hb (Loc.lt h.l6), h.l7.below hb h.l7.lt, h.im.below hb, h.b.step (Keep.of_below hb (fun _ => False)) h.b.size (fun _ _ f => f.elim), h.hF, h.h6, h.h7, h.ne⟩
theorem drew (h : ResL B w W a6 a7 g0 s g y6 s7 g7) : ResL B w W.drew a6 a7 g0 s g y6 s7 g7 := h.below (Below.refl _ _).drew
theorem put6 (h : ResL B w W a6 a7 g0 s g y6 s7 g7) (x : PW) : ResL B w (putV W a6 x) a6 a7 g0 s g x s7 g7 :=
 ⟨putV_loc h.l6 x, putV_other h.l7 h.ne.symm x,
  ⟨h.im.hp, putV_own h.im.op (owns_ne h.im.op h.l6 (by decide)) x, fun y hy => putV_own (h.im.oc y hy) (owns_ne (h.im.oc y hy) h.l6 (by decide)) x, putV_own h.im.oe (owns_ne h.im.oe h.l6 (by decide)) x⟩,
  putV_keep h.b h.h6 x, h.hF, h.h6, h.h7, h.ne⟩
theorem put7 (h : ResL B w W a6 a7 g0 s g y6 s7 g7) (s' : RS) (g' : RG) : ResL B w (putM W a7 s' g') a6 a7 g0 s g y6 s' g' := by
 have L1 := h.l7.set 0 (.int .i64 s'.number)
 have L2 := L1.set 1 (.int .i64 s'.mark)
 have L3 := L2.set 2 (.slice g'.P g'.pl.length g'.cp)
 have L4 := L3.set 3 (.slice g'.E s'.entries.length g'.ce)
 have hne : ∀ i, (w.heap.size ≤ (⟨a7, i, none⟩ : Addr).block ∨ g0.F (⟨a7, i, none⟩ : Addr).block) := fun i => .inl h.h7
 refine ⟨loc_put4o h.l6 h.ne _ _ _ _, L4, ?_, ?_, h.hF, h.h6, h.h7, h.ne⟩
 ·exact (((h.im.other h.l7 (by decide) (by decide) (by decide) 0 (.int .i64 s'.number)).other L1 (by decide) (by decide) (by decide) 1 (.int .i64 s'.mark)).other L2 (by decide) (by decide) (by decide) 2 (.slice g'.P g'.pl.length g'.cp)).other L3 (by decide) (by decide) (by decide) 3 (.slice g'.E s'.entries.length g'.ce)
 ·exact (((h.b.setCell (hne 0) _).setCell (hne 1) _).setCell (hne 2) _).setCell (hne 3) _
theorem c7 (h : ResL B w W a6 a7 g0 s g y6 s7 g7) : W.cell? ⟨a7, 0, none⟩ = some (.int .i64 s7.number) ∧ W.cell? ⟨a7, 1, none⟩ = some (.int .i64 s7.mark) ∧ W.cell? ⟨a7, 2, none⟩ = some (.slice g7.P g7.pl.length g7.cp) ∧ W.cell? ⟨a7, 3, none⟩ = some (.slice g7.E s7.entries.length g7.ce) :=
 ⟨h.l7.cell 0, h.l7.cell 1, h.l7.cell 2, h.l7.cell 3⟩
theorem f7 (h : ResL B w W a6 a7 g0 s g y6 s7 g7) : W.frozen? ⟨a7, 0, none⟩ = false ∧ W.frozen? ⟨a7, 1, none⟩ = false ∧ W.frozen? ⟨a7, 2, none⟩ = false ∧ W.frozen? ⟨a7, 3, none⟩ = false :=
 ⟨h.l7.free 0, h.l7.free 1, h.l7.free 2, h.l7.free 3⟩
theorem ret {P : Program} {fn : Func} {R : Ending → World → Prop} {a : Act} {v : Value} (RF : ResL B w W a6 a7 g0 s g y6 s7 g7)
  (hr : (W.cell? ⟨a6, 0, none⟩ = some (.int .i64 y6.number) ∧ W.cell? ⟨a6, 1, none⟩ = some (.int .i64 y6.mark) ∧ W.cell? ⟨a6, 2, none⟩ = some (.int .i64 y6.frames) ∧ W.cell? ⟨a6, 3, none⟩ = some (.int .i64 y6.procs) ∧ W.cell? ⟨a6, 4, none⟩ = some (.int .i64 y6.entries) ∧ W.cell? ⟨a6, 5, none⟩ = some (.string y6.name) ∧ W.cell? ⟨a6, 6, none⟩ = some (.string y6.key) ∧ W.cell? ⟨a6, 7, none⟩ = some (.bool y6.live)) →
   (W.cell? ⟨a7, 0, none⟩ = some (.int .i64 s7.number) ∧ W.cell? ⟨a7, 1, none⟩ = some (.int .i64 s7.mark) ∧ W.cell? ⟨a7, 2, none⟩ = some (.slice g7.P g7.pl.length g7.cp) ∧ W.cell? ⟨a7, 3, none⟩ = some (.slice g7.E s7.entries.length g7.ce)) → (results fn a.tmps).run P W = .ok v W)
  (hd : a.defers = []) (hR : ResL B w W a6 a7 g0 s g y6 s7 g7 → R (.returned v) W) : bodyPost P fn R .ret a W :=
 bodyPost_ret (hr RF.l6.cells RF.c7) hd (hR RF)
end ResL
theorem EnS.res {B : Nat} {w W : World} {g0 g : RG} {A : Option Addr} {n c : Nat} {q : Rdr} {st : Int} {x : PW} {s : RS} (h : EnS B w W g0 A n c q st x s g) : ResL B w W (w.heap.size + 3) (w.heap.size + 4) g0 s g PW.zero RS.zero RG.zero :=
 ⟨h.l6, h.l7, h.im, h.b, h.hF, by omega, by omega, by omega⟩
def okE (b : Bool) (x m : Array Value) : Ending := .returned (.tuple #[.agg x, .agg m, .bool b])
theorem EnS.no {B : Nat} {w W : World} {g0 g : RG} {A : Option Addr} {n c : Nat} {q : Rdr} {st : Int} {x : PW} {s : RS} {Q : Option RS} {f : Nat} (h : EnS B w W g0 A n c q st x s g) (hQ : Q = none) :
  FPost B w g0 f Q okE (okE false x.val (imV s g)) (putM (putV W (w.heap.size + 3) x) (w.heap.size + 4) s g).drew :=
 ⟨h.fin.2.2.1, false, x, s, g, rfl, h.fin.2.2.2, h.hF, fun s' h' => (by rw [hQ] at h'; cases h'), fun _ => rfl⟩
theorem ResL.no {B : Nat} {w W : World} {a6 a7 : Nat} {g0 g : RG} {s : RS} {x : PW} {Q : Option RS} {f : Nat} (h : ResL B w W a6 a7 g0 s g x s g) (hQ : Q = none) : FPost B w g0 f Q okE (okE false x.val (imV s g)) W :=
 ⟨h.b, false, x, s, g, rfl, h.im, h.hF, fun s' h' => (by rw [hQ] at h'; cases h'), fun _ => rfl⟩
theorem ResL.yes {B : Nat} {w W : World} {a6 a7 : Nat} {g0 g : RG} {s : RS} {Q : Option RS} {f : Nat} (h : ResL B w W a6 a7 g0 s g (s.pw f) s g) (hQ : Q = some s) : FPost B w g0 f Q okE (okE true (s.pw f).val (imV s g)) W :=
 ⟨h.b, true, _, s, g, rfl, h.im, h.hF, fun s' h' => (by rw [hQ] at h'; cases h'; exact ⟨rfl, rfl, rfl⟩), fun h' => (by rw [hQ] at h'; cases h')⟩
end Go.Proofs.YtnieminnnkbneaaGreat

namespace Go.Proofs.YtnieminnnkbneaaGreat
open Go.RowKit
set_option linter.unusedVariables false


set_option maxRecDepth 100000 in
set_option maxHeartbeats 4000000 in
theorem r14ents_any (B : Nat) (w : World) (s : RS) (g : RG) (f : Nat) (A : Option Addr) (c : Nat) (q : Rdr) (st : Int) (h : Img B w s g) (hB : B ≤ w.heap.size) (hr : Row w A (cellsB q.xs)) (hrB : ∀ a, A = some a → ¬ g.F a.block) (hp : q.pos ≤ q.xs.length) (hl : q.xs.length ≤ 140737488355328) (hz : A = none → q.xs.length = 0) (hcap : q.xs.length ≤ c) (hne : s.entries.length ≤ 100000000000) :
  Calls Tryz.prog 70 #[.agg (rvC A q.xs.length c q.pos q.err st), .agg (s.pw f).val, .agg (imV s g)] w (FPost B w g f (rfPage q.xs.length s q) okE) := by
 have E0 : EnS B w (((((w.alloc (.cells (rvC A q.xs.length c q.pos q.err st) 126)).alloc (.cells (s.pw f).val 29)).alloc (.cells (imV s g) 41)).alloc (.cells PW.zero.val 29)).alloc (.cells #[.int .i64 0, .int .i64 0, .slice none 0 0, .slice none 0 0] 41)) g A q.xs.length c q st (s.pw f) s g := by
  have h1 := Loc.new w (rvC A q.xs.length c q.pos q.err st) 126
  have h2 := Loc.new (w.alloc (.cells (rvC A q.xs.length c q.pos q.err st) 126)) (s.pw f).val 29
  have h3 := Loc.new ((w.alloc (.cells (rvC A q.xs.length c q.pos q.err st) 126)).alloc (.cells (s.pw f).val 29)) (imV s g) 41
  have h4 := Loc.new (((w.alloc (.cells (rvC A q.xs.length c q.pos q.err st) 126)).alloc (.cells (s.pw f).val 29)).alloc (.cells (imV s g) 41)) PW.zero.val 29
  have h5 := Loc.new ((((w.alloc (.cells (rvC A q.xs.length c q.pos q.err st) 126)).alloc (.cells (s.pw f).val 29)).alloc (.cells (imV s g) 41)).alloc (.cells PW.zero.val 29)) #[.int .i64 0, .int .i64 0, .slice none 0 0, .slice none 0 0] 41
  simp only [World.size_alloc] at h2 h3 h4 h5
  have b5 : Below w.heap.size w (((((w.alloc (.cells (rvC A q.xs.length c q.pos q.err st) 126)).alloc (.cells (s.pw f).val 29)).alloc (.cells (imV s g) 41)).alloc (.cells PW.zero.val 29)).alloc (.cells #[.int .i64 0, .int .i64 0, .slice none 0 0, .slice none 0 0] 41)) :=
   (((((Below.refl w.heap.size w).alloc (Nat.le_refl _) _).alloc (by simp) _).alloc (by simp only [World.size_alloc]; omega) _).alloc (by simp only [World.size_alloc]; omega) _).alloc (by simp only [World.size_alloc]; omega) _
  exact ⟨(((h1.alloc _).alloc _).alloc _).alloc _, Loc.alloc (Loc.alloc (Loc.alloc h2 _) _) _, (h3.alloc _).alloc _, Loc.alloc h4 _, h5, h.below b5, Keep.of_below b5 _, fun k hk => .inl hk, hB⟩
 obtain ⟨W0, hW0⟩ : ∃ W0, W0 = (((((w.alloc (.cells (rvC A q.xs.length c q.pos q.err st) 126)).alloc (.cells (s.pw f).val 29)).alloc (.cells (imV s g) 41)).alloc (.cells PW.zero.val 29)).alloc (.cells #[.int .i64 0, .int .i64 0, .slice none 0 0, .slice none 0 0] 41)) := ⟨_, rfl⟩
 rw [← hW0] at E0
 obtain ⟨a, q1, h1⟩ : ∃ a q1, q.number = (a, q1) := ⟨_, _, rfl⟩
 have x1 := number_xs q
 have p1 := number_pos hp
 have g1 := number_nonneg q
 have hq : rfPage q.xs.length s q = if q1.err ≠ 0 ∨ a < 1 ∨ 128 < a then none else rfShut (rfEnts q.xs.length a.toNat s q1) := by unfold rfPage; rw [h1]
 have c1 := rtnumber_any A c q st W0 (hr.keep E0.b (Nat.le_refl _) hrB) hp hl hz
 have hrow : ∀ W, Keep w.heap.size g.F w W → Row W A (cellsB q.xs) := fun W hb => hr.keep hb (Nat.le_refl _) hrB
 rw [h1] at x1 p1 g1 c1
 simp only at x1 p1 g1 c1
 obtain ⟨N, hN⟩ : ∃ N, N = q.xs.length := ⟨_, rfl⟩
 obtain ⟨Q, hQ⟩ : ∃ Q, Q = rfPage q.xs.length s q := ⟨_, rfl⟩
 rw [← hQ] at hq ⊢
 rw [← hN] at c1 E0 hW0 ⊢
 have HN := Lib.hid hN
 have HQ := Lib.hid hq
 have HROW := Lib.hid hrow
 have HZ := Lib.hid hz
 have HLC := Lib.hid (And.intro hl hcap)
 have HX1 := Lib.hid x1
 have HP1 := Lib.hid p1
 have HNE : Hid (s.entries.length ≤ 100000000000) := Lib.hid hne
 unfold rvC at c1
 have C1 := Lib.hid c1
 have HW := Lib.hid hW0.symm
 clear hN hq hrow hz hl hcap x1 p1 hne c1 hW0 h1 hQ hr hrB hp h
 unfold rvC PW.val imV PW.zero RS.pw emptyB at HW
 simp only [show ((0 : Nat) : Int) = 0 from rfl] at HW ⊢
 unfold rvC PW.val imV RS.pw
 simp only [show ((0 : Nat) : Int) = 0 from rfl] at HW ⊢
 go_enter Tryz.func70, Tryz.ntmps70
 go_upto_region 1 with (fail)
 rw [HW.out, show w.heap.size + 1 + 1 = w.heap.size + 2 from rfl, show w.heap.size + 2 + 1 = w.heap.size + 3 from rfl, show w.heap.size + 3 + 1 = w.heap.size + 4 from rfl]
 clear HW
 obtain ⟨r0, r1, r2, r3, rf0, rf1, rf2, rf3⟩ := E0.lr.rfour
 go_upto_region 2 with (go_at_call 66; refine C1.out.mono ?_; rintro e w1 ⟨st1, rfl, hb⟩; unfold rvC; have E1 := E0.below hb; clear r0 r1 r2 r3 rf0 rf1 rf2 rf3 E0 hb C1; obtain ⟨r0, r1, r2, r3, rf0, rf1, rf2, rf3⟩ := E1.lr.rfour)
 have E2 := E1.putR q1 st1
 unfold put4 at E2
 obtain ⟨w2, hw2⟩ : ∃ w2, w2 = (((w1.setCell ⟨w.heap.size, 0, none⟩ (.slice A N c)).setCell ⟨w.heap.size, 1, none⟩ (.int .i64 q1.pos)).setCell ⟨w.heap.size, 2, none⟩ (.int .i64 q1.err)).setCell ⟨w.heap.size, 3, none⟩ (.int .i64 st1) := ⟨_, rfl⟩
 rw [← hw2] at E2 ⊢
 clear E1 hw2 r0 r1 r2 r3 rf0 rf1 rf2 rf3
 obtain ⟨_, _, r2, _⟩ := E2.lr.rfour
 rcases (by omega : (q1.err ≠ 0 ∨ a < 1 ∨ 128 < a) ∨ (q1.err = 0 ∧ 1 ≤ a ∧ a ≤ 128)) with hc | hc
 ·have hq : Q = none := by rw [HQ.out, if_pos hc]
  have HQ2 := Lib.hid hq
  clear hq HQ HROW HZ HLC HX1 HP1 HNE HN
  by_cases he : q1.err = 0
  ·have t1 : (q1.err != 0) = false := by simp [he]
   by_cases ha : a < 1
   ·clear hc he
    go_upto_region 3 with (fail)
    obtain ⟨k10, k11, k12, k13, k14, k15, k16, k17⟩ := E2.lw.cells
    obtain ⟨m0, m1, m2, m3⟩ := E2.c3
    obtain ⟨f0, f1, f2, f3, f4, f5, f6, f7⟩ := E2.l6.free8
    obtain ⟨o0, o1, o2, o3, o4, o5, o6, o7⟩ := E2.l6.cells
    obtain ⟨n0, n1, n2, n3, e0, e1, e2, e3⟩ := E2.l7.rfour
    have HEE := Lib.hid E2
    have HQN : Hid (Q = none) := Lib.hid HQ2.out
    clear E2
    go_region
    all_goals
     go_wp2
     have hres := HEE.out.no (f := f) HQN.out
     obtain ⟨L6, L7, _, _⟩ := HEE.out.fin
     obtain ⟨y0, y1, y2, y3, y4, y5, y6, y7⟩ := L6.cells
     have z0 := L7.cell 0; have z1 := L7.cell 1; have z2 := L7.cell 2; have z3 := L7.cell 3
     unfold putM put4 putV at hres y0 y1 y2 y3 y4 y5 y6 y7 z0 z1 z2 z3
     exact bodyPost_ret (v := .tuple #[.agg (s.pw f).val, .agg (imV s g), .bool false]) (by simp [results, Tryz.results70, go_sem, y0, y1, y2, y3, y4, y5, y6, y7, z0, z1, z2, z3, PW.val, imV]) rfl hres
   ·have ha2 : 128 < a := by omega
    clear hc he
    go_upto_region 3 with (fail)
    obtain ⟨k10, k11, k12, k13, k14, k15, k16, k17⟩ := E2.lw.cells
    obtain ⟨m0, m1, m2, m3⟩ := E2.c3
    obtain ⟨f0, f1, f2, f3, f4, f5, f6, f7⟩ := E2.l6.free8
    obtain ⟨o0, o1, o2, o3, o4, o5, o6, o7⟩ := E2.l6.cells
    obtain ⟨n0, n1, n2, n3, e0, e1, e2, e3⟩ := E2.l7.rfour
    have HEE := Lib.hid E2
    have HQN : Hid (Q = none) := Lib.hid HQ2.out
    clear E2
    go_region
    all_goals
     go_wp2
     have hres := HEE.out.no (f := f) HQN.out
     obtain ⟨L6, L7, _, _⟩ := HEE.out.fin
     obtain ⟨y0, y1, y2, y3, y4, y5, y6, y7⟩ := L6.cells
     have z0 := L7.cell 0; have z1 := L7.cell 1; have z2 := L7.cell 2; have z3 := L7.cell 3
     unfold putM put4 putV at hres y0 y1 y2 y3 y4 y5 y6 y7 z0 z1 z2 z3
     exact bodyPost_ret (v := .tuple #[.agg (s.pw f).val, .agg (imV s g), .bool false]) (by simp [results, Tryz.results70, go_sem, y0, y1, y2, y3, y4, y5, y6, y7, z0, z1, z2, z3, PW.val, imV]) rfl hres
  ·have t1 : (q1.err != 0) = true := by simpa using he
   clear hc he
   go_upto_region 3 with (fail)
   obtain ⟨k10, k11, k12, k13, k14, k15, k16, k17⟩ := E2.lw.cells
   obtain ⟨m0, m1, m2, m3⟩ := E2.c3
   obtain ⟨f0, f1, f2, f3, f4, f5, f6, f7⟩ := E2.l6.free8
   obtain ⟨o0, o1, o2, o3, o4, o5, o6, o7⟩ := E2.l6.cells
   obtain ⟨n0, n1, n2, n3, e0, e1, e2, e3⟩ := E2.l7.rfour
   have HEE := Lib.hid E2
   have HQN : Hid (Q = none) := Lib.hid HQ2.out
   clear E2
   go_region
   all_goals
    go_wp2
    have hres := HEE.out.no (f := f) HQN.out
    obtain ⟨L6, L7, _, _⟩ := HEE.out.fin
    obtain ⟨y0, y1, y2, y3, y4, y5, y6, y7⟩ := L6.cells
    have z0 := L7.cell 0; have z1 := L7.cell 1; have z2 := L7.cell 2; have z3 := L7.cell 3
    unfold putM put4 putV at hres y0 y1 y2 y3 y4 y5 y6 y7 z0 z1 z2 z3
    exact bodyPost_ret (v := .tuple #[.agg (s.pw f).val, .agg (imV s g), .bool false]) (by simp [results, Tryz.results70, go_sem, y0, y1, y2, y3, y4, y5, y6, y7, z0, z1, z2, z3, PW.val, imV]) rfl hres
 ·obtain ⟨he0, ha1, ha2⟩ := hc
  obtain ⟨M, rfl⟩ := Int.eq_ofNat_of_zero_le g1.1
  have hq : Q = rfShut (rfEnts N M s q1) := by rw [HQ.out, if_neg (by omega), Int.toNat_natCast, HN.out]
  have HQ2 := Lib.hid hq
  have hM : M ≤ 128 := by omega
  have t1 : (q1.err != 0) = false := by simp [he0]
  have t2 : ¬ (M : Int) < 1 := by omega
  have t3 : ¬ (128 : Int) < (M : Int) := by omega
  have HE0 := Lib.hid he0
  have hp1 : q1.pos ≤ N := by rw [HN.out]; exact HP1.out
  have HP1N := Lib.hid hp1
  clear hq HQ he0 g1 ha1 ha2 hp1
  go_wp2
  go_loopw [10] (fun i wr => ∃ (k : Nat) (qk : Rdr) (stk : Int) (sk : RS) (gk : RG), k ≤ M ∧ i = .int .i64 k ∧ EnS B w wr g A N c qk stk (sk.pw f) sk gk ∧ Hid (qk.xs = q.xs) ∧ Hid (qk.pos ≤ N) ∧ Hid (qk.err = 0) ∧ Hid (sk.entries.length = s.entries.length + k) ∧ Hid (Q = rfShut (rfEnts N (M - k) sk qk))) (fun i _ => M - (intOf i).toNat)
  case atStart => exact ⟨0, q1, st1, s, g, Nat.zero_le _, rfl, E2, HX1, HP1N, HE0, Lib.hid rfl, HQ2⟩
  case round =>
   obtain ⟨wi, rfl⟩ : ∃ wi, wi = wr := ⟨_, rfl⟩
   obtain ⟨k, qk, stk, sk, gk, hk, rfl, EI, HQX, HQP, HQE, HEL, HREL⟩ := hrel
   clear E2 r2 t1 t2 t3 HQ2
   by_cases hkM : k < M
   ·have hkM' : (k : Int) < (M : Int) := by omega
    obtain ⟨ks, ra, hta⟩ : ∃ ks ra, qk.text (N : Int) = (ks, ra) := ⟨_, _, rfl⟩
    obtain ⟨t, rc, htc⟩ : ∃ t rc, ra.text (N : Int) = (t, rc) := ⟨_, _, rfl⟩
    obtain ⟨⟨vk, vn, vt⟩, ve, hve⟩ : ∃ v e, datumDecode t = (v, e) := ⟨_, _, rfl⟩
    have hst := HREL.out
    rw [show M - k = (M - (k + 1)) + 1 by omega, rfEnts] at hst
    unfold rfEnt at hst
    rw [hta] at hst
    simp only [htc, hve] at hst
    have hl : N ≤ 140737488355328 := by rw [HN.out]; exact HLC.out.1
    have hcap : N ≤ c := by rw [HN.out]; exact HLC.out.2
    have xa := text_xs qk (N : Int)
    have pa := text_pos (s := qk) (N : Int) (by rw [HQX.out, ← HN.out]; exact HQP.out)
    rw [hta, HQX.out] at xa pa
    rw [← HN.out] at pa
    simp only at xa pa
    have xc := text_xs ra (N : Int)
    have pc := text_pos (s := ra) (N : Int) (by rw [xa, ← HN.out]; exact pa)
    have hml := text_len ra (N : Int)
    rw [htc, xa] at xc pc hml
    rw [← HN.out] at pc hml
    simp only at xc pc hml
    have tx1 := fun W (hh : Keep w.heap.size g.F w W) => rttext_any A c qk stk (N : Int) (by omega) (by omega) W (by rw [HQX.out]; exact HROW.out W hh) (by rw [HQX.out, ← HN.out]; exact HQP.out) (by rw [HQX.out, ← HN.out]; exact hl) (by rw [HQX.out]; exact HZ.out) (by rw [HQX.out, ← HN.out]; exact hcap)
    have tx2 := fun st W (hh : Keep w.heap.size g.F w W) => rttext_any A c ra st (N : Int) (by omega) (by omega) W (by rw [xa]; exact HROW.out W hh) (by rw [xa, ← HN.out]; exact pa) (by rw [xa, ← HN.out]; exact hl) (by rw [xa]; exact HZ.out) (by rw [xa, ← HN.out]; exact hcap)
    rw [HQX.out, ← HN.out, hta] at tx1
    rw [xa, ← HN.out, htc] at tx2
    simp only at tx1 tx2
    have hsz : (ofBs t).size = t.length := by rw [← size_data, ofBs_data]
    obtain ⟨kb, hkb⟩ : ∃ kb, kb = ofBs ks := ⟨_, rfl⟩
    rw [← hkb] at hst tx1
    have hent : ∀ W, Calls Tryz.prog 50 #[.agg (sk.pw f).val, .agg (Ent.cells ⟨kb, ⟨vk, vn, vt⟩⟩)] W fun e w' => e = .returned (.int .i64 (pwEntE (sk.pw 0) ⟨kb, ⟨vk, vn, vt⟩⟩)) ∧ Below W.heap.size W w' := fun W => r14entry_any (sk.pw f) ⟨kb, ⟨vk, vn, vt⟩⟩ W
    obtain ⟨EE, hEE⟩ : ∃ EE, EE = pwEntE (sk.pw 0) ⟨kb, ⟨vk, vn, vt⟩⟩ := ⟨_, rfl⟩
    rw [← hEE] at hent hst
    unfold PW.val RS.pw Ent.cells at hent
    unfold rvC at tx1 tx2
    simp only [show ((0 : Nat) : Int) = 0 from rfl] at hent
    have hde := fun g W (h : Row W (some ⟨g, 0, none⟩) (cellsB t)) c' (hc' : t.length ≤ c') => rddec_any (some ⟨g, 0, none⟩) c' t W h (by omega) (fun h => by cases h) hc'
    rw [hve] at hde
    unfold valCells at hde
    simp only at hde
    rw [← hsz] at hde
    have HST := Lib.hid hst
    have TX1 := Lib.hid tx1
    have TX2 := Lib.hid tx2
    have HENT := Lib.hid hent
    have HDE := Lib.hid hde
    have HXA := Lib.hid xa
    have HXC := Lib.hid xc
    have HPC := Lib.hid pc
    clear hta htc hve hst tx1 tx2 hsz hkb HREL hEE hent hde xa xc pc pa hml hl hcap
    have hne : wi.heap.size ≠ w.heap.size := fun e => absurd EI.lr.lt (by omega)
    have hne' : ¬ w.heap.size = wi.heap.size := fun e => hne e.symm
    have e1 := EI.alloc (.cells #[.string ⟨#[]⟩, .int .i64 0, .int .i64 0, .string ⟨#[]⟩] 62)
    have l1 := Loc.new wi #[.string ⟨#[]⟩, .int .i64 0, .int .i64 0, .string ⟨#[]⟩] 62
    obtain ⟨r0, r1, r2, r3, rf0, rf1, rf2, rf3⟩ := e1.lr.rfour
    go_upto_region 10 with (go_at_call 68; refine (TX1.out _ e1.b).mono ?_; rintro e w3 ⟨st3, rfl, hb⟩; unfold rvC; have E2 := e1.below hb; have L2 := l1.below hb l1.lt; clear r0 r1 r2 r3 rf0 rf1 rf2 rf3 e1 l1 hb TX1; obtain ⟨r0, r1, r2, r3, rf0, rf1, rf2, rf3⟩ := E2.lr.rfour; obtain ⟨x0, x1, x2, x3, xf0, xf1, xf2, xf3⟩ := L2.rfour)
    have E3 := (EI.young E2 (a := ⟨wi.heap.size, 0, none⟩) (Nat.le_refl _) (.string kb)).putR ra st3
    have L3 := loc_put4o (L2.set 0 (.string kb)) hne (.slice A N c) (.int .i64 ra.pos) (.int .i64 ra.err) (.int .i64 st3)
    simp only [List.setIfInBounds_toArray, List.set_cons_zero] at L3
    unfold put4 at E3 L3
    obtain ⟨w4, hw4⟩ : ∃ w4, w4 = ((((w3.setCell ⟨wi.heap.size, 0, none⟩ (.string kb)).setCell ⟨w.heap.size, 0, none⟩ (.slice A N c)).setCell ⟨w.heap.size, 1, none⟩ (.int .i64 ra.pos)).setCell ⟨w.heap.size, 2, none⟩ (.int .i64 ra.err)).setCell ⟨w.heap.size, 3, none⟩ (.int .i64 st3) := ⟨_, rfl⟩
    rw [← hw4] at E3 L3 ⊢
    clear hw4 E2 L2 r0 r1 r2 r3 rf0 rf1 rf2 rf3 x0 x1 x2 x3 xf0 xf1 xf2 xf3
    obtain ⟨r0, r1, r2, r3, rf0, rf1, rf2, rf3⟩ := E3.lr.rfour
    go_upto_region 11 with (go_at_call 68; refine (TX2.out _ _ E3.b).mono ?_; rintro e w5 ⟨st5, rfl, hb⟩; unfold rvC; have E4 := E3.below hb; have L4 := L3.below hb L3.lt; clear r0 r1 r2 r3 rf0 rf1 rf2 rf3 E3 L3 hb TX2; obtain ⟨r0, r1, r2, r3, rf0, rf1, rf2, rf3⟩ := E4.lr.rfour)
    have E5 := E4.putR rc st5
    have L5 := loc_put4o L4 hne (.slice A N c) (.int .i64 rc.pos) (.int .i64 rc.err) (.int .i64 st5)
    unfold put4 at E5 L5
    obtain ⟨w6, hw6⟩ : ∃ w6, w6 = (((w5.setCell ⟨w.heap.size, 0, none⟩ (.slice A N c)).setCell ⟨w.heap.size, 1, none⟩ (.int .i64 rc.pos)).setCell ⟨w.heap.size, 2, none⟩ (.int .i64 rc.err)).setCell ⟨w.heap.size, 3, none⟩ (.int .i64 st5) := ⟨_, rfl⟩
    rw [← hw6] at E5 L5 ⊢
    clear hw6 E4 L4 r0 r1 r2 r3 rf0 rf1 rf2 rf3
    obtain ⟨r0, r1, r2, r3, rf0, rf1, rf2, rf3⟩ := E5.lr.rfour
    by_cases hrc : rc.err = 0
    ·have hst := HST.out
     rw [if_neg (by simpa using hrc)] at hst
     have t1 : (rc.err != 0) = false := by simp [hrc]
     have HRC := Lib.hid hrc
     have HST2 := Lib.hid hst
     clear hst HST hrc
     go_upto_region 13 with (fail)
     have htb := run_toBytes (P := Tryz.prog) 9 33 5 (ofBs t) Tryz.underlying9 Tryz.underlying33 Tryz.underlying5
     have hrs := (Row.str w6 (ofBs t) (grownCap w6 (ofBs t).size 0 5) 5)
     rw [show (ofBs t).data.toList = t from ofBs_data t] at hrs
     have hgc := grownCap_ge w6 (ofBs t).size 0 5
     have hb3 := ((Below.refl w6.heap.size w6).alloc (Nat.le_refl _) (strObj (ofBs t) (grownCap w6 (ofBs t).size 0 5) 5)).drew
     have HSR := Lib.hid hrs
     clear hrs
     have HGC := Lib.hid hgc
     go_upto_region 14 with (go_at_call 109; refine (HDE.out _ _ HSR.out.drew _ (by have := HGC.out; rw [← size_data, ofBs_data] at this; exact this)).mono ?_; rintro e w7 ⟨rfl, hb⟩; have E6 := (E5.below hb3).below hb; have L6 := (L5.below hb3 L5.lt).below hb (by have := L5.lt; have := hb3.size; omega); clear hb hb3 htb hgc r0 r1 r2 r3 rf0 rf1 rf2 rf3 E5 L5 HSR HGC HDE)
     have E7 := E6.alloc (.cells #[.int .i64 vk, .int .i64 vn, .string vt] 60)
     have L7 := L6.alloc (.cells #[.int .i64 vk, .int .i64 vn, .string vt] 60)
     have V7 := Loc.new w7 #[.int .i64 vk, .int .i64 vn, .string vt] 60
     obtain ⟨w8, hw8⟩ : ∃ w8, w8 = w7.alloc (.cells #[.int .i64 vk, .int .i64 vn, .string vt] 60) := ⟨_, rfl⟩
     rw [← hw8] at E7 L7 V7 ⊢
     clear hw8 E6 L6
     by_cases hve0 : ve = 0
     ·have hst := HST2.out
      rw [if_neg (by simpa using hve0)] at hst
      have t2 : (ve != 0) = false := by simp [hve0]
      have HST3 := Lib.hid hst
      clear hst HST2 hve0
      obtain ⟨v0, v1, v2, _⟩ := loc_three V7
      obtain ⟨x0, x1, x2, x3, xf0, xf1, xf2, xf3⟩ := L7.rfour
      go_upto_region 17 with (fail)
      have E8 := ((EI.young E7 (a := ⟨wi.heap.size, 1, none⟩) (Nat.le_refl _) (.int .i64 vk)))
      have E9 := ((EI.young E8 (a := ⟨wi.heap.size, 2, none⟩) (Nat.le_refl _) (.int .i64 vn)))
      have E10 := ((EI.young E9 (a := ⟨wi.heap.size, 3, none⟩) (Nat.le_refl _) (.string vt)))
      have L10 := ((L7.set 1 (.int .i64 vk)).set 2 (.int .i64 vn)).set 3 (.string vt)
      simp only [List.setIfInBounds_toArray, List.set_cons_zero, List.set_cons_succ] at L10
      obtain ⟨w9, hw9⟩ : ∃ w9, w9 = ((w8.setCell ⟨wi.heap.size, 1, none⟩ (.int .i64 vk)).setCell ⟨wi.heap.size, 2, none⟩ (.int .i64 vn)).setCell ⟨wi.heap.size, 3, none⟩ (.string vt) := ⟨_, rfl⟩
      rw [← hw9] at E10 L10 ⊢
      clear hw9 E7 E8 E9 L7 V7 v0 v1 v2 x0 x1 x2 x3 xf0 xf1 xf2 xf3
      obtain ⟨k10, k11, k12, k13, k14, k15, k16, k17⟩ := E10.lw.cells
      obtain ⟨x0, x1, x2, x3, _⟩ := L10.rfour
      simp only [RS.pw, show ((0 : Nat) : Int) = 0 from rfl] at k10 k11 k12 k13 k14 k15 k16 k17
      go_upto_region 18 with (go_at_call 50; refine (HENT.out _).mono ?_; rintro e w10 ⟨rfl, hb⟩; have E11 := E10.below hb; have L11 := L10.below hb L10.lt; clear hb E10 L10 HENT k10 k11 k12 k13 k14 k15 k16 k17 x0 x1 x2 x3)
      by_cases hee : EE = 0
      ·have hst := HST3.out
       rw [if_neg (by simpa using hee)] at hst
       have t3 : (EE != 0) = false := by simp [hee]
       have hst' : Q = rfShut (rfEnts N (M - (k + 1)) { sk with key := kb, entries := sk.entries ++ [⟨kb, ⟨vk, vn, vt⟩⟩] } rc) := hst
       have HST4 := Lib.hid hst'
       have hlen : sk.entries.length ≤ 100000000200 := by have := HEL.out; have := HNE.out; omega
       clear hst hst' HST3 hee
       obtain ⟨x0, x1, x2, x3, _⟩ := L11.rfour
       have f6 := Loc.free E11.lw 6
       have k6 := E11.lw.cells.2.2.2.2.2.2.1
       go_upto_region 21 with (fail)
       have E12 := E11.putW 6 (.string kb) (x' := { sk.pw f with key := kb }) rfl
       have L12 := L11.other (a := ⟨w.heap.size + 1, 6, none⟩) (fun e => absurd (Loc.lt EI.lw) (by simp only at e; omega)) (.string kb)
       obtain ⟨w11, hw11⟩ : ∃ w11, w11 = w10.setCell ⟨w.heap.size + 1, 6, none⟩ (.string kb) := ⟨_, rfl⟩
       rw [← hw11] at E12 L12 ⊢
       clear hw11 E11 L11 x0 x1 x2 x3 f6 k6
       have k4 : w11.cell? ⟨w.heap.size + 1, 4, none⟩ = some (.int .i64 sk.entries.length) := E12.lw.cells.2.2.2.2.1
       have f4 := Loc.free E12.lw 4
       go_upto_region 22 with (fail)
       have E13 := E12.putW 4 (.int .i64 ((sk.entries.length : Int) + 1)) (x' := ({ sk with key := kb, entries := sk.entries ++ [⟨kb, ⟨vk, vn, vt⟩⟩] } : RS).pw f) (by simp [PW.val, RS.pw])
       have L13 := L12.other (a := ⟨w.heap.size + 1, 4, none⟩) (fun e => absurd (Loc.lt EI.lw) (by simp only at e; omega)) (.int .i64 ((sk.entries.length : Int) + 1))
       obtain ⟨w12, hw12⟩ : ∃ w12, w12 = w11.setCell ⟨w.heap.size + 1, 4, none⟩ (.int .i64 ((sk.entries.length : Int) + 1)) := ⟨_, rfl⟩
       rw [← hw12] at E13 L13 ⊢
       clear hw12 E12 L12 k4 f4
       obtain ⟨x0, x1, x2, x3, _⟩ := L13.rfour
       have i3 := E13.c3.2.2.2
       have E14 := E13.alloc (.cells #[.string kb, .int .i64 vk, .int .i64 vn, .string vt] 62)
       have i3a := E14.c3.2.2.2
       have hown14 : (w12.alloc (.cells #[.string kb, .int .i64 vk, .int .i64 vn, .string vt] 62)).ownsRow 0 62 4 (.slice gk.E sk.entries.length gk.ce) sk.entries.length (entsCells sk.entries) := owns_base (base' := 0) E14.im.oe (fun _ _ => Nat.zero_le _)
       have hsrc := Row.src (P := Tryz.prog) (c := 1) (size := 4) (n := 1) (tx := 37) (Row.of_loc (Loc.new w12 #[.string kb, .int .i64 vk, .int .i64 vn, .string vt] 62)) Tryz.underlying37 rfl (by simp [Value.oneCell']) (fun h => by simp at h)
       have HSRC := Lib.hid hsrc
       have HOWN := Lib.hid hown14
       clear hsrc hown14
       have gi := E13.li.free 3
       go_wp2_with (at_builtin; refine wpList_append_mine _ rfl _ _ 37 37 rfl 62 (.agg #[.string ⟨#[]⟩, .int .i64 0, .int .i64 0, .string ⟨#[]⟩]) 4 48 Tryz.underlying37 infoEntry rfl (by decide) (.slice gk.E sk.entries.length gk.ce) sk.entries.length (entsCells sk.entries) rfl HOWN.out _ 1 _ rfl HSRC.out (by unfold maxLen; omega) (by omega) ?_; intro A3 c3 w13 hown hg hbl hx; have E15 := E14.addE (y := ⟨kb, ⟨vk, vn, vt⟩⟩) hown hg hbl; have LI := E14.grownE hg; clear hown hg hbl hx E14 E13 i3a i3 HOWN HSRC; have i3b := LI.cell 3; have g3b := LI.free 3; clear LI)
       go_roundw
       case rel =>
        refine ⟨k + 1, rc, st5, _, _, by omega, by go_num, E15, HXC, HPC, HRC, Lib.hid ?_, HST4⟩
        rw [List.length_append, HEL.out]
        rfl
       case measure => simp [intOf]; omega
      ·have hst := HST3.out
       rw [if_pos hee] at hst
       have t3 : (EE != 0) = true := by simpa using hee
       have HST4 := Lib.hid hst
       clear hst HST3 hee HXA HXC HPC HQX HQP HQE HEL HROW HZ HLC HNE HN L11
       go_upto_region 19 with (fail)
       obtain ⟨k10, k11, k12, k13, k14, k15, k16, k17⟩ := E11.lw.cells
       obtain ⟨m0, m1, m2, m3⟩ := E11.c3
       obtain ⟨f0, f1, f2, f3, f4, f5, f6, f7⟩ := E11.l6.free8
       obtain ⟨o0, o1, o2, o3, o4, o5, o6, o7⟩ := E11.l6.cells
       obtain ⟨n0, n1, n2, n3, e0, e1, e2, e3⟩ := E11.l7.rfour
       have HEE := Lib.hid E11
       have HQN : Hid (Q = none) := Lib.hid HST4.out
       clear E11
       go_region
       all_goals
        go_wp2
        have hres := HEE.out.no (f := f) HQN.out
        obtain ⟨L6, L7, _, _⟩ := HEE.out.fin
        obtain ⟨y0, y1, y2, y3, y4, y5, y6, y7⟩ := L6.cells
        have z0 := L7.cell 0; have z1 := L7.cell 1; have z2 := L7.cell 2; have z3 := L7.cell 3
        unfold putM put4 putV at hres y0 y1 y2 y3 y4 y5 y6 y7 z0 z1 z2 z3
        exact bodyPost_ret (v := .tuple #[.agg (sk.pw f).val, .agg (imV sk gk), .bool false]) (by simp [results, Tryz.results70, go_sem, y0, y1, y2, y3, y4, y5, y6, y7, z0, z1, z2, z3, PW.val, imV]) rfl hres
     ·have hst := HST2.out
      rw [if_pos hve0] at hst
      have t2 : (ve != 0) = true := by simpa using hve0
      have HST3 := Lib.hid hst
      clear hst HST2 hve0 HENT HXA HXC HPC HQX HQP HQE HEL HROW HZ HLC HNE HN L7 V7
      go_upto_region 15 with (fail)
      obtain ⟨k10, k11, k12, k13, k14, k15, k16, k17⟩ := E7.lw.cells
      obtain ⟨m0, m1, m2, m3⟩ := E7.c3
      obtain ⟨f0, f1, f2, f3, f4, f5, f6, f7⟩ := E7.l6.free8
      obtain ⟨o0, o1, o2, o3, o4, o5, o6, o7⟩ := E7.l6.cells
      obtain ⟨n0, n1, n2, n3, e0, e1, e2, e3⟩ := E7.l7.rfour
      have HEE := Lib.hid E7
      have HQN : Hid (Q = none) := Lib.hid HST3.out
      clear E7
      go_region
      all_goals
       go_wp2
       have hres := HEE.out.no (f := f) HQN.out
       obtain ⟨L6, L7, _, _⟩ := HEE.out.fin
       obtain ⟨y0, y1, y2, y3, y4, y5, y6, y7⟩ := L6.cells
       have z0 := L7.cell 0; have z1 := L7.cell 1; have z2 := L7.cell 2; have z3 := L7.cell 3
       unfold putM put4 putV at hres y0 y1 y2 y3 y4 y5 y6 y7 z0 z1 z2 z3
       exact bodyPost_ret (v := .tuple #[.agg (sk.pw f).val, .agg (imV sk gk), .bool false]) (by simp [results, Tryz.results70, go_sem, y0, y1, y2, y3, y4, y5, y6, y7, z0, z1, z2, z3, PW.val, imV]) rfl hres
    ·have hst := HST.out
     rw [if_pos hrc] at hst
     have t1 : (rc.err != 0) = true := by simpa using hrc
     have HST2 := Lib.hid hst
     clear hst HST hrc HENT HDE HXA HXC HPC HQX HQP HQE HEL HROW HZ HLC HNE HN L5
     go_upto_region 12 with (fail)
     obtain ⟨k10, k11, k12, k13, k14, k15, k16, k17⟩ := E5.lw.cells
     obtain ⟨m0, m1, m2, m3⟩ := E5.c3
     obtain ⟨f0, f1, f2, f3, f4, f5, f6, f7⟩ := E5.l6.free8
     obtain ⟨o0, o1, o2, o3, o4, o5, o6, o7⟩ := E5.l6.cells
     obtain ⟨n0, n1, n2, n3, e0, e1, e2, e3⟩ := E5.l7.rfour
     have HEE := Lib.hid E5
     have HQN : Hid (Q = none) := Lib.hid HST2.out
     clear E5
     go_region
     all_goals
      go_wp2
      have hres := HEE.out.no (f := f) HQN.out
      obtain ⟨L6, L7, _, _⟩ := HEE.out.fin
      obtain ⟨y0, y1, y2, y3, y4, y5, y6, y7⟩ := L6.cells
      have z0 := L7.cell 0; have z1 := L7.cell 1; have z2 := L7.cell 2; have z3 := L7.cell 3
      unfold putM put4 putV at hres y0 y1 y2 y3 y4 y5 y6 y7 z0 z1 z2 z3
      exact bodyPost_ret (v := .tuple #[.agg (sk.pw f).val, .agg (imV sk gk), .bool false]) (by simp [results, Tryz.results70, go_sem, y0, y1, y2, y3, y4, y5, y6, y7, z0, z1, z2, z3, PW.val, imV]) rfl hres
   ·obtain rfl : k = M := by omega
    have hst := HREL.out
    rw [Nat.sub_self] at hst
    have hst' : Q = if qk.end_ = 0 then some sk else none := hst
    have hl : N ≤ 140737488355328 := by rw [HN.out]; exact HLC.out.1
    have cend := fun W => rtend_any A c qk stk W (by rw [HQX.out, ← HN.out]; exact HQP.out) (by rw [HQX.out, ← HN.out]; exact hl)
    rw [HQX.out, ← HN.out] at cend
    obtain ⟨ee, hee⟩ : ∃ ee, ee = qk.end_ := ⟨_, rfl⟩
    rw [← hee] at cend hst'
    unfold rvC at cend
    have CE := Lib.hid cend
    have HST := Lib.hid hst'
    clear hst hst' hl cend hee HREL HQX HQP HQE HEL HROW HZ HLC HNE HN
    obtain ⟨r0, r1, r2, r3, _⟩ := EI.lr.rfour
    obtain ⟨k10, k11, k12, k13, k14, k15, k16, k17⟩ := EI.lw.cells
    obtain ⟨m0, m1, m2, m3⟩ := EI.c3
    have RI := EI.res
    obtain ⟨f0, f1, f2, f3, f4, f5, f6, f7⟩ := RI.l6.free8
    obtain ⟨o0, o1, o2, o3, o4, o5, o6, o7⟩ := RI.l6.cells
    obtain ⟨n0, n1, n2, n3⟩ := RI.c7
    obtain ⟨e0, e1, e2, e3⟩ := RI.f7
    have lta : w.heap.size + 4 < wi.heap.size := EI.l7.lt
    go_upto_region 23 with (fail)
    clear EI
    have RA0 := RI.drew
    have RA1 := (RI.put6 (sk.pw f)).drew
    have RA2 := (RI.put7 sk gk).drew
    have RA3 := ((RI.put6 (sk.pw f)).put7 sk gk).drew
    have RA4 := ((RI.put7 sk gk).put6 (sk.pw f)).drew
    unfold putV at RA1 RA3 RA4
    unfold putM put4 at RA2 RA3 RA4
    have RB0 := Lib.hid RA0
    have RB1 := Lib.hid RA1
    have RB2 := Lib.hid RA2
    have RB3 := Lib.hid RA3
    have RB4 := Lib.hid RA4
    clear RI RA0 RA1 RA2 RA3 RA4
    have hS : ∀ W W', Below W.heap.size W W' → (W.cell? ⟨w.heap.size, 0, none⟩ = some (.slice A N c) ∧ W.cell? ⟨w.heap.size, 1, none⟩ = some (.int .i64 qk.pos) ∧ W.cell? ⟨w.heap.size, 2, none⟩ = some (.int .i64 qk.err) ∧ W.cell? ⟨w.heap.size, 3, none⟩ = some (.int .i64 stk) ∧ W.cell? ⟨w.heap.size + 1, 0, none⟩ = some (.int .i64 (sk.pw f).number) ∧ W.cell? ⟨w.heap.size + 1, 1, none⟩ = some (.int .i64 (sk.pw f).mark) ∧ W.cell? ⟨w.heap.size + 1, 2, none⟩ = some (.int .i64 (sk.pw f).frames) ∧ W.cell? ⟨w.heap.size + 1, 3, none⟩ = some (.int .i64 (sk.pw f).procs) ∧ W.cell? ⟨w.heap.size + 1, 4, none⟩ = some (.int .i64 (sk.pw f).entries) ∧ W.cell? ⟨w.heap.size + 1, 5, none⟩ = some (.string (sk.pw f).name) ∧ W.cell? ⟨w.heap.size + 1, 6, none⟩ = some (.string (sk.pw f).key) ∧ W.cell? ⟨w.heap.size + 1, 7, none⟩ = some (.bool (sk.pw f).live) ∧ W.cell? ⟨w.heap.size + 2, 0, none⟩ = some (.int .i64 sk.number) ∧ W.cell? ⟨w.heap.size + 2, 1, none⟩ = some (.int .i64 sk.mark) ∧ W.cell? ⟨w.heap.size + 2, 2, none⟩ = some (.slice gk.P gk.pl.length gk.cp) ∧ W.cell? ⟨w.heap.size + 2, 3, none⟩ = some (.slice gk.E sk.entries.length gk.ce)) → (W'.cell? ⟨w.heap.size, 0, none⟩ = some (.slice A N c) ∧ W'.cell? ⟨w.heap.size, 1, none⟩ = some (.int .i64 qk.pos) ∧ W'.cell? ⟨w.heap.size, 2, none⟩ = some (.int .i64 qk.err) ∧ W'.cell? ⟨w.heap.size, 3, none⟩ = some (.int .i64 stk) ∧ W'.cell? ⟨w.heap.size + 1, 0, none⟩ = some (.int .i64 (sk.pw f).number) ∧ W'.cell? ⟨w.heap.size + 1, 1, none⟩ = some (.int .i64 (sk.pw f).mark) ∧ W'.cell? ⟨w.heap.size + 1, 2, none⟩ = some (.int .i64 (sk.pw f).frames) ∧ W'.cell? ⟨w.heap.size + 1, 3, none⟩ = some (.int .i64 (sk.pw f).procs) ∧ W'.cell? ⟨w.heap.size + 1, 4, none⟩ = some (.int .i64 (sk.pw f).entries) ∧ W'.cell? ⟨w.heap.size + 1, 5, none⟩ = some (.string (sk.pw f).name) ∧ W'.cell? ⟨w.heap.size + 1, 6, none⟩ = some (.string (sk.pw f).key) ∧ W'.cell? ⟨w.heap.size + 1, 7, none⟩ = some (.bool (sk.pw f).live) ∧ W'.cell? ⟨w.heap.size + 2, 0, none⟩ = some (.int .i64 sk.number) ∧ W'.cell? ⟨w.heap.size + 2, 1, none⟩ = some (.int .i64 sk.mark) ∧ W'.cell? ⟨w.heap.size + 2, 2, none⟩ = some (.slice gk.P gk.pl.length gk.cp) ∧ W'.cell? ⟨w.heap.size + 2, 3, none⟩ = some (.slice gk.E sk.entries.length gk.ce)) := fun W W' hb h => by
     obtain ⟨r0, r1, r2, r3, k10, k11, k12, k13, k14, k15, k16, k17, m0, m1, m2, m3⟩ := h
     have hc : ∀ p v, W.cell? p = some v → W'.cell? p = some v := fun p v h => (hb.cell (World.block_lt_of_cell? W p h)).trans h
     exact ⟨hc _ _ r0, hc _ _ r1, hc _ _ r2, hc _ _ r3, hc _ _ k10, hc _ _ k11, hc _ _ k12, hc _ _ k13, hc _ _ k14, hc _ _ k15, hc _ _ k16, hc _ _ k17, hc _ _ m0, hc _ _ m1, hc _ _ m2, hc _ _ m3⟩
    have HS := Lib.hid hS
    have h6 : ∀ W, (W.cell? ⟨w.heap.size, 0, none⟩ = some (.slice A N c) ∧ W.cell? ⟨w.heap.size, 1, none⟩ = some (.int .i64 qk.pos) ∧ W.cell? ⟨w.heap.size, 2, none⟩ = some (.int .i64 qk.err) ∧ W.cell? ⟨w.heap.size, 3, none⟩ = some (.int .i64 stk) ∧ W.cell? ⟨w.heap.size + 1, 0, none⟩ = some (.int .i64 (sk.pw f).number) ∧ W.cell? ⟨w.heap.size + 1, 1, none⟩ = some (.int .i64 (sk.pw f).mark) ∧ W.cell? ⟨w.heap.size + 1, 2, none⟩ = some (.int .i64 (sk.pw f).frames) ∧ W.cell? ⟨w.heap.size + 1, 3, none⟩ = some (.int .i64 (sk.pw f).procs) ∧ W.cell? ⟨w.heap.size + 1, 4, none⟩ = some (.int .i64 (sk.pw f).entries) ∧ W.cell? ⟨w.heap.size + 1, 5, none⟩ = some (.string (sk.pw f).name) ∧ W.cell? ⟨w.heap.size + 1, 6, none⟩ = some (.string (sk.pw f).key) ∧ W.cell? ⟨w.heap.size + 1, 7, none⟩ = some (.bool (sk.pw f).live) ∧ W.cell? ⟨w.heap.size + 2, 0, none⟩ = some (.int .i64 sk.number) ∧ W.cell? ⟨w.heap.size + 2, 1, none⟩ = some (.int .i64 sk.mark) ∧ W.cell? ⟨w.heap.size + 2, 2, none⟩ = some (.slice gk.P gk.pl.length gk.cp) ∧ W.cell? ⟨w.heap.size + 2, 3, none⟩ = some (.slice gk.E sk.entries.length gk.ce)) → ((putV W (w.heap.size + 3) (sk.pw f)).cell? ⟨w.heap.size, 0, none⟩ = some (.slice A N c) ∧ (putV W (w.heap.size + 3) (sk.pw f)).cell? ⟨w.heap.size, 1, none⟩ = some (.int .i64 qk.pos) ∧ (putV W (w.heap.size + 3) (sk.pw f)).cell? ⟨w.heap.size, 2, none⟩ = some (.int .i64 qk.err) ∧ (putV W (w.heap.size + 3) (sk.pw f)).cell? ⟨w.heap.size, 3, none⟩ = some (.int .i64 stk) ∧ (putV W (w.heap.size + 3) (sk.pw f)).cell? ⟨w.heap.size + 1, 0, none⟩ = some (.int .i64 (sk.pw f).number) ∧ (putV W (w.heap.size + 3) (sk.pw f)).cell? ⟨w.heap.size + 1, 1, none⟩ = some (.int .i64 (sk.pw f).mark) ∧ (putV W (w.heap.size + 3) (sk.pw f)).cell? ⟨w.heap.size + 1, 2, none⟩ = some (.int .i64 (sk.pw f).frames) ∧ (putV W (w.heap.size + 3) (sk.pw f)).cell? ⟨w.heap.size + 1, 3, none⟩ = some (.int .i64 (sk.pw f).procs) ∧ (putV W (w.heap.size + 3) (sk.pw f)).cell? ⟨w.heap.size + 1, 4, none⟩ = some (.int .i64 (sk.pw f).entries) ∧ (putV W (w.heap.size + 3) (sk.pw f)).cell? ⟨w.heap.size + 1, 5, none⟩ = some (.string (sk.pw f).name) ∧ (putV W (w.heap.size + 3) (sk.pw f)).cell? ⟨w.heap.size + 1, 6, none⟩ = some (.string (sk.pw f).key) ∧ (putV W (w.heap.size + 3) (sk.pw f)).cell? ⟨w.heap.size + 1, 7, none⟩ = some (.bool (sk.pw f).live) ∧ (putV W (w.heap.size + 3) (sk.pw f)).cell? ⟨w.heap.size + 2, 0, none⟩ = some (.int .i64 sk.number) ∧ (putV W (w.heap.size + 3) (sk.pw f)).cell? ⟨w.heap.size + 2, 1, none⟩ = some (.int .i64 sk.mark) ∧ (putV W (w.heap.size + 3) (sk.pw f)).cell? ⟨w.heap.size + 2, 2, none⟩ = some (.slice gk.P gk.pl.length gk.cp) ∧ (putV W (w.heap.size + 3) (sk.pw f)).cell? ⟨w.heap.size + 2, 3, none⟩ = some (.slice gk.E sk.entries.length gk.ce)) := fun W h => by
     obtain ⟨r0, r1, r2, r3, k10, k11, k12, k13, k14, k15, k16, k17, m0, m1, m2, m3⟩ := h
     exact ⟨(putV_far W _ _ (by omega) _).trans r0, (putV_far W _ _ (by omega) _).trans r1, (putV_far W _ _ (by omega) _).trans r2, (putV_far W _ _ (by omega) _).trans r3, (putV_far W _ _ (by omega) _).trans k10, (putV_far W _ _ (by omega) _).trans k11, (putV_far W _ _ (by omega) _).trans k12, (putV_far W _ _ (by omega) _).trans k13, (putV_far W _ _ (by omega) _).trans k14, (putV_far W _ _ (by omega) _).trans k15, (putV_far W _ _ (by omega) _).trans k16, (putV_far W _ _ (by omega) _).trans k17, (putV_far W _ _ (by omega) _).trans m0, (putV_far W _ _ (by omega) _).trans m1, (putV_far W _ _ (by omega) _).trans m2, (putV_far W _ _ (by omega) _).trans m3⟩
    have h7 : ∀ W, (W.cell? ⟨w.heap.size, 0, none⟩ = some (.slice A N c) ∧ W.cell? ⟨w.heap.size, 1, none⟩ = some (.int .i64 qk.pos) ∧ W.cell? ⟨w.heap.size, 2, none⟩ = some (.int .i64 qk.err) ∧ W.cell? ⟨w.heap.size, 3, none⟩ = some (.int .i64 stk) ∧ W.cell? ⟨w.heap.size + 1, 0, none⟩ = some (.int .i64 (sk.pw f).number) ∧ W.cell? ⟨w.heap.size + 1, 1, none⟩ = some (.int .i64 (sk.pw f).mark) ∧ W.cell? ⟨w.heap.size + 1, 2, none⟩ = some (.int .i64 (sk.pw f).frames) ∧ W.cell? ⟨w.heap.size + 1, 3, none⟩ = some (.int .i64 (sk.pw f).procs) ∧ W.cell? ⟨w.heap.size + 1, 4, none⟩ = some (.int .i64 (sk.pw f).entries) ∧ W.cell? ⟨w.heap.size + 1, 5, none⟩ = some (.string (sk.pw f).name) ∧ W.cell? ⟨w.heap.size + 1, 6, none⟩ = some (.string (sk.pw f).key) ∧ W.cell? ⟨w.heap.size + 1, 7, none⟩ = some (.bool (sk.pw f).live) ∧ W.cell? ⟨w.heap.size + 2, 0, none⟩ = some (.int .i64 sk.number) ∧ W.cell? ⟨w.heap.size + 2, 1, none⟩ = some (.int .i64 sk.mark) ∧ W.cell? ⟨w.heap.size + 2, 2, none⟩ = some (.slice gk.P gk.pl.length gk.cp) ∧ W.cell? ⟨w.heap.size + 2, 3, none⟩ = some (.slice gk.E sk.entries.length gk.ce)) → ((putM W (w.heap.size + 4) sk gk).cell? ⟨w.heap.size, 0, none⟩ = some (.slice A N c) ∧ (putM W (w.heap.size + 4) sk gk).cell? ⟨w.heap.size, 1, none⟩ = some (.int .i64 qk.pos) ∧ (putM W (w.heap.size + 4) sk gk).cell? ⟨w.heap.size, 2, none⟩ = some (.int .i64 qk.err) ∧ (putM W (w.heap.size + 4) sk gk).cell? ⟨w.heap.size, 3, none⟩ = some (.int .i64 stk) ∧ (putM W (w.heap.size + 4) sk gk).cell? ⟨w.heap.size + 1, 0, none⟩ = some (.int .i64 (sk.pw f).number) ∧ (putM W (w.heap.size + 4) sk gk).cell? ⟨w.heap.size + 1, 1, none⟩ = some (.int .i64 (sk.pw f).mark) ∧ (putM W (w.heap.size + 4) sk gk).cell? ⟨w.heap.size + 1, 2, none⟩ = some (.int .i64 (sk.pw f).frames) ∧ (putM W (w.heap.size + 4) sk gk).cell? ⟨w.heap.size + 1, 3, none⟩ = some (.int .i64 (sk.pw f).procs) ∧ (putM W (w.heap.size + 4) sk gk).cell? ⟨w.heap.size + 1, 4, none⟩ = some (.int .i64 (sk.pw f).entries) ∧ (putM W (w.heap.size + 4) sk gk).cell? ⟨w.heap.size + 1, 5, none⟩ = some (.string (sk.pw f).name) ∧ (putM W (w.heap.size + 4) sk gk).cell? ⟨w.heap.size + 1, 6, none⟩ = some (.string (sk.pw f).key) ∧ (putM W (w.heap.size + 4) sk gk).cell? ⟨w.heap.size + 1, 7, none⟩ = some (.bool (sk.pw f).live) ∧ (putM W (w.heap.size + 4) sk gk).cell? ⟨w.heap.size + 2, 0, none⟩ = some (.int .i64 sk.number) ∧ (putM W (w.heap.size + 4) sk gk).cell? ⟨w.heap.size + 2, 1, none⟩ = some (.int .i64 sk.mark) ∧ (putM W (w.heap.size + 4) sk gk).cell? ⟨w.heap.size + 2, 2, none⟩ = some (.slice gk.P gk.pl.length gk.cp) ∧ (putM W (w.heap.size + 4) sk gk).cell? ⟨w.heap.size + 2, 3, none⟩ = some (.slice gk.E sk.entries.length gk.ce)) := fun W h => by
     obtain ⟨r0, r1, r2, r3, k10, k11, k12, k13, k14, k15, k16, k17, m0, m1, m2, m3⟩ := h
     exact ⟨(putM_far W _ _ _ (by omega) _).trans r0, (putM_far W _ _ _ (by omega) _).trans r1, (putM_far W _ _ _ (by omega) _).trans r2, (putM_far W _ _ _ (by omega) _).trans r3, (putM_far W _ _ _ (by omega) _).trans k10, (putM_far W _ _ _ (by omega) _).trans k11, (putM_far W _ _ _ (by omega) _).trans k12, (putM_far W _ _ _ (by omega) _).trans k13, (putM_far W _ _ _ (by omega) _).trans k14, (putM_far W _ _ _ (by omega) _).trans k15, (putM_far W _ _ _ (by omega) _).trans k16, (putM_far W _ _ _ (by omega) _).trans k17, (putM_far W _ _ _ (by omega) _).trans m0, (putM_far W _ _ _ (by omega) _).trans m1, (putM_far W _ _ _ (by omega) _).trans m2, (putM_far W _ _ _ (by omega) _).trans m3⟩
    have h67 := fun W h => h7 _ (h6 W h)
    have h76 := fun W h => h6 _ (h7 W h)
    unfold putV at h6 h67 h76
    unfold putM put4 at h7 h67 h76
    have H6 := Lib.hid h6
    have H7 := Lib.hid h7
    have H67 := Lib.hid h67
    have H76 := Lib.hid h76
    clear hS h6 h7 h67 h76
    go_region_held3 (fun W => W.cell? ⟨w.heap.size, 0, none⟩ = some (.slice A N c) ∧ W.cell? ⟨w.heap.size, 1, none⟩ = some (.int .i64 qk.pos) ∧ W.cell? ⟨w.heap.size, 2, none⟩ = some (.int .i64 qk.err) ∧ W.cell? ⟨w.heap.size, 3, none⟩ = some (.int .i64 stk) ∧ W.cell? ⟨w.heap.size + 1, 0, none⟩ = some (.int .i64 (sk.pw f).number) ∧ W.cell? ⟨w.heap.size + 1, 1, none⟩ = some (.int .i64 (sk.pw f).mark) ∧ W.cell? ⟨w.heap.size + 1, 2, none⟩ = some (.int .i64 (sk.pw f).frames) ∧ W.cell? ⟨w.heap.size + 1, 3, none⟩ = some (.int .i64 (sk.pw f).procs) ∧ W.cell? ⟨w.heap.size + 1, 4, none⟩ = some (.int .i64 (sk.pw f).entries) ∧ W.cell? ⟨w.heap.size + 1, 5, none⟩ = some (.string (sk.pw f).name) ∧ W.cell? ⟨w.heap.size + 1, 6, none⟩ = some (.string (sk.pw f).key) ∧ W.cell? ⟨w.heap.size + 1, 7, none⟩ = some (.bool (sk.pw f).live) ∧ W.cell? ⟨w.heap.size + 2, 0, none⟩ = some (.int .i64 sk.number) ∧ W.cell? ⟨w.heap.size + 2, 1, none⟩ = some (.int .i64 sk.mark) ∧ W.cell? ⟨w.heap.size + 2, 2, none⟩ = some (.slice gk.P gk.pl.length gk.cp) ∧ W.cell? ⟨w.heap.size + 2, 3, none⟩ = some (.slice gk.E sk.entries.length gk.ce)) (first | (with_reducible exact zz) | (with_reducible exact z6) | (with_reducible exact z7) | (with_reducible exact z67) | (with_reducible exact z76) | exact ⟨r0, r1, r2, r3, k10, k11, k12, k13, k14, k15, k16, k17, m0, m1, m2, m3⟩) ((go_at_call 67; refine (CE.out _).mono ?_; rintro e w5 ⟨rfl, hb⟩; have zz := HS.out _ _ hb ⟨r0, r1, r2, r3, k10, k11, k12, k13, k14, k15, k16, k17, m0, m1, m2, m3⟩; have z6 := H6.out _ zz; have z7 := H7.out _ zz; have z67 := H67.out _ zz; have z76 := H76.out _ zz; have R5 := RB0.out.below hb; have HR5 := Lib.hid R5; clear R5; clear hb; obtain ⟨pa0, pa1, pa2, pa3, pa4, pa5, pa6, pa7⟩ := HR5.out.l6.cells; obtain ⟨pb0, pb1, pb2, pb3, pb4, pb5, pb6, pb7⟩ := HR5.out.l6.free8; obtain ⟨pc0, pc1, pc2, pc3⟩ := HR5.out.c7; obtain ⟨pd0, pd1, pd2, pd3⟩ := HR5.out.f7))
    all_goals
     clear zz z6 z7 z67 z76
     go_wp2
     refine ResL.ret (B := B) (w := w) (a6 := w.heap.size + 3) (a7 := w.heap.size + 4) (g0 := g) (s := sk) (g := gk) (y6 := sk.pw f) (s7 := sk) (g7 := gk) (v := .tuple #[.agg (sk.pw f).val, .agg (imV sk gk), .bool (ee == 0)]) ?_ ?_ rfl ?_
     ·have RA0 := HR5.out
      have RA1 := HR5.out.put6 (sk.pw f)
      have RA2 := HR5.out.put7 sk gk
      have RA3 := (HR5.out.put6 (sk.pw f)).put7 sk gk
      have RA4 := (HR5.out.put7 sk gk).put6 (sk.pw f)
      unfold putV at RA1 RA3 RA4
      unfold putM put4 at RA2 RA3 RA4
      first | (with_reducible exact RA0) | (with_reducible exact RA1) | (with_reducible exact RA2) | (with_reducible exact RA3) | (with_reducible exact RA4)
     ·rintro ⟨y0, y1, y2, y3, y4, y5, y6, y7⟩ ⟨z0, z1, z2, z3⟩
      simp [results, Tryz.results70, go_sem, y0, y1, y2, y3, y4, y5, y6, y7, z0, z1, z2, z3, PW.val, imV]
     ·intro RF
      by_cases hE : ee = 0
      ·have h1 : (ee == 0) = true := by simp [hE]
       rw [h1]
       exact RF.yes (by rw [HST.out, if_pos hE])
      ·have h1 : (ee == 0) = false := by simpa using hE
       rw [h1]
       exact RF.no (by rw [HST.out, if_neg hE])
end Go.Proofs.YtnieminnnkbneaaGreat

namespace Go.Proofs.YtnieminnnkbneaaGreat
open Go.RowKit
set_option linter.unusedVariables false

def okF (o b : Bool) (x m : Array Value) : Ending := .returned (.tuple #[.agg x, .agg m, .bool b, .bool o])
/-- What frame answers. -/
def GPost (B : Nat) (w : World) (g : RG) (over : Bool) (q : Option RS) (e : Ending) (w' : World) : Prop :=
 Keep w.heap.size g.F w w' ∧
  (∀ s', q = some s' → ∃ g', e = okF over true (s'.pw s'.frames).val (imV s' g') ∧ Img B w' s' g' ∧ ∀ k, g'.F k → g.F k ∨ w.heap.size ≤ k) ∧
  (q = none → ∃ (o : Bool) (x : PW) (s7 : RS) (g7 : RG), e = okF o false x.val (imV s7 g7))
theorem ResL.noF {B : Nat} {w W : World} {a6 a7 : Nat} {g0 g g7 : RG} {s s7 : RS} {x : PW} {Q : Option RS} {o over : Bool} (h : ResL B w W a6 a7 g0 s g x s7 g7) (hQ : Q = none) : GPost B w g0 over Q (okF o false x.val (imV s7 g7)) W :=
 ⟨h.b, fun s' h' => (by rw [hQ] at h'; cases h'), fun _ => ⟨o, x, s7, g7, rfl⟩⟩
theorem ResL.yesF {B : Nat} {w W : World} {a6 a7 : Nat} {g0 g : RG} {s : RS} {Q : Option RS} {over : Bool} (h : ResL B w W a6 a7 g0 s g (s.pw s.frames) s g) (hQ : Q = some s) : GPost B w g0 over Q (okF over true (s.pw s.frames).val (imV s g)) W :=
 ⟨h.b, fun s' h' => (by rw [hQ] at h'; cases h'; exact ⟨g, rfl, h.im, h.hF⟩), fun h' => (by rw [hQ] at h'; cases h')⟩
theorem ResL.yesH {B : Nat} {w W : World} {a6 a7 : Nat} {g0 g : RG} {s : RS} {x : PW} {Q : Option RS} {over : Bool} {f : Nat} (h : ResL B w W a6 a7 g0 s g x s g) (hx : x = s.pw f) (hQ : Q = some { s with frames := f }) : GPost B w g0 over Q (okF over true x.val (imV s g)) W := by
 subst hx
 exact ⟨h.b, fun s' h' => (by rw [hQ] at h'; cases h'; exact ⟨g, rfl, h.im.same rfl rfl, h.hF⟩), fun h' => (by rw [hQ] at h'; cases h')⟩
theorem ResL.img {B : Nat} {w W : World} {a6 a7 : Nat} {g0 g g7 : RG} {s s' s7 : RS} {x : PW} (h : ResL B w W a6 a7 g0 s g x s7 g7) (h1 : s'.procs = s.procs) (h2 : s'.entries = s.entries) : ResL B w W a6 a7 g0 s' g x s7 g7 :=
 ⟨h.l6, h.l7, h.im.same h1 h2, h.b, h.hF, h.h6, h.h7, h.ne⟩
/-- A block of another type, or a later one, is written. -/
theorem ResL.other {B : Nat} {w W : World} {a6 a7 : Nat} {g0 g g7 : RG} {s s7 : RS} {x : PW} {b : Nat} {c : Array Value} {t : TypeId} (h : ResL B w W a6 a7 g0 s g x s7 g7) (hl : Loc W b c t) (h2 : 54 ≠ t) (h3 : 109 ≠ t) (h4 : 62 ≠ t) (hb : w.heap.size ≤ b) (n6 : a6 ≠ b) (n7 : a7 ≠ b) (i : Nat) (v : Value) : ResL B w (W.setCell ⟨b, i, none⟩ v) a6 a7 g0 s g x s7 g7 :=
 ⟨Loc.other h.l6 (a := ⟨b, i, none⟩) n6 v, h.l7.other (a := ⟨b, i, none⟩) n7 v, h.im.other hl h2 h3 h4 i v, h.b.setCell (p := ⟨b, i, none⟩) (.inl hb) v, h.hF, h.h6, h.h7, h.ne⟩

/-- What stands while frame runs: the writer, the image, the two results; the reader. -/
structure FrS (B : Nat) (w W : World) (g0 : RG) (rb : Nat) (A : Option Addr) (n c : Nat) (q : Rdr) (st : Int) (x : PW) (s : RS) (g : RG) : Prop where
 lr : Loc W rb (rvC A n c q.pos q.err st) 126
 lw : VLoc W w.heap.size x
 li : Loc W (w.heap.size + 1) (imV s g) 41
 r : ResL B w W (w.heap.size + 2) (w.heap.size + 3) g0 s g PW.zero RS.zero RG.zero
 hrb : w.heap.size + 4 ≤ rb
namespace FrS
variable {B : Nat} {w W V : World} {g0 g : RG} {rb : Nat} {A : Option Addr} {n c : Nat} {q : Rdr} {st : Int} {x : PW} {s : RS}
theorem below (h : FrS B w W g0 rb A n c q st x s g) (hb : Below W.heap.size W V) : FrS B w V g0 rb A n c q st x s g :=
 ⟨h.lr.below hb h.lr.lt, Loc.below h.lw hb (Loc.lt h.lw), h.li.below hb h.li.lt, h.r.below hb, h.hrb⟩
theorem drew (h : FrS B w W g0 rb A n c q st x s g) : FrS B w W.drew g0 rb A n c q st x s g := h.below (Below.refl _ _).drew
theorem alloc (h : FrS B w W g0 rb A n c q st x s g) (o : Obj) : FrS B w (W.alloc o) g0 rb A n c q st x s g := h.below ((Below.refl _ _).alloc (Nat.le_refl _) o)
theorem b (h : FrS B w W g0 rb A n c q st x s g) : Keep w.heap.size g0.F w W := h.r.b
theorem putR (h : FrS B w W g0 rb A n c q st x s g) (q' : Rdr) (st' : Int) : FrS B w (put4 W rb (.slice A n c) (.int .i64 q'.pos) (.int .i64 q'.err) (.int .i64 st')) g0 rb A n c q' st' x s g := by
 have hrb := h.hrb
 have L0 := h.lr
 have L1 := L0.set 0 (.slice A n c)
 have L2 := L1.set 1 (.int .i64 q'.pos)
 have L3 := L2.set 2 (.int .i64 q'.err)
 have L4 := L3.set 3 (.int .i64 st')
 refine ⟨L4, loc_put4o h.lw (by omega) _ _ _ _, loc_put4o h.li (by omega) _ _ _ _, ?_, hrb⟩
 exact (((h.r.other L0 (by decide) (by decide) (by decide) (by omega) (by omega) (by omega) 0 _).other L1 (by decide) (by decide) (by decide) (by omega) (by omega) (by omega) 1 _).other L2 (by decide) (by decide) (by decide) (by omega) (by omega) (by omega) 2 _).other L3 (by decide) (by decide) (by decide) (by omega) (by omega) (by omega) 3 _
theorem putW (h : FrS B w W g0 rb A n c q st x s g) (i : Nat) (v : Value) {x' : PW} (hx : x'.val = x.val.setIfInBounds i v) : FrS B w (W.setCell ⟨w.heap.size, i, none⟩ v) g0 rb A n c q st x' s g := by
 have hrb := h.hrb
 have L := Loc.set h.lw i v
 rw [← hx] at L
 exact ⟨h.lr.other (a := ⟨w.heap.size, i, none⟩) (by show rb ≠ w.heap.size; omega) v, L, h.li.other (a := ⟨w.heap.size, i, none⟩) (by show w.heap.size + 1 ≠ w.heap.size; omega) v, h.r.other h.lw (by decide) (by decide) (by decide) (Nat.le_refl _) (by omega) (by omega) i v, hrb⟩
/-- A number of the image is laid. -/
theorem putN (h : FrS B w W g0 rb A n c q st x s g) (i : Nat) (v : Value) {s' : RS} (hc : imV s' g = (imV s g).setIfInBounds i v) (h1 : s'.procs = s.procs) (h2 : s'.entries = s.entries) : FrS B w (W.setCell ⟨w.heap.size + 1, i, none⟩ v) g0 rb A n c q st x s' g := by
 have hrb := h.hrb
 have L := h.li.set i v
 rw [← hc] at L
 exact ⟨h.lr.other (a := ⟨w.heap.size + 1, i, none⟩) (by show rb ≠ w.heap.size + 1; omega) v, Loc.other h.lw (a := ⟨w.heap.size + 1, i, none⟩) (by show w.heap.size ≠ w.heap.size + 1; omega) v, L, (h.r.other h.li (by decide) (by decide) (by decide) (by omega) (by omega) (by omega) i v).img h1 h2, hrb⟩
theorem c3 (h : FrS B w W g0 rb A n c q st x s g) : W.cell? ⟨w.heap.size + 1, 0, none⟩ = some (.int .i64 s.number) ∧ W.cell? ⟨w.heap.size + 1, 1, none⟩ = some (.int .i64 s.mark) ∧ W.cell? ⟨w.heap.size + 1, 2, none⟩ = some (.slice g.P g.pl.length g.cp) ∧ W.cell? ⟨w.heap.size + 1, 3, none⟩ = some (.slice g.E s.entries.length g.ce) :=
 ⟨h.li.cell 0, h.li.cell 1, h.li.cell 2, h.li.cell 3⟩
theorem grownP (h : FrS B w W g0 rb A n c q st x s g) (hg : W.grownBy V (Value.slice g.P g.pl.length g.cp).ownBlock) : Loc V (w.heap.size + 1) (imV s g) 41 := h.li.grown hg (owns_ne h.r.im.op h.li (by decide))
/-- A procedure is appended, and the row laid. -/
theorem addP {X : PrcC} {P : Option Addr} {cp : Nat} (h : FrS B w W g0 rb A n c q st x s g) (hX : X.own W B) (ho : V.ownsRow 0 54 3 (.slice P (g.pl.length + 1) cp) (g.pl.length + 1) (prcsCells g.pl ++ X.cells.toList)) (hg : W.grownBy V (Value.slice g.P g.pl.length g.cp).ownBlock)
  (hb : ∀ k, (Value.slice P (g.pl.length + 1) cp).ownBlock = some k → (Value.slice g.P g.pl.length g.cp).ownBlock = some k ∨ k = W.heap.size) (hB : B ≤ w.heap.size) :
  FrS B w (V.setCell ⟨w.heap.size + 1, 2, none⟩ (.slice P (g.pl.length + 1) cp)) g0 rb A n c q st x { s with name := X.p.name, procs := s.procs ++ [X.p] } { g with pl := g.pl ++ [X], P := P, cp := cp } := by
 have hrb := h.hrb
 have hsz : w.heap.size ≤ W.heap.size := h.r.b.size
 have li := h.grownP hg
 have lr := h.lr.grown hg (owns_ne h.r.im.op h.lr (by decide))
 have lw := Loc.grown h.lw hg (owns_ne h.r.im.op h.lw (by decide))
 have l6 := Loc.grown h.r.l6 hg (owns_ne h.r.im.op h.r.l6 (by decide))
 have l7 := h.r.l7.grown hg (owns_ne h.r.im.op h.r.l7 (by decide))
 have oe := owns_two h.r.im.op h.r.im.oe (by decide) hg
 have oc := fun y hy => owns_two h.r.im.op (h.r.im.oc y hy) (by decide) hg
 have oX : X.own V B := owns_two h.r.im.op hX (by decide) hg
 have op := own_grown h.r.im.op ho hb (Nat.le_trans hB hsz)
 have hlen : (g.pl ++ [X]).length = g.pl.length + 1 := by simp
 have hbb := fun (k : Nat) (hk : (Value.slice g.P g.pl.length g.cp).ownBlock = some k) => h.r.hF k (.inl (obP hk))
 refine ⟨lr.other (a := ⟨w.heap.size + 1, 2, none⟩) (by show rb ≠ w.heap.size + 1; omega) _, Loc.other lw (a := ⟨w.heap.size + 1, 2, none⟩) (by show w.heap.size ≠ w.heap.size + 1; omega) _, ?_, ⟨Loc.other l6 (a := ⟨w.heap.size + 1, 2, none⟩) (by show w.heap.size + 2 ≠ w.heap.size + 1; omega) _, l7.other (a := ⟨w.heap.size + 1, 2, none⟩) (by show w.heap.size + 3 ≠ w.heap.size + 1; omega) _, ⟨?_, ?_, fun z hz => ?_, ?_⟩, ?_, ?_, h.r.h6, h.r.h7, h.r.ne⟩, hrb⟩
 ·have := li.set 2 (.slice P (g.pl.length + 1) cp)
  rw [← hlen] at this ⊢
  exact this
 ·show (g.pl ++ [X]).map (·.p) = s.procs ++ [X.p]
  rw [List.map_append, h.r.im.hp]
  rfl
 ·have := owns_setCell (a := ⟨w.heap.size + 1, 2, none⟩) op (owns_ne op li (by decide)) (.slice P (g.pl.length + 1) cp)
  have e : prcsCells (g.pl ++ [X]) = prcsCells g.pl ++ X.cells.toList := by simp [prcsCells]
  show World.ownsRow _ _ _ _ _ _ (prcsCells (g.pl ++ [X]))
  rw [e]
  show World.ownsRow _ _ _ _ (.slice P (g.pl ++ [X]).length cp) (g.pl ++ [X]).length _
  rw [hlen]
  exact this
 ·rcases List.mem_append.1 hz with hz | hz
  ·exact owns_setCell (a := ⟨w.heap.size + 1, 2, none⟩) (oc z hz) (owns_ne (oc z hz) li (by decide)) _
  ·rw [List.mem_singleton.1 hz]
   exact owns_setCell (a := ⟨w.heap.size + 1, 2, none⟩) oX (owns_ne oX li (by decide)) _
 ·exact owns_setCell (a := ⟨w.heap.size + 1, 2, none⟩) oe (owns_ne oe li (by decide)) _
 ·refine (h.r.b.grown hg hsz (fun k hk => ?_)).setCell (p := ⟨w.heap.size + 1, 2, none⟩) (.inl (by show w.heap.size ≤ w.heap.size + 1; omega)) _
  rcases hbb k hk with h1 | h1
  ·exact .inr h1
  ·exact .inl h1
 ·intro k hk
  rcases hk with hk | hk
  ·rcases hb k (obP hk) with h1 | h1
   ·exact hbb k h1
   ·exact .inr (by omega)
  ·exact h.r.hF k (.inr hk)
/-- A reading of a part has gone on with the rows. -/
theorem kept (h : FrS B w W g0 rb A n c q st x s g) (hK : Keep W.heap.size g.F W V) {s7 : RS} {g7 : RG} (hI : Img B V s7 g7) (hF : ∀ k, g7.F k → g.F k ∨ W.heap.size ≤ k) :
  VLoc V w.heap.size x ∧ ResL B w V (w.heap.size + 2) (w.heap.size + 3) g0 s7 g7 PW.zero RS.zero RG.zero := by
 have hsz : w.heap.size ≤ W.heap.size := h.r.b.size
 have nF : ∀ {b : Nat} {cs : Array Value} {t : TypeId}, Loc W b cs t → 54 ≠ t → 62 ≠ t → ¬ g.F b := fun hl h1 h2 hf => by
  rcases hf with hf | hf
  ·exact owns_ne h.r.im.op hl h1 (obP hf)
  ·exact owns_ne h.r.im.oe hl h2 (obP hf)
 refine ⟨Loc.keep h.lw hK (Loc.lt h.lw) (nF h.lw (by decide) (by decide)), Loc.keep h.r.l6 hK (Loc.lt h.r.l6) (nF h.r.l6 (by decide) (by decide)), h.r.l7.keep hK h.r.l7.lt (nF h.r.l7 (by decide) (by decide)), hI, ?_, fun k hk => ?_, h.r.h6, h.r.h7, h.r.ne⟩
 ·refine h.r.b.step hK hsz (fun i hi hg => ?_)
  rcases h.r.hF i hg with h1 | h1
  ·exact h1
  ·omega
 ·rcases hF k hk with h1 | h1
  ·exact h.r.hF k h1
  ·exact .inr (by omega)
end FrS
theorem take_at2 {P : Program} {md : Region.Mode} {ops : Array Oper} {Q : Exit → Act → World → Prop} {S : World → Prop} (i d : Nat) {oi : Oper} {v : Value} {fuel : Nat} {listed : Array Bool} {a : Act} {w : World} (hi : ops[i]? = some oi) (hd : oi.dst = some d)
  (hh : (Region.noSelect ops && (Region.free md ops listed i && (Region.ready md ops listed).contains i)) = true)
  (hQ : ∀ c a w, Q (.panic c) (a.put oi.dst v) w → Q (.panic c) a w) (hy : YieldsIf P ops S oi v a) (hS : S w)
  (h : wpAnyH P md ops Q S fuel (listed.setIfInBounds i true) (a.put (some d) v) w) : wpAnyH P md ops Q S (fuel + 1) listed a w := by
 simp only [Bool.and_eq_true] at hh
 exact take_at1 i d hi hd hh.1 hh.2.1 hh.2.2 hQ hy hS h
/-- What a region reads of the reader, the writer and the image. -/
abbrev RfS (W : World) (v rb : Nat) (A : Option Addr) (n c : Nat) (q : Rdr) (st : Int) (x : PW) (s : RS) (g : RG) : Prop := W.cell? ⟨rb, 0, none⟩ = some (.slice A n c) ∧ W.cell? ⟨rb, 1, none⟩ = some (.int .i64 q.pos) ∧ W.cell? ⟨rb, 2, none⟩ = some (.int .i64 q.err) ∧ W.cell? ⟨rb, 3, none⟩ = some (.int .i64 st) ∧ W.cell? ⟨v, 0, none⟩ = some (.int .i64 x.number) ∧ W.cell? ⟨v, 1, none⟩ = some (.int .i64 x.mark) ∧ W.cell? ⟨v, 2, none⟩ = some (.int .i64 x.frames) ∧ W.cell? ⟨v, 3, none⟩ = some (.int .i64 x.procs) ∧ W.cell? ⟨v, 4, none⟩ = some (.int .i64 x.entries) ∧ W.cell? ⟨v, 5, none⟩ = some (.string x.name) ∧ W.cell? ⟨v, 6, none⟩ = some (.string x.key) ∧ W.cell? ⟨v, 7, none⟩ = some (.bool x.live) ∧ W.cell? ⟨v + 1, 0, none⟩ = some (.int .i64 s.number) ∧ W.cell? ⟨v + 1, 1, none⟩ = some (.int .i64 s.mark) ∧ W.cell? ⟨v + 1, 2, none⟩ = some (.slice g.P g.pl.length g.cp) ∧ W.cell? ⟨v + 1, 3, none⟩ = some (.slice g.E s.entries.length g.ce)
section
variable {W V : World} {v rb : Nat} {A : Option Addr} {n c : Nat} {q : Rdr} {st : Int} {x : PW} {s : RS} {g : RG}
theorem RfS.below (h : RfS W v rb A n c q st x s g) (hb : Below W.heap.size W V) : RfS V v rb A n c q st x s g := by
 obtain ⟨r0, r1, r2, r3, k10, k11, k12, k13, k14, k15, k16, k17, m0, m1, m2, m3⟩ := h
 have hc : ∀ p u, W.cell? p = some u → V.cell? p = some u := fun p u h => (hb.cell (World.block_lt_of_cell? W p h)).trans h
 exact ⟨hc _ _ r0, hc _ _ r1, hc _ _ r2, hc _ _ r3, hc _ _ k10, hc _ _ k11, hc _ _ k12, hc _ _ k13, hc _ _ k14, hc _ _ k15, hc _ _ k16, hc _ _ k17, hc _ _ m0, hc _ _ m1, hc _ _ m2, hc _ _ m3⟩
theorem RfS.put6 (h : RfS W v rb A n c q st x s g) (h0 : v + 4 ≤ rb) (y : PW) : RfS (putV W (v + 2) y) v rb A n c q st x s g := by
 obtain ⟨r0, r1, r2, r3, k10, k11, k12, k13, k14, k15, k16, k17, m0, m1, m2, m3⟩ := h
 exact ⟨(putV_far W _ _ (by omega) _).trans r0, (putV_far W _ _ (by omega) _).trans r1, (putV_far W _ _ (by omega) _).trans r2, (putV_far W _ _ (by omega) _).trans r3, (putV_far W _ _ (by omega) _).trans k10, (putV_far W _ _ (by omega) _).trans k11, (putV_far W _ _ (by omega) _).trans k12, (putV_far W _ _ (by omega) _).trans k13, (putV_far W _ _ (by omega) _).trans k14, (putV_far W _ _ (by omega) _).trans k15, (putV_far W _ _ (by omega) _).trans k16, (putV_far W _ _ (by omega) _).trans k17, (putV_far W _ _ (by omega) _).trans m0, (putV_far W _ _ (by omega) _).trans m1, (putV_far W _ _ (by omega) _).trans m2, (putV_far W _ _ (by omega) _).trans m3⟩
theorem RfS.put7 (h : RfS W v rb A n c q st x s g) (h0 : v + 4 ≤ rb) (s' : RS) (g' : RG) : RfS (putM W (v + 3) s' g') v rb A n c q st x s g := by
 obtain ⟨r0, r1, r2, r3, k10, k11, k12, k13, k14, k15, k16, k17, m0, m1, m2, m3⟩ := h
 exact ⟨(putM_far W _ _ _ (by omega) _).trans r0, (putM_far W _ _ _ (by omega) _).trans r1, (putM_far W _ _ _ (by omega) _).trans r2, (putM_far W _ _ _ (by omega) _).trans r3, (putM_far W _ _ _ (by omega) _).trans k10, (putM_far W _ _ _ (by omega) _).trans k11, (putM_far W _ _ _ (by omega) _).trans k12, (putM_far W _ _ _ (by omega) _).trans k13, (putM_far W _ _ _ (by omega) _).trans k14, (putM_far W _ _ _ (by omega) _).trans k15, (putM_far W _ _ _ (by omega) _).trans k16, (putM_far W _ _ _ (by omega) _).trans k17, (putM_far W _ _ _ (by omega) _).trans m0, (putM_far W _ _ _ (by omega) _).trans m1, (putM_far W _ _ _ (by omega) _).trans m2, (putM_far W _ _ _ (by omega) _).trans m3⟩
end
end Go.Proofs.YtnieminnnkbneaaGreat
