/- ProcOwn: what its loops lay. Printed by gen_po.py. -/
import Derived.Test.YtkggjjipgjijbaaBk
import Derived.Test.YtkggjjipgjijbaaOwn
namespace Go.Proofs.Ytkggjjipgjijbaa
open Go.RowKit

/-- The rows that stand: three fixed ones, k of each kind. -/
def PD (k : Nat) : Nat → Nat → Prop := fun c j => (c = 2 ∧ j < 3) ∨ (c < 2 ∧ j < k)
def opI (o : Int) : Ins := ⟨o, 0, 0, 0, 0, ⟨0, 0, ⟨#[]⟩⟩⟩

theorem part_set {α : Type} (l : List α) (x : α) (m : Nat) (h : m < l.length) : (List.replicate m x ++ l.drop m).set m x = List.replicate (m + 1) x ++ l.drop (m + 1) := by
  rw [List.set_append_right _ _ (by simp), List.length_replicate, Nat.sub_self, List.drop_eq_getElem_cons h, List.set_cons_zero, List.replicate_succ', List.append_assoc]
  rfl

theorem code_put (l : List Ins) (k : Nat) (hk : k < l.length) (x : Ins) : codeCells (l.set k x) = ((((((((codeCells l).set (k * 8) (.int .i64 x.op)).set (k * 8 + 1) (.int .i64 x.a)).set (k * 8 + 2) (.int .i64 x.b)).set (k * 8 + 3) (.int .i64 x.c)).set (k * 8 + 4) (.int .i64 x.n)).set (k * 8 + 5) (.int .i64 x.v.kind)).set (k * 8 + 6) (.int .i64 x.v.num)).set (k * 8 + 7) (.string x.v.text) := by
  induction l generalizing k with
  | nil => simp at hk
  | cons y l ih =>
    have e2 : codeCells (y :: l) = (insCells y).toList ++ codeCells l := by simp [codeCells]
    cases k with
    | zero =>
      have e3 : codeCells (x :: l) = (insCells x).toList ++ codeCells l := by simp [codeCells]
      rw [List.set_cons_zero, e2, e3]
      simp [insCells]
    | succ k =>
      have e3 : codeCells (y :: l.set k x) = (insCells y).toList ++ codeCells (l.set k x) := by simp [codeCells]
      have hly : (insCells y).toList.length = 8 := rfl
      have hs : ∀ (r : Nat) (v : Value) (cs : List Value), ((insCells y).toList ++ cs).set ((k + 1) * 8 + r) v = (insCells y).toList ++ cs.set (k * 8 + r) v := fun r v cs => by
        rw [List.set_append_right _ _ (by rw [hly]; omega), hly]
        congr 2
        omega
      have hs0 : ∀ (v : Value) (cs : List Value), ((insCells y).toList ++ cs).set ((k + 1) * 8) v = (insCells y).toList ++ cs.set (k * 8) v := fun v cs => hs 0 v cs
      rw [List.set_cons_succ, e2, e3, ih k (by simpa using hk)]
      simp only [hs, hs0]

/-- How far: all of those ahead of k, m of k. -/
def pro (k n m : Nat) : Nat → Nat := fun j => if j < k then n else if j = k then m else 0
theorem pro_next (k n : Nat) : pro k n n = pro (k + 1) n 0 := by
  funext j
  unfold pro
  repeat' split
  all_goals first | rfl | omega
theorem pro_at (k n m : Nat) : pro k n m k = m := by simp [pro]
theorem pro_ne {k j : Nat} (n m m' : Nat) (h : j ≠ k) : pro k n m j = pro k n m' j := by
  unfold pro
  rw [if_neg h, if_neg h]
theorem pro_all {k j : Nat} (n : Nat) (h : j < k) (m : Nat) : pro k n m j = n := by unfold pro; rw [if_pos h]
theorem pro_zero (n j : Nat) : pro 0 n 0 j = 0 := by simp [pro]

def vB (j : Nat) : Value := .int .u8 (10 + (j : Int))
def partB (zs : Bs) (j m : Nat) : List Value := List.replicate m (vB j) ++ (cellsB zs).drop m
def partI (l : List Ins) (j m : Nat) : List Ins := List.replicate m (opI (30 + (j : Int))) ++ l.drop m
theorem partB_len (zs : Bs) (j m : Nat) (h : m ≤ zs.length) : (partB zs j m).length = zs.length := by simp [partB, cellsB_length]; omega
theorem partI_len (l : List Ins) (j m : Nat) (h : m ≤ l.length) : (partI l j m).length = l.length := by simp [partI]; omega
theorem partB_zero (zs : Bs) (j : Nat) : partB zs j 0 = cellsB zs := by simp [partB]
theorem partI_zero (l : List Ins) (j : Nat) : partI l j 0 = l := by simp [partI]
theorem partB_set (zs : Bs) (j m : Nat) (h : m < zs.length) : (partB zs j m).set m (vB j) = partB zs j (m + 1) := part_set _ _ _ (by rw [cellsB_length]; exact h)
theorem partI_set (l : List Ins) (j m : Nat) (h : m < l.length) : (partI l j m).set m (opI (30 + (j : Int))) = partI l j (m + 1) := part_set _ _ _ h

/-- Where a row stands: its address and its room. -/
structure Pl where
  A : Option Addr
  c : Nat

/-- The rows while they are filled. -/
def FS (F : Nat → Nat → Rw) (R Q : Nat → Pl) (zs : Bs) (l : List Ins) (mB mI : Nat → Nat) : Prop :=
  (∀ j, j < 3 → F 0 j = Rw.new 5 1 (R j).A zs.length (R j).c (partB zs j (mB j))) ∧ (∀ j, j < 3 → F 1 j = Rw.new 28 8 (Q j).A l.length (Q j).c (codeCells (partI l j (mI j))))

def FixF (F : Nat → Nat → Rw) (line kept was : Rw) : Prop := F 2 0 = line ∧ F 2 1 = kept ∧ F 2 2 = was

theorem FixF.up {F : Nat → Nat → Rw} {line kept was : Rw} (h : FixF F line kept was) {c j : Nat} (hc : c ≠ 2) (r : Rw) : FixF (up F c j r) line kept was := by
  obtain ⟨h0, h1, h2⟩ := h
  refine ⟨?_, ?_, ?_⟩
  · rw [up_other F r (by omega)]; exact h0
  · rw [up_other F r (by omega)]; exact h1
  · rw [up_other F r (by omega)]; exact h2

theorem FS.putB {F : Nat → Nat → Rw} {R Q : Nat → Pl} {zs : Bs} {l : List Ins} {k m : Nat} {mI : Nat → Nat} (h : FS F R Q zs l (pro k zs.length m) mI) (hk : k < 3) (hm : m < zs.length) : FS (up F 0 k (Rw.new 5 1 (R k).A zs.length (R k).c ((partB zs k m).set m (vB k)))) R Q zs l (pro k zs.length (m + 1)) mI := by
  refine ⟨fun j hj => ?_, fun j hj => ?_⟩
  · by_cases e : j = k
    · subst e
      rw [up_self, pro_at, partB_set zs j m hm]
    · rw [up_other F _ (by omega), h.1 j hj, pro_ne zs.length (m + 1) m e]
  · rw [up_other F _ (by omega)]; exact h.2 j hj

theorem FS.putI {F : Nat → Nat → Rw} {R Q : Nat → Pl} {zs : Bs} {l : List Ins} {k m : Nat} {mB : Nat → Nat} (h : FS F R Q zs l mB (pro k l.length m)) (hk : k < 3) (hm : m < l.length) : FS (up F 1 k (Rw.new 28 8 (Q k).A l.length (Q k).c (codeCells ((partI l k m).set m (opI (30 + (k : Int))))))) R Q zs l mB (pro k l.length (m + 1)) := by
  refine ⟨fun j hj => ?_, fun j hj => ?_⟩
  · rw [up_other F _ (by omega)]; exact h.1 j hj
  · by_cases e : j = k
    · subst e
      rw [up_self, pro_at, partI_set l j m hm]
    · rw [up_other F _ (by omega), h.2 j hj, pro_ne l.length (m + 1) m e]

theorem up_up (F : Nat → Nat → Rw) (c j : Nat) (r r' : Rw) : up (up F c j r) c j r' = up F c j r' := by
  funext c' j'
  unfold up
  split <;> rfl

/-- An instruction laid over one of a row, cell by cell. -/
theorem Desk.putI {w W : World} {D : Nat → Nat → Prop} {F : Nat → Nat → Rw} {m : Nat} {G : Nat → Box} (h : Desk w W D F m G) (cl i : Nat) (hd : D cl i) {g n c : Nat} {l : List Ins} (he : F cl i = Rw.new 28 8 (some ⟨g, 0, none⟩) n c (codeCells l)) (k : Nat) (hk : k < l.length) (x : Ins) :
    Desk w (putW W g k x) D (up F cl i (Rw.new 28 8 (some ⟨g, 0, none⟩) n c (codeCells (l.set k x)))) m G := by
  rw [code_put l k hk x]
  have d0 := h.put cl i hd he (k * 8) (.int .i64 x.op)
  have d1 := d0.put cl i hd (up_self _ _ _ _) (k * 8 + 1) (.int .i64 x.a)
  have d2 := d1.put cl i hd (up_self _ _ _ _) (k * 8 + 2) (.int .i64 x.b)
  have d3 := d2.put cl i hd (up_self _ _ _ _) (k * 8 + 3) (.int .i64 x.c)
  have d4 := d3.put cl i hd (up_self _ _ _ _) (k * 8 + 4) (.int .i64 x.n)
  have d5 := d4.put cl i hd (up_self _ _ _ _) (k * 8 + 5) (.int .i64 x.v.kind)
  have d6 := d5.put cl i hd (up_self _ _ _ _) (k * 8 + 6) (.int .i64 x.v.num)
  have d7 := d6.put cl i hd (up_self _ _ _ _) (k * 8 + 7) (.string x.v.text)
  simp only [up_up] at d7
  exact d7

def vG (j : Nat) : Value := .int .u8 (100 + (j : Int))
/-- The rows while they grow: each as it was filled, with mB (mI) of the marks behind. -/
def GS (F : Nat → Nat → Rw) (R Q : Nat → Pl) (zs : Bs) (l : List Ins) (mB mI : Nat → Nat) : Prop :=
  (∀ j, j < 3 → F 0 j = ⟨5, 1, (R j).A, zs.length, (R j).c, partB zs j zs.length, (F 0 j).A, zs.length + mB j, (F 0 j).c, partB zs j zs.length ++ List.replicate (mB j) (vG j)⟩ ∧ (mB j = 0 → (F 0 j).A = (R j).A ∧ (F 0 j).c = (R j).c)) ∧
  (∀ j, j < 3 → F 1 j = ⟨28, 8, (Q j).A, l.length, (Q j).c, codeCells (partI l j l.length), (F 1 j).A, l.length + mI j, (F 1 j).c, codeCells (partI l j l.length ++ List.replicate (mI j) (opI (60 + (j : Int))))⟩ ∧ (mI j = 0 → (F 1 j).A = (Q j).A ∧ (F 1 j).c = (Q j).c))

theorem FS.gs {F : Nat → Nat → Rw} {R Q : Nat → Pl} {zs : Bs} {l : List Ins} (h : FS F R Q zs l (pro 3 zs.length 0) (pro 3 l.length 0)) : GS F R Q zs l (pro 0 70 0) (pro 0 70 0) := by
  refine ⟨fun j hj => ?_, fun j hj => ?_⟩
  · have := h.1 j hj
    rw [pro_all _ hj] at this
    rw [pro_zero, this]
    exact ⟨by simp [Rw.new], fun _ => ⟨rfl, rfl⟩⟩
  · have := h.2 j hj
    rw [pro_all _ hj] at this
    rw [pro_zero, this]
    exact ⟨by simp [Rw.new], fun _ => ⟨rfl, rfl⟩⟩

theorem GS.growB {F : Nat → Nat → Rw} {R Q : Nat → Pl} {zs : Bs} {l : List Ins} {k m : Nat} {mI : Nat → Nat} (h : GS F R Q zs l (pro k 70 m) mI) (hk : k < 3) {A' : Option Addr} {c' : Nat} :
    GS (up F 0 k ⟨5, 1, (R k).A, zs.length, (R k).c, partB zs k zs.length, A', zs.length + m + 1, c', partB zs k zs.length ++ List.replicate m (vG k) ++ [vG k]⟩) R Q zs l (pro k 70 (m + 1)) mI := by
  refine ⟨fun j hj => ?_, fun j hj => ?_⟩
  · by_cases e : j = k
    · subst e
      rw [up_self, pro_at]
      exact ⟨by rw [List.replicate_succ']; simp [Nat.add_assoc], fun h => by omega⟩
    · rw [up_other F _ (by omega)]
      rw [pro_ne 70 (m + 1) m e]
      exact h.1 j hj
  · rw [up_other F _ (by omega)]; exact h.2 j hj

theorem GS.growI {F : Nat → Nat → Rw} {R Q : Nat → Pl} {zs : Bs} {l : List Ins} {k m : Nat} {mB : Nat → Nat} (h : GS F R Q zs l mB (pro k 70 m)) (hk : k < 3) {A' : Option Addr} {c' : Nat} :
    GS (up F 1 k ⟨28, 8, (Q k).A, l.length, (Q k).c, codeCells (partI l k l.length), A', l.length + m + 1, c', codeCells (partI l k l.length ++ List.replicate m (opI (60 + (k : Int)))) ++ (insCells (opI (60 + (k : Int)))).toList⟩) R Q zs l mB (pro k 70 (m + 1)) := by
  refine ⟨fun j hj => ?_, fun j hj => ?_⟩
  · rw [up_other F _ (by omega)]; exact h.1 j hj
  · by_cases e : j = k
    · subst e
      rw [up_self, pro_at]
      exact ⟨by rw [List.replicate_succ', ← List.append_assoc, codeCells_append _ [opI (60 + (j : Int))], codeCells_one]; simp [Nat.add_assoc], fun h => by omega⟩
    · rw [up_other F _ (by omega)]
      rw [pro_ne 70 (m + 1) m e]
      exact h.2 j hj
end Go.Proofs.Ytkggjjipgjijbaa
