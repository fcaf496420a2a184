/- BatchOwn: what its loops lay. Printed by gen_bwa.py. -/
import Derived.Test.YtnmcdifkknphgaaOwn
import Derived.Test.YtnmcdifkknphgaaBdo
import Derived.Test.YtnmcdifkknphgaaBl
namespace Go.Proofs.Ytnmcdifkknphgaa
open Go.RowKit

theorem part_set {α : Type} (l : List α) (x : α) (m : Nat) (h : m < l.length) : (List.replicate m x ++ l.drop m).set m x = List.replicate (m + 1) x ++ l.drop (m + 1) := by
  rw [List.set_append_right _ _ (by simp), List.length_replicate, Nat.sub_self, List.drop_eq_getElem_cons h, List.set_cons_zero, List.replicate_succ', List.append_assoc]
  rfl

theorem code_put (l : List Ins) (k : Nat) (hk : k < l.length) (x : Ins) : codeCells (l.set k x) = ((((((((codeCells l).set (k * 8) (.int .i64 x.op)).set (k * 8 + 1) (.int .i64 x.a)).set (k * 8 + 2) (.int .i64 x.b)).set (k * 8 + 3) (.int .i64 x.c)).set (k * 8 + 4) (.int .i64 x.n)).set (k * 8 + 5) (.int .i64 x.v.kind)).set (k * 8 + 6) (.int .i64 x.v.num)).set (k * 8 + 7) (.string x.v.text) := by
  induction l generalizing k with
  | nil => simp at hk
  | cons y l ih =>
    have e2 : codeCells (y :: l) = (insCells y).toList ++ codeCells l := by simp [codeCells]
    cases k with
    | zero =>
      have e3 : codeCells (x :: l) = (insCells x).toList ++ codeCells l := by simp [codeCells]
      rw [List.set_cons_zero, e2, e3]
      simp [insCells]
    | succ k =>
      have e3 : codeCells (y :: l.set k x) = (insCells y).toList ++ codeCells (l.set k x) := by simp [codeCells]
      have hly : (insCells y).toList.length = 8 := rfl
      have hs : ∀ (r : Nat) (v : Value) (cs : List Value), ((insCells y).toList ++ cs).set ((k + 1) * 8 + r) v = (insCells y).toList ++ cs.set (k * 8 + r) v := fun r v cs => by
        rw [List.set_append_right _ _ (by rw [hly]; omega), hly]
        congr 2
        omega
      have hs0 : ∀ (v : Value) (cs : List Value), ((insCells y).toList ++ cs).set ((k + 1) * 8) v = (insCells y).toList ++ cs.set (k * 8) v := fun v cs => hs 0 v cs
      rw [List.set_cons_succ, e2, e3, ih k (by simpa using hk)]
      simp only [hs, hs0]

/-- How far: all of those ahead of k, m of k. -/
def pro (k n m : Nat) : Nat → Nat := fun j => if j < k then n else if j = k then m else 0
theorem pro_next (k n : Nat) : pro k n n = pro (k + 1) n 0 := by
  funext j
  unfold pro
  repeat' split
  all_goals first | rfl | omega
theorem pro_at (k n m : Nat) : pro k n m k = m := by simp [pro]
theorem pro_ne {k j : Nat} (n m m' : Nat) (h : j ≠ k) : pro k n m j = pro k n m' j := by
  unfold pro
  rw [if_neg h, if_neg h]
theorem pro_all {k j : Nat} (n : Nat) (h : j < k) (m : Nat) : pro k n m j = n := by unfold pro; rw [if_pos h]
theorem pro_zero (n j : Nat) : pro 0 n 0 j = 0 := by simp [pro]

def vB (j : Nat) : Value := .int .u8 (10 + (j : Int))
def partB (zs : Bs) (j m : Nat) : List Value := List.replicate m (vB j) ++ (cellsB zs).drop m
theorem partB_len (zs : Bs) (j m : Nat) (h : m ≤ zs.length) : (partB zs j m).length = zs.length := by simp [partB, cellsB_length]; omega
theorem partB_zero (zs : Bs) (j : Nat) : partB zs j 0 = cellsB zs := by simp [partB]
theorem partB_set (zs : Bs) (j m : Nat) (h : m < zs.length) : (partB zs j m).set m (vB j) = partB zs j (m + 1) := part_set _ _ _ (by rw [cellsB_length]; exact h)
/-- Where a row stands: its address and its room. -/
structure Pl where
  A : Option Addr
  c : Nat


namespace Bag
variable {W V : World} {base : Nat} {D E : Nat → Nat → Prop} {F F' : Nat → Nat → Rw}
/-- Many rows more, all of blocks that are new. -/
theorem join (h : Bag W base D F) (hb : Below W.heap.size W V) (h2 : Bag V W.heap.size E F') (hbase : base ≤ W.heap.size) (hag : ∀ c j, D c j → F' c j = F c j) : Bag V base (fun c j => D c j ∨ E c j) F' := by
  have h1 : Bag V base D F' := (h.below hb).congr (fun _ _ h => h) hag
  have hlt : ∀ c j, D c j → ∀ k, (F' c j).blocks k → k < W.heap.size := fun c j hd k hk => by
    rw [hag c j hd] at hk
    exact ((h.good c j hd).lt k hk).2
  have h3 := h2.mono hbase
  refine ⟨fun c j hd => ?_, fun c j c' j' h4 h5 hne k hk hk2 => ?_⟩
  · rcases hd with hd | hd
    · exact h1.good c j hd
    · exact h3.good c j hd
  · rcases h4 with h4 | h4
    · rcases h5 with h5 | h5
      · exact h1.ap c j c' j' h4 h5 hne k hk hk2
      · have a := hlt c j h4 k hk
        have b := ((h2.good c' j' h5).lt k hk2).1
        omega
    · rcases h5 with h5 | h5
      · have a := hlt c' j' h5 k hk2
        have b := ((h2.good c j h4).lt k hk).1
        omega
      · exact h3.ap c j c' j' h4 h5 hne k hk hk2
end Bag

theorem Desk.join {w W V : World} {D E : Nat → Nat → Prop} {F F' : Nat → Nat → Rw} {m : Nat} {G : Nat → Box} (h : Desk w W D F m G) (hb : Below W.heap.size W V) (h2 : Bag V W.heap.size E F') (hag : ∀ c j, D c j → F' c j = F c j) (hty : ∀ c j, E c j → ∀ i, i < m → (F' c j).e ≠ (G i).t) :
    Desk w V (fun c j => D c j ∨ E c j) F' m G := by
  refine ⟨h.bag.join hb h2 h.b.size hag, fun c j hd i hi => ?_, fun i hi => ⟨(h.box i hi).1.below hb (h.box i hi).1.lt, (h.box i hi).2⟩, h.ap, below_then h.b hb h.b.size⟩
  rcases hd with hd | hd
  · rw [hag c j hd]; exact h.ty c j hd i hi
  · exact hty c j hd i hi

/-- Rows of two types are apart. -/
theorem owns_diff {W : World} {b1 b2 s1 s2 n1 n2 k : Nat} {e1 e2 : TypeId} {u v : Value} {xs ys : List Value} (h1 : W.ownsRow b1 e1 s1 u n1 xs) (h2 : W.ownsRow b2 e2 s2 v n2 ys) (hne : e1 ≠ e2) (hk : u.ownBlock = some k) : v.ownBlock ≠ some k := by
  intro hk2
  obtain ⟨c1, f1, g1⟩ := owns_typ h1 hk
  obtain ⟨c2, f2, g2⟩ := owns_typ h2 hk2
  rw [g1] at g2
  simp only [Option.some.injEq, Obj.cells.injEq] at g2
  exact hne g2.2.1

def rowA (x : TxnC) : Rw := Rw.new 57 3 x.A x.t.args.length x.c (valsCells x.t.args)
def rowC (x : TxnC) : Rw := Rw.new 59 8 x.B x.t.proc.code.length x.d (codeCells x.t.proc.code)

/-- What Decode has answered, as rows. -/
theorem bag_dec {V : World} {base n k cap : Nat} {L : Option Addr} {li : List TxnC} {F : Nat → Nat → Rw} (hl : li.length = n) (ho : V.ownsRow base 30 6 (.slice L n cap) n (txnsCells li)) (hx : ∀ x ∈ li, x.own V base) (hs : Sep li)
    (h1 : F 1 k = Rw.new 30 6 L n cap (txnsCells li)) (h2 : ∀ q (h : q < li.length), F 2 (k * n + q) = rowA li[q]) (h3 : ∀ q (h : q < li.length), F 3 (k * n + q) = rowC li[q]) :
    Bag V base (fun c j => (c = 1 ∧ j = k) ∨ ((c = 2 ∨ c = 3) ∧ k * n ≤ j ∧ j < k * n + n)) F := by
  have hq : ∀ j, k * n ≤ j → j < k * n + n → ∃ q, ∃ (_ : q < li.length), j = k * n + q := fun j a b => ⟨j - k * n, by omega, by omega⟩
  have g1 : (F 1 k).good V base := by rw [h1]; exact Rw.new_good ho
  have g2 : ∀ q (h : q < li.length), (F 2 (k * n + q)).good V base := fun q h => by rw [h2 q h]; exact Rw.new_good (hx _ (List.getElem_mem h)).a
  have g3 : ∀ q (h : q < li.length), (F 3 (k * n + q)).good V base := fun q h => by rw [h3 q h]; exact Rw.new_good (hx _ (List.getElem_mem h)).b
  have bl : ∀ (r : Rw) (e : TypeId) (s : Nat) (A : Option Addr) (m c : Nat) (xs : List Value), r = Rw.new e s A m c xs → ∀ i, r.blocks i → (Value.slice A m c).ownBlock = some i := fun r e s A m c xs hr i hi => by
    subst hr
    rcases hi with hi | hi <;> exact hi
  refine ⟨fun c j hd => ?_, fun c j c' j' hd hd' hne i hi hi2 => ?_⟩
  · rcases hd with ⟨rfl, rfl⟩ | ⟨rfl | rfl, a, b⟩
    · exact g1
    · obtain ⟨q, hq1, rfl⟩ := hq j a b
      exact g2 q hq1
    · obtain ⟨q, hq1, rfl⟩ := hq j a b
      exact g3 q hq1
  · have a1 := fun (h : (F 1 k).blocks i) => bl _ _ _ _ _ _ _ h1 i h
    have a2 := fun q (h : q < li.length) (hb : (F 2 (k * n + q)).blocks i) => bl _ _ _ _ _ _ _ (h2 q h) i hb
    have a3 := fun q (h : q < li.length) (hb : (F 3 (k * n + q)).blocks i) => bl _ _ _ _ _ _ _ (h3 q h) i hb
    rcases hd with ⟨rfl, rfl⟩ | ⟨rfl | rfl, a, b⟩
    · rcases hd' with ⟨rfl, rfl⟩ | ⟨rfl | rfl, a', b'⟩
      · exact hne ⟨rfl, rfl⟩
      · obtain ⟨q, hq1, rfl⟩ := hq j' a' b'
        exact owns_diff ho (hx _ (List.getElem_mem hq1)).a (by decide) (a1 hi) (a2 q hq1 hi2)
      · obtain ⟨q, hq1, rfl⟩ := hq j' a' b'
        exact owns_diff ho (hx _ (List.getElem_mem hq1)).b (by decide) (a1 hi) (a3 q hq1 hi2)
    · obtain ⟨q, hq1, rfl⟩ := hq j a b
      rcases hd' with ⟨rfl, rfl⟩ | ⟨rfl | rfl, a', b'⟩
      · exact owns_diff (hx _ (List.getElem_mem hq1)).a ho (by decide) (a2 q hq1 hi) (a1 hi2)
      · obtain ⟨q', hq1', rfl⟩ := hq j' a' b'
        have := hs q q' _ _ (List.getElem?_eq_getElem hq1) (List.getElem?_eq_getElem hq1') (by rintro rfl; exact hne ⟨rfl, rfl⟩) i
        exact this.1 (ob_to (a2 q hq1 hi)) (ob_to (a2 q' hq1' hi2))
      · obtain ⟨q', hq1', rfl⟩ := hq j' a' b'
        exact owns_diff (hx _ (List.getElem_mem hq1)).a (hx _ (List.getElem_mem hq1')).b (by decide) (a2 q hq1 hi) (a3 q' hq1' hi2)
    · obtain ⟨q, hq1, rfl⟩ := hq j a b
      rcases hd' with ⟨rfl, rfl⟩ | ⟨rfl | rfl, a', b'⟩
      · exact owns_diff (hx _ (List.getElem_mem hq1)).b ho (by decide) (a3 q hq1 hi) (a1 hi2)
      · obtain ⟨q', hq1', rfl⟩ := hq j' a' b'
        exact owns_diff (hx _ (List.getElem_mem hq1)).b (hx _ (List.getElem_mem hq1')).a (by decide) (a3 q hq1 hi) (a2 q' hq1' hi2)
      · obtain ⟨q', hq1', rfl⟩ := hq j' a' b'
        have := hs q q' _ _ (List.getElem?_eq_getElem hq1) (List.getElem?_eq_getElem hq1') (by rintro rfl; exact hne ⟨rfl, rfl⟩) i
        exact this.2 (ob_to (a3 q hq1 hi)) (ob_to (a3 q' hq1' hi2))

/-- Slices told by a list of their own. -/
def slB (R : Nat → Pl) (N k : Nat) : List Value := (List.range k).map fun j => .slice (R j).A N (R j).c
def slT (f : Int) (n : Nat) (T : Nat → Pl) (k : Nat) : List Value := (List.range k).flatMap fun j => [.int .i64 f, .slice (T j).A n (T j).c]
theorem slB_succ (R : Nat → Pl) (N k : Nat) : slB R N (k + 1) = slB R N k ++ [.slice (R k).A N (R k).c] := by simp [slB, List.range_succ]
theorem slT_succ (f : Int) (n : Nat) (T : Nat → Pl) (k : Nat) : slT f n T (k + 1) = slT f n T k ++ [.int .i64 f, .slice (T k).A n (T k).c] := by simp [slT, List.range_succ]
theorem slB_at (R : Nat → Pl) (N k j : Nat) (h : j < k) : (slB R N k)[j]? = some (.slice (R j).A N (R j).c) := by simp [slB, h]
theorem slT_len (f : Int) (n : Nat) (T : Nat → Pl) (k : Nat) : (slT f n T k).length = k * 2 := by
  induction k with
  | zero => rfl
  | succ k ih => rw [slT_succ, List.length_append, ih]; simp; omega
theorem slT_at (f : Int) (n : Nat) (T : Nat → Pl) (k j : Nat) (h : j < k) : (slT f n T k)[j * 2]? = some (.int .i64 f) ∧ (slT f n T k)[j * 2 + 1]? = some (.slice (T j).A n (T j).c) := by
  induction k with
  | zero => omega
  | succ k ih =>
    rw [slT_succ]
    by_cases e : j < k
    · have hl := slT_len f n T k
      rw [List.getElem?_append_left (by omega), List.getElem?_append_left (by omega)]
      exact ih e
    · have e2 : j = k := by omega
      subst e2
      have hl := slT_len f n T j
      rw [List.getElem?_append_right (by omega), List.getElem?_append_right (by omega), hl]
      simp

/-- The rows as they are handed out: k of each kind. -/
def F1 (zs : Bs) (f : Int) (n : Nat) (R T : Nat → Pl) (AL : List TxnC) (P : Nat → Pl) (k : Nat) : Nat → Nat → Rw := fun c j =>
  if c = 0 then Rw.new 5 1 (R j).A zs.length (R j).c (cellsB zs)
  else if c = 1 then Rw.new 30 6 (T j).A n (T j).c (txnsCells ((AL.drop (j * n)).take n))
  else if c = 2 then rowA (AL.getD j default) else if c = 3 then rowC (AL.getD j default)
  else if j = 0 then ⟨39, 1, none, 0, 0, [], (P 0).A, k, (P 0).c, slB R zs.length k⟩
  else ⟨24, 2, none, 0, 0, [], (P 1).A, k, (P 1).c, slT f n T k⟩

def D1 (n k : Nat) : Nat → Nat → Prop := fun c j => (c = 0 ∧ j < k) ∨ (c = 1 ∧ j < k) ∨ ((c = 2 ∨ c = 3) ∧ j < k * n) ∨ (c = 7 ∧ j < 2)

def upl (R : Nat → Pl) (k : Nat) (p : Pl) : Nat → Pl := fun j => if j = k then p else R j
theorem upl_self (R : Nat → Pl) (k : Nat) (p : Pl) : upl R k p k = p := by simp [upl]
theorem upl_ne (R : Nat → Pl) {k j : Nat} (p : Pl) (h : j ≠ k) : upl R k p j = R j := by simp [upl, h]
theorem slB_upl (R : Nat → Pl) (N k : Nat) (p : Pl) : slB (upl R k p) N k = slB R N k := by
  unfold slB
  apply List.map_congr_left
  intro j hj
  rw [upl_ne R p (by have := List.mem_range.1 hj; omega)]
theorem slT_upl (f : Int) (n : Nat) (R : Nat → Pl) (k : Nat) (p : Pl) : slT f n (upl R k p) k = slT f n R k := by
  have : ∀ (l : List Nat), (∀ j ∈ l, j < k) → l.flatMap (fun j => [Value.int .i64 f, .slice (upl R k p j).A n (upl R k p j).c]) = l.flatMap (fun j => [Value.int .i64 f, .slice (R j).A n (R j).c]) := by
    intro l hl
    induction l with
    | nil => rfl
    | cons a l ih =>
      rw [List.flatMap_cons, List.flatMap_cons, ih (fun j hj => hl j (by simp [hj])), upl_ne R p (by have := hl a (by simp); omega)]
  exact this _ (fun j hj => List.mem_range.1 hj)

theorem F1_step {zs : Bs} {f : Int} {n k : Nat} {R T : Nat → Pl} {AL li : List TxnC} {P : Nat → Pl} {A1 : Option Addr} {c1 : Nat} {pt : Pl} (hAL : AL.length = k * n) {c j : Nat} (h : D1 n k c j ∨ (c = 0 ∧ j = k)) :
    F1 zs f n (upl R k ⟨A1, c1⟩) (upl T k pt) (AL ++ li) P k c j = up (F1 zs f n R T AL P k) 0 k (Rw.new 5 1 A1 zs.length c1 (cellsB zs)) c j := by
  by_cases e : c = 0 ∧ j = k
  · obtain ⟨rfl, rfl⟩ := e
    rw [up_self]
    simp only [F1, if_true, upl_self]
  · rw [up_other _ _ e]
    have h := h.resolve_right e
    rcases h with ⟨rfl, h⟩ | ⟨rfl, h⟩ | ⟨rfl | rfl, h⟩ | ⟨rfl, h⟩
    · simp only [F1, if_true]
      rw [upl_ne R _ (by omega)]
    · have h2 : j * n + n ≤ k * n := by have := Nat.mul_le_mul_right n (show j + 1 ≤ k by omega); rw [Nat.add_mul] at this; omega
      have e1 : ((AL ++ li).drop (j * n)).take n = (AL.drop (j * n)).take n := by
        rw [List.drop_append_of_le_length (by omega), List.take_append_of_le_length (by rw [List.length_drop]; omega)]
      simp [F1, upl_ne T _ (show j ≠ k by omega), e1]
    · have e1 : (AL ++ li).getD j default = AL.getD j default := by
        rw [List.getD_eq_getElem?_getD, List.getD_eq_getElem?_getD, List.getElem?_append_left (by omega)]
      exact congrArg rowA e1
    · have e1 : (AL ++ li).getD j default = AL.getD j default := by
        rw [List.getD_eq_getElem?_getD, List.getD_eq_getElem?_getD, List.getElem?_append_left (by omega)]
      exact congrArg rowC e1
    · have hj : j = 0 ∨ j = 1 := by omega
      rcases hj with rfl | rfl
      · simp [F1, slB_upl]
      · simp [F1, slT_upl]

theorem F1_txn {zs : Bs} {f : Int} {n k ct : Nat} {R T : Nat → Pl} {AL li : List TxnC} {P : Nat → Pl} {L : Option Addr} (hAL : AL.length = k * n) (hl : li.length = n) :
    F1 zs f n R (upl T k ⟨L, ct⟩) (AL ++ li) P k 1 k = Rw.new 30 6 L n ct (txnsCells li) := by
  have e1 : ((AL ++ li).drop (k * n)).take n = li := by
    rw [← hAL, List.drop_left, ← hl, List.take_length]
  simp [F1, upl_self, e1]

theorem F1_args {zs : Bs} {f : Int} {n k : Nat} {R T : Nat → Pl} {AL li : List TxnC} {P : Nat → Pl} (hAL : AL.length = k * n) (q : Nat) (h : q < li.length) : F1 zs f n R T (AL ++ li) P k 2 (k * n + q) = rowA li[q] ∧ F1 zs f n R T (AL ++ li) P k 3 (k * n + q) = rowC li[q] := by
  have e1 : (AL ++ li).getD (k * n + q) default = li[q] := by
    rw [List.getD_eq_getElem?_getD, List.getElem?_append_right (by omega), hAL, Nat.add_sub_cancel_left, List.getElem?_eq_getElem h]
    rfl
  exact ⟨congrArg rowA e1, congrArg rowC e1⟩

theorem F1_done {zs : Bs} {f : Int} {n k : Nat} {R T : Nat → Pl} {AL : List TxnC} {P : Nat → Pl} {a0 a1 : Option Addr} {c0 c1 : Nat} {c j : Nat} (h : D1 n (k + 1) c j) :
    F1 zs f n R T AL (upl (upl P 0 ⟨a0, c0⟩) 1 ⟨a1, c1⟩) (k + 1) c j =
      up (up (F1 zs f n R T AL P k) 7 0 ⟨39, 1, none, 0, 0, [], a0, k + 1, c0, slB R zs.length k ++ [.slice (R k).A zs.length (R k).c]⟩) 7 1 ⟨24, 2, none, 0, 0, [], a1, k + 1, c1, slT f n T k ++ [.int .i64 f, .slice (T k).A n (T k).c]⟩ c j := by
  rcases h with ⟨rfl, h⟩ | ⟨rfl, h⟩ | ⟨rfl | rfl, h⟩ | ⟨rfl, h⟩
  · rw [up_other _ _ (by omega), up_other _ _ (by omega)]; rfl
  · rw [up_other _ _ (by omega), up_other _ _ (by omega)]; rfl
  · rw [up_other _ _ (by omega), up_other _ _ (by omega)]; rfl
  · rw [up_other _ _ (by omega), up_other _ _ (by omega)]; rfl
  · have hj : j = 0 ∨ j = 1 := by omega
    rcases hj with rfl | rfl
    · rw [up_other _ _ (by omega), up_self, ← slB_succ]
      simp [F1, upl]
    · rw [up_self, ← slT_succ]
      simp [F1, upl]

def slA (TL : List TxnC) (m : Nat) : List Value := (List.range m).map fun q => .slice (TL.getD q default).A (TL.getD q default).t.args.length (TL.getD q default).c
def slC (TL : List TxnC) (m : Nat) : List Value := (List.range m).map fun q => .slice (TL.getD q default).B (TL.getD q default).t.proc.code.length (TL.getD q default).d
theorem range_at {α : Type} (g : Nat → α) (k j : Nat) (h : j < k) : ((List.range k).map g)[j]? = some (g j) := by simp [h]
theorem slA_succ (TL : List TxnC) (m : Nat) : slA TL (m + 1) = slA TL m ++ [.slice (TL.getD m default).A (TL.getD m default).t.args.length (TL.getD m default).c] := by simp [slA, List.range_succ]
theorem slC_succ (TL : List TxnC) (m : Nat) : slC TL (m + 1) = slC TL m ++ [.slice (TL.getD m default).B (TL.getD m default).t.proc.code.length (TL.getD m default).d] := by simp [slC, List.range_succ]
theorem slA_at (TL : List TxnC) (m j : Nat) (h : j < m) : (slA TL m)[j]? = some (.slice (TL.getD j default).A (TL.getD j default).t.args.length (TL.getD j default).c) := by simp [slA, h]
theorem slC_at (TL : List TxnC) (m j : Nat) (h : j < m) : (slC TL m)[j]? = some (.slice (TL.getD j default).B (TL.getD j default).t.proc.code.length (TL.getD j default).d) := by simp [slC, h]
theorem slA_len (TL : List TxnC) (m : Nat) : (slA TL m).length = m := by simp [slA]
theorem slC_len (TL : List TxnC) (m : Nat) : (slC TL m).length = m := by simp [slC]
theorem slB_len (R : Nat → Pl) (N k : Nat) : (slB R N k).length = k := by simp [slB]

theorem blk_at {TL : List TxnC} {n K j q : Nat} (hTL : TL.length = K * n) (hj : j < K) (hq : q < n) : ∃ h : q < ((TL.drop (j * n)).take n).length, ((TL.drop (j * n)).take n)[q] = TL.getD (j * n + q) default ∧ j * n + q < K * n := by
  have hm : j * n + n ≤ K * n := by have := Nat.mul_le_mul_right n (show j + 1 ≤ K by omega); rw [Nat.add_mul] at this; omega
  refine ⟨by rw [List.length_take, List.length_drop]; omega, ?_, by omega⟩
  rw [List.getElem_take, List.getElem_drop, List.getD_eq_getElem?_getD, List.getElem?_eq_getElem (by omega)]
  rfl

/-- The lists of the inner lists too, so far. -/
def F2 (F : Nat → Nat → Rw) (TL : List TxnC) (Q : Nat → Pl) (m : Nat) : Nat → Nat → Rw :=
  up (up F 7 2 ⟨28, 1, none, 0, 0, [], (Q 0).A, m, (Q 0).c, slA TL m⟩) 7 3 ⟨25, 1, none, 0, 0, [], (Q 1).A, m, (Q 1).c, slC TL m⟩
def D2 (n K : Nat) : Nat → Nat → Prop := fun c j => D1 n K c j ∨ (c = 7 ∧ j < 4)
theorem F2_old {F : Nat → Nat → Rw} {TL : List TxnC} {Q : Nat → Pl} {m c j : Nat} (h : c ≠ 7 ∨ j < 2) : F2 F TL Q m c j = F c j := by
  unfold F2
  rw [up_other _ _ (by omega), up_other _ _ (by omega)]
theorem F2_a {F : Nat → Nat → Rw} {TL : List TxnC} {Q : Nat → Pl} {m : Nat} : F2 F TL Q m 7 2 = ⟨28, 1, none, 0, 0, [], (Q 0).A, m, (Q 0).c, slA TL m⟩ := by
  unfold F2
  rw [up_other _ _ (by omega), up_self]
theorem F2_c {F : Nat → Nat → Rw} {TL : List TxnC} {Q : Nat → Pl} {m : Nat} : F2 F TL Q m 7 3 = ⟨25, 1, none, 0, 0, [], (Q 1).A, m, (Q 1).c, slC TL m⟩ := by
  unfold F2
  rw [up_self]
theorem F2_next {F : Nat → Nat → Rw} {TL : List TxnC} {Q : Nat → Pl} {m : Nat} {a0 a1 : Option Addr} {c0 c1 : Nat} :
    up (up (F2 F TL Q m) 7 2 ⟨28, 1, none, 0, 0, [], a0, m + 1, c0, slA TL m ++ [.slice (TL.getD m default).A (TL.getD m default).t.args.length (TL.getD m default).c]⟩) 7 3 ⟨25, 1, none, 0, 0, [], a1, m + 1, c1, slC TL m ++ [.slice (TL.getD m default).B (TL.getD m default).t.proc.code.length (TL.getD m default).d]⟩
      = F2 F TL (upl (upl Q 0 ⟨a0, c0⟩) 1 ⟨a1, c1⟩) (m + 1) := by
  funext c j
  rw [← slA_succ, ← slC_succ]
  unfold F2
  by_cases e3 : c = 7 ∧ j = 3
  · obtain ⟨rfl, rfl⟩ := e3
    rw [up_self, up_self]
    simp [upl]
  · rw [up_other _ _ e3, up_other _ _ e3]
    by_cases e2 : c = 7 ∧ j = 2
    · obtain ⟨rfl, rfl⟩ := e2
      rw [up_self, up_self]
      simp [upl]
    · rw [up_other _ _ e2, up_other _ _ e2, up_other _ _ e3, up_other _ _ e2]

/-! ### filled -/
def part {α : Type} (g : α → α) (l : List α) (m : Nat) : List α := (l.take m).map g ++ l.drop m
theorem part_zero {α : Type} (g : α → α) (l : List α) : part g l 0 = l := by simp [part]
theorem part_all {α : Type} (g : α → α) (l : List α) : part g l l.length = l.map g := by simp [part]
theorem part_len {α : Type} (g : α → α) (l : List α) (m : Nat) : (part g l m).length = l.length := by simp [part]; omega
theorem part_get {α : Type} (g : α → α) (l : List α) (m : Nat) (h : m < l.length) : (part g l m)[m]'(by rw [part_len]; exact h) = l[m] := by
  unfold part
  rw [List.getElem_append_right (by rw [List.length_map, List.length_take]; omega)]
  simp [List.length_take, Nat.min_eq_left (Nat.le_of_lt h)]
theorem part_step {α : Type} (g : α → α) (l : List α) (m : Nat) (h : m < l.length) : (part g l m).set m (g l[m]) = part g l (m + 1) := by
  unfold part
  rw [List.set_append_right _ _ (by rw [List.length_map, List.length_take]; omega), List.length_map, List.length_take, Nat.min_eq_left (Nat.le_of_lt h), Nat.sub_self, List.drop_eq_getElem_cons h, List.set_cons_zero, List.take_succ_eq_append_getElem h, List.map_append, List.append_assoc]
  rfl
theorem flat_set {α : Type} (C : α → List Value) (s : Nat) (hs : 0 < s) (hC : ∀ x, (C x).length = s) (g : α → α) (v : Value) (hg : ∀ x, C (g x) = (C x).set 0 v) (l : List α) (m : Nat) (h : m < l.length) : (l.flatMap C).set (m * s) v = (l.set m (g l[m])).flatMap C := by
  induction l generalizing m with
  | nil => simp at h
  | cons x l ih =>
    cases m with
    | zero =>
      rw [List.flatMap_cons, List.set_cons_zero, List.flatMap_cons, Nat.zero_mul, List.getElem_cons_zero, hg, List.set_append_left _ _ (by rw [hC]; exact hs)]
    | succ m =>
      have e : (m + 1) * s - (C x).length = m * s := by rw [hC, Nat.add_mul, Nat.one_mul, Nat.add_sub_cancel]
      rw [List.flatMap_cons, List.set_cons_succ, List.flatMap_cons, List.set_append_right _ _ (by rw [hC, Nat.add_mul, Nat.one_mul]; omega), e, ih m (by simpa using h)]
      rfl
theorem flat_part {α : Type} (C : α → List Value) (s : Nat) (hs : 0 < s) (hC : ∀ x, (C x).length = s) (g : α → α) (v : Value) (hg : ∀ x, C (g x) = (C x).set 0 v) (l : List α) (m : Nat) (h : m < l.length) : ((part g l m).flatMap C).set (m * s) v = (part g l (m + 1)).flatMap C := by
  rw [flat_set C s hs hC g v hg _ m (by rw [part_len]; exact h), part_get g l m h, part_step g l m h]
theorem flat_len {α : Type} (C : α → List Value) (s : Nat) (hC : ∀ x, (C x).length = s) (l : List α) : (l.flatMap C).length = l.length * s := by
  induction l with
  | nil => simp
  | cons x l ih => rw [List.flatMap_cons, List.length_append, hC, ih, List.length_cons, Nat.add_mul, Nat.one_mul, Nat.add_comm]
theorem flat_at {α : Type} (C : α → List Value) (s : Nat) (hs : 0 < s) (hC : ∀ x, (C x).length = s) (l : List α) (m : Nat) (h : m < l.length) : (l.flatMap C)[m * s]? = (C l[m])[0]? := by
  induction l generalizing m with
  | nil => simp at h
  | cons x l ih =>
    rw [List.flatMap_cons]
    cases m with
    | zero => rw [Nat.zero_mul, List.getElem?_append_left (by rw [hC]; exact hs)]; rfl
    | succ m =>
      have e : (m + 1) * s - (C x).length = m * s := by rw [hC, Nat.add_mul, Nat.one_mul, Nat.add_sub_cancel]
      rw [List.getElem?_append_right (by rw [hC, Nat.add_mul, Nat.one_mul]; omega), e, ih m (by simpa using h)]
      rfl

def prof (k : Nat) (L : Nat → Nat) (m : Nat) : Nat → Nat := fun j => if j < k then L j else if j = k then m else 0
theorem prof_next (k : Nat) (L : Nat → Nat) : prof k L (L k) = prof (k + 1) L 0 := by
  funext j
  unfold prof
  repeat' split
  all_goals first | rfl | omega | (subst_vars; rfl)
theorem prof_at (k : Nat) (L : Nat → Nat) (m : Nat) : prof k L m k = m := by simp [prof]
theorem prof_ne {k j : Nat} (L : Nat → Nat) (m m' : Nat) (h : j ≠ k) : prof k L m j = prof k L m' j := by
  unfold prof
  rw [if_neg h, if_neg h]
theorem prof_zero (L : Nat → Nat) (j : Nat) : prof 0 L 0 j = 0 := by simp [prof]
theorem prof_z (L : Nat → Nat) : prof 0 L 0 = fun _ => 0 := by funext j; exact prof_zero L j
theorem prof_all {k j : Nat} (L : Nat → Nat) (m : Nat) (h : j < k) : prof k L m j = L j := by unfold prof; rw [if_pos h]

def setT (j : Nat) (x : TxnC) : TxnC := { x with t := { x.t with kind := 10 + (j : Int) } }
def setV (j : Nat) (v : Val) : Val := { v with kind := 1000 + (j : Int) }
def setC (j : Nat) (x : Ins) : Ins := { x with op := 1000 + (j : Int) }
def blk (TL : List TxnC) (n j : Nat) : List TxnC := (TL.drop (j * n)).take n
def cB (zs : Bs) (m : Nat → Nat) : Nat → List Value := fun j => partB zs j (m j)
def cT (TL : List TxnC) (n : Nat) (m : Nat → Nat) : Nat → List Value := fun j => txnsCells (part (setT j) (blk TL n j) (m j))
def cA (TL : List TxnC) (m : Nat → Nat) : Nat → List Value := fun j => valsCells (part (setV j) (TL.getD j default).t.args (m j))
def cC (TL : List TxnC) (m : Nat → Nat) : Nat → List Value := fun j => codeCells (part (setC j) (TL.getD j default).t.proc.code (m j))

theorem txn_part (l : List TxnC) (j m : Nat) (h : m < l.length) : (txnsCells (part (setT j) l m)).set (m * 6) (.int .i64 (10 + (j : Int))) = txnsCells (part (setT j) l (m + 1)) :=
  flat_part (fun x : TxnC => x.cells.toList) 6 (by decide) (fun _ => rfl) (setT j) (.int .i64 (10 + (j : Int))) (fun x => by simp [setT, TxnC.cells]) l m h
theorem val_part (l : List Val) (j m : Nat) (h : m < l.length) : (valsCells (part (setV j) l m)).set (m * 3) (.int .i64 (1000 + (j : Int))) = valsCells (part (setV j) l (m + 1)) :=
  flat_part (fun x : Val => (valCells x).toList) 3 (by decide) (fun _ => rfl) (setV j) (.int .i64 (1000 + (j : Int))) (fun x => by simp [setV, valCells]) l m h
theorem ins_part (l : List Ins) (j m : Nat) (h : m < l.length) : (codeCells (part (setC j) l m)).set (m * 8) (.int .i64 (1000 + (j : Int))) = codeCells (part (setC j) l (m + 1)) :=
  flat_part (fun x : Ins => (insCells x).toList) 8 (by decide) (fun _ => rfl) (setC j) (.int .i64 (1000 + (j : Int))) (fun x => by simp [setC, insCells]) l m h

/-- All rows, with what they hold. -/
def FG (N n K M : Nat) (f : Int) (R T : Nat → Pl) (TL : List TxnC) (P Q : Nat → Pl) (bB bT bA bC : Nat → List Value) : Nat → Nat → Rw := fun c j =>
  if c = 0 then Rw.new 5 1 (R j).A N (R j).c (bB j)
  else if c = 1 then Rw.new 30 6 (T j).A n (T j).c (bT j)
  else if c = 2 then Rw.new 57 3 (TL.getD j default).A (TL.getD j default).t.args.length (TL.getD j default).c (bA j)
  else if c = 3 then Rw.new 59 8 (TL.getD j default).B (TL.getD j default).t.proc.code.length (TL.getD j default).d (bC j)
  else if j = 0 then ⟨39, 1, none, 0, 0, [], (P 0).A, K, (P 0).c, slB R N K⟩
  else if j = 1 then ⟨24, 2, none, 0, 0, [], (P 1).A, K, (P 1).c, slT f n T K⟩
  else if j = 2 then ⟨28, 1, none, 0, 0, [], (Q 0).A, M, (Q 0).c, slA TL M⟩
  else ⟨25, 1, none, 0, 0, [], (Q 1).A, M, (Q 1).c, slC TL M⟩

theorem FG_start {zs : Bs} {f : Int} {n K M : Nat} {R T : Nat → Pl} {TL : List TxnC} {P Q : Nat → Pl} {z : Nat → Nat} (hz : ∀ j, z j = 0) {c j : Nat} (h : D2 n K c j) :
    FG zs.length n K M f R T TL P Q (cB zs z) (cT TL n z) (cA TL z) (cC TL z) c j = F2 (F1 zs f n R T TL P K) TL Q M c j := by
  rcases h with (⟨rfl, h⟩ | ⟨rfl, h⟩ | ⟨rfl | rfl, h⟩ | ⟨rfl, h⟩) | ⟨rfl, h⟩
  · rw [F2_old (.inl (by decide))]
    simp only [FG, F1, if_true, cB, hz, partB_zero]
  · rw [F2_old (.inl (by decide))]
    simp [FG, F1, cT, hz, part_zero, blk]
  · rw [F2_old (.inl (by decide))]
    simp [FG, F1, cA, hz, part_zero, rowA]
  · rw [F2_old (.inl (by decide))]
    simp [FG, F1, cC, hz, part_zero, rowC]
  · have hj : j = 0 ∨ j = 1 := by omega
    rcases hj with rfl | rfl
    · rw [F2_old (.inr (by decide))]; rfl
    · rw [F2_old (.inr (by decide))]; rfl
  · have hj : j = 0 ∨ j = 1 ∨ j = 2 ∨ j = 3 := by omega
    rcases hj with rfl | rfl | rfl | rfl
    · rw [F2_old (.inr (by decide))]; rfl
    · rw [F2_old (.inr (by decide))]; rfl
    · rw [F2_a]; rfl
    · rw [F2_c]; rfl

section
variable {N n K M : Nat} {f : Int} {R T : Nat → Pl} {TL : List TxnC} {P Q : Nat → Pl} {bB bT bA bC b' : Nat → List Value}
theorem FG_B (k : Nat) (v : List Value) (h1 : b' k = v) (h2 : ∀ j, j ≠ k → b' j = bB j) : up (FG N n K M f R T TL P Q bB bT bA bC) 0 k (Rw.new 5 1 (R k).A N (R k).c v) = FG N n K M f R T TL P Q b' bT bA bC := by
  funext c j
  by_cases e : c = 0 ∧ j = k
  · obtain ⟨rfl, rfl⟩ := e
    rw [up_self, ← h1]; rfl
  · rw [up_other _ _ e]
    by_cases e0 : c = 0
    · subst e0
      simp only [FG, if_true, h2 j (fun h => e ⟨rfl, h⟩)]
    · simp only [FG, if_neg e0]
theorem FG_T (k : Nat) (v : List Value) (h1 : b' k = v) (h2 : ∀ j, j ≠ k → b' j = bT j) : up (FG N n K M f R T TL P Q bB bT bA bC) 1 k (Rw.new 30 6 (T k).A n (T k).c v) = FG N n K M f R T TL P Q bB b' bA bC := by
  funext c j
  by_cases e : c = 1 ∧ j = k
  · obtain ⟨rfl, rfl⟩ := e
    rw [up_self, ← h1]; rfl
  · rw [up_other _ _ e]
    by_cases e0 : c = 1
    · subst e0
      have := h2 j (fun h => e ⟨rfl, h⟩)
      simp [FG, this]
    · simp only [FG, if_neg e0]
theorem FG_A (k : Nat) (v : List Value) (h1 : b' k = v) (h2 : ∀ j, j ≠ k → b' j = bA j) : up (FG N n K M f R T TL P Q bB bT bA bC) 2 k (Rw.new 57 3 (TL.getD k default).A (TL.getD k default).t.args.length (TL.getD k default).c v) = FG N n K M f R T TL P Q bB bT b' bC := by
  funext c j
  by_cases e : c = 2 ∧ j = k
  · obtain ⟨rfl, rfl⟩ := e
    rw [up_self, ← h1]; rfl
  · rw [up_other _ _ e]
    by_cases e0 : c = 2
    · subst e0
      have := h2 j (fun h => e ⟨rfl, h⟩)
      simp [FG, this]
    · simp only [FG, if_neg e0]
theorem FG_C (k : Nat) (v : List Value) (h1 : b' k = v) (h2 : ∀ j, j ≠ k → b' j = bC j) : up (FG N n K M f R T TL P Q bB bT bA bC) 3 k (Rw.new 59 8 (TL.getD k default).B (TL.getD k default).t.proc.code.length (TL.getD k default).d v) = FG N n K M f R T TL P Q bB bT bA b' := by
  funext c j
  by_cases e : c = 3 ∧ j = k
  · obtain ⟨rfl, rfl⟩ := e
    rw [up_self, ← h1]; rfl
  · rw [up_other _ _ e]
    by_cases e0 : c = 3
    · subst e0
      have := h2 j (fun h => e ⟨rfl, h⟩)
      simp [FG, this]
    · simp only [FG, if_neg e0]
end

/-! ### grown -/
def vG2 (j : Nat) : Value := .int .u8 (100 + (j : Int))
def mkT (j : Nat) : TxnC := ⟨⟨100 + (j : Int), ⟨⟨#[]⟩, 0, []⟩, ⟨#[]⟩, []⟩, none, 0, none, 0⟩
def mkV (j : Nat) : Val := ⟨5000 + (j : Int), 0, ⟨#[]⟩⟩
def mkC (j : Nat) : Ins := ⟨5000 + (j : Int), 0, 0, 0, 0, ⟨0, 0, ⟨#[]⟩⟩⟩

/-- All rows while they grow, and the lists of the long ones. -/
structure GP (N n K M : Nat) (f : Int) (R T : Nat → Pl) (TL : List TxnC) (P Q : Nat → Pl) (bB bT bA bC : Nat → List Value) (F : Nat → Nat → Rw) (gB gT gA gC : Nat → Nat) (kL mL : Nat) : Prop where
  b : ∀ j, j < 3 → F 0 j = ⟨5, 1, (R j).A, N, (R j).c, bB j, (F 0 j).A, N + gB j, (F 0 j).c, bB j ++ List.replicate (gB j) (vG2 j)⟩ ∧ (gB j = 0 → (F 0 j).A = (R j).A ∧ (F 0 j).c = (R j).c)
  t : ∀ j, j < 3 → F 1 j = ⟨30, 6, (T j).A, n, (T j).c, bT j, (F 1 j).A, n + gT j, (F 1 j).c, bT j ++ txnsCells (List.replicate (gT j) (mkT j))⟩ ∧ (gT j = 0 → (F 1 j).A = (T j).A ∧ (F 1 j).c = (T j).c)
  a : ∀ j, j < M → F 2 j = ⟨57, 3, (TL.getD j default).A, (TL.getD j default).t.args.length, (TL.getD j default).c, bA j, (F 2 j).A, (TL.getD j default).t.args.length + gA j, (F 2 j).c, bA j ++ valsCells (List.replicate (gA j) (mkV j))⟩ ∧ (gA j = 0 → (F 2 j).A = (TL.getD j default).A ∧ (F 2 j).c = (TL.getD j default).c)
  c : ∀ j, j < M → F 3 j = ⟨59, 8, (TL.getD j default).B, (TL.getD j default).t.proc.code.length, (TL.getD j default).d, bC j, (F 3 j).A, (TL.getD j default).t.proc.code.length + gC j, (F 3 j).c, bC j ++ codeCells (List.replicate (gC j) (mkC j))⟩ ∧ (gC j = 0 → (F 3 j).A = (TL.getD j default).B ∧ (F 3 j).c = (TL.getD j default).d)
  l0 : F 7 0 = ⟨39, 1, none, 0, 0, [], (P 0).A, K, (P 0).c, slB R N K⟩
  l1 : F 7 1 = ⟨24, 2, none, 0, 0, [], (P 1).A, K, (P 1).c, slT f n T K⟩
  l2 : F 7 2 = ⟨28, 1, none, 0, 0, [], (Q 0).A, M, (Q 0).c, slA TL M⟩
  l3 : F 7 3 = ⟨25, 1, none, 0, 0, [], (Q 1).A, M, (Q 1).c, slC TL M⟩
  l4 : F 7 4 = ⟨39, 1, none, 0, 0, [], (F 7 4).A, kL, (F 7 4).c, (List.range kL).map fun j => (F 0 j).v⟩
  l5 : F 7 5 = ⟨22, 1, none, 0, 0, [], (F 7 5).A, kL, (F 7 5).c, (List.range kL).map fun j => (F 1 j).v⟩
  l6 : F 7 6 = ⟨28, 1, none, 0, 0, [], (F 7 6).A, mL, (F 7 6).c, (List.range mL).map fun j => (F 2 j).v⟩
  l7 : F 7 7 = ⟨25, 1, none, 0, 0, [], (F 7 7).A, mL, (F 7 7).c, (List.range mL).map fun j => (F 3 j).v⟩

section
variable {N n K M : Nat} {f : Int} {R T : Nat → Pl} {TL : List TxnC} {P Q : Nat → Pl} {bB bT bA bC : Nat → List Value} {F : Nat → Nat → Rw} {gB gT gA gC : Nat → Nat} {kL mL : Nat}
theorem map_v (F F' : Nat → Nat → Rw) (cl k : Nat) (h : ∀ j, j < k → F' cl j = F cl j) : (List.range k).map (fun j => (F' cl j).v) = (List.range k).map (fun j => (F cl j).v) :=
  List.map_congr_left (fun j hj => by rw [h j (List.mem_range.1 hj)])
theorem GP.growB {k m : Nat} {L : Nat → Nat} (h : GP N n K M f R T TL P Q bB bT bA bC F (prof k L m) gT gA gC kL mL) (hk : k < 3) (hl : kL ≤ k) {A' : Option Addr} {c' : Nat} :
    GP N n K M f R T TL P Q bB bT bA bC (up F 0 k ⟨5, 1, (R k).A, N, (R k).c, bB k, A', N + m + 1, c', bB k ++ List.replicate m (vG2 k) ++ [vG2 k]⟩) (prof k L (m + 1)) gT gA gC kL mL := by
  have hu := fun (r : Rw) c j (e : ¬ (c = 0 ∧ j = k)) => up_other F (c := 0) (j := k) (c' := c) (j' := j) r e
  refine ⟨?_, ?_, ?_, ?_, ?_, ?_, ?_, ?_, ?_, ?_, ?_, ?_⟩
  · intro j hj
    by_cases e : j = k
    · subst e
      rw [up_self, prof_at]
      exact ⟨by rw [List.replicate_succ']; simp [Nat.add_assoc], fun h => by omega⟩
    · rw [hu _ _ _ (by omega), prof_ne L (m + 1) m e]
      exact h.b j hj
  · intro j hj
    rw [hu _ _ _ (by omega)]
    exact h.t j hj
  · intro j hj
    rw [hu _ _ _ (by omega)]
    exact h.a j hj
  · intro j hj
    rw [hu _ _ _ (by omega)]
    exact h.c j hj
  · rw [hu _ _ _ (by omega)]; exact h.l0
  · rw [hu _ _ _ (by omega)]; exact h.l1
  · rw [hu _ _ _ (by omega)]; exact h.l2
  · rw [hu _ _ _ (by omega)]; exact h.l3
  · rw [hu _ 7 4 (by omega), map_v F _ 0 kL (fun j hj => hu _ _ _ (by omega))]; exact h.l4
  · rw [hu _ 7 5 (by omega), map_v F _ 1 kL (fun j hj => hu _ _ _ (by omega))]; exact h.l5
  · rw [hu _ 7 6 (by omega), map_v F _ 2 mL (fun j hj => hu _ _ _ (by omega))]; exact h.l6
  · rw [hu _ 7 7 (by omega), map_v F _ 3 mL (fun j hj => hu _ _ _ (by omega))]; exact h.l7

theorem GP.growT {k m : Nat} {L : Nat → Nat} (h : GP N n K M f R T TL P Q bB bT bA bC F gB (prof k L m) gA gC kL mL) (hk : k < 3) (hl : kL ≤ k) {A' : Option Addr} {c' : Nat} :
    GP N n K M f R T TL P Q bB bT bA bC (up F 1 k ⟨30, 6, (T k).A, n, (T k).c, bT k, A', n + m + 1, c', bT k ++ txnsCells (List.replicate m (mkT k)) ++ (mkT k).cells.toList⟩) gB (prof k L (m + 1)) gA gC kL mL := by
  have hu := fun (r : Rw) c j (e : ¬ (c = 1 ∧ j = k)) => up_other F (c := 1) (j := k) (c' := c) (j' := j) r e
  refine ⟨?_, ?_, ?_, ?_, ?_, ?_, ?_, ?_, ?_, ?_, ?_, ?_⟩
  · intro j hj
    rw [hu _ _ _ (by omega)]
    exact h.b j hj
  · intro j hj
    by_cases e : j = k
    · subst e
      rw [up_self, prof_at]
      exact ⟨by rw [List.replicate_succ', txnsCells_append, show txnsCells [mkT j] = (mkT j).cells.toList from by simp [txnsCells]]; simp [Nat.add_assoc], fun h => by omega⟩
    · rw [hu _ _ _ (by omega), prof_ne L (m + 1) m e]
      exact h.t j hj
  · intro j hj
    rw [hu _ _ _ (by omega)]
    exact h.a j hj
  · intro j hj
    rw [hu _ _ _ (by omega)]
    exact h.c j hj
  · rw [hu _ _ _ (by omega)]; exact h.l0
  · rw [hu _ _ _ (by omega)]; exact h.l1
  · rw [hu _ _ _ (by omega)]; exact h.l2
  · rw [hu _ _ _ (by omega)]; exact h.l3
  · rw [hu _ 7 4 (by omega), map_v F _ 0 kL (fun j hj => hu _ _ _ (by omega))]; exact h.l4
  · rw [hu _ 7 5 (by omega), map_v F _ 1 kL (fun j hj => hu _ _ _ (by omega))]; exact h.l5
  · rw [hu _ 7 6 (by omega), map_v F _ 2 mL (fun j hj => hu _ _ _ (by omega))]; exact h.l6
  · rw [hu _ 7 7 (by omega), map_v F _ 3 mL (fun j hj => hu _ _ _ (by omega))]; exact h.l7

theorem GP.growA {k m : Nat} {L : Nat → Nat} (h : GP N n K M f R T TL P Q bB bT bA bC F gB gT (prof k L m) gC kL mL) (hk : k < M) (hl : mL ≤ k) {A' : Option Addr} {c' : Nat} :
    GP N n K M f R T TL P Q bB bT bA bC (up F 2 k ⟨57, 3, (TL.getD k default).A, (TL.getD k default).t.args.length, (TL.getD k default).c, bA k, A', (TL.getD k default).t.args.length + m + 1, c', bA k ++ valsCells (List.replicate m (mkV k)) ++ (valCells (mkV k)).toList⟩) gB gT (prof k L (m + 1)) gC kL mL := by
  have hu := fun (r : Rw) c j (e : ¬ (c = 2 ∧ j = k)) => up_other F (c := 2) (j := k) (c' := c) (j' := j) r e
  refine ⟨?_, ?_, ?_, ?_, ?_, ?_, ?_, ?_, ?_, ?_, ?_, ?_⟩
  · intro j hj
    rw [hu _ _ _ (by omega)]
    exact h.b j hj
  · intro j hj
    rw [hu _ _ _ (by omega)]
    exact h.t j hj
  · intro j hj
    by_cases e : j = k
    · subst e
      rw [up_self, prof_at]
      exact ⟨by rw [List.replicate_succ', valsCells_append, show valsCells [mkV j] = (valCells (mkV j)).toList from by simp [valsCells]]; simp [Nat.add_assoc], fun h => by omega⟩
    · rw [hu _ _ _ (by omega), prof_ne L (m + 1) m e]
      exact h.a j hj
  · intro j hj
    rw [hu _ _ _ (by omega)]
    exact h.c j hj
  · rw [hu _ _ _ (by omega)]; exact h.l0
  · rw [hu _ _ _ (by omega)]; exact h.l1
  · rw [hu _ _ _ (by omega)]; exact h.l2
  · rw [hu _ _ _ (by omega)]; exact h.l3
  · rw [hu _ 7 4 (by omega), map_v F _ 0 kL (fun j hj => hu _ _ _ (by omega))]; exact h.l4
  · rw [hu _ 7 5 (by omega), map_v F _ 1 kL (fun j hj => hu _ _ _ (by omega))]; exact h.l5
  · rw [hu _ 7 6 (by omega), map_v F _ 2 mL (fun j hj => hu _ _ _ (by omega))]; exact h.l6
  · rw [hu _ 7 7 (by omega), map_v F _ 3 mL (fun j hj => hu _ _ _ (by omega))]; exact h.l7

theorem GP.growC {k m : Nat} {L : Nat → Nat} (h : GP N n K M f R T TL P Q bB bT bA bC F gB gT gA (prof k L m) kL mL) (hk : k < M) (hl : mL ≤ k) {A' : Option Addr} {c' : Nat} :
    GP N n K M f R T TL P Q bB bT bA bC (up F 3 k ⟨59, 8, (TL.getD k default).B, (TL.getD k default).t.proc.code.length, (TL.getD k default).d, bC k, A', (TL.getD k default).t.proc.code.length + m + 1, c', bC k ++ codeCells (List.replicate m (mkC k)) ++ (insCells (mkC k)).toList⟩) gB gT gA (prof k L (m + 1)) kL mL := by
  have hu := fun (r : Rw) c j (e : ¬ (c = 3 ∧ j = k)) => up_other F (c := 3) (j := k) (c' := c) (j' := j) r e
  refine ⟨?_, ?_, ?_, ?_, ?_, ?_, ?_, ?_, ?_, ?_, ?_, ?_⟩
  · intro j hj
    rw [hu _ _ _ (by omega)]
    exact h.b j hj
  · intro j hj
    rw [hu _ _ _ (by omega)]
    exact h.t j hj
  · intro j hj
    rw [hu _ _ _ (by omega)]
    exact h.a j hj
  · intro j hj
    by_cases e : j = k
    · subst e
      rw [up_self, prof_at]
      exact ⟨by rw [List.replicate_succ', codeCells_append _ [mkC j], codeCells_one]; simp [Nat.add_assoc], fun h => by omega⟩
    · rw [hu _ _ _ (by omega), prof_ne L (m + 1) m e]
      exact h.c j hj
  · rw [hu _ _ _ (by omega)]; exact h.l0
  · rw [hu _ _ _ (by omega)]; exact h.l1
  · rw [hu _ _ _ (by omega)]; exact h.l2
  · rw [hu _ _ _ (by omega)]; exact h.l3
  · rw [hu _ 7 4 (by omega), map_v F _ 0 kL (fun j hj => hu _ _ _ (by omega))]; exact h.l4
  · rw [hu _ 7 5 (by omega), map_v F _ 1 kL (fun j hj => hu _ _ _ (by omega))]; exact h.l5
  · rw [hu _ 7 6 (by omega), map_v F _ 2 mL (fun j hj => hu _ _ _ (by omega))]; exact h.l6
  · rw [hu _ 7 7 (by omega), map_v F _ 3 mL (fun j hj => hu _ _ _ (by omega))]; exact h.l7

theorem GP.push45 (h : GP N n K M f R T TL P Q bB bT bA bC F gB gT gA gC kL mL) {a0 a1 : Option Addr} {c0 c1 : Nat} :
    GP N n K M f R T TL P Q bB bT bA bC (up (up F 7 4 ⟨39, 1, none, 0, 0, [], a0, kL + 1, c0, ((List.range kL).map fun j => (F 0 j).v) ++ [(F 0 kL).v]⟩) 7 5 ⟨22, 1, none, 0, 0, [], a1, kL + 1, c1, ((List.range kL).map fun j => (F 1 j).v) ++ [(F 1 kL).v]⟩) gB gT gA gC (kL + 1) (mL) := by
  have hu := fun c j (e : ¬ (c = 7 ∧ (j = 4 ∨ j = 5))) => (up_other (up F 7 4 ⟨39, 1, none, 0, 0, [], a0, kL + 1, c0, ((List.range kL).map fun j => (F 0 j).v) ++ [(F 0 kL).v]⟩) (c := 7) (j := 5) (c' := c) (j' := j) ⟨22, 1, none, 0, 0, [], a1, kL + 1, c1, ((List.range kL).map fun j => (F 1 j).v) ++ [(F 1 kL).v]⟩ (by omega)).trans (up_other F (c := 7) (j := 4) (c' := c) (j' := j) ⟨39, 1, none, 0, 0, [], a0, kL + 1, c0, ((List.range kL).map fun j => (F 0 j).v) ++ [(F 0 kL).v]⟩ (by omega))
  refine ⟨?_, ?_, ?_, ?_, ?_, ?_, ?_, ?_, ?_, ?_, ?_, ?_⟩
  · intro j hj
    rw [hu _ _ (by omega)]
    exact h.b j hj
  · intro j hj
    rw [hu _ _ (by omega)]
    exact h.t j hj
  · intro j hj
    rw [hu _ _ (by omega)]
    exact h.a j hj
  · intro j hj
    rw [hu _ _ (by omega)]
    exact h.c j hj
  · rw [hu _ _ (by omega)]; exact h.l0
  · rw [hu _ _ (by omega)]; exact h.l1
  · rw [hu _ _ (by omega)]; exact h.l2
  · rw [hu _ _ (by omega)]; exact h.l3
  · rw [map_v F _ 0 _ (fun j hj => hu _ _ (by omega)), up_other _ _ (by omega), up_self, List.range_succ, List.map_append]; rfl
  · rw [map_v F _ 1 _ (fun j hj => hu _ _ (by omega)), up_self, List.range_succ, List.map_append]; rfl
  · rw [map_v F _ 2 _ (fun j hj => hu _ _ (by omega)), hu _ _ (by omega)]; exact h.l6
  · rw [map_v F _ 3 _ (fun j hj => hu _ _ (by omega)), hu _ _ (by omega)]; exact h.l7

theorem GP.push67 (h : GP N n K M f R T TL P Q bB bT bA bC F gB gT gA gC kL mL) {a0 a1 : Option Addr} {c0 c1 : Nat} :
    GP N n K M f R T TL P Q bB bT bA bC (up (up F 7 6 ⟨28, 1, none, 0, 0, [], a0, mL + 1, c0, ((List.range mL).map fun j => (F 2 j).v) ++ [(F 2 mL).v]⟩) 7 7 ⟨25, 1, none, 0, 0, [], a1, mL + 1, c1, ((List.range mL).map fun j => (F 3 j).v) ++ [(F 3 mL).v]⟩) gB gT gA gC (kL) (mL + 1) := by
  have hu := fun c j (e : ¬ (c = 7 ∧ (j = 6 ∨ j = 7))) => (up_other (up F 7 6 ⟨28, 1, none, 0, 0, [], a0, mL + 1, c0, ((List.range mL).map fun j => (F 2 j).v) ++ [(F 2 mL).v]⟩) (c := 7) (j := 7) (c' := c) (j' := j) ⟨25, 1, none, 0, 0, [], a1, mL + 1, c1, ((List.range mL).map fun j => (F 3 j).v) ++ [(F 3 mL).v]⟩ (by omega)).trans (up_other F (c := 7) (j := 6) (c' := c) (j' := j) ⟨28, 1, none, 0, 0, [], a0, mL + 1, c0, ((List.range mL).map fun j => (F 2 j).v) ++ [(F 2 mL).v]⟩ (by omega))
  refine ⟨?_, ?_, ?_, ?_, ?_, ?_, ?_, ?_, ?_, ?_, ?_, ?_⟩
  · intro j hj
    rw [hu _ _ (by omega)]
    exact h.b j hj
  · intro j hj
    rw [hu _ _ (by omega)]
    exact h.t j hj
  · intro j hj
    rw [hu _ _ (by omega)]
    exact h.a j hj
  · intro j hj
    rw [hu _ _ (by omega)]
    exact h.c j hj
  · rw [hu _ _ (by omega)]; exact h.l0
  · rw [hu _ _ (by omega)]; exact h.l1
  · rw [hu _ _ (by omega)]; exact h.l2
  · rw [hu _ _ (by omega)]; exact h.l3
  · rw [map_v F _ 0 _ (fun j hj => hu _ _ (by omega)), hu _ _ (by omega)]; exact h.l4
  · rw [map_v F _ 1 _ (fun j hj => hu _ _ (by omega)), hu _ _ (by omega)]; exact h.l5
  · rw [map_v F _ 2 _ (fun j hj => hu _ _ (by omega)), up_other _ _ (by omega), up_self, List.range_succ, List.map_append]; rfl
  · rw [map_v F _ 3 _ (fun j hj => hu _ _ (by omega)), up_self, List.range_succ, List.map_append]; rfl

end

theorem txn_kind (L : List TxnC) (m : Nat) (h : m < L.length) : (txnsCells L)[m * 6]? = some (.int .i64 L[m].t.kind) :=
  flat_at (fun x : TxnC => x.cells.toList) 6 (by decide) (fun _ => rfl) L m h
theorem txn_at (A : List TxnC) (j m : Nat) (h : m < A.length) : (txnsCells (A.map (setT j)))[m * 6]? = some (.int .i64 (10 + (j : Int))) := by
  rw [txn_kind _ m (by rw [List.length_map]; exact h), List.getElem_map]
  rfl
theorem txn_in (A : List TxnC) (j k m : Nat) (h : m < A.length) : (txnsCells (A.map (setT j)) ++ txnsCells (List.replicate k (mkT j)))[m * 6]? = some (.int .i64 (10 + (j : Int))) := by
  rw [List.getElem?_append_left (by rw [txnsCells_length, List.length_map]; omega)]
  exact txn_at A j m h
theorem txn_on (A : List TxnC) (j k m : Nat) (h : A.length ≤ m) (h2 : m < A.length + k) : (txnsCells (A.map (setT j)) ++ txnsCells (List.replicate k (mkT j)))[m * 6]? = some (.int .i64 (100 + (j : Int))) := by
  have e : m * 6 - A.length * 6 = (m - A.length) * 6 := by omega
  rw [List.getElem?_append_right (by rw [txnsCells_length, List.length_map]; omega), txnsCells_length, List.length_map, e, txn_kind _ _ (by rw [List.length_replicate]; omega), List.getElem_replicate]
  rfl
theorem val_kind (L : List Val) (m : Nat) (h : m < L.length) : (valsCells L)[m * 3]? = some (.int .i64 L[m].kind) :=
  flat_at (fun x : Val => (valCells x).toList) 3 (by decide) (fun _ => rfl) L m h
theorem val_at (A : List Val) (j m : Nat) (h : m < A.length) : (valsCells (A.map (setV j)))[m * 3]? = some (.int .i64 (1000 + (j : Int))) := by
  rw [val_kind _ m (by rw [List.length_map]; exact h), List.getElem_map]
  rfl
theorem val_in (A : List Val) (j k m : Nat) (h : m < A.length) : (valsCells (A.map (setV j)) ++ valsCells (List.replicate k (mkV j)))[m * 3]? = some (.int .i64 (1000 + (j : Int))) := by
  rw [List.getElem?_append_left (by rw [valsCells_length, List.length_map]; omega)]
  exact val_at A j m h
theorem val_on (A : List Val) (j k m : Nat) (h : A.length ≤ m) (h2 : m < A.length + k) : (valsCells (A.map (setV j)) ++ valsCells (List.replicate k (mkV j)))[m * 3]? = some (.int .i64 (5000 + (j : Int))) := by
  have e : m * 3 - A.length * 3 = (m - A.length) * 3 := by omega
  rw [List.getElem?_append_right (by rw [valsCells_length, List.length_map]; omega), valsCells_length, List.length_map, e, val_kind _ _ (by rw [List.length_replicate]; omega), List.getElem_replicate]
  rfl
theorem ins_kind (L : List Ins) (m : Nat) (h : m < L.length) : (codeCells L)[m * 8]? = some (.int .i64 L[m].op) :=
  flat_at (fun x : Ins => (insCells x).toList) 8 (by decide) (fun _ => rfl) L m h
theorem ins_at (A : List Ins) (j m : Nat) (h : m < A.length) : (codeCells (A.map (setC j)))[m * 8]? = some (.int .i64 (1000 + (j : Int))) := by
  rw [ins_kind _ m (by rw [List.length_map]; exact h), List.getElem_map]
  rfl
theorem ins_in (A : List Ins) (j k m : Nat) (h : m < A.length) : (codeCells (A.map (setC j)) ++ codeCells (List.replicate k (mkC j)))[m * 8]? = some (.int .i64 (1000 + (j : Int))) := by
  rw [List.getElem?_append_left (by rw [codeCells_length, List.length_map]; omega)]
  exact ins_at A j m h
theorem ins_on (A : List Ins) (j k m : Nat) (h : A.length ≤ m) (h2 : m < A.length + k) : (codeCells (A.map (setC j)) ++ codeCells (List.replicate k (mkC j)))[m * 8]? = some (.int .i64 (5000 + (j : Int))) := by
  have e : m * 8 - A.length * 8 = (m - A.length) * 8 := by omega
  rw [List.getElem?_append_right (by rw [codeCells_length, List.length_map]; omega), codeCells_length, List.length_map, e, ins_kind _ _ (by rw [List.length_replicate]; omega), List.getElem_replicate]
  rfl
theorem byte_in (zs : Bs) (j k m : Nat) (h : m < zs.length) : (partB zs j zs.length ++ List.replicate k (vG2 j))[m]? = some (.int .u8 (10 + (j : Int))) := by
  rw [List.getElem?_append_left (by rw [partB_len zs j _ (Nat.le_refl _)]; exact h)]
  unfold partB
  rw [List.getElem?_append_left (by simpa using h), List.getElem?_replicate_of_lt h]
  rfl
theorem byte_on (zs : Bs) (j k m : Nat) (h : zs.length ≤ m) (h2 : m < zs.length + k) : (partB zs j zs.length ++ List.replicate k (vG2 j))[m]? = some (.int .u8 (100 + (j : Int))) := by
  rw [List.getElem?_append_right (by rw [partB_len zs j _ (Nat.le_refl _)]; exact h), partB_len zs j _ (Nat.le_refl _), List.getElem?_replicate_of_lt (by omega)]
  rfl

def D4 (n K : Nat) : Nat → Nat → Prop := fun c j => D1 n K c j ∨ (c = 7 ∧ j < 8)

theorem infoSl : (Try.prog.info? 39).map (fun i => (i.zero, i.size, i.bytes)) = some (some (.slice none 0 0), 1, 24) := by kernel_rfl
theorem infoSlA : (Try.prog.info? 28).map (fun i => (i.zero, i.size, i.bytes)) = some (some (.slice none 0 0), 1, 24) := by kernel_rfl
theorem infoSlC : (Try.prog.info? 25).map (fun i => (i.zero, i.size, i.bytes)) = some (some (.slice none 0 0), 1, 24) := by kernel_rfl
theorem infoSlT : (Try.prog.info? 22).map (fun i => (i.zero, i.size, i.bytes)) = some (some (.slice none 0 0), 1, 24) := by kernel_rfl
theorem infoBat : (Try.prog.info? 24).map (fun i => (i.zero, i.size, i.bytes)) = some (some (.agg #[.int .i64 0, .slice none 0 0]), 2, 32) := by kernel_rfl
end Go.Proofs.Ytnmcdifkknphgaa
