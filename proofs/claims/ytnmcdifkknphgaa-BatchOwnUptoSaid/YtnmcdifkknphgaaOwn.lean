/- Rows of one's own, pairwise apart: each with what it was when it was handed out. No program in sight. -/
import Derived.Test.YtnmcdifkknphgaaProc7
namespace Go.Proofs.Ytnmcdifkknphgaa
open Go.RowKit

section
variable {P : Program} (w : World)
/-- append onto an owned row, from any source; a row that moves leaves all blocks. -/
theorem run_append_keep (t tx ty e : TypeId) (z : Value) (size bytes : Nat) (ht : P.underlying t = some (.slice e))
    (hinfo : (P.info? e).map (fun i => (i.zero, i.size, i.bytes)) = some (some z, size, bytes)) (hzs : z.cells.size = size) (hsz : 0 < size)
    (v : Value) (n : Nat) (xs : List Value) (hown : w.ownsRow 0 e size v n xs)
    (x : Value) (m : Nat) (news : List Value) (hs : Src P size tx x m news w)
    (h63 : n + m ≤ maxLen) (hbytes : (n + m) * bytes ≤ 140737488355328) :
    ∃ v' w', (Builtin.append_ #[t, tx] ty #[v, x]).run P w = .ok v' w' ∧ w'.ownsRow 0 e size v' (n + m) (xs ++ news) ∧ w.grownBy w' v.ownBlock ∧
      (∀ k, v'.ownBlock = some k → v.ownBlock = some k ∨ k = w.heap.size) ∧ (v'.ownBlock = v.ownBlock ∨ w.grownBy w' none) := by
  obtain ⟨i, hi, hz, hsize, hby⟩ := info_parts hinfo
  subst hsize
  subst hby
  have hsmall : n + m ≤ 9223372036854775807 := by simp only [maxLen] at h63; omega
  have hl := hs.newsLen
  have hlen : (xs ++ news).length = (n + m) * i.size := by rw [List.length_append, hown.1, hl, Nat.add_mul]
  have grown : ∀ (old : Nat), old < n + m → ∀ (row : Option Nat),
      (w.drew.alloc (.cells ((xs ++ news).toArray ++ Builtin.zeroCells z.cells (grownCap w (n + m) old e - (n + m))) e)).ownsRow 0 e i.size
        (.slice (some ⟨w.heap.size, 0, none⟩) (n + m) (grownCap w (n + m) old e)) (n + m) (xs ++ news) ∧
      w.grownBy (w.drew.alloc (.cells ((xs ++ news).toArray ++ Builtin.zeroCells z.cells (grownCap w (n + m) old e - (n + m))) e)) row := by
    intro old ho row
    have hge := grownCap_ge w (n + m) old e
    have hcm : grownCap w (n + m) old e ≤ maxLen := grownCap_le_maxLen w (n + m) old e h63
    refine ⟨⟨hlen, .inr ⟨w.heap.size, _, _, rfl, Nat.zero_le _, heap_alloc_new w.drew _, hge, hcm, ?_, ?_⟩⟩, ⟨rfl, rfl, rfl, by simp, fun k hk _ => heap_alloc_old w.drew _ hk⟩⟩
    · simp only [Array.size_append, List.size_toArray, size_zeroCells, hzs, hlen, ← Nat.add_mul]
      congr 1
      omega
    · simp only [Array.toList_append]
      rw [← hlen]
      exact List.take_left
  rcases hown.2 with ⟨rfl, rfl⟩ | ⟨g, cap, cur, rfl, hbg, hg, hnc, hcm, hcs, htake⟩
  · have hx : xs = [] := List.eq_nil_of_length_eq_zero (by simpa using hown.1)
    subst hx
    by_cases hm : m = 0
    · subst hm
      have hn : news = [] := List.eq_nil_of_length_eq_zero (by simpa using hl)
      subst hn
      refine ⟨.slice none 0 0, w, ?_, World.ownsRow_nil w 0 e i.size, ⟨rfl, rfl, rfl, Nat.le_refl _, fun _ _ _ => rfl⟩, by simp [Value.ownBlock], .inl rfl⟩
      rcases hs.kind with ⟨e', hk⟩ | hk <;>
        simp [Builtin.append_, run_underlying ht, run_underlying hk, sizeOf, typeInfo, hi, hs.len, hs.cells]
    · have hold : (Builtin.firstCells i.size 0 (.slice none 0 0)).run P w.drew = .ok ([] : List Value).toArray w.drew := by
        simp [Builtin.firstCells]
      have hr := run_append_grow_src (P := P) w t tx ty e i z ht hi hz none 0 0 [] hold x m news hs (by omega) (by omega)
        (growslice_fits (by omega) hbytes)
      have hgr := grown 0 (by omega) (Value.ownBlock (.slice none 0 0))
      exact ⟨_, _, hr, hgr.1, hgr.2, by simp [Value.ownBlock], .inr (grown 0 (by omega) none).2⟩
  · by_cases hroom : n + m ≤ cap
    · have hfit : n * i.size + news.length ≤ cur.size := by rw [hl, hcs, ← Nat.add_mul]; exact Nat.mul_le_mul_right _ hroom
      have hr := run_append_room_mine (P := P) w t tx ty e i ht hi g n cap cur hg x m news hs hroom hfit
      refine ⟨_, _, hr, ⟨hlen, .inr ⟨g, cap, _, rfl, hbg, setRow_heap w g cur _ e _ hg, hroom, hcm, ?_, ?_⟩⟩, ⟨rfl, rfl, rfl, by simp, fun k _ hk => setRow_other w g k _ (fun e => hk (by simp [Value.ownBlock, e]))⟩, by simp [Value.ownBlock], .inl rfl⟩
      · simp only [List.size_toArray, List.length_append, List.length_take, List.length_drop, Array.length_toList]
        omega
      · rw [htake, ← hlen]
        exact List.take_left
    · have holds : ∀ j u, xs[j]? = some u → w.drew.cell? ((⟨g, 0, none⟩ : Addr).add j) = some u := hown.cells (g := g) rfl
      have hold : (Builtin.firstCells i.size n (.slice (some ⟨g, 0, none⟩) n cap)).run P w.drew = .ok xs.toArray w.drew :=
        run_firstCells_some w.drew i.size n ⟨g, 0, none⟩ n cap xs hown.1 holds
      have hr := run_append_grow_src (P := P) w t tx ty e i z ht hi hz (some ⟨g, 0, none⟩) n cap xs hold x m news hs (by omega) (by omega) (growslice_fits (by omega) hbytes)
      have hgr := grown cap (by omega) (Value.ownBlock (.slice (some ⟨g, 0, none⟩) n cap))
      exact ⟨_, _, hr, hgr.1, hgr.2, by simp [Value.ownBlock], .inr (grown cap (by omega) none).2⟩

theorem wp_append_keep {o : Oper} {a : Act} {K : Act → World → Prop} {Q : Exit → Act → World → Prop} (s x : Operand) (t tx : TypeId)
    (ho : o.op = .call { callee := .builtin .append, args := #[s, x], argTypes := #[t, tx] })
    (e : TypeId) (z : Value) (size bytes : Nat) (ht : P.underlying t = some (.slice e))
    (hinfo : (P.info? e).map (fun i => (i.zero, i.size, i.bytes)) = some (some z, size, bytes)) (hzs : z.cells.size = size) (hsz : 0 < size)
    (v : Value) (n : Nat) (xs : List Value) (hs : a.eval s = v) (hown : w.ownsRow 0 e size v n xs)
    (xv : Value) (m : Nat) (news : List Value) (hx : a.eval x = xv) (hsrc : Src P size tx xv m news w)
    (h63 : n + m ≤ maxLen) (hbytes : (n + m) * bytes ≤ 140737488355328)
    (h : ∀ A' c' w', w'.ownsRow 0 e size (.slice A' (n + m) c') (n + m) (xs ++ news) → w.grownBy w' v.ownBlock → (∀ k, (Value.slice A' (n + m) c').ownBlock = some k → v.ownBlock = some k ∨ k = w.heap.size) →
      ((Value.slice A' (n + m) c').ownBlock = v.ownBlock ∨ w.grownBy w' none) → K (a.put o.dst (.slice A' (n + m) c')) w') : o.wp P a w K Q := by
  obtain ⟨v', w', hr, h2, h3, h4, h5⟩ := run_append_keep (P := P) w t tx o.type e z size bytes ht hinfo hzs hsz v n xs hown xv m news hsrc h63 hbytes
  unfold Oper.wp execOp
  simp only [ho, resolve, invoke, builtin, Sem.run_bind, Sem.run_pure, Result.andThen_ok, List.map_toArray, List.map_cons, List.map_nil, hs, hx, hr]
  obtain ⟨A', c', rfl⟩ := owns_form h2
  exact h A' c' w' h2 h3 h4 h5

theorem wpList_append_keep {ops : Array Oper} {rest : List Oper} {o : Oper} {a : Act} {Q : Exit → Act → World → Prop} (hgd : o.guard = none) (s x : Operand) (t tx : TypeId)
    (ho : o.op = .call { callee := .builtin .append, args := #[s, x], argTypes := #[t, tx] })
    (e : TypeId) (z : Value) (size bytes : Nat) (ht : P.underlying t = some (.slice e))
    (hinfo : (P.info? e).map (fun i => (i.zero, i.size, i.bytes)) = some (some z, size, bytes)) (hzs : z.cells.size = size) (hsz : 0 < size)
    (v : Value) (n : Nat) (xs : List Value) (hs : a.eval s = v) (hown : w.ownsRow 0 e size v n xs)
    (xv : Value) (m : Nat) (news : List Value) (hx : a.eval x = xv) (hsrc : Src P size tx xv m news w)
    (h63 : n + m ≤ maxLen) (hbytes : (n + m) * bytes ≤ 140737488355328)
    (h : ∀ A' c' w', w'.ownsRow 0 e size (.slice A' (n + m) c') (n + m) (xs ++ news) → w.grownBy w' v.ownBlock → (∀ k, (Value.slice A' (n + m) c').ownBlock = some k → v.ownBlock = some k ∨ k = w.heap.size) →
      ((Value.slice A' (n + m) c').ownBlock = v.ownBlock ∨ w.grownBy w' none) → wpList P ops Q rest (a.put o.dst (.slice A' (n + m) c')) w') : wpList P ops Q (o :: rest) a w :=
  wpList_plain hgd fun _ hK => wp_append_keep w s x t tx ho e z size bytes ht hinfo hzs hsz v n xs hs hown xv m news hx hsrc h63 hbytes fun A' c' w' h2 h3 h4 h5 => hK _ _ (h A' c' w' h2 h3 h4 h5)
end

/-- A row of one's own: as it was handed out (v0, xs0), and as it is now (v, n, xs). -/
structure Rw where
  e : TypeId
  size : Nat
  A0 : Option Addr
  n0 : Nat
  c0 : Nat
  xs0 : List Value
  A : Option Addr
  n : Nat
  c : Nat
  xs : List Value

def Rw.v0 (r : Rw) : Value := .slice r.A0 r.n0 r.c0
def Rw.v (r : Rw) : Value := .slice r.A r.n r.c
/-- Just handed out. -/
def Rw.new (e : TypeId) (size : Nat) (A : Option Addr) (n c : Nat) (xs : List Value) : Rw := ⟨e, size, A, n, c, xs, A, n, c, xs⟩

def Rw.blocks (r : Rw) (k : Nat) : Prop := r.v0.ownBlock = some k ∨ r.v.ownBlock = some k

structure Rw.good (r : Rw) (W : World) (base : Nat) : Prop where
  own : W.ownsRow base r.e r.size r.v r.n r.xs
  view : Row W r.A0 r.xs0
  lt : ∀ k, r.blocks k → base ≤ k ∧ k < W.heap.size
  pre : r.v0.ownBlock = r.v.ownBlock → r.xs0 <+: r.xs
  typ : ∀ k, r.v0.ownBlock = some k → ∃ cur f, W.heap[k]? = some (.cells cur r.e f)
  zero : (∃ b, r.A0 = some ⟨b, 0, none⟩) ∨ r.xs0 = []

theorem ob_any {A : Option Addr} {n c n' c' k : Nat} (h : (Value.slice A n c).ownBlock = some k) : (Value.slice A n' c').ownBlock = some k := by
  cases A with
  | none => exact h
  | some a => exact h

theorem Row.stay {W V : World} {A : Option Addr} {cs : List Value} (h : Row W A cs) (hs : ∀ n c k, (Value.slice A n c).ownBlock = some k → V.heap[k]? = W.heap[k]?) : Row V A cs := by
  rcases h with h | ⟨b, off, rfl, h⟩
  · exact .inl h
  · refine .inr ⟨b, off, rfl, fun j hj => ?_⟩
    rw [← h j hj]
    exact World.cell?_of_block (hs 0 0 b rfl)

theorem owns_stay {W V : World} {base : Nat} {e : TypeId} {size n : Nat} {v : Value} {xs : List Value} (h : W.ownsRow base e size v n xs) (hs : ∀ k, v.ownBlock = some k → V.heap[k]? = W.heap[k]?) : V.ownsRow base e size v n xs := by
  obtain ⟨h1, h2⟩ := h
  refine ⟨h1, ?_⟩
  rcases h2 with h2 | ⟨g, cap, cur, rfl, hb, hg, hr⟩
  · exact .inl h2
  · exact .inr ⟨g, cap, cur, rfl, hb, by rw [hs g rfl]; exact hg, hr⟩

theorem owns_typ {W : World} {base : Nat} {e : TypeId} {size n : Nat} {v : Value} {xs : List Value} (h : W.ownsRow base e size v n xs) {k : Nat} (hk : v.ownBlock = some k) : ∃ cur f, W.heap[k]? = some (.cells cur e f) := by
  rcases h.2 with ⟨rfl, _⟩ | ⟨g, cap, cur, rfl, hb, hg, hr⟩
  · simp [Value.ownBlock] at hk
  · simp only [Value.ownBlock, Option.some.injEq] at hk
    subst hk
    exact ⟨cur, _, hg⟩

theorem Rw.good.stay {r : Rw} {W V : World} {base : Nat} (h : r.good W base) (hs : W.heap.size ≤ V.heap.size) (hk : ∀ k, r.blocks k → V.heap[k]? = W.heap[k]?) : r.good V base :=
  ⟨owns_stay h.own (fun k e => hk k (.inr e)), h.view.stay (fun _ _ k e => hk k (.inl (ob_any e))), fun k e => ⟨(h.lt k e).1, Nat.lt_of_lt_of_le (h.lt k e).2 hs⟩, h.pre, fun k e => by rw [hk k (.inl e)]; exact h.typ k e, h.zero⟩

theorem Rw.new_good {W : World} {base : Nat} {e : TypeId} {size n c : Nat} {A : Option Addr} {xs : List Value} (h : W.ownsRow base e size (.slice A n c) n xs) : (Rw.new e size A n c xs).good W base := by
  refine ⟨h, Row.of_owns h, fun k hk => ?_, fun _ => List.prefix_refl _, fun k hk => owns_typ h hk, ?_⟩
  · rcases hk with hk | hk
    · exact h.lt k hk
    · exact h.lt k hk
  · obtain ⟨hl, h⟩ := h
    rcases h with ⟨_, h⟩ | ⟨g, cap, cur, hv, _⟩
    · right
      subst h
      exact show xs = [] from List.eq_nil_of_length_eq_zero (by simpa using hl)
    · cases hv
      exact .inl ⟨g, rfl⟩

/-- One row turned. -/
def up (F : Nat → Nat → Rw) (c j : Nat) (r : Rw) : Nat → Nat → Rw := fun c' j' => if c' = c ∧ j' = j then r else F c' j'
theorem up_self (F : Nat → Nat → Rw) (c j : Nat) (r : Rw) : up F c j r c j = r := by simp [up]
theorem up_other (F : Nat → Nat → Rw) {c j c' j' : Nat} (r : Rw) (h : ¬ (c' = c ∧ j' = j)) : up F c j r c' j' = F c' j' := by simp only [up]; rw [if_neg h]

/-- Rows of one's own, pairwise apart: of a class and a number each. -/
structure Bag (W : World) (base : Nat) (D : Nat → Nat → Prop) (F : Nat → Nat → Rw) : Prop where
  good : ∀ c j, D c j → (F c j).good W base
  ap : ∀ c j c' j', D c j → D c' j' → ¬ (c' = c ∧ j' = j) → ∀ k, (F c j).blocks k → ¬ (F c' j').blocks k

namespace Bag
variable {W V : World} {base : Nat} {D : Nat → Nat → Prop} {F : Nat → Nat → Rw}

theorem nil (W : World) (base : Nat) (F : Nat → Nat → Rw) : Bag W base (fun _ _ => False) F := ⟨fun _ _ h => h.elim, fun _ _ _ _ h => h.elim⟩

theorem below (h : Bag W base D F) (hb : Below W.heap.size W V) : Bag V base D F :=
  ⟨fun c j hd => (h.good c j hd).stay hb.size (fun k hk => hb.block k ((h.good c j hd).lt k hk).2), h.ap⟩

theorem mono {base' : Nat} (h : Bag W base D F) (hb : base' ≤ base) : Bag W base' D F :=
  ⟨fun c j hd => let g := h.good c j hd; ⟨owns_mono g.own hb, g.view, fun k hk => ⟨Nat.le_trans hb (g.lt k hk).1, (g.lt k hk).2⟩, g.pre, g.typ, g.zero⟩, h.ap⟩

theorem congr {E : Nat → Nat → Prop} {G : Nat → Nat → Rw} (h : Bag W base D F) (hd : ∀ c j, E c j → D c j) (hg : ∀ c j, E c j → G c j = F c j) : Bag W base E G :=
  ⟨fun c j he => by rw [hg c j he]; exact h.good c j (hd c j he), fun c j c' j' he he' => by rw [hg c j he, hg c' j' he']; exact h.ap c j c' j' (hd c j he) (hd c' j' he')⟩

/-- A row more, of a block that is new. -/
theorem add (h : Bag W base D F) (c j : Nat) {r : Rw} (hg : r.good V base) (hs : W.heap.size ≤ V.heap.size) (hst : ∀ k, k < W.heap.size → V.heap[k]? = W.heap[k]?) (hb : ∀ k, r.blocks k → W.heap.size ≤ k) :
    Bag V base (fun c' j' => D c' j' ∨ (c' = c ∧ j' = j)) (up F c j r) := by
  have hold := fun c j (hd : D c j) => (h.good c j hd).stay hs (fun k hk => hst k ((h.good c j hd).lt k hk).2)
  refine ⟨fun c' j' hd => ?_, fun c1 j1 c2 j2 h1 h2 hne k hk hk2 => ?_⟩
  · by_cases he : c' = c ∧ j' = j
    · obtain ⟨rfl, rfl⟩ := he
      rw [up_self]; exact hg
    · rw [up_other F r he]
      exact hold c' j' (hd.resolve_right he)
  · by_cases e1 : c1 = c ∧ j1 = j
    · obtain ⟨rfl, rfl⟩ := e1
      rw [up_self] at hk
      rw [up_other F r hne] at hk2
      have a1 := hb k hk
      have a2 := ((h.good c2 j2 (h2.resolve_right hne)).lt k hk2).2
      omega
    · rw [up_other F r e1] at hk
      have d1 := h1.resolve_right e1
      by_cases e2 : c2 = c ∧ j2 = j
      · obtain ⟨rfl, rfl⟩ := e2
        rw [up_self] at hk2
        have a1 := hb k hk2
        have a2 := ((h.good c1 j1 d1).lt k hk).2
        omega
      · rw [up_other F r e2] at hk2
        exact h.ap c1 j1 c2 j2 d1 (h2.resolve_right e2) hne k hk hk2

theorem addNew (h : Bag W base D F) (cl j : Nat) (hb : Below W.heap.size W V) {e : TypeId} {size n c : Nat} {A : Option Addr} {xs : List Value} (ho : V.ownsRow W.heap.size e size (.slice A n c) n xs) (hbase : base ≤ W.heap.size) :
    Bag V base (fun c' j' => D c' j' ∨ (c' = cl ∧ j' = j)) (up F cl j (Rw.new e size A n c xs)) :=
  h.add cl j (Rw.new_good (owns_mono ho hbase)) hb.size (fun k hk => hb.block k hk) (fun k hk => by
    rcases hk with hk | hk
    · exact (ho.lt k hk).1
    · exact (ho.lt k hk).1)

/-- A row that has turned. -/
theorem turn (h : Bag W base D F) (c j : Nat) (hd : D c j) {r : Rw} (hg : r.good V base) (hs : W.heap.size ≤ V.heap.size) (hst : ∀ k, k < W.heap.size → ¬ (F c j).blocks k → V.heap[k]? = W.heap[k]?)
    (hb : ∀ k, r.blocks k → (F c j).blocks k ∨ W.heap.size ≤ k) : Bag V base D (up F c j r) := by
  refine ⟨fun c' j' hd' => ?_, fun c1 j1 c2 j2 h1 h2 hne k hk hk2 => ?_⟩
  · by_cases he : c' = c ∧ j' = j
    · obtain ⟨rfl, rfl⟩ := he
      rw [up_self]; exact hg
    · rw [up_other F r he]
      exact (h.good c' j' hd').stay hs (fun k hk => hst k ((h.good c' j' hd').lt k hk).2 (fun hk2 => h.ap c j c' j' hd hd' he k hk2 hk))
  · by_cases e1 : c1 = c ∧ j1 = j
    · obtain ⟨rfl, rfl⟩ := e1
      rw [up_self] at hk
      rw [up_other F r hne] at hk2
      rcases hb k hk with h3 | h3
      · exact h.ap c1 j1 c2 j2 h1 h2 hne k h3 hk2
      · have := ((h.good c2 j2 h2).lt k hk2).2
        omega
    · rw [up_other F r e1] at hk
      by_cases e2 : c2 = c ∧ j2 = j
      · obtain ⟨rfl, rfl⟩ := e2
        rw [up_self] at hk2
        rcases hb k hk2 with h3 | h3
        · exact h.ap c1 j1 c2 j2 h1 h2 hne k hk h3
        · have := ((h.good c1 j1 h1).lt k hk).2
          omega
      · rw [up_other F r e2] at hk2
        exact h.ap c1 j1 c2 j2 h1 h2 hne k hk hk2

/-- A cell of a row, as it was handed out, written over. -/
theorem put (h : Bag W base D F) (cl i : Nat) (hd : D cl i) {g n c : Nat} {e : TypeId} {size : Nat} {xs : List Value} (he : F cl i = Rw.new e size (some ⟨g, 0, none⟩) n c xs) (j : Nat) (u : Value) :
    Bag (W.setCell ⟨g, j, none⟩ u) base D (up F cl i (Rw.new e size (some ⟨g, 0, none⟩) n c (xs.set j u))) := by
  have hg := h.good cl i hd
  rw [he] at hg
  have ho : (W.setCell ⟨g, j, none⟩ u).ownsRow base e size (.slice (some ⟨g, 0, none⟩) n c) n (xs.set j u) := by
    obtain ⟨hlx, ho⟩ := hg.own
    refine ⟨by rw [List.length_set]; exact hlx, ?_⟩
    rcases ho with ⟨h, _⟩ | ⟨g', cap, cur, hv, hb, hgg, h1, h2, h3, h4⟩
    · cases h
    · cases hv
      refine .inr ⟨g, c, cur.setIfInBounds j u, rfl, hb, blk_set hgg j u, h1, h2, by rw [Array.size_setIfInBounds]; exact h3, ?_⟩
      rw [Array.toList_setIfInBounds, List.take_set]
      exact congrArg (fun l => l.set j u) h4
  refine h.turn cl i hd (Rw.new_good ho) (by simp [World.setCell]) (fun k hk hnb => ?_) (fun k hk => .inl ?_)
  · rw [he] at hnb
    exact Below.heap_setCell _ _ _ _ (fun e => hnb (.inl (by simp [Rw.v0, Rw.new, Value.ownBlock, e])))
  · rw [he]; exact hk

/-- A cell of a block of another type written over. -/
theorem other (h : Bag W base D F) {b o : Nat} {c : Array Value} {t : TypeId} (hl : Loc W b c t) (ht : ∀ c j, D c j → (F c j).e ≠ t) (u : Value) : Bag (W.setCell ⟨b, o, none⟩ u) base D F :=
  ⟨fun c j hd => (h.good c j hd).stay (by simp [World.setCell]) (fun k hk => Below.heap_setCell _ _ _ _ (by
    rintro rfl
    have hte := ht c j hd
    rcases hk with hk | hk
    · obtain ⟨cur, f, hc⟩ := (h.good c j hd).typ _ hk
      unfold Loc at hl
      rw [hl] at hc
      simp only [Option.some.injEq, Obj.cells.injEq] at hc
      exact hte hc.2.1.symm
    · exact owns_ne (h.good c j hd).own hl hte hk)), h.ap⟩

/-- A block of another type is none of theirs. -/
theorem ne (h : Bag W base D F) {b : Nat} {c : Array Value} {t : TypeId} (hl : Loc W b c t) (cl i : Nat) (hd : D cl i) (ht : (F cl i).e ≠ t) : (F cl i).v.ownBlock ≠ some b :=
  owns_ne (h.good cl i hd).own hl ht

/-- Things added to a row. -/
theorem grow (h : Bag W base D F) (cl i : Nat) (hd : D cl i) {r : Rw} (he : F cl i = r) {A' : Option Addr} {m c' : Nat} {news : List Value} (hbase : base ≤ W.heap.size) (ho : V.ownsRow 0 r.e r.size (.slice A' (r.n + m) c') (r.n + m) (r.xs ++ news)) (hg : W.grownBy V r.v.ownBlock)
    (hbl : ∀ k, (Value.slice A' (r.n + m) c').ownBlock = some k → r.v.ownBlock = some k ∨ k = W.heap.size) (hmv : (Value.slice A' (r.n + m) c').ownBlock = r.v.ownBlock ∨ W.grownBy V none) :
    Bag V base D (up F cl i ⟨r.e, r.size, r.A0, r.n0, r.c0, r.xs0, A', r.n + m, c', r.xs ++ news⟩) := by
  have hgd := h.good cl i hd
  rw [he] at hgd
  have ho' : V.ownsRow base r.e r.size (.slice A' (r.n + m) c') (r.n + m) (r.xs ++ news) := owns_base ho (fun k hk => by
    rcases hbl k hk with h1 | h1
    · exact (hgd.lt k (.inr h1)).1
    · omega)
  refine h.turn cl i hd (r := ⟨r.e, r.size, r.A0, r.n0, r.c0, r.xs0, A', r.n + m, c', r.xs ++ news⟩) ⟨ho', ?_, ?_, ?_, ?_, hgd.zero⟩ hg.size (fun k hk hnb => ?_) (fun k hk => ?_)
  · -- the view
    show Row V r.A0 r.xs0
    by_cases hsame : r.v0.ownBlock = r.v.ownBlock
    · rcases hmv with hm | hm
      · -- in place
        have hpre : r.xs0 <+: r.xs ++ news := (hgd.pre hsame).trans (List.prefix_append _ _)
        obtain ⟨ys, hys⟩ := hpre
        rcases hgd.zero with ⟨b, hb⟩ | hz
        · have hA' : ∃ n' , A' = some ⟨b, n', none⟩ ∧ Row V A' (r.xs ++ news) := by
            have hrow := Row.of_owns ho'
            have h1 : (Value.slice A' (r.n + m) c').ownBlock = some b := by rw [hm, ← hsame]; simp [Rw.v0, hb, Value.ownBlock]
            cases A' with
            | none => simp [Value.ownBlock] at h1
            | some a =>
              rcases ho'.2 with ⟨h2, _⟩ | ⟨g, cap, cur, hv, _⟩
              · cases h2
              · cases hv
                simp only [Value.ownBlock, Option.some.injEq] at h1
                subst h1
                exact ⟨0, rfl, hrow⟩
          obtain ⟨n', hA, hrow⟩ := hA'
          have hn' : n' = 0 := by
            rcases ho'.2 with ⟨h2, _⟩ | ⟨g, cap, cur, hv, _⟩
            · rw [hA] at h2; cases h2
            · rw [hA] at hv; cases hv; rfl
          subst hn'
          rw [hb, ← hA]
          rw [← hys] at hrow
          rcases hrow with h0 | ⟨b2, off, e, hc⟩
          · exact .inl (List.append_eq_nil_iff.1 h0).1
          · refine .inr ⟨b2, off, e, fun j hj => ?_⟩
            rw [hc j (by rw [List.length_append]; omega), List.getElem?_append_left hj]
        · rw [hz]; exact Row.nil _ _
      · exact hgd.view.stay (fun n' c'' k hk => by
          have hk' : r.blocks k := .inl (ob_any hk)
          exact hm.block k (hgd.lt k hk').2 (by simp))
    · exact hgd.view.stay (fun n' c'' k hk => by
        have hk' : r.v0.ownBlock = some k := ob_any hk
        exact hg.block k (hgd.lt k (.inl hk')).2 (fun e => hsame (by rw [hk', e])))
  · intro k hk
    rcases hk with hk | hk
    · have := hgd.lt k (.inl hk)
      exact ⟨this.1, Nat.lt_of_lt_of_le this.2 hg.size⟩
    · exact ho'.lt k hk
  · intro hsame
    have hsame' : r.v0.ownBlock = (Value.slice A' (r.n + m) c').ownBlock := hsame
    by_cases hv : r.v0.ownBlock = r.v.ownBlock
    · exact (hgd.pre hv).trans (List.prefix_append _ _)
    · cases hk : (Value.slice A' (r.n + m) c').ownBlock with
      | none =>
        rw [hk] at hsame'
        rcases hgd.zero with ⟨b, hb⟩ | hz
        · simp [Rw.v0, hb, Value.ownBlock] at hsame'
        · show r.xs0 <+: r.xs ++ news
          rw [hz]
          exact List.nil_prefix
      | some k =>
        rcases hbl k hk with h1 | h1
        · exact absurd (by rw [hsame', hk, h1]) hv
        · have := (hgd.lt k (.inl (by rw [hsame', hk]))).2
          omega
  · intro k hk
    have hk0 : r.v0.ownBlock = some k := hk
    by_cases hv : r.v.ownBlock = some k
    · rcases hmv with hm | hm
      · exact owns_typ ho' (hm.trans hv)
      · obtain ⟨cur, f, hc⟩ := hgd.typ k hk0
        exact ⟨cur, f, by rw [hm.block k (hgd.lt k (.inl hk0)).2 (by simp)]; exact hc⟩
    · obtain ⟨cur, f, hc⟩ := hgd.typ k hk0
      exact ⟨cur, f, by rw [hg.block k (hgd.lt k (.inl hk0)).2 (fun e => hv e.symm)]; exact hc⟩
  · rw [he] at hnb
    refine hg.block k hk (fun e => hnb (.inr e.symm))
  · rw [he]
    rcases hk with hk | hk
    · exact .inl (.inl hk)
    · rcases hbl k hk with h1 | h1
      · exact .inl (.inr h1)
      · exact .inr (by omega)
end Bag

/-- A block known whole, no row's. -/
structure Box where
  b : Nat
  c : Array Value
  t : TypeId

def upb (G : Nat → Box) (i : Nat) (x : Box) : Nat → Box := fun j => if j = i then x else G j
theorem upb_self (G : Nat → Box) (i : Nat) (x : Box) : upb G i x i = x := by simp [upb]
theorem upb_other (G : Nat → Box) {i j : Nat} (x : Box) (h : j ≠ i) : upb G i x j = G j := by simp only [upb]; rw [if_neg h]

/-- All that a function holds: its rows, pairwise apart; its boxes. -/
structure Desk (w W : World) (D : Nat → Nat → Prop) (F : Nat → Nat → Rw) (m : Nat) (G : Nat → Box) : Prop where
  bag : Bag W w.heap.size D F
  ty : ∀ c j, D c j → ∀ i, i < m → (F c j).e ≠ (G i).t
  box : ∀ i, i < m → Loc W (G i).b (G i).c (G i).t ∧ w.heap.size ≤ (G i).b
  ap : ∀ i j, i < m → j < m → i ≠ j → (G i).b ≠ (G j).b
  b : Below w.heap.size w W

namespace Desk
variable {w W V : World} {D : Nat → Nat → Prop} {F : Nat → Nat → Rw} {m : Nat} {G : Nat → Box}

theorem below (h : Desk w W D F m G) (hb : Below W.heap.size W V) : Desk w V D F m G :=
  ⟨h.bag.below hb, h.ty, fun i hi => ⟨(h.box i hi).1.below hb (h.box i hi).1.lt, (h.box i hi).2⟩, h.ap, below_then h.b hb h.b.size⟩

theorem congr {E : Nat → Nat → Prop} {F' : Nat → Nat → Rw} (h : Desk w W D F m G) (hd : ∀ c j, E c j → D c j) (hg : ∀ c j, E c j → F' c j = F c j) : Desk w W E F' m G :=
  ⟨h.bag.congr hd hg, fun c j he => by rw [hg c j he]; exact h.ty c j (hd c j he), h.box, h.ap, h.b⟩

theorem start (w : World) (F : Nat → Nat → Rw) (G : Nat → Box) : Desk w w (fun _ _ => False) F 0 G :=
  ⟨Bag.nil _ _ _, fun _ _ h => h.elim, fun _ h => absurd h (by omega), fun _ _ h => absurd h (by omega), Below.refl _ _⟩

/-- A box more. -/
theorem addBox (h : Desk w W D F m G) (c : Array Value) (t : TypeId) (ht : ∀ cl j, D cl j → (F cl j).e ≠ t) : Desk w (W.alloc (.cells c t)) D F (m + 1) (upb G m ⟨W.heap.size, c, t⟩) := by
  have hb := (Below.refl W.heap.size W).alloc (Nat.le_refl _) (.cells c t)
  have hlt := fun i (hi : i < m) => (h.box i hi).1.lt
  refine ⟨h.bag.below hb, fun cl j hd i hi => ?_, fun i hi => ?_, fun i j hi hj hij => ?_, below_then h.b hb h.b.size⟩
  · by_cases hm : i = m
    · subst hm; rw [upb_self]; exact ht cl j hd
    · rw [upb_other G _ hm]; exact h.ty cl j hd i (by omega)
  · by_cases hm : i = m
    · subst hm; rw [upb_self]; exact ⟨Loc.new W c t, h.b.size⟩
    · rw [upb_other G _ hm]; exact ⟨(h.box i (by omega)).1.below hb (hlt i (by omega)), (h.box i (by omega)).2⟩
  · by_cases hm : i = m
    · subst hm
      rw [upb_self, upb_other G _ (fun e => hij e.symm)]
      have := hlt j (by omega)
      show W.heap.size ≠ (G j).b
      omega
    · rw [upb_other G _ hm]
      by_cases hm2 : j = m
      · subst hm2
        rw [upb_self]
        have := hlt i (by omega)
        show (G i).b ≠ W.heap.size
        omega
      · rw [upb_other G _ hm2]
        exact h.ap i j (by omega) (by omega) hij

/-- A row more. -/
theorem addRow (h : Desk w W D F m G) (cl j : Nat) (hb : Below W.heap.size W V) {e : TypeId} {size n c : Nat} {A : Option Addr} {xs : List Value} (ho : V.ownsRow W.heap.size e size (.slice A n c) n xs) (he : ∀ i, i < m → e ≠ (G i).t) :
    Desk w V (fun c' j' => D c' j' ∨ (c' = cl ∧ j' = j)) (up F cl j (Rw.new e size A n c xs)) m G := by
  refine ⟨h.bag.addNew cl j hb ho h.b.size, fun c' j' hd i hi => ?_, fun i hi => ⟨(h.box i hi).1.below hb (h.box i hi).1.lt, (h.box i hi).2⟩, h.ap, below_then h.b hb h.b.size⟩
  by_cases h2 : c' = cl ∧ j' = j
  · obtain ⟨rfl, rfl⟩ := h2
    rw [up_self]; exact he i hi
  · rw [up_other F _ h2]; exact h.ty c' j' (hd.resolve_right h2) i hi

/-- A cell of a box written over. -/
theorem setBox (h : Desk w W D F m G) (i : Nat) (hi : i < m) {B : Box} (hG : G i = B) (o : Nat) (u : Value) : Desk w (W.setCell ⟨B.b, o, none⟩ u) D F m (upb G i ⟨B.b, B.c.setIfInBounds o u, B.t⟩) := by
  subst hG
  refine ⟨h.bag.other (h.box i hi).1 (fun c j hd => h.ty c j hd i hi) u, fun c j hd k hk => ?_, fun k hk => ?_, fun k k2 hk hk2 hne => ?_, h.b.setCell (p := ⟨(G i).b, o, none⟩) (h.box i hi).2 u⟩
  · by_cases e : k = i
    · subst e; rw [upb_self]; exact h.ty c j hd k hk
    · rw [upb_other G _ e]; exact h.ty c j hd k hk
  · by_cases e : k = i
    · subst e; rw [upb_self]; exact ⟨(h.box k hk).1.set o u, (h.box k hk).2⟩
    · rw [upb_other G _ e]; exact ⟨(h.box k hk).1.other (a := ⟨(G i).b, o, none⟩) (h.ap k i hk hi e) u, (h.box k hk).2⟩
  · by_cases e : k = i
    · subst e
      rw [upb_self, upb_other G _ (fun e => hne e.symm)]
      exact h.ap k k2 hk hk2 hne
    · rw [upb_other G _ e]
      by_cases e2 : k2 = i
      · subst e2
        rw [upb_self]
        exact h.ap k k2 hk hk2 hne
      · rw [upb_other G _ e2]
        exact h.ap k k2 hk hk2 hne

/-- A cell of a row written over. -/
theorem put (h : Desk w W D F m G) (cl i : Nat) (hd : D cl i) {g n c : Nat} {e : TypeId} {size : Nat} {xs : List Value} (he : F cl i = Rw.new e size (some ⟨g, 0, none⟩) n c xs) (j : Nat) (u : Value) :
    Desk w (W.setCell ⟨g, j, none⟩ u) D (up F cl i (Rw.new e size (some ⟨g, 0, none⟩) n c (xs.set j u))) m G := by
  have hty : (F cl i).e = e := by rw [he]; rfl
  refine ⟨h.bag.put cl i hd he j u, fun c' j' hd' k hk => ?_, fun k hk => ⟨(h.box k hk).1.other (a := ⟨g, j, none⟩) (fun e2 => ?_) u, (h.box k hk).2⟩, h.ap, h.b.setCell (p := ⟨g, j, none⟩) ?_ u⟩
  · by_cases h2 : c' = cl ∧ j' = i
    · obtain ⟨rfl, rfl⟩ := h2
      rw [up_self]
      have := h.ty c' j' hd k hk
      rw [hty] at this
      exact this
    · rw [up_other F _ h2]; exact h.ty c' j' hd' k hk
  · have := h.bag.ne (h.box k hk).1 cl i hd (h.ty cl i hd k hk)
    rw [he] at this
    exact this (congrArg some (e2.symm : g = (G k).b))
  · have := ((h.bag.good cl i hd).lt g (by rw [he]; exact .inl rfl)).1
    exact this

/-- Things added to a row. -/
theorem grow (h : Desk w W D F m G) (cl i : Nat) (hd : D cl i) {r : Rw} (he : F cl i = r) {A' : Option Addr} {k c' : Nat} {news : List Value} (ho : V.ownsRow 0 r.e r.size (.slice A' (r.n + k) c') (r.n + k) (r.xs ++ news)) (hg : W.grownBy V r.v.ownBlock)
    (hbl : ∀ b, (Value.slice A' (r.n + k) c').ownBlock = some b → r.v.ownBlock = some b ∨ b = W.heap.size) (hmv : (Value.slice A' (r.n + k) c').ownBlock = r.v.ownBlock ∨ W.grownBy V none) :
    Desk w V D (up F cl i ⟨r.e, r.size, r.A0, r.n0, r.c0, r.xs0, A', r.n + k, c', r.xs ++ news⟩) m G := by
  refine ⟨h.bag.grow cl i hd he h.b.size ho hg hbl hmv, fun c2 j2 hd2 x hx => ?_, fun x hx => ⟨(h.box x hx).1.grown hg ?_, (h.box x hx).2⟩, h.ap, h.b.grown hg h.b.size (fun b hb => ?_)⟩
  · by_cases h2 : c2 = cl ∧ j2 = i
    · obtain ⟨rfl, rfl⟩ := h2
      rw [up_self]
      have := h.ty c2 j2 hd x hx
      rw [he] at this
      exact this
    · rw [up_other F _ h2]; exact h.ty c2 j2 hd2 x hx
  · have := h.bag.ne (h.box x hx).1 cl i hd (h.ty cl i hd x hx)
    rw [he] at this
    exact this
  · have := ((h.bag.good cl i hd).lt b (by rw [he]; exact .inr hb)).1
    exact this

theorem own (h : Desk w W D F m G) {cl j : Nat} (hd : D cl j) {r : Rw} (he : F cl j = r) : W.ownsRow w.heap.size r.e r.size r.v r.n r.xs := by
  subst he; exact (h.bag.good cl j hd).own

theorem view (h : Desk w W D F m G) {cl j : Nat} (hd : D cl j) {r : Rw} (he : F cl j = r) : Row W r.A0 r.xs0 := by
  subst he; exact (h.bag.good cl j hd).view

theorem loc (h : Desk w W D F m G) {i : Nat} (hi : i < m) {B : Box} (hG : G i = B) : Loc W B.b B.c B.t := by
  subst hG; exact (h.box i hi).1
end Desk

theorem own_at {W : World} {base : Nat} {e : TypeId} {size n c : Nat} {A : Option Addr} {xs : List Value} (h : W.ownsRow base e size (.slice A n c) n xs) (hn : 0 < n) : ∃ g, A = some ⟨g, 0, none⟩ := by
  rcases h.2 with ⟨_, h⟩ | ⟨g, cap, cur, hv, _⟩
  · omega
  · cases hv
    exact ⟨g, rfl⟩
end Go.Proofs.Ytnmcdifkknphgaa
