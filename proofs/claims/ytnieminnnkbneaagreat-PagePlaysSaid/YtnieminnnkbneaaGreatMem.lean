/- The memory words of this place: what a call keeps, rows of cells, append onto an owned row from any source. -/
import Derived.WalkKit
import Derived.WalkSpells
import Derived.WalkLawsBesides
import Derived.Deep.AppendSrc
import Derived.Laws.IdiomStrings
import Derived.Laws.IdiomCopy
import Derived.Laws.CopyRow
import Derived.Deep.OwnRows
import Derived.Lib.Hide
import Derived.ScopeJumps
import Derived.WalkMore
import Derived.Deep.Draws
namespace Go.Proofs.YtnieminnnkbneaaGreat
open Go.RowKit

/-- Blocks below B, outside F, are as they were; streams and tape too; no block has gone. -/
structure Keep (B : Nat) (F : Nat → Prop) (w w' : World) : Prop where
  os : w'.os = w.os
  tape : w'.tape = w.tape
  output : w'.output = w.output
  size : w.heap.size ≤ w'.heap.size
  block : ∀ k, k < B → ¬ F k → w'.heap[k]? = w.heap[k]?

namespace Keep
variable {B : Nat} {F : Nat → Prop} {a w w' : World}

theorem refl (B : Nat) (F : Nat → Prop) (w : World) : Keep B F w w := ⟨rfl, rfl, rfl, Nat.le_refl _, fun _ _ _ => rfl⟩

theorem trans (h : Keep B F a w) (k : Keep B F w w') : Keep B F a w' :=
  ⟨k.os.trans h.os, k.tape.trans h.tape, k.output.trans h.output, Nat.le_trans h.size k.size, fun i hi hf => (k.block i hi hf).trans (h.block i hi hf)⟩

theorem mono {B' : Nat} {F' : Nat → Prop} (h : Keep B F a w) (hB : B' ≤ B) (hF : ∀ k, k < B' → F k → F' k) : Keep B' F' a w :=
  ⟨h.os, h.tape, h.output, h.size, fun k hk hn => h.block k (Nat.lt_of_lt_of_le hk hB) (fun hf => hn (hF k hk hf))⟩

/-- A step whose own footprint is new, or lies in F. -/
theorem step {B' : Nat} {G : Nat → Prop} (h : Keep B F a w) (k : Keep B' G w w') (hB : B ≤ B') (hG : ∀ i, i < B → G i → F i) : Keep B F a w' :=
  h.trans (k.mono hB hG)

theorem drew (h : Keep B F a w) : Keep B F a w.drew := ⟨h.os, h.tape, h.output, h.size, h.block⟩

theorem drewN (h : Keep B F a w) (n : Nat) : Keep B F a (w.drewN n) := ⟨h.os, h.tape, h.output, h.size, h.block⟩

theorem alloc (h : Keep B F a w) (hB : B ≤ w.heap.size) (o : Obj) : Keep B F a (w.alloc o) :=
  h.trans ⟨rfl, rfl, rfl, by simp, fun k hk _ => Below.heap_alloc _ _ _ (by omega)⟩

theorem setCell (h : Keep B F a w) {p : Addr} (hp : B ≤ p.block ∨ F p.block) (u : Value) : Keep B F a (w.setCell p u) :=
  h.trans ⟨rfl, rfl, rfl, by simp [World.setCell], fun k hk hf => Below.heap_setCell _ _ _ _ (by rintro rfl; rcases hp with hp | hp; omega; exact hf hp)⟩

theorem grown {row : Option Nat} (h : Keep B F a w) (hg : w.grownBy w' row) (hB : B ≤ w.heap.size) (hr : ∀ k, row = some k → B ≤ k ∨ F k) : Keep B F a w' :=
  h.trans ⟨hg.os, hg.tape, hg.output, hg.size, fun k hk hf => hg.block k (by omega) (fun e => by rcases hr k e.symm with h | h; omega; exact hf h)⟩

theorem below (h : Keep B F a w) (hF : ∀ k, k < B → ¬ F k) : Below B a w := ⟨h.os, h.tape, h.output, h.size, fun k hk => h.block k hk (hF k hk)⟩

theorem of_below (h : Below B a w) (F : Nat → Prop) : Keep B F a w := ⟨h.os, h.tape, h.output, h.size, fun k hk _ => h.block k hk⟩

theorem cell (h : Keep B F w w') : ∀ b o, b < B → ¬ F b → w'.cell? ⟨b, o, none⟩ = w.cell? ⟨b, o, none⟩ :=
  fun b _ hb hf => World.cell?_of_block (h.block b hb hf)

theorem frozen (h : Keep B F w w') : ∀ b o, b < B → ¬ F b → w'.frozen? ⟨b, o, none⟩ = w.frozen? ⟨b, o, none⟩ :=
  fun b _ hb hf => World.frozen?_of_block (h.block b hb hf)

/-- The footprint empty: both as rules for the walk. -/
theorem cell0 (h : Keep B (fun _ => False) w w') : ∀ b o, b < B → w'.cell? ⟨b, o, none⟩ = w.cell? ⟨b, o, none⟩ :=
  fun b o hb => h.cell b o hb (fun f => f)
theorem frozen0 (h : Keep B (fun _ => False) w w') : ∀ b o, b < B → w'.frozen? ⟨b, o, none⟩ = w.frozen? ⟨b, o, none⟩ :=
  fun b o hb => h.frozen b o hb (fun f => f)
theorem cell1 {p : Nat} (h : Keep B (· = p) w w') : ∀ b o, b < B → b ≠ p → w'.cell? ⟨b, o, none⟩ = w.cell? ⟨b, o, none⟩ :=
  fun b o hb => h.cell b o hb
theorem frozen1 {p : Nat} (h : Keep B (· = p) w w') : ∀ b o, b < B → b ≠ p → w'.frozen? ⟨b, o, none⟩ = w.frozen? ⟨b, o, none⟩ :=
  fun b o hb => h.frozen b o hb
end Keep

theorem below_drewN {B : Nat} {a w : World} (h : Below B a w) (n : Nat) : Below B a (w.drewN n) := ⟨h.os, h.tape, h.output, h.size, h.block⟩

/-- What a footprint grows to over a call: itself, and whatever is new. -/
def Grow (F : Nat → Prop) (w w' : World) : Nat → Prop := fun k => F k ∨ (w.heap.size ≤ k ∧ k < w'.heap.size)

/-- The cells behind an address, as a list; an empty list asks nothing. -/
def Row (w : World) (A : Option Addr) (cs : List Value) : Prop :=
  cs = [] ∨ ∃ b off, A = some ⟨b, off, none⟩ ∧ ∀ j, j < cs.length → w.cell? ⟨b, off + j, none⟩ = cs[j]?

theorem Row.nil (w : World) (A : Option Addr) : Row w A [] := .inl rfl

theorem Row.at {w : World} {A : Option Addr} {cs : List Value} (h : Row w A cs) (hp : 0 < cs.length) :
    ∃ b off, A = some ⟨b, off, none⟩ ∧ b < w.heap.size ∧ ∀ j, j < cs.length → w.cell? ⟨b, off + j, none⟩ = cs[j]? := by
  rcases h with rfl | ⟨b, off, rfl, h⟩
  · simp at hp
  · refine ⟨b, off, rfl, ?_, h⟩
    have h0 := h 0 hp
    rw [List.getElem?_eq_getElem hp] at h0
    exact World.block_lt_of_cell? w _ h0

theorem Row.of_below {B : Nat} {w w' : World} {A : Option Addr} {cs : List Value} (h : Row w A cs) (hb : Below B w w') (hB : w.heap.size ≤ B) : Row w' A cs := by
  rcases h with rfl | ⟨b, off, rfl, h⟩
  · exact .inl rfl
  · refine .inr ⟨b, off, rfl, fun j hj => ?_⟩
    have h0 := h j hj
    rw [List.getElem?_eq_getElem hj] at h0
    have hlt := World.block_lt_of_cell? w _ h0
    rw [hb.cell (Nat.lt_of_lt_of_le hlt hB)]
    exact h j hj

theorem Row.keep {B : Nat} {F : Nat → Prop} {w w' : World} {A : Option Addr} {cs : List Value} (h : Row w A cs) (hk : Keep B F w w') (hB : w.heap.size ≤ B)
    (hF : ∀ a, A = some a → ¬ F a.block) : Row w' A cs := by
  rcases h with rfl | ⟨b, off, rfl, h⟩
  · exact .inl rfl
  · refine .inr ⟨b, off, rfl, fun j hj => ?_⟩
    have h0 := h j hj
    rw [List.getElem?_eq_getElem hj] at h0
    have hlt := World.block_lt_of_cell? w _ h0
    rw [hk.cell b _ (Nat.lt_of_lt_of_le hlt hB) (hF _ rfl)]
    exact h j hj

theorem Row.drewN {w : World} {A : Option Addr} {cs : List Value} (h : Row w A cs) (n : Nat) : Row (w.drewN n) A cs := h
theorem Row.drew {w : World} {A : Option Addr} {cs : List Value} (h : Row w A cs) : Row w.drew A cs := h
theorem Row.alloc {w : World} {A : Option Addr} {cs : List Value} (h : Row w A cs) (o : Obj) : Row (w.alloc o) A cs :=
  h.of_below ((Below.refl w.heap.size w).alloc (Nat.le_refl _) o) (Nat.le_refl _)

/-- An owned row reads as its cells. -/
theorem Row.of_owns {w : World} {base : Nat} {e : TypeId} {size n : Nat} {A : Option Addr} {c : Nat} {xs : List Value} (h : w.ownsRow base e size (.slice A n c) n xs) : Row w A xs := by
  obtain ⟨hl, h⟩ := h
  rcases h with ⟨h, rfl⟩ | ⟨g, cap, cur, h, _, hg, hn, hc, hs, ht⟩
  · exact .inl (List.eq_nil_of_length_eq_zero (by simpa using hl))
  · cases h
    refine .inr ⟨g, 0, rfl, fun j hj => ?_⟩
    rw [cell_of_row w g (0 + j) cur e (0, 0) hg, ← ht, List.getElem?_take, if_pos (by omega)]
    simp

theorem owns_form {w : World} {base : Nat} {e : TypeId} {size n : Nat} {v : Value} {xs : List Value} (h : w.ownsRow base e size v n xs) : ∃ A c, v = .slice A n c := by
  rcases h.2 with ⟨rfl, rfl⟩ | ⟨g, cap, cur, rfl, _⟩
  · exact ⟨_, _, rfl⟩
  · exact ⟨_, _, rfl⟩

theorem owns_none {w : World} {base : Nat} {e : TypeId} {size n m c : Nat} {A : Option Addr} {xs : List Value} (h : w.ownsRow base e size (.slice A m c) n xs) : A = none → n = 0 := by
  rintro rfl
  rcases h.2 with ⟨_, rfl⟩ | ⟨g, cap, cur, h, _⟩
  · rfl
  · cases h

/-- A cell of a block outside the row that has grown. -/
theorem grown_cell {w w' : World} {row : Option Nat} (hg : w.grownBy w' row) {b : Nat} {c : Array Value} {t : TypeId} {f : Nat × Nat} (h : w.heap[b]? = some (.cells c t f)) (hne : row ≠ some b) :
    w'.heap[b]? = some (.cells c t f) := by
  rw [hg.block b (Array.getElem?_eq_some_iff.1 h).1 (fun e => hne e.symm)]; exact h

theorem blk_lt {w : World} {b : Nat} {o : Obj} (h : w.heap[b]? = some o) : b < w.heap.size := (Array.getElem?_eq_some_iff.1 h).1

theorem blk_cell {w : World} {b : Nat} {c : Array Value} {t : TypeId} {f : Nat × Nat} (h : w.heap[b]? = some (.cells c t f)) (o : Nat) : w.cell? ⟨b, o, none⟩ = c[o]? := by simp [World.cell?, h]
theorem blk_free {w : World} {b : Nat} {c : Array Value} {t : TypeId} (h : w.heap[b]? = some (.cells c t (0, 0))) (o : Nat) : w.frozen? ⟨b, o, none⟩ = false := by simp [World.frozen?, h]
theorem blk_set {w : World} {b : Nat} {c : Array Value} {t : TypeId} {f : Nat × Nat} (h : w.heap[b]? = some (.cells c t f)) (o : Nat) (v : Value) :
    (w.setCell ⟨b, o, none⟩ v).heap[b]? = some (.cells (c.setIfInBounds o v) t f) := by simp [World.setCell, Array.getElem?_modify, h]

theorem owns_setCell {w : World} {base : Nat} {e : TypeId} {size n : Nat} {v : Value} {xs : List Value} (h : w.ownsRow base e size v n xs) {a : Addr} (ha : v.ownBlock ≠ some a.block) (u : Value) :
    (w.setCell a u).ownsRow base e size v n xs := by
  obtain ⟨h1, h2⟩ := h
  refine ⟨h1, ?_⟩
  rcases h2 with h2 | ⟨g, cap, cur, rfl, hg, hh, r⟩
  · exact Or.inl h2
  · exact Or.inr ⟨g, cap, cur, rfl, hg, by rw [Below.heap_setCell _ _ _ _ (by intro e; exact ha (by simp [Value.ownBlock, e]))]; exact hh, r⟩

theorem owns_lt {w : World} {base : Nat} {e : TypeId} {size n : Nat} {v : Value} {xs : List Value} (h : w.ownsRow base e size v n xs) : ∀ k, v.ownBlock = some k → k < w.heap.size :=
  fun k hk => (h.lt k hk).2

theorem owns_keep {B : Nat} {F : Nat → Prop} {w w' : World} {base : Nat} {e : TypeId} {size n : Nat} {v : Value} {xs : List Value} (h : w.ownsRow base e size v n xs) (hk : Keep B F w w') (hB : w.heap.size ≤ B)
    (hF : ∀ k, v.ownBlock = some k → ¬ F k) : w'.ownsRow base e size v n xs := by
  obtain ⟨h1, h2⟩ := h
  refine ⟨h1, ?_⟩
  rcases h2 with h2 | ⟨g, cap, cur, rfl, hg, hh, r⟩
  · exact Or.inl h2
  · exact Or.inr ⟨g, cap, cur, rfl, hg, by rw [hk.block g (Nat.lt_of_lt_of_le (blk_lt hh) hB) (hF g rfl)]; exact hh, r⟩

theorem owns_base {w : World} {base base' : Nat} {e : TypeId} {size n : Nat} {v : Value} {xs : List Value} (h : w.ownsRow base e size v n xs) (hb : ∀ k, v.ownBlock = some k → base' ≤ k) : w.ownsRow base' e size v n xs := by
  obtain ⟨h1, h2⟩ := h
  refine ⟨h1, ?_⟩
  rcases h2 with h2 | ⟨g, cap, cur, rfl, hg, hh, r⟩
  · exact Or.inl h2
  · exact Or.inr ⟨g, cap, cur, rfl, hb g rfl, hh, r⟩

/-- Blocks of two element types are two. -/
theorem owns_ne {w : World} {base : Nat} {e t : TypeId} {size n b : Nat} {v : Value} {xs : List Value} {c : Array Value} {f : Nat × Nat} (h : w.ownsRow base e size v n xs) (hb : w.heap[b]? = some (.cells c t f)) (hne : e ≠ t) :
    v.ownBlock ≠ some b := by
  rcases h.2 with ⟨rfl, _⟩ | ⟨g, cap, cur, rfl, hg, hh, r⟩
  · simp [Value.ownBlock]
  · intro e'
    simp [Value.ownBlock] at e'
    subst e'
    rw [hh] at hb
    cases hb
    exact hne rfl

theorem blk_ne {w : World} {a b : Nat} {s t : TypeId} {c d : Array Value} {f g : Nat × Nat} (ha : w.heap[a]? = some (.cells c s f)) (hb : w.heap[b]? = some (.cells d t g)) (hne : s ≠ t) : a ≠ b := by
  rintro rfl
  rw [ha] at hb
  cases hb
  exact hne rfl

theorem Row.src {P : Program} {w : World} {A : Option Addr} {cs : List Value} {size n c : Nat} {tx e' : TypeId} (h : Row w A cs) (hk : P.underlying tx = some (.slice e'))
    (hl : cs.length = n * size) (h1 : ∀ u ∈ cs, u.oneCell' = true) (hA : A = none → n = 0) : Src P size tx (.slice A n c) n cs w := by
  cases A with
  | none =>
    obtain rfl := hA rfl
    have : cs = [] := List.eq_nil_of_length_eq_zero (by simpa using hl)
    subst this
    exact Src.ofNil w hk c
  | some ad =>
    refine Src.ofSlice w hk ad n c cs hl (fun j u hu => ?_) h1
    rcases h with rfl | ⟨b, off, e, h⟩
    · simp at hu
    · cases e
      have hj : j < cs.length := by
        rcases Nat.lt_or_ge j cs.length with h | h
        · exact h
        · rw [List.getElem?_eq_none h] at hu; cases hu
      have : (⟨b, off, none⟩ : Addr).add j = ⟨b, off + j, none⟩ := by unfold Addr.add; split <;> simp_all
      rw [this, h j hj]; exact hu

section
variable {P : Program} (w : World)

theorem run_append_room_mine (t tx ty e : TypeId) (i : TypeInfo) (ht : P.underlying t = some (.slice e)) (hi : P.info? e = some i)
    (g sLen sCap : Nat) (cur : Array Value) (hg : w.heap[g]? = some (.cells cur e (0, 0)))
    (x : Value) (m : Nat) (news : List Value) (hs : Src P i.size tx x m news w)
    (hroom : sLen + m ≤ sCap) (hfit : sLen * i.size + news.length ≤ cur.size) :
    (Builtin.append_ #[t, tx] ty #[.slice (some ⟨g, 0, none⟩) sLen sCap, x]).run P w =
      .ok (.slice (some ⟨g, 0, none⟩) (sLen + m) sCap) (w.setRow g (cur.toList.take (sLen * i.size) ++ news ++ cur.toList.drop (sLen * i.size + news.length)).toArray) := by
  have hst := run_storeCells_at P g (sLen * i.size) e news 0 cur w hg (by simpa using hfit) hs.one
  simp only [Nat.add_zero] at hst
  rcases hs.kind with ⟨e', hk⟩ | hk <;>
    simp [Builtin.append_, run_underlying ht, run_underlying hk, sizeOf, typeInfo, hi, hs.len, hroom, hs.cells, Addr.add_lit, hst]

/-- append onto an owned row, from any source. -/
theorem run_append_mine (t tx ty e : TypeId) (z : Value) (size bytes : Nat) (ht : P.underlying t = some (.slice e))
    (hinfo : (P.info? e).map (fun i => (i.zero, i.size, i.bytes)) = some (some z, size, bytes)) (hzs : z.cells.size = size) (hsz : 0 < size)
    (v : Value) (n : Nat) (xs : List Value) (hown : w.ownsRow 0 e size v n xs)
    (x : Value) (m : Nat) (news : List Value) (hs : Src P size tx x m news w)
    (h63 : n + m ≤ maxLen) (hbytes : (n + m) * bytes ≤ 140737488355328) :
    ∃ v' w', (Builtin.append_ #[t, tx] ty #[v, x]).run P w = .ok v' w' ∧ w'.ownsRow 0 e size v' (n + m) (xs ++ news) ∧ w.grownBy w' v.ownBlock ∧
      (∀ k, v'.ownBlock = some k → v.ownBlock = some k ∨ k = w.heap.size) ∧ (v' = .slice none 0 0 ↔ v = .slice none 0 0 ∧ m = 0) := by
  obtain ⟨i, hi, hz, hsize, hby⟩ := info_parts hinfo
  subst hsize
  subst hby
  have hsmall : n + m ≤ 9223372036854775807 := by simp only [maxLen] at h63; omega
  have hl := hs.newsLen
  have hlen : (xs ++ news).length = (n + m) * i.size := by rw [List.length_append, hown.1, hl, Nat.add_mul]
  have grown : ∀ (old : Nat), old < n + m → ∀ (row : Option Nat),
      (w.drew.alloc (.cells ((xs ++ news).toArray ++ Builtin.zeroCells z.cells (grownCap w (n + m) old e - (n + m))) e)).ownsRow 0 e i.size
        (.slice (some ⟨w.heap.size, 0, none⟩) (n + m) (grownCap w (n + m) old e)) (n + m) (xs ++ news) ∧
      w.grownBy (w.drew.alloc (.cells ((xs ++ news).toArray ++ Builtin.zeroCells z.cells (grownCap w (n + m) old e - (n + m))) e)) row := by
    intro old ho row
    have hge := grownCap_ge w (n + m) old e
    have hcm : grownCap w (n + m) old e ≤ maxLen := grownCap_le_maxLen w (n + m) old e h63
    refine ⟨⟨hlen, .inr ⟨w.heap.size, _, _, rfl, Nat.zero_le _, heap_alloc_new w.drew _, hge, hcm, ?_, ?_⟩⟩, ⟨rfl, rfl, rfl, by simp, fun k hk _ => heap_alloc_old w.drew _ hk⟩⟩
    · simp only [Array.size_append, List.size_toArray, size_zeroCells, hzs, hlen, ← Nat.add_mul]
      congr 1
      omega
    · simp only [Array.toList_append]
      rw [← hlen]
      exact List.take_left
  rcases hown.2 with ⟨rfl, rfl⟩ | ⟨g, cap, cur, rfl, hbg, hg, hnc, hcm, hcs, htake⟩
  · have hx : xs = [] := List.eq_nil_of_length_eq_zero (by simpa using hown.1)
    subst hx
    by_cases hm : m = 0
    · subst hm
      have hn : news = [] := List.eq_nil_of_length_eq_zero (by simpa using hl)
      subst hn
      refine ⟨.slice none 0 0, w, ?_, World.ownsRow_nil w 0 e i.size, ⟨rfl, rfl, rfl, Nat.le_refl _, fun _ _ _ => rfl⟩, by simp [Value.ownBlock], by simp⟩
      rcases hs.kind with ⟨e', hk⟩ | hk <;>
        simp [Builtin.append_, run_underlying ht, run_underlying hk, sizeOf, typeInfo, hi, hs.len, hs.cells]
    · have hold : (Builtin.firstCells i.size 0 (.slice none 0 0)).run P w.drew = .ok ([] : List Value).toArray w.drew := by
        simp [Builtin.firstCells]
      have hr := run_append_grow_src (P := P) w t tx ty e i z ht hi hz none 0 0 [] hold x m news hs (by omega) (by omega)
        (growslice_fits (by omega) hbytes)
      have hgr := grown 0 (by omega) (Value.ownBlock (.slice none 0 0))
      exact ⟨_, _, hr, hgr.1, hgr.2, by simp [Value.ownBlock], by simp [hm]⟩
  · by_cases hroom : n + m ≤ cap
    · have hfit : n * i.size + news.length ≤ cur.size := by rw [hl, hcs, ← Nat.add_mul]; exact Nat.mul_le_mul_right _ hroom
      have hr := run_append_room_mine (P := P) w t tx ty e i ht hi g n cap cur hg x m news hs hroom hfit
      refine ⟨_, _, hr, ⟨hlen, .inr ⟨g, cap, _, rfl, hbg, setRow_heap w g cur _ e _ hg, hroom, hcm, ?_, ?_⟩⟩, ⟨rfl, rfl, rfl, by simp, fun k _ hk => setRow_other w g k _ (fun e => hk (by simp [Value.ownBlock, e]))⟩, by simp [Value.ownBlock], by simp⟩
      · simp only [List.size_toArray, List.length_append, List.length_take, List.length_drop, Array.length_toList]
        omega
      · rw [htake, ← hlen]
        exact List.take_left
    · have holds : ∀ j u, xs[j]? = some u → w.drew.cell? ((⟨g, 0, none⟩ : Addr).add j) = some u := hown.cells (g := g) rfl
      have hold : (Builtin.firstCells i.size n (.slice (some ⟨g, 0, none⟩) n cap)).run P w.drew = .ok xs.toArray w.drew :=
        run_firstCells_some w.drew i.size n ⟨g, 0, none⟩ n cap xs hown.1 holds
      have hr := run_append_grow_src (P := P) w t tx ty e i z ht hi hz (some ⟨g, 0, none⟩) n cap xs hold x m news hs (by omega) (by omega) (growslice_fits (by omega) hbytes)
      have hgr := grown cap (by omega) (Value.ownBlock (.slice (some ⟨g, 0, none⟩) n cap))
      exact ⟨_, _, hr, hgr.1, hgr.2, by simp [Value.ownBlock], by simp⟩

theorem wp_append_mine {o : Oper} {a : Act} {K : Act → World → Prop} {Q : Exit → Act → World → Prop} (s x : Operand) (t tx : TypeId)
    (ho : o.op = .call { callee := .builtin .append, args := #[s, x], argTypes := #[t, tx] })
    (e : TypeId) (z : Value) (size bytes : Nat) (ht : P.underlying t = some (.slice e))
    (hinfo : (P.info? e).map (fun i => (i.zero, i.size, i.bytes)) = some (some z, size, bytes)) (hzs : z.cells.size = size) (hsz : 0 < size)
    (v : Value) (n : Nat) (xs : List Value) (hs : a.eval s = v) (hown : w.ownsRow 0 e size v n xs)
    (xv : Value) (m : Nat) (news : List Value) (hx : a.eval x = xv) (hsrc : Src P size tx xv m news w)
    (h63 : n + m ≤ maxLen) (hbytes : (n + m) * bytes ≤ 140737488355328)
    (h : ∀ A' c' w', w'.ownsRow 0 e size (.slice A' (n + m) c') (n + m) (xs ++ news) → w.grownBy w' v.ownBlock → (∀ k, (Value.slice A' (n + m) c').ownBlock = some k → v.ownBlock = some k ∨ k = w.heap.size) →
      (Value.slice A' (n + m) c' = .slice none 0 0 ↔ v = .slice none 0 0 ∧ m = 0) → K (a.put o.dst (.slice A' (n + m) c')) w') : o.wp P a w K Q := by
  obtain ⟨v', w', hr, h2, h3, h4, h5⟩ := run_append_mine (P := P) w t tx o.type e z size bytes ht hinfo hzs hsz v n xs hown xv m news hsrc h63 hbytes
  unfold Oper.wp execOp
  simp only [ho, resolve, invoke, builtin, Sem.run_bind, Sem.run_pure, Result.andThen_ok, List.map_toArray, List.map_cons, List.map_nil, hs, hx, hr]
  obtain ⟨A', c', rfl⟩ := owns_form h2
  exact h A' c' w' h2 h3 h4 h5

theorem wpList_append_mine {ops : Array Oper} {rest : List Oper} {o : Oper} {a : Act} {Q : Exit → Act → World → Prop} (hgd : o.guard = none) (s x : Operand) (t tx : TypeId)
    (ho : o.op = .call { callee := .builtin .append, args := #[s, x], argTypes := #[t, tx] })
    (e : TypeId) (z : Value) (size bytes : Nat) (ht : P.underlying t = some (.slice e))
    (hinfo : (P.info? e).map (fun i => (i.zero, i.size, i.bytes)) = some (some z, size, bytes)) (hzs : z.cells.size = size) (hsz : 0 < size)
    (v : Value) (n : Nat) (xs : List Value) (hs : a.eval s = v) (hown : w.ownsRow 0 e size v n xs)
    (xv : Value) (m : Nat) (news : List Value) (hx : a.eval x = xv) (hsrc : Src P size tx xv m news w)
    (h63 : n + m ≤ maxLen) (hbytes : (n + m) * bytes ≤ 140737488355328)
    (h : ∀ A' c' w', w'.ownsRow 0 e size (.slice A' (n + m) c') (n + m) (xs ++ news) → w.grownBy w' v.ownBlock → (∀ k, (Value.slice A' (n + m) c').ownBlock = some k → v.ownBlock = some k ∨ k = w.heap.size) →
      (Value.slice A' (n + m) c' = .slice none 0 0 ↔ v = .slice none 0 0 ∧ m = 0) → wpList P ops Q rest (a.put o.dst (.slice A' (n + m) c')) w') : wpList P ops Q (o :: rest) a w :=
  wpList_plain hgd fun _ hK => wp_append_mine w s x t tx ho e z size bytes ht hinfo hzs hsz v n xs hs hown xv m news hx hsrc h63 hbytes fun A' c' w' h2 h3 h4 h5 => hK _ _ (h A' c' w' h2 h3 h4 h5)
end

/-- Behind an append onto a row of one's own: still one's own, and what is older has not turned. -/
theorem own_next {B : Nat} {w wr w1 : World} {o : Obj} {e : TypeId} {size n m : Nat} {v v1 : Value} {xs ys : List Value} (hown : wr.ownsRow B e size v n xs) (hown1 : w1.ownsRow 0 e size v1 m ys)
    (hg : (wr.alloc o).grownBy w1 v.ownBlock) (hbl : ∀ k, v1.ownBlock = some k → v.ownBlock = some k ∨ k = (wr.alloc o).heap.size) (hB : B ≤ wr.heap.size) (hb : Below B w wr) :
    w1.ownsRow B e size v1 m ys ∧ Below B w w1 := by
  have hsz : (wr.alloc o).heap.size = wr.heap.size + 1 := by simp
  refine ⟨owns_base hown1 (fun k hk => ?_), (hb.alloc hB o).grown hg (by omega) (fun k hk => (hown.lt k hk).1)⟩
  rcases hbl k hk with h | h
  · exact (hown.lt k h).1
  · omega

theorem own_next0 {B : Nat} {w wr w1 : World} {e : TypeId} {size n m : Nat} {v v1 : Value} {xs ys : List Value} (hown : wr.ownsRow B e size v n xs) (hown1 : w1.ownsRow 0 e size v1 m ys)
    (hg : wr.grownBy w1 v.ownBlock) (hbl : ∀ k, v1.ownBlock = some k → v.ownBlock = some k ∨ k = wr.heap.size) (hB : B ≤ wr.heap.size) (hb : Below B w wr) :
    w1.ownsRow B e size v1 m ys ∧ Below B w w1 := by
  refine ⟨owns_base hown1 (fun k hk => ?_), hb.grown hg hB (fun k hk => (hown.lt k hk).1)⟩
  rcases hbl k hk with h | h
  · exact (hown.lt k h).1
  · omega

/-- The row that '[]byte(s)' lays, with its mark. -/
def strObj (s : ByteArray) (cap : Nat) (e : TypeId) : Obj := .cells (bytesRow s cap) e ((bytesRow s cap).size, (bytesRow s cap).size + 1)

theorem run_toBytes {P : Program} (src dst e : TypeId) (s : ByteArray) (hs : P.underlying src = some .string) (hd : P.underlying dst = some (.slice e)) (he : P.underlying e = some (.int .u8)) :
    ∀ W : World, (convert src dst (.string s)).run P W = .ok (.slice (some ⟨W.heap.size, 0, none⟩) s.size (grownCap W s.size 0 e)) (W.drew.alloc (strObj s (grownCap W s.size 0 e) e)) :=
  fun W => run_bytes_of_string W src dst e s hs hd he

theorem Row.str (w : World) (s : ByteArray) (cap : Nat) (e : TypeId) : Row (w.alloc (strObj s cap e)) (some ⟨w.heap.size, 0, none⟩) (s.data.toList.map fun b => Value.int .u8 b.toNat) := by
  refine .inr ⟨_, 0, rfl, fun j hj => ?_⟩
  have hj' : j < s.data.size := by simpa using hj
  unfold strObj
  rw [World.cell?_alloc_mark, Nat.zero_add, bytesRow_at s cap j hj']
  simp
  rw [Array.getElem?_eq_getElem hj']; rfl

/-- 'string(b)' of a row of bytes. -/
theorem run_ofBytes {P : Program} (src dst e : TypeId) (hs : P.underlying src = some (.slice e)) (he : P.underlying e = some (.int .u8)) (hd : P.underlying dst = some .string)
    {W : World} {A : Option Addr} {xs : List UInt8} (n cap : Nat) (hn : n = xs.length) (h : Row W A (xs.map fun b => Value.int .u8 b.toNat)) (hA : A = none → n = 0) :
    (convert src dst (.slice A n cap)).run P W = .ok (.string ⟨xs.toArray⟩) W := by
  subst hn
  cases A with
  | none =>
    have : xs = [] := List.eq_nil_of_length_eq_zero (hA rfl)
    subst this
    rw [run_convert_bytes_string W src dst e none _ _ hs he hd]
    simp [Conv.bytesToString]
    rfl
  | some a =>
    refine run_convert_bytes_back W src dst e a cap xs hs he hd (fun j hj => ?_)
    rcases h with h | ⟨b, off, h1, h⟩
    · simp at h; subst h; simp at hj
    · cases h1
      have hadd : (⟨b, off, none⟩ : Addr).add j = ⟨b, off + j, none⟩ := by unfold Addr.add; split <;> simp_all
      rw [hadd, h j (by simpa using hj)]
      simp [hj]

/-- copy of a whole row of one-cell elements onto a block as long. -/
theorem run_copy_full {P : Program} (w : World) (dT sT ty elem : TypeId) (hu : P.underlying dT = some (.slice elem)) (hs : (P.info? elem).map (·.size) = some 1)
    (g n cap : Nat) (cur : Array Value) (t : TypeId) (hg : w.heap[g]? = some (.cells cur t (0, 0))) (hc : cur.size = n) (A : Option Addr) (c : Nat) (cs : List Value) (hn : cs.length = n) (hr : Row w A cs)
    (hA : A = none → n = 0) (h1 : ∀ v ∈ cs, v.oneCell' = true) :
    ∃ w', (Builtin.copy_ #[dT, sT] ty #[.slice (some ⟨g, 0, none⟩) n cap, .slice A n c]).run P w = .ok (goInt n) w' ∧ w'.heap[g]? = some (.cells cs.toArray t (0, 0)) ∧ w.grownBy w' (some g) := by
  by_cases h0 : n = 0
  · subst h0
    have : cs = [] := List.eq_nil_of_length_eq_zero hn
    subst this
    have : cur = #[] := Array.eq_empty_of_size_eq_zero hc
    subst this
    exact ⟨w, run_copy_none w dT sT ty elem _ A 0 cap 0 c hu hs (by simp), hg, rfl, rfl, rfl, Nat.le_refl _, fun _ _ _ => rfl⟩
  · rcases hr with rfl | ⟨b, off, rfl, hr⟩
    · simp at hn; omega
    · have hsrc : ∀ j v, cs[j]? = some v → w.cell? ((⟨b, off, none⟩ : Addr).add j) = some v := by
        intro j v hj
        have hadd : (⟨b, off, none⟩ : Addr).add j = ⟨b, off + j, none⟩ := by unfold Addr.add; split <;> simp_all
        have hl : j < cs.length := (List.getElem?_eq_some_iff.1 hj).1
        rw [hadd, hr j hl]; exact hj
      have hrun := run_copy_row (P := P) w dT sT ty elem g 0 n cap ⟨b, off, none⟩ n c cur t cs hu hs hg (by simp [hn]) hsrc (by omega) h1
      have hrow : (cur.toList.take 0 ++ cs ++ cur.toList.drop (0 + cs.length)).toArray = cs.toArray := by
        simp [hn, ← hc]
      rw [hrow, hn] at hrun
      exact ⟨_, hrun, setRow_heap w g cur _ t _ hg, rfl, rfl, rfl, by simp, fun k _ hk => setRow_other w g k _ (fun e => hk (by simp [e]))⟩

theorem wpList_copy_full {P : Program} (w : World) {ops : Array Oper} {rest : List Oper} {o : Oper} {a : Act} {Q : Exit → Act → World → Prop} (hgd : o.guard = none) (d s : Operand) (dT sT : TypeId)
    (ho : o.op = .call { callee := .builtin .copy, args := #[d, s], argTypes := #[dT, sT] }) (elem : TypeId) (hu : P.underlying dT = some (.slice elem)) (hs : (P.info? elem).map (·.size) = some 1)
    (g n cap : Nat) (hd : a.eval d = .slice (some ⟨g, 0, none⟩) n cap) (cur : Array Value) (t : TypeId) (hg : w.heap[g]? = some (.cells cur t (0, 0))) (hc : cur.size = n) (A : Option Addr) (c : Nat)
    (hx : a.eval s = .slice A n c) (cs : List Value) (hn : cs.length = n) (hr : Row w A cs) (hA : A = none → n = 0) (h1 : ∀ v ∈ cs, v.oneCell' = true)
    (h : ∀ w', w'.heap[g]? = some (.cells cs.toArray t (0, 0)) → w.grownBy w' (some g) → wpList P ops Q rest (a.put o.dst (goInt n)) w') : wpList P ops Q (o :: rest) a w := by
  refine wpList_plain hgd fun _ hK => ?_
  obtain ⟨w', hrun, h2, h3⟩ := run_copy_full (P := P) w dT sT o.type elem hu hs g n cap cur t hg hc A c cs hn hr hA h1
  unfold Oper.wp execOp
  simp only [ho, resolve, invoke, builtin, Sem.run_bind, Sem.run_pure, Result.andThen_ok, List.map_toArray, List.map_cons, List.map_nil, hd, hx, hrun]
  exact hK _ _ (h w' h2 h3)

/-- A scope that is left by a goto to a label further down: the code behind the label is walked where the goto stands. -/
def fwdTo (P : Program) (l : Nat) (rest : Code) (Q : Exit → Act → World → Prop) : Exit → Act → World → Prop
  | .goto l', a, w => l' = l ∧ rest.wp P (Exit.noGoto Q) a w
  | e, a, w => Q e a w

theorem fwdTo_ret {P : Program} {l : Nat} {rest : Code} {Q : Exit → Act → World → Prop} {a : Act} {w : World} : fwdTo P l rest Q .ret a w = Q .ret a w := rfl

theorem wp_scope_fwd {P : Program} {a : Act} {w : World} {Q : Exit → Act → World → Prop} {c rest : Code} (l : Nat) (hf : findLabel c l = some rest) (h : c.wp P (fwdTo P l rest Q) a w) : (Code.scope c).wp P Q a w := by
  refine wp_scope_jumps l (fun a w => rest.wp P (Exit.noGoto Q) a w) (fun _ _ => 0) hf ?_ ?_
  · refine Code.wp_mono ?_ h
    intro e a w hq
    cases e <;> exact hq
  · intro a w hJ
    refine Code.wp_mono ?_ hJ
    intro e a w hq
    cases e <;> first | exact hq | exact hq.elim

/-- The address of 'x[lo:hi]'. -/
def subAddr (A : Option Addr) (lo cap size : Nat) : Option Addr := if cap = lo then A else A.map (·.add (lo * size))

theorem run_subs {P : Program} (t e : TypeId) (size : Nat) (hu : P.underlying t = some (.slice e)) (hs : (P.info? e).map (·.size) = some size) (A : Option Addr) (len cap lo hi : Nat) (h1 : lo ≤ hi) (h2 : hi ≤ cap) (W : World) :
    (Instr.slice t (.slice A len cap) (some (.int .i64 (lo : Int))) (some (.int .i64 (hi : Int))) none).run P W = .ok (.slice (subAddr A lo cap size) (hi - lo) (cap - lo)) W := by
  obtain ⟨i, hi', hsz⟩ : ∃ i, P.info? e = some i ∧ i.size = size := by
    cases h : P.info? e with
    | none => simp [h] at hs
    | some i => exact ⟨i, rfl, by simpa [h] using hs⟩
  have eh : (hi : Int).toNat = hi := rfl
  have el : (lo : Int).toNat = lo := rfl
  simp [Instr.slice, run_underlying hu, Instr.sliceBounds, run_sliceBound, sizeOf, typeInfo, hi', hsz, subAddr, h1, h2]

theorem run_subsAt {P : Program} (t e : TypeId) (size : Nat) (hu : P.underlying t = some (.slice e)) (hs : (P.info? e).map (·.size) = some size) (A : Option Addr) (len cap lo hi : Nat) (h1 : lo ≤ hi) (h2 : hi ≤ cap) (W : World) :
    (Instr.sliceAt t (.slice A len cap) (some (.int .i64 (lo : Int))) (some (.int .i64 (hi : Int))) none).run P W = .ok (.slice (subAddr A lo cap size) (hi - lo) (cap - lo)) W := by
  have h := run_subs t e size hu hs A len cap lo hi h1 h2 W
  rw [← h]
  simp [Instr.sliceAt, run_underlying hu]

/-- What 'x[lo:hi]' reads. -/
theorem Row.subs {w : World} {A : Option Addr} {cs : List Value} (h : Row w A cs) (size lo n cap : Nat) (hc : cs.length ≤ cap * size) (hn : lo * size + n ≤ cs.length) :
    Row w (subAddr A lo cap size) ((cs.drop (lo * size)).take n) := by
  by_cases h0 : n = 0
  · subst h0; exact .inl (by simp)
  · rcases h with rfl | ⟨b, off, rfl, h⟩
    · simp at hn; omega
    · have hlt : cap ≠ lo := by
        rintro rfl
        omega
      refine .inr ⟨b, off + lo * size, ?_, fun j hj => ?_⟩
      · unfold subAddr
        rw [if_neg hlt]
        simp only [Option.map_some]
        congr 1
        unfold Addr.add
        split <;> simp_all
      · simp at hj
        rw [Nat.add_assoc, h _ (by omega), List.getElem?_take, if_pos (by omega), List.getElem?_drop]

/-- A block known whole, unmarked. -/
def Loc (w : World) (b : Nat) (c : Array Value) (t : TypeId) : Prop := w.heap[b]? = some (.cells c t (0, 0))

namespace Loc
variable {w w' : World} {b : Nat} {c : Array Value} {t : TypeId}
theorem new (w : World) (c : Array Value) (t : TypeId) : Loc (w.alloc (.cells c t)) w.heap.size c t := heap_alloc_new w _
theorem lt (h : Loc w b c t) : b < w.heap.size := blk_lt h
theorem alloc (h : Loc w b c t) (o : Obj) : Loc (w.alloc o) b c t := by
  unfold Loc; rw [Below.heap_alloc _ _ _ h.lt]; exact h
theorem drewN (h : Loc w b c t) (n : Nat) : Loc (w.drewN n) b c t := h
theorem drew (h : Loc w b c t) : Loc w.drew b c t := h
theorem below {B : Nat} (h : Loc w b c t) (hb : Below B w w') (hB : b < B) : Loc w' b c t := by
  unfold Loc; rw [hb.block b hB]; exact h
theorem keep {B : Nat} {F : Nat → Prop} (h : Loc w b c t) (hk : Keep B F w w') (hB : b < B) (hF : ¬ F b) : Loc w' b c t := by
  unfold Loc; rw [hk.block b hB hF]; exact h
theorem grown {row : Option Nat} (h : Loc w b c t) (hg : w.grownBy w' row) (hne : row ≠ some b) : Loc w' b c t := grown_cell hg h hne
theorem cell (h : Loc w b c t) (o : Nat) : w.cell? ⟨b, o, none⟩ = c[o]? := blk_cell h o
theorem free (h : Loc w b c t) (o : Nat) : w.frozen? ⟨b, o, none⟩ = false := blk_free h o
theorem set (h : Loc w b c t) (o : Nat) (v : Value) : Loc (w.setCell ⟨b, o, none⟩ v) b (c.setIfInBounds o v) t := blk_set h o v
theorem other (h : Loc w b c t) {a : Addr} (hne : b ≠ a.block) (v : Value) : Loc (w.setCell a v) b c t := by
  unfold Loc; rw [Below.heap_setCell _ _ _ _ hne]; exact h
theorem ne {b' : Nat} {c' : Array Value} {t' : TypeId} (h : Loc w b c t) (h' : Loc w b' c' t') (ht : t ≠ t') : b ≠ b' := blk_ne h h' ht
end Loc

theorem owns_mono {w : World} {base base' : Nat} {e : TypeId} {size n : Nat} {v : Value} {xs : List Value} (h : w.ownsRow base e size v n xs) (hb : base' ≤ base) : w.ownsRow base' e size v n xs :=
  owns_base h (fun k hk => Nat.le_trans hb (h.lt k hk).1)

/-- A call of one's own things: what is older has not turned. -/
theorem below_keep {B B' : Nat} {F : Nat → Prop} {a w w' : World} (h : Below B a w) (hk : Keep B' F w w') (hB : B ≤ B') (hF : ∀ k, F k → B ≤ k) : Below B a w' :=
  h.trans ⟨hk.os, hk.tape, hk.output, hk.size, fun k hk' => hk.block k (by omega) (fun hf => by have := hF k hf; omega)⟩

theorem below_then {B B' : Nat} {a w w' : World} (h : Below B a w) (hk : Below B' w w') (hB : B ≤ B') : Below B a w' := h.trans (hk.mono hB)

end Go.Proofs.YtnieminnnkbneaaGreat
