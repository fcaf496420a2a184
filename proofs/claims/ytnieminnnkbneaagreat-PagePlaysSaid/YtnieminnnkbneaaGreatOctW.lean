/- Walks of octet.Writer: what is laid. -/
import Derived.Test.YtnieminnnkbneaaGreatProg
import Derived.Test.YtnieminnnkbneaaGreatMem
import Derived.Test.YtnieminnnkbneaaGreatPure
import Derived.Test.YtnieminnnkbneaaGreatBits
namespace Go.Proofs.YtnieminnnkbneaaGreat
open Go.RowKit

theorem infoU8 : (Tryz.prog.info? 5).map (fun i => (i.zero, i.size, i.bytes)) = some (some (.int .u8 0), 1, 1) := by kernel_rfl

def cellsB (xs : Bs) : List Value := xs.map fun b => Value.int .u8 b.toNat
theorem cellsB_length (xs : Bs) : (cellsB xs).length = xs.length := by simp [cellsB]
theorem cellsB_append (xs ys : Bs) : cellsB (xs ++ ys) = cellsB xs ++ cellsB ys := by simp [cellsB]
theorem cellsB_one (xs : Bs) : ∀ u ∈ cellsB xs, u.oneCell' = true := by
  intro u hu
  obtain ⟨_, _, rfl⟩ := List.mem_map.1 hu
  rfl

/-- A writer at p, without an error, that has laid xs; all its blocks lie in F. -/
def Wr (w : World) (F : Nat → Prop) (p : Nat) (xs : Bs) : Prop :=
  ∃ v, w.heap[p]? = some (.cells #[v, .int .i64 0] 146 (0, 0)) ∧ w.ownsRow 0 5 1 v xs.length (cellsB xs) ∧ F p ∧ v.ownBlock ≠ some p ∧
    (∀ k, v.ownBlock = some k → F k) ∧ (∀ k, F k → k < w.heap.size)

def WrStep (w w' : World) (F : Nat → Prop) (p : Nat) (xs : Bs) : Prop := Wr w' (Grow F w w') p xs ∧ Keep w.heap.size F w w'

theorem Wr.lt {w : World} {F : Nat → Prop} {p : Nat} {xs : Bs} (h : Wr w F p xs) : p < w.heap.size := by
  obtain ⟨v, h0, h1, h2, h3, h4, h5⟩ := h
  exact h5 p h2

theorem Wr.weaken {w : World} {F F' : Nat → Prop} {p : Nat} {xs : Bs} (h : Wr w F p xs) (hF : ∀ k, F k → F' k) (hlt : ∀ k, F' k → k < w.heap.size) : Wr w F' p xs := by
  obtain ⟨v, h0, h1, h2, h3, h4, h5⟩ := h
  exact ⟨v, h0, h1, hF p h2, h3, fun k hk => hF k (h4 k hk), hlt⟩

theorem Wr.bound {w : World} {F : Nat → Prop} {p : Nat} {xs : Bs} (h : Wr w F p xs) : ∀ k, F k → k < w.heap.size := by
  obtain ⟨v, h0, h1, h2, h3, h4, h5⟩ := h
  exact h5

theorem Wr.keep {B : Nat} {G : Nat → Prop} {w w' : World} {F : Nat → Prop} {p : Nat} {xs : Bs} (h : Wr w F p xs) (hk : Keep B G w w') (hB : w.heap.size ≤ B) (hG : ∀ k, F k → ¬ G k) : Wr w' F p xs := by
  obtain ⟨v, h0, h1, h2, h3, h4, h5⟩ := h
  exact ⟨v, by rw [hk.block p (Nat.lt_of_lt_of_le (h5 p h2) hB) (hG p h2)]; exact h0, owns_keep h1 hk hB (fun k hk => hG k (h4 k hk)), h2, h3, h4,
    fun k hk' => Nat.lt_of_lt_of_le (h5 k hk') hk.size⟩

theorem Wr.alloc {w : World} {F : Nat → Prop} {p : Nat} {xs : Bs} (h : Wr w F p xs) (o : Obj) : Wr (w.alloc o) F p xs :=
  h.keep ((Keep.refl w.heap.size (fun _ => False) w).alloc (Nat.le_refl _) o) (Nat.le_refl _) (fun _ _ f => f)

theorem Wr.drewN {w : World} {F : Nat → Prop} {p : Nat} {xs : Bs} (h : Wr w F p xs) (n : Nat) : Wr (w.drewN n) F p xs := h

theorem WrStep.start {w w1 w2 : World} {F F1 : Nat → Prop} {p : Nat} {ys : Bs} (h : WrStep w1 w2 F1 p ys) (hlt : ∀ k, F k → k < w.heap.size) (hk : Keep w.heap.size F w w1)
    (hF : ∀ k, F1 k → Grow F w w1 k) : WrStep w w2 F p ys := by
  have h12 := h.2.size
  have h01 := hk.size
  refine ⟨h.1.weaken (fun k hk' => ?_) (fun k hk' => ?_), hk.step h.2 hk.size (fun k hk' hf => ?_)⟩
  · rcases hk' with hk' | hk'
    · rcases hF k hk' with h | h
      · exact .inl h
      · exact .inr ⟨by omega, by omega⟩
    · exact .inr ⟨by omega, by omega⟩
  · rcases hk' with hk' | hk'
    · have := hlt k hk'; omega
    · exact hk'.2
  · rcases hF k hf with h | h
    · exact h
    · omega

/-- Two steps, one behind the other. -/
theorem WrStep.then {w w1 w2 : World} {F : Nat → Prop} {p : Nat} {xs ys : Bs} (h : WrStep w w1 F p xs) (hlt : ∀ k, F k → k < w.heap.size) (h' : WrStep w1 w2 (Grow F w w1) p ys) : WrStep w w2 F p ys :=
  h'.start hlt h.2 (fun _ h => h)

theorem WrStep.alloc {w w2 : World} {F : Nat → Prop} {p : Nat} {ys : Bs} {o : Obj} (h : WrStep (w.alloc o) w2 F p ys) (hlt : ∀ k, F k → k < w.heap.size) : WrStep w w2 F p ys :=
  h.start hlt ((Keep.refl _ _ _).alloc (Nat.le_refl _) o) (fun _ h => .inl h)

theorem WrStep.drewN {w w2 : World} {F : Nat → Prop} {p : Nat} {ys : Bs} {n : Nat} (h : WrStep (w.drewN n) w2 F p ys) (hlt : ∀ k, F k → k < w.heap.size) : WrStep w w2 F p ys :=
  h.start hlt ((Keep.refl _ _ _).drewN n) (fun _ h => .inl h)

theorem Wr.after {w w1 : World} {F : Nat → Prop} {p : Nat} {ys : Bs} {v : Value} {m : Nat} {A : Option Addr} {c : Nat} {v0 : Value} (h2 : F p) (h4 : ∀ k, v.ownBlock = some k → F k) (h5 : ∀ k, F k → k < w.heap.size)
    (hown : w1.ownsRow 0 5 1 (.slice A m c) m (cellsB ys)) (hm : m = ys.length) (hg : w.grownBy w1 v.ownBlock) (hb : ∀ k, (Value.slice A m c).ownBlock = some k → v.ownBlock = some k ∨ k = w.heap.size)
    (d0 : w1.heap[p]? = some (.cells #[v0, .int .i64 0] 146 (0, 0))) : WrStep w (w1.setCell ⟨p, 0, none⟩ (.slice A m c)) F p ys := by
  subst hm
  have hne := owns_ne hown d0 (by decide)
  have hp := blk_lt d0
  have hlt := owns_lt hown
  have hs : (w1.setCell ⟨p, 0, none⟩ (.slice A ys.length c)).heap.size = w1.heap.size := by simp [World.setCell]
  refine ⟨⟨_, blk_set d0 0 _, owns_setCell hown hne _, .inl h2, hne, fun k hk => ?_, fun k hk => ?_⟩, ?_⟩
  · rcases hb k hk with h | h
    · exact .inl (h4 k h)
    · exact .inr ⟨by omega, by rw [hs]; exact hlt k hk⟩
  · have := hg.size
    rcases hk with hk | ⟨_, hk⟩
    · have := h5 k hk; omega
    · exact hk
  · exact ((Keep.refl w.heap.size F w).grown hg (Nat.le_refl _) (fun k hk => .inr (h4 k hk))).setCell (.inr h2) _

theorem lay_any (p : Nat) (F : Nat → Prop) (xs bs : Bs) (A : Option Addr) (n c : Nat) (w : World) (h : Wr w F p xs) (hr : Row w A (cellsB bs)) (hn : n = bs.length) (hA : A = none → n = 0)
    (hlen : xs.length + bs.length ≤ 140737488355328) :
    Calls Tryz.prog 82 #[.pointer (some ⟨p, 0, none⟩), .slice A n c] w fun e w' => e = .returned (.tuple #[]) ∧ WrStep w w' F p (xs ++ bs) := by
  obtain ⟨v, h0, h1, h2, h3, h4, h5⟩ := h
  obtain ⟨A0, cap0, rfl⟩ := owns_form h1
  have c0 := blk_cell h0 0
  have c1 := blk_cell h0 1
  have hsrc : Src Tryz.prog 1 33 (.slice A n c) n (cellsB bs) w := hr.src Tryz.underlying33 (by simp [cellsB, hn]) (cellsB_one bs) hA
  have H0 := Lib.hid h0
  have H3 := Lib.hid h3
  have Hn := Lib.hid hn
  simp at c0 c1
  clear h0 h3 hn
  go_enter Tryz.func82, Tryz.ntmps82
  go_wp2_with (at_builtin; refine wpList_append_mine _ rfl _ _ 33 33 rfl 5 (.int .u8 0) 1 1 Tryz.underlying33 infoU8 rfl (by decide) (.slice A0 xs.length cap0) _ _ rfl h1 (.slice A n c) _ _ rfl hsrc (by have := Hn.out; unfold maxLen; omega) (by have := Hn.out; omega) ?_; intro A1 cap1 w1 hown hg hb _; have d0 := grown_cell hg H0.out H3.out; have e0 := blk_cell d0 0; have e1 := blk_free d0 0; have D := Lib.hid d0; clear d0; simp at e0)
  go_end0
  exact ⟨rfl, Wr.after h2 h4 h5 (by rw [cellsB_append]; exact hown) (by rw [List.length_append, Hn.out]) hg hb D.out⟩

theorem Row.new (w : World) (c : List Value) (t : TypeId) : Row (w.alloc (.cells c.toArray t)) (some ⟨w.heap.size, 0, none⟩) c := by
  refine .inr ⟨_, 0, rfl, fun j hj => ?_⟩
  rw [cell_of_row _ w.heap.size (0 + j) c.toArray t (0, 0) (heap_alloc_new w _)]
  simp

/-- Byte -/
theorem wbyte_any (p : Nat) (F : Nat → Prop) (xs : Bs) (b : UInt8) (w : World) (h : Wr w F p xs) (hlen : xs.length + 1 ≤ 140737488355328) :
    Calls Tryz.prog 78 #[.pointer (some ⟨p, 0, none⟩), .int .u8 b.toNat] w fun e w' => e = .returned (.tuple #[]) ∧ WrStep w w' F p (xs ++ [b]) := by
  go_enter Tryz.func78, Tryz.ntmps78
  go_wp2_with (go_at_call 82; refine (lay_any p F xs [b] _ _ _ _ (h.alloc _) (Row.new w [.int .u8 b.toNat] _) rfl (by simp) hlen).mono ?_; rintro e w' ⟨rfl, hS⟩)
  go_end0
  exact ⟨rfl, hS.alloc h.bound⟩

theorem sev_lt (f u : Nat) : (sevF f u).length ≤ f := by
  induction f generalizing u with
  | zero => simp [sevF]
  | succ f ih =>
    unfold sevF
    split
    · simp
    · simp; exact ih _

/-- sevens: what is made so far is pre, what is left to tell k. -/
theorem sevens_any (u : Nat) (w : World) (hu : u < 18446744073709551616) :
    Calls Tryz.prog 83 #[.int .u64 u] w fun e w' => ∃ A c, e = .returned (.slice A (sevens u).length c) ∧ w'.ownsRow w.heap.size 5 1 (.slice A (sevens u).length c) (sevens u).length (cellsB (sevens u)) ∧
      0 < (sevens u).length ∧ Below w.heap.size w w' := by
  go_enter Tryz.func83, Tryz.ntmps83
  go_wp2
  go_loopw [0, 3] (fun t v wr => ∃ (pre : Bs) (k f : Nat) (A : Option Addr) (c : Nat), sevens u = pre ++ sevF (f + 1) k ∧ k < 18446744073709551616 ∧ pre.length + f ≤ 9 ∧ (k < 128 ^ (f + 1)) ∧ t = .int .u64 k ∧ v = .slice A pre.length c ∧
      wr.ownsRow w.heap.size 5 1 (.slice A pre.length c) pre.length (cellsB pre) ∧ Below w.heap.size w wr)
    (fun t _ _ => (intOf t).toNat)
  case atStart => exact ⟨[], u, 9, none, 0, rfl, hu, by simp, by omega, rfl, rfl, World.ownsRow_nil _ _ _ _, Below.refl _ _⟩
  case round =>
    rename_i wr
    obtain ⟨pre, k, f, A, c, h1, h2, h3, h4, rfl, rfl, hown, hb⟩ := hrel
    have hsz := hb.size
    by_cases hk : 128 ≤ k
    · obtain ⟨f, rfl⟩ : ∃ g, f = g + 1 := by
        cases f with
        | zero => omega
        | succ g => exact ⟨g, rfl⟩
      obtain ⟨b, hbb⟩ : ∃ b, b = UInt8.ofNat (k % 128 + 128) := ⟨_, rfl⟩
      have hbit := or128 k
      rw [← hbb] at hbit
      have hs1 : sevens u = (pre ++ [b]) ++ sevF (f + 1) (k / 128) := by
        rw [h1, sevF, if_neg (by omega), List.append_assoc, hbb]; rfl
      have hs2 : k / 128 < 128 ^ (f + 1) := by
        rw [Nat.pow_succ] at h4; exact Nat.div_lt_of_lt_mul (by rw [Nat.mul_comm]; exact h4)
      have HS1 := Lib.hid hs1
      have HS2 := Lib.hid hs2
      clear h1 h4 hs1 hs2 hbb
      have hk' : (128 : Int) ≤ (k : Int) := by omega
      go_wp2_with (at_builtin; refine wpList_append_mine _ rfl _ _ 33 33 rfl 5 (.int .u8 0) 1 1 Tryz.underlying33 infoU8 rfl (by decide) (.slice A pre.length c) _ _ rfl ((owns_base hown (fun _ _ => Nat.zero_le _)).alloc _) _ 1 (cellsB [b]) rfl ((Row.new wr [.int .u8 b.toNat] _).src Tryz.underlying33 rfl (cellsB_one [b]) (by simp)) (by unfold maxLen; omega) (by omega) ?_; intro A1 cap1 w1 hown1 hg hbl _)
      go_roundw
      case rel =>
        obtain ⟨ho, hbe⟩ := own_next hown hown1 hg hbl hsz hb
        exact ⟨pre ++ [b], k / 128, f, A1, cap1, HS1.out, by omega, by simp; omega, HS2.out, by simp, by simp, by simpa [cellsB_append] using ho, hbe⟩
      case measure => simp [intOf]; omega
    · obtain ⟨b, hbb⟩ : ∃ b, b = UInt8.ofNat k := ⟨_, rfl⟩
      have hbit := low256 k
      rw [← hbb] at hbit
      have hs1 : sevens u = pre ++ [b] := by
        rw [h1, sevF, if_pos (by omega), hbb]
      have HS1 := Lib.hid hs1
      have HB := Lib.hid hbit
      have h3' : pre.length ≤ 9 := by omega
      have hk' : ¬ (128 : Int) ≤ (k : Int) := by omega
      have hkk : (k : Int) % 256 = (k : Int) := by omega
      have hkb : ((k : Int) = (b.toNat : Int)) := by omega
      have HK := Lib.hid hkb
      have hsrc : Src Tryz.prog 1 33 (.slice (some ⟨wr.heap.size, 0, none⟩) 1 1) 1 (cellsB [b]) (wr.alloc (.cells #[.int .u8 (k : Int)] 5)) := by
        have h := Row.new wr (cellsB [b]) 5
        have h' := h.src (P := Tryz.prog) (size := 1) (n := 1) (c := 1) Tryz.underlying33 rfl (cellsB_one [b]) (by simp)
        rw [hkb]; exact h'
      clear h1 h3 h4 hs1 hbb hbit hkk hkb
      go_wp2_with (at_builtin; refine wpList_append_mine _ rfl _ _ 33 33 rfl 5 (.int .u8 0) 1 1 Tryz.underlying33 infoU8 rfl (by decide) (.slice A pre.length c) _ _ rfl ((owns_base hown (fun _ _ => Nat.zero_le _)).alloc _) _ 1 (cellsB [b]) rfl hsrc (by unfold maxLen; omega) (by omega) ?_; intro A1 cap1 w1 hown1 hg hbl _)
      go_ret
      obtain ⟨ho, hbe⟩ := own_next hown hown1 hg hbl hsz hb
      have hl : (sevens u).length = pre.length + 1 := by rw [HS1.out]; simp
      refine ⟨A1, cap1, by rw [hl]; rfl, ?_, by omega, hbe⟩
      rw [hl, HS1.out, cellsB_append]; exact ho

theorem sevens_le (u : Nat) : (sevens u).length ≤ 10 := sev_lt 10 u

theorem wnumber_any (p : Nat) (F : Nat → Prop) (xs : Bs) (v : Int) (w : World) (h : Wr w F p xs) (h0 : 0 ≤ v) (h1 : v ≤ 9223372036854775807) (hlen : xs.length + 10 ≤ 140737488355328) :
    Calls Tryz.prog 39 #[.pointer (some ⟨p, 0, none⟩), .int .i64 v] w fun e w' => e = .returned (.tuple #[]) ∧ WrStep w w' F p (xs ++ encNumber v) := by
  obtain ⟨n, rfl⟩ := Int.eq_ofNat_of_zero_le h0
  have hl := sevens_le n
  go_enter Tryz.func39, Tryz.ntmps39
  go_wp2_with (first
    | (go_at_call 83; refine (sevens_any n _ (by omega)).mono ?_; rintro e w1 ⟨A, c, rfl, hown, hpos, hb⟩)
    | (go_at_call 82; refine (lay_any p F xs (sevens n) _ _ _ _ (h.keep (Keep.of_below hb (fun _ => False)) (Nat.le_refl _) (fun _ _ f => f)) (Row.of_owns hown) rfl (owns_none hown) (by omega)).mono ?_; rintro e w2 ⟨rfl, hS⟩))
  go_end0
  exact ⟨rfl, hS.start h.bound (Keep.of_below hb F) (fun k hk => .inl hk)⟩

theorem wint_any (p : Nat) (F : Nat → Prop) (xs : Bs) (v : Int) (w : World) (h : Wr w F p xs) (h0 : -9223372036854775808 ≤ v) (h1 : v ≤ 9223372036854775807) (hlen : xs.length + 10 ≤ 140737488355328) :
    Calls Tryz.prog 85 #[.pointer (some ⟨p, 0, none⟩), .int .i64 v] w fun e w' => e = .returned (.tuple #[]) ∧ WrStep w w' F p (xs ++ encInt v) := by
  have hl := sevens_le (zig v)
  go_enter Tryz.func85, Tryz.ntmps85
  go_wp2_with (first
    | (go_at_call 83; rw [zig_bits v h0 h1]; refine (sevens_any (zig v) _ (zig_lt v h0 h1)).mono ?_; rintro e w1 ⟨A, c, rfl, hown, hpos, hb⟩)
    | (go_at_call 82; refine (lay_any p F xs (sevens (zig v)) _ _ _ _ (h.keep (Keep.of_below hb (fun _ => False)) (Nat.le_refl _) (fun _ _ f => f)) (Row.of_owns hown) rfl (owns_none hown) (by omega)).mono ?_; rintro e w2 ⟨rfl, hS⟩))
  go_end0
  exact ⟨rfl, hS.start h.bound (Keep.of_below hb F) (fun k hk => .inl hk)⟩

theorem wtext1_any (p : Nat) (F : Nat → Prop) (xs : Bs) (s : ByteArray) (b2 b3 : Nat) (w : World) (h : Wr w F p xs) (c2 : w.cell? ⟨b2, 0, none⟩ = some (.pointer (some ⟨p, 0, none⟩))) (c3 : w.cell? ⟨b3, 0, none⟩ = some (.string s))
    (hs : s.size ≤ 140737488355328) (hlen : xs.length + 10 ≤ 140737488355328) :
    Calls Tryz.prog 86 #[.pointer (some ⟨b2, 0, none⟩), .pointer (some ⟨b3, 0, none⟩)] w fun e w' => e = .returned (.tuple #[]) ∧ WrStep w w' F p (xs ++ encNumber s.size) := by
  go_enter Tryz.func86, Tryz.ntmps86
  go_wp2_with (go_at_call 39; refine (wnumber_any p F xs s.size _ h (by omega) (by omega) hlen).mono ?_; rintro e w1 ⟨rfl, hS⟩)
  go_end0
  exact ⟨rfl, hS⟩

theorem wtext2_any (p : Nat) (F : Nat → Prop) (xs : Bs) (s : ByteArray) (b2 b3 : Nat) (w : World) (h : Wr w F p xs) (c2 : w.cell? ⟨b2, 0, none⟩ = some (.pointer (some ⟨p, 0, none⟩))) (c3 : w.cell? ⟨b3, 0, none⟩ = some (.string s))
    (hlen : xs.length + s.size ≤ 140737488355328) :
    Calls Tryz.prog 87 #[.pointer (some ⟨b2, 0, none⟩), .pointer (some ⟨b3, 0, none⟩)] w fun e w' => e = .returned (.tuple #[]) ∧ WrStep w w' F p (xs ++ s.data.toList) := by
  have hconv := run_toBytes (P := Tryz.prog) 9 33 5 s Tryz.underlying9 Tryz.underlying33 Tryz.underlying5
  have hl : s.data.toList.length = s.size := by simp
  go_enter Tryz.func87, Tryz.ntmps87
  go_wp2_with (go_at_call 82; refine (lay_any p F xs s.data.toList _ _ _ _ ((h.drewN 1).alloc _) (Row.str _ s _ _) hl.symm (by simp) (by omega)).mono ?_; rintro e w1 ⟨rfl, hS⟩)
  go_end0
  exact ⟨rfl, (hS.alloc h.bound).drewN (n := 1) h.bound⟩

theorem wtext_any (p : Nat) (F : Nat → Prop) (xs : Bs) (s : ByteArray) (w : World) (h : Wr w F p xs) (hlen : xs.length + s.size + 10 ≤ 140737488355328) :
    Calls Tryz.prog 41 #[.pointer (some ⟨p, 0, none⟩), .string s] w fun e w' => e = .returned (.tuple #[]) ∧ WrStep w w' F p (xs ++ encText s.data.toList) := by
  go_enter Tryz.func41, Tryz.ntmps41
  go_wp2
  have hnf : ∀ k, w.heap.size ≤ k → ¬ F k := fun k hk hf => by have := h.bound k hf; omega
  refine wp_loop_rounds 3 ?_
  rw [rounds_succ]
  go_wp2_with (go_at_call 86; refine (wtext1_any p F xs s _ _ _ (((h.alloc _).alloc _).alloc _) (by go_simp) (by go_simp) (by omega) (by omega)).mono ?_; rintro e w1 ⟨rfl, hS⟩; have hc := fun b o hb hf => hS.2.cell b o hb hf; have hz := hS.2.size; simp at hz; have k0 : w1.cell? ⟨w.heap.size, 0, none⟩ = some (.pointer (some ⟨p, 0, none⟩)) := (hc _ _ (by simp; omega) (hnf _ (by omega))).trans (by go_simp); have k1 : w1.cell? ⟨w.heap.size + 1, 0, none⟩ = some (.string s) := (hc _ _ (by simp) (hnf _ (by omega))).trans (by go_simp); have k2 := (hc (w.heap.size + 1 + 1) 1 (by simp) (hnf _ (by omega))).trans (by go_simp; rfl); clear hc)
  rw [rounds_succ]
  have hn10 : (encNumber s.size).length ≤ 10 := sevens_le _
  go_wp2_with (go_at_call 87; refine (wtext2_any p _ (xs ++ encNumber s.size) s _ _ _ hS.1 k0 k1 (by rw [List.length_append]; omega)).mono ?_; rintro e w2 ⟨rfl, hS2⟩)
  rw [rounds_succ]
  go_wp2
  go_end0
  refine ⟨rfl, ?_⟩
  have hS' := hS.start (F := F) h.bound ((((Keep.refl _ _ w).alloc (Nat.le_refl _) _).alloc (by simp) _).alloc (by simp; omega) _) (fun _ h => .inl h)
  have hS3 := hS2.start (F := F) (w := w) h.bound hS'.2 (fun k hk => by
    rcases hk with hk | hk
    · exact .inl hk
    · refine .inr ⟨?_, hk.2⟩
      have := hk.1
      simp at this
      omega)
  rw [List.append_assoc] at hS3
  simpa [encText, encNumber] using hS3

/-- slices.Clone of bytes. -/
theorem clone_any (A : Option Addr) (n c : Nat) (xs : Bs) (w : World) (hr : Row w A (cellsB xs)) (hn : n = xs.length) (hA : A = none → n = 0) (hlen : n ≤ 140737488355328) :
    Calls Tryz.prog 57 #[.slice A n c] w fun e w' => ∃ A' c', e = .returned (.slice A' n c') ∧ w'.ownsRow w.heap.size 5 1 (.slice A' n c') n (cellsB xs) ∧ Below w.heap.size w w' ∧ (A' = none ↔ A = none) := by
  have Hn := Lib.hid hn
  clear hn
  cases A with
  | none =>
    obtain rfl := hA rfl
    have : xs = [] := List.eq_nil_of_length_eq_zero Hn.out.symm
    subst this
    have hnil := fun (W : World) => Lib.run_eql_slice_nil (P := Tryz.prog) W 33 5 none 0 c 0 0 Tryz.underlying33
    go_enter Tryz.func57, Tryz.ntmps57
    go_wp2
    go_ret
    exact ⟨none, 0, rfl, World.ownsRow_nil _ _ _ _, Below.refl _ _, by simp⟩
  | some ad =>
    have hsrc : ∀ o, Src Tryz.prog 1 33 (.slice (some ad) n c) n (cellsB xs) (w.alloc o) := fun o => (hr.alloc o).src Tryz.underlying33 (by simp [cellsB, Hn.out]) (cellsB_one xs) hA
    have hlit : ∀ cs : Array Value, cs.size = 0 → (w.alloc (.cells cs 5)).ownsRow w.heap.size 5 1 (.slice (some ⟨w.heap.size, 0, none⟩) 0 0) 0 cs.toList := fun cs h => World.ownsRow_lit w cs 0 (Nat.le_refl _) (by decide) (by simpa using h)
    have hnil := fun (W : World) => Lib.run_eql_slice_nil (P := Tryz.prog) W 33 5 (some ad) n c 0 0 Tryz.underlying33
    go_enter Tryz.func57, Tryz.ntmps57
    go_wp2_with (at_builtin; refine wpList_append_mine _ rfl _ _ 33 33 rfl 5 (.int .u8 0) 1 1 Tryz.underlying33 infoU8 rfl (by decide) (.slice (some ⟨w.heap.size, 0, none⟩) 0 0) 0 [] rfl (owns_base (hlit #[] rfl) (fun _ _ => Nat.zero_le _)) (.slice (some ad) n c) n (cellsB xs) rfl (hsrc _) (by unfold maxLen; omega) (by omega) ?_; intro A1 cap1 w1 hown1 hg hbl hnil)
    go_ret
    have hlit0 := hlit #[] rfl
    have hz : (w.alloc (.cells #[] 5)).heap.size = w.heap.size + 1 := by simp
    obtain ⟨ho, hbe⟩ := own_next0 hlit0 hown1 hg hbl (by omega) ((Below.refl w.heap.size w).alloc (Nat.le_refl _) _)
    simp only [Nat.zero_add, List.nil_append] at ho hnil
    refine ⟨A1, cap1, rfl, ho, hbe, ?_⟩
    simp
    rintro rfl
    have h0 := owns_none ho rfl
    subst h0
    rcases ho.2 with ⟨h, _⟩ | ⟨g, cap, cur, h, _⟩
    · rw [h] at hnil; simp at hnil
    · cases h

/-- Data: a copy. -/
theorem wdata_any (p : Nat) (F : Nat → Prop) (xs : Bs) (w : World) (h : Wr w F p xs) (hlen : xs.length ≤ 140737488355328) :
    Calls Tryz.prog 80 #[.pointer (some ⟨p, 0, none⟩)] w fun e w' => ∃ A c, e = .returned (.slice A xs.length c) ∧ w'.ownsRow w.heap.size 5 1 (.slice A xs.length c) xs.length (cellsB xs) ∧ Below w.heap.size w w' := by
  obtain ⟨v, h0, h1, h2, h3, h4, h5⟩ := h
  obtain ⟨A0, cap0, rfl⟩ := owns_form h1
  have c0 := blk_cell h0 0
  simp at c0
  clear h0
  go_enter Tryz.func80, Tryz.ntmps80
  go_wp2_with (go_at_call 57; refine (clone_any _ _ _ xs _ (Row.of_owns h1) rfl (owns_none h1) hlen).mono ?_; rintro e w1 ⟨A', c', rfl, hown, hb, _⟩)
  go_ret
  exact ⟨A', c', rfl, hown, hb⟩
end Go.Proofs.YtnieminnnkbneaaGreat
