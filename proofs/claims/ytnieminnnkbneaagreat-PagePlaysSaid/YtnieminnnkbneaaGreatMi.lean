/- Walks of treadleref14's writer: proc, entry, head, End. -/
import Derived.Test.YtnieminnnkbneaaGreatMg
import Derived.Test.YtnieminnnkbneaaGreatMc
import Derived.Test.YtnieminnnkbneaaGreatMm
import Derived.Test.YtnieminnnkbneaaGreatLcm

namespace Go.Proofs.YtnieminnnkbneaaGreat
open Go.RowKit
set_option linter.unusedVariables false

/-- The document's writer, by value. -/
def PW.val (x : PW) : Array Value := #[.int .i64 x.number, .int .i64 x.mark, .int .i64 x.frames, .int .i64 x.procs, .int .i64 x.entries, .string x.name, .string x.key, .bool x.live]

/-- A writer's value laid cell by cell. -/
def putV (w : World) (b : Nat) (x : PW) : World :=
 (((((((w.setCell ⟨b, 0, none⟩ (.int .i64 x.number)).setCell ⟨b, 1, none⟩ (.int .i64 x.mark)).setCell ⟨b, 2, none⟩ (.int .i64 x.frames)).setCell ⟨b, 3, none⟩ (.int .i64 x.procs)).setCell ⟨b, 4, none⟩ (.int .i64 x.entries)).setCell ⟨b, 5, none⟩ (.string x.name)).setCell ⟨b, 6, none⟩ (.string x.key)).setCell ⟨b, 7, none⟩ (.bool x.live)
theorem putV_loc {w : World} {b : Nat} {c0 c1 c2 c3 c4 c5 c6 c7 : Value} {t : TypeId} (h : Loc w b #[c0, c1, c2, c3, c4, c5, c6, c7] t) (x : PW) : Loc (putV w b x) b x.val t := by
 have L := (((((((h.set 0 (.int .i64 x.number)).set 1 (.int .i64 x.mark)).set 2 (.int .i64 x.frames)).set 3 (.int .i64 x.procs)).set 4 (.int .i64 x.entries)).set 5 (.string x.name)).set 6 (.string x.key)).set 7 (.bool x.live)
 simp only [List.setIfInBounds_toArray, List.set_cons_zero, List.set_cons_succ] at L
 exact L
theorem putV_other {w : World} {b b' : Nat} {c : Array Value} {t : TypeId} (h : Loc w b' c t) (hne : b' ≠ b) (x : PW) : Loc (putV w b x) b' c t :=
 (((((((h.other (a := ⟨b, 0, none⟩) hne _).other (a := ⟨b, 1, none⟩) hne _).other (a := ⟨b, 2, none⟩) hne _).other (a := ⟨b, 3, none⟩) hne _).other (a := ⟨b, 4, none⟩) hne _).other (a := ⟨b, 5, none⟩) hne _).other (a := ⟨b, 6, none⟩) hne _).other (a := ⟨b, 7, none⟩) hne _
theorem putV_below {B : Nat} {a w : World} {b : Nat} (h : Below B a w) (hb : B ≤ b) (x : PW) : Below B a (putV w b x) :=
 (((((((h.setCell (p := ⟨b, 0, none⟩) hb _).setCell (p := ⟨b, 1, none⟩) hb _).setCell (p := ⟨b, 2, none⟩) hb _).setCell (p := ⟨b, 3, none⟩) hb _).setCell (p := ⟨b, 4, none⟩) hb _).setCell (p := ⟨b, 5, none⟩) hb _).setCell (p := ⟨b, 6, none⟩) hb _).setCell (p := ⟨b, 7, none⟩) hb _
theorem putV_own {W : World} {base size n b : Nat} {e : TypeId} {v : Value} {xs : List Value} (h : W.ownsRow base e size v n xs) (hb : v.ownBlock ≠ some b) (x : PW) : (putV W b x).ownsRow base e size v n xs :=
 owns_setCell (a := ⟨b, 7, none⟩) (owns_setCell (a := ⟨b, 6, none⟩) (owns_setCell (a := ⟨b, 5, none⟩) (owns_setCell (a := ⟨b, 4, none⟩) (owns_setCell (a := ⟨b, 3, none⟩) (owns_setCell (a := ⟨b, 2, none⟩) (owns_setCell (a := ⟨b, 1, none⟩) (owns_setCell (a := ⟨b, 0, none⟩) h hb _) hb _) hb _) hb _) hb _) hb _) hb _) hb _
theorem putV_keep {B : Nat} {F : Nat → Prop} {a w : World} {b : Nat} (h : Keep B F a w) (hb : B ≤ b) (x : PW) : Keep B F a (putV w b x) :=
 (((((((h.setCell (p := ⟨b, 0, none⟩) (.inl hb) _).setCell (p := ⟨b, 1, none⟩) (.inl hb) _).setCell (p := ⟨b, 2, none⟩) (.inl hb) _).setCell (p := ⟨b, 3, none⟩) (.inl hb) _).setCell (p := ⟨b, 4, none⟩) (.inl hb) _).setCell (p := ⟨b, 5, none⟩) (.inl hb) _).setCell (p := ⟨b, 6, none⟩) (.inl hb) _).setCell (p := ⟨b, 7, none⟩) (.inl hb) _
/-- A block of a writer's value. -/
def VLoc (w : World) (b : Nat) (x : PW) : Prop := Loc w b x.val 29
theorem VLoc.cells {w : World} {b : Nat} {x : PW} (h : VLoc w b x) :
  w.cell? ⟨b, 0, none⟩ = some (.int .i64 x.number) ∧ w.cell? ⟨b, 1, none⟩ = some (.int .i64 x.mark) ∧ w.cell? ⟨b, 2, none⟩ = some (.int .i64 x.frames) ∧ w.cell? ⟨b, 3, none⟩ = some (.int .i64 x.procs) ∧ w.cell? ⟨b, 4, none⟩ = some (.int .i64 x.entries) ∧ w.cell? ⟨b, 5, none⟩ = some (.string x.name) ∧ w.cell? ⟨b, 6, none⟩ = some (.string x.key) ∧ w.cell? ⟨b, 7, none⟩ = some (.bool x.live) := ⟨h.cell 0, h.cell 1, h.cell 2, h.cell 3, h.cell 4, h.cell 5, h.cell 6, h.cell 7⟩

theorem r14new_any (a b : Nat) (h0 : 1 ≤ a) (h1 : a ≤ 281474976710655) (h2 : b ≤ 281474976710655) (w : World) :
  Calls Tryz.prog 8 #[.int .i64 a, .int .i64 b] w fun e w' => e = .returned (.tuple #[.agg (PW.new a b).val, .int .i64 0]) ∧ Below w.heap.size w w' := by
 have i0 : ¬ (a : Int) < 1 := by omega
 have i1 : ¬ (281474976710655 : Int) < (a : Int) := by omega
 have i2 : ¬ (b : Int) < 0 := by omega
 have i3 : ¬ (281474976710655 : Int) < (b : Int) := by omega
 go_enter Tryz.func8, Tryz.ntmps8
 go_wp2
 have L := Loc.new w #[.int .i64 a, .int .i64 b, .int .i64 0, .int .i64 0, .int .i64 0, .string ⟨#[]⟩, .string ⟨#[]⟩, .bool true] 29
 have k0 := L.cell 0; have k1 := L.cell 1; have k2 := L.cell 2; have k3 := L.cell 3; have k4 := L.cell 4; have k5 := L.cell 5; have k6 := L.cell 6; have k7 := L.cell 7
 simp only [List.getElem?_toArray, List.getElem?_cons_zero, List.getElem?_cons_succ] at k0 k1 k2 k3 k4 k5 k6 k7
 refine bodyPost_ret (v := .tuple #[.agg #[.int .i64 a, .int .i64 b, .int .i64 0, .int .i64 0, .int .i64 0, .string ⟨#[]⟩, .string ⟨#[]⟩, .bool true], .int .i64 0]) (by simp [results, Tryz.results8, go_sem, k0, k1, k2, k3, k4, k5, k6, k7]) rfl ?_
 exact ⟨rfl, (Below.refl w.heap.size w).alloc (Nat.le_refl _) _⟩
theorem r14new_no (a b : Int) (h : a < 1 ∨ 281474976710655 < a ∨ b < 0 ∨ 281474976710655 < b) (w : World) :
  Calls Tryz.prog 8 #[.int .i64 a, .int .i64 b] w fun e w' => e = .returned (.tuple #[.agg PW.zero.val, .int .i64 1]) ∧ Below w.heap.size w w' := by
 have H := Lib.hid h
 clear h
 by_cases h1 : a < 1
 ·skip
  go_enter Tryz.func8, Tryz.ntmps8
  go_wp2
  have L := Loc.new w #[.int .i64 0, .int .i64 0, .int .i64 0, .int .i64 0, .int .i64 0, .string ⟨#[]⟩, .string ⟨#[]⟩, .bool false] 29
  have k0 := L.cell 0; have k1 := L.cell 1; have k2 := L.cell 2; have k3 := L.cell 3; have k4 := L.cell 4; have k5 := L.cell 5; have k6 := L.cell 6; have k7 := L.cell 7
  simp only [List.getElem?_toArray, List.getElem?_cons_zero, List.getElem?_cons_succ] at k0 k1 k2 k3 k4 k5 k6 k7
  refine bodyPost_ret (v := .tuple #[.agg #[.int .i64 0, .int .i64 0, .int .i64 0, .int .i64 0, .int .i64 0, .string ⟨#[]⟩, .string ⟨#[]⟩, .bool false], .int .i64 1]) (by simp [results, Tryz.results8, go_sem, k0, k1, k2, k3, k4, k5, k6, k7]) rfl ?_
  exact ⟨rfl, (Below.refl w.heap.size w).alloc (Nat.le_refl _) _⟩
 by_cases h2 : 281474976710655 < a
 ·skip
  go_enter Tryz.func8, Tryz.ntmps8
  go_wp2
  have L := Loc.new w #[.int .i64 0, .int .i64 0, .int .i64 0, .int .i64 0, .int .i64 0, .string ⟨#[]⟩, .string ⟨#[]⟩, .bool false] 29
  have k0 := L.cell 0; have k1 := L.cell 1; have k2 := L.cell 2; have k3 := L.cell 3; have k4 := L.cell 4; have k5 := L.cell 5; have k6 := L.cell 6; have k7 := L.cell 7
  simp only [List.getElem?_toArray, List.getElem?_cons_zero, List.getElem?_cons_succ] at k0 k1 k2 k3 k4 k5 k6 k7
  refine bodyPost_ret (v := .tuple #[.agg #[.int .i64 0, .int .i64 0, .int .i64 0, .int .i64 0, .int .i64 0, .string ⟨#[]⟩, .string ⟨#[]⟩, .bool false], .int .i64 1]) (by simp [results, Tryz.results8, go_sem, k0, k1, k2, k3, k4, k5, k6, k7]) rfl ?_
  exact ⟨rfl, (Below.refl w.heap.size w).alloc (Nat.le_refl _) _⟩
 by_cases h3 : b < 0
 ·skip
  go_enter Tryz.func8, Tryz.ntmps8
  go_wp2
  have L := Loc.new w #[.int .i64 0, .int .i64 0, .int .i64 0, .int .i64 0, .int .i64 0, .string ⟨#[]⟩, .string ⟨#[]⟩, .bool false] 29
  have k0 := L.cell 0; have k1 := L.cell 1; have k2 := L.cell 2; have k3 := L.cell 3; have k4 := L.cell 4; have k5 := L.cell 5; have k6 := L.cell 6; have k7 := L.cell 7
  simp only [List.getElem?_toArray, List.getElem?_cons_zero, List.getElem?_cons_succ] at k0 k1 k2 k3 k4 k5 k6 k7
  refine bodyPost_ret (v := .tuple #[.agg #[.int .i64 0, .int .i64 0, .int .i64 0, .int .i64 0, .int .i64 0, .string ⟨#[]⟩, .string ⟨#[]⟩, .bool false], .int .i64 1]) (by simp [results, Tryz.results8, go_sem, k0, k1, k2, k3, k4, k5, k6, k7]) rfl ?_
  exact ⟨rfl, (Below.refl w.heap.size w).alloc (Nat.le_refl _) _⟩
 have h4 : 281474976710655 < b := by have := H.out; omega
 go_enter Tryz.func8, Tryz.ntmps8
 go_wp2
 have L := Loc.new w #[.int .i64 0, .int .i64 0, .int .i64 0, .int .i64 0, .int .i64 0, .string ⟨#[]⟩, .string ⟨#[]⟩, .bool false] 29
 have k0 := L.cell 0; have k1 := L.cell 1; have k2 := L.cell 2; have k3 := L.cell 3; have k4 := L.cell 4; have k5 := L.cell 5; have k6 := L.cell 6; have k7 := L.cell 7
 simp only [List.getElem?_toArray, List.getElem?_cons_zero, List.getElem?_cons_succ] at k0 k1 k2 k3 k4 k5 k6 k7
 refine bodyPost_ret (v := .tuple #[.agg #[.int .i64 0, .int .i64 0, .int .i64 0, .int .i64 0, .int .i64 0, .string ⟨#[]⟩, .string ⟨#[]⟩, .bool false], .int .i64 1]) (by simp [results, Tryz.results8, go_sem, k0, k1, k2, k3, k4, k5, k6, k7]) rfl ?_
 exact ⟨rfl, (Below.refl w.heap.size w).alloc (Nat.le_refl _) _⟩

set_option maxRecDepth 100000 in
set_option maxHeartbeats 2000000 in
theorem begun_any (k : UInt8) (p : Nat) (hp : p ≤ 281474976710655) (w : World) :
  Calls Tryz.prog 44 #[.int .u8 k.toNat, .int .i64 p] w (RW (bodyF k p []) w) := by
 have hby := fun W => rwbyte_any none 0 0 [] k W (Row.nil _ _) rfl (fun _ => rfl) (by decide)
 have hnu := fun A c W (h : Row W A (cellsB [k])) (hA : A = none → 1 = 0) => rwnumber_any A 1 c [k] p W h rfl hA (by decide) (by omega) (by omega)
 obtain ⟨zs, hzs⟩ : ∃ zs, zs = [k] ++ encNumber (p : Int) := ⟨_, rfl⟩
 have hb : bodyF k p [] = zs := by rw [hzs]; unfold bodyF; rw [List.append_nil]; rfl
 rw [← hzs] at hnu
 rw [hb]
 rw [List.nil_append] at hby
 have HBY := Lib.hid hby
 have HNU := Lib.hid hnu
 have L1 := Loc.new w #[.slice none 0 0, .int .i64 0] 104
 have b1 := (Below.refl w.heap.size w).alloc (Nat.le_refl _) (.cells #[.slice none 0 0, .int .i64 0] 104)
 clear hby hnu hzs hb
 go_enter Tryz.func44, Tryz.ntmps44
 go_upto_region 2 with (go_at_call 88; refine (HBY.out _).mono ?_; rintro e w2 ⟨A2, c2, rfl, o2, b2⟩)
 have L2 := L1.below b2 L1.lt
 have b12 := below_then b1 b2 b1.size
 have o3 := owns_mono' (owns_mono o2 b1.size) ((Below.refl w2.heap.size w2).alloc (Nat.le_refl _) (.cells #[.slice A2 1 c2, .int .i64 0] 104))
 have L3 := L2.alloc (.cells #[.slice A2 1 c2, .int .i64 0] 104)
 have b3 := b12.alloc b12.size (.cells #[.slice A2 1 c2, .int .i64 0] 104)
 have hA2 := owns_none o2
 have HNU2 := Lib.hid (HNU.out A2 c2 _ (Row.of_owns o3) hA2)
 clear L1 L2 b1 b2 b12 o2 hA2
 go_wp2_with (go_at_call 45; refine HNU2.out.mono ?_; rintro e w4 ⟨A4, c4, rfl, o4, b4⟩; have L4 := L3.below b4 L3.lt; have z0 := L4.cell 0; have z1 := L4.cell 1; have f0 := L4.free 0; have f1 := L4.free 1; simp at z0 z1)
 obtain ⟨e0, e1, hrw⟩ := rw_end L4 (Nat.le_refl _) rfl (owns_mono o4 b3.size) (below_then b3 b4 b3.size)
 exact bodyPost_ret (v := .agg #[.slice A4 zs.length c4, .int .i64 0]) (by simp [results, Tryz.results44, go_sem, e0, e1]) rfl hrw

/-- A frame behind a row: what framed answers. -/
def FrP (w : World) (x : PW) (v : Value) (base : Nat) (zs : Bs) (e : Ending) (w' : World) : Prop :=
 ∃ A' c', e = .returned (.tuple #[.slice A' zs.length c', .agg ({ x with frames := x.frames + 1 } : PW).val]) ∧ w'.ownsRow base 5 1 (.slice A' zs.length c') zs.length (cellsB zs) ∧ Keep w.heap.size (fun k => v.ownBlock = some k) w w'

/-- The eight cells of a block, and that they are not frozen. -/
def Eight (W : World) (b : Nat) (v0 v1 v2 v3 v4 v5 v6 v7 : Value) : Prop :=
 W.cell? ⟨b, 0, none⟩ = some v0 ∧ W.cell? ⟨b, 1, none⟩ = some v1 ∧ W.cell? ⟨b, 2, none⟩ = some v2 ∧ W.cell? ⟨b, 3, none⟩ = some v3 ∧ W.cell? ⟨b, 4, none⟩ = some v4 ∧ W.cell? ⟨b, 5, none⟩ = some v5 ∧ W.cell? ⟨b, 6, none⟩ = some v6 ∧ W.cell? ⟨b, 7, none⟩ = some v7
theorem VLoc.eight {W : World} {b : Nat} {x : PW} (h : VLoc W b x) : Eight W b (.int .i64 x.number) (.int .i64 x.mark) (.int .i64 x.frames) (.int .i64 x.procs) (.int .i64 x.entries) (.string x.name) (.string x.key) (.bool x.live) := h.cells
def Free8 (W : World) (b : Nat) : Prop :=
 W.frozen? ⟨b, 0, none⟩ = false ∧ W.frozen? ⟨b, 1, none⟩ = false ∧ W.frozen? ⟨b, 2, none⟩ = false ∧ W.frozen? ⟨b, 3, none⟩ = false ∧ W.frozen? ⟨b, 4, none⟩ = false ∧ W.frozen? ⟨b, 5, none⟩ = false ∧ W.frozen? ⟨b, 6, none⟩ = false ∧ W.frozen? ⟨b, 7, none⟩ = false
theorem VLoc.free8 {W : World} {b : Nat} {x : PW} (h : VLoc W b x) : Free8 W b :=
 ⟨Loc.free h 0, Loc.free h 1, Loc.free h 2, Loc.free h 3, Loc.free h 4, Loc.free h 5, Loc.free h 6, Loc.free h 7⟩
set_option maxRecDepth 100000 in
set_option maxHeartbeats 4000000 in
theorem framed_any (x : PW) (O B : Option Addr) (n m c cb base : Nat) (xs ys : Bs) (w : World) (ho : w.ownsRow base 5 1 (.slice O n c) n (cellsB xs)) (hbase : base ≤ w.heap.size) (hn : n = xs.length) (hr : Row w B (cellsB ys)) (hm : m = ys.length) (hz : B = none → m = 0) (hm9 : m ≤ 80000000) (hn9 : n ≤ 90000000) (hf : x.frames ≤ 281474976710655) :
  Calls Tryz.prog 46 #[.slice O n c, .agg x.val, .slice B m cb] w (FrP w x (.slice O n c) base (xs ++ (headB ys ++ ys))) := by
 obtain ⟨x1, hx1⟩ : ∃ x1 : PW, x1 = { x with frames := x.frames + 1 } := ⟨_, rfl⟩
 have hw0 : ((w.alloc (.cells #[.int .i64 x.number, .int .i64 x.mark, .int .i64 ((x.frames : Int) + 1), .int .i64 x.procs, .int .i64 x.entries, .string x.name, .string x.key, .bool x.live] 29)).alloc (.cells #[.int .i64 0, .int .i64 0, .int .i64 0, .int .i64 0, .int .i64 0, .string ⟨#[]⟩, .string ⟨#[]⟩, .bool false] 29)) =
   ((w.alloc (.cells x1.val 29)).alloc (.cells PW.zero.val 29)) := by rw [hx1]; rfl
 have V4 : VLoc ((w.alloc (.cells x1.val 29)).alloc (.cells PW.zero.val 29)) w.heap.size x1 := (Loc.new w x1.val 29).alloc _
 have V7 : VLoc ((w.alloc (.cells x1.val 29)).alloc (.cells PW.zero.val 29)) (w.heap.size + 1) PW.zero := by
  have h := Loc.new (w.alloc (.cells x1.val 29)) PW.zero.val 29
  rw [World.size_alloc] at h
  exact h
 have b1 := ((Below.refl w.heap.size w).alloc (Nat.le_refl _) (.cells x1.val 29)).alloc (by simp) (.cells PW.zero.val 29)
 obtain ⟨W0, hW0⟩ : ∃ W0, W0 = ((w.alloc (.cells x1.val 29)).alloc (.cells PW.zero.val 29)) := ⟨_, rfl⟩
 rw [← hW0] at hw0 V4 V7 b1
 have hsz0 : W0.heap.size = w.heap.size + 2 := by rw [hW0]; simp
 have hse : ∀ W, Below W0.heap.size W0 W → Calls Tryz.prog 92 #[.slice B m cb] W (OwnB (headB ys ++ ys) W) := fun W hW => rseal_any ys B m cb hm (by omega) W ((hr.of_below b1 (Nat.le_refl _)).of_below hW (Nat.le_refl _)) hz
 have hln : (headB ys ++ ys).length = 8 + m := by rw [List.length_append, headB_length, hm]
 obtain ⟨N, hN⟩ : ∃ N, N = (headB ys ++ ys).length := ⟨_, rfl⟩
 have hN9 : N ≤ 90000000 := by omega
 have hFrP : ∀ A' c' e w', e = .returned (.tuple #[.slice A' (n + N) c', .agg x1.val]) → w'.ownsRow base 5 1 (.slice A' (n + N) c') (n + N) (cellsB xs ++ cellsB (headB ys ++ ys)) → Keep w.heap.size (fun k => (Value.slice O n c).ownBlock = some k) w w' → FrP w x (.slice O n c) base (xs ++ (headB ys ++ ys)) e w' := fun A' c' e w' h1 h2 h3 => by
  have hl : (xs ++ (headB ys ++ ys)).length = n + N := by rw [List.length_append, ← hN, hn]
  refine ⟨A', c', ?_, ?_, h3⟩
  ·rw [hl, h1, hx1]
  ·rw [hl, cellsB_append]; exact h2
 obtain ⟨zs, hzs⟩ : ∃ zs, zs = headB ys ++ ys := ⟨_, rfl⟩
 rw [← hzs] at hse hN hFrP ⊢
 subst hN
 have HF := Lib.hid hFrP
 have hoW : ∀ W, Below W0.heap.size W0 W → W.ownsRow base 5 1 (.slice O n c) n (cellsB xs) := fun W hW => owns_mono' (owns_mono' ho b1) hW
 -- what is known behind the call, and behind the append
 have haft : ∀ w2 A2 c2, w2.ownsRow W0.drew.heap.size 5 1 (.slice A2 zs.length c2) zs.length (cellsB zs) → Below W0.drew.heap.size W0.drew w2 →
   Eight w2 w.heap.size (.int .i64 x1.number) (.int .i64 x1.mark) (.int .i64 x1.frames) (.int .i64 x1.procs) (.int .i64 x1.entries) (.string x1.name) (.string x1.key) (.bool x1.live) ∧
   w2.ownsRow 0 5 1 (.slice O n c) n (cellsB xs) ∧ Src Tryz.prog 1 33 (.slice A2 zs.length c2) zs.length (cellsB zs) w2 := fun w2 A2 c2 o2 b2 => by
  have hb : Below W0.heap.size W0 w2 := below_then (below_drewN (Below.refl _ _) 1) b2 (Nat.le_refl _)
  refine ⟨VLoc.eight (Loc.below V4 hb V4.lt), owns_base (hoW w2 hb) (fun _ _ => Nat.zero_le _), ?_⟩
  exact (Row.of_owns o2).src (P := Tryz.prog) (size := 1) (tx := 33) Tryz.underlying33 (by rw [cellsB_length]; omega) (cellsB_one zs) (owns_none o2)
 have haft3 : ∀ w2 w3 A3 c3, Below W0.drew.heap.size W0.drew w2 → w3.ownsRow 0 5 1 (.slice A3 (n + zs.length) c3) (n + zs.length) (cellsB xs ++ cellsB zs) → w2.grownBy w3 (Value.slice O n c).ownBlock → (∀ k, (Value.slice A3 (n + zs.length) c3).ownBlock = some k → (Value.slice O n c).ownBlock = some k ∨ k = w2.heap.size) →
   Eight w3 w.heap.size (.int .i64 x1.number) (.int .i64 x1.mark) (.int .i64 x1.frames) (.int .i64 x1.procs) (.int .i64 x1.entries) (.string x1.name) (.string x1.key) (.bool x1.live) ∧
   Free8 w3 (w.heap.size + 1) ∧ VLoc w3 (w.heap.size + 1) PW.zero ∧ w3.ownsRow base 5 1 (.slice A3 (n + zs.length) c3) (n + zs.length) (cellsB xs ++ cellsB zs) ∧ Keep w.heap.size (fun k => (Value.slice O n c).ownBlock = some k) w w3 := fun w2 w3 A3 c3 b2 o3 g3 hb3 => by
  have hb : Below W0.heap.size W0 w2 := below_then (below_drewN (Below.refl _ _) 1) b2 (Nat.le_refl _)
  have ho2 := hoW w2 hb
  have v4 : VLoc w3 w.heap.size x1 := (Loc.below V4 hb V4.lt).grown g3 (owns_ne ho2 (Loc.below V4 hb V4.lt) (by decide))
  have v7 : VLoc w3 (w.heap.size + 1) PW.zero := (Loc.below V7 hb V7.lt).grown g3 (owns_ne ho2 (Loc.below V7 hb V7.lt) (by decide))
  refine ⟨v4.eight, v7.free8, v7, owns_base o3 (fun k hk => ?_), ?_⟩
  ·rcases hb3 k hk with h | h
   ·exact (ho.lt k h).1
   ·rw [h]; have := hb.size; omega
  ·have q1 : Keep w.heap.size (fun k => (Value.slice O n c).ownBlock = some k) w w2 := Keep.of_below (below_then b1 hb (by omega)) _
   exact q1.grown g3 (by have := hb.size; omega) (fun k hk => .inr hk)
 have k4 := VLoc.eight V4
 have HSE := Lib.hid hse
 have HA := Lib.hid haft
 have HA3 := Lib.hid haft3
 have HW0 := Lib.hid hw0
 clear hx1
 clear hse haft haft3 hFrP hzs hln hoW hr hn hm hz V4 V7 b1 hW0 hw0
 unfold PW.val
 go_enter Tryz.func46, Tryz.ntmps46
 go_upto_region 2 with (fail)
 rw [HW0.out]
 obtain ⟨k0, k1, k2, k3, k4, k5, k6, k7⟩ := k4
 refine wp_region_noPanic ?_
 go_region_law ((first | (go_simp; go_at_call 92; refine (HSE.out _ (below_drewN (Below.refl _ _) 1)).mono ?_; rintro e2 w2 ⟨A2, c2, rfl, o2, b2⟩; obtain ⟨⟨m0, m1, m2, m3, m4, m5, m6, m7⟩, ho2, hs2⟩ := HA.out w2 A2 c2 o2 b2) | (refine step_append_mine _ rfl _ _ 33 33 rfl 5 (.int .u8 0) 1 1 Tryz.underlying33 infoU8 rfl (by decide) _ _ _ rfl ho2 _ _ _ rfl hs2 (by unfold maxLen; omega) (by omega) ?_; intro A3 c3 w3 hown3 hg3 hb3 hx3; obtain ⟨⟨n0, n1, n2, n3, n4, n5, n6, n7⟩, ⟨f0, f1, f2, f3, f4, f5, f6, f7⟩, V3, o3, K3⟩ := HA3.out _ w3 A3 c3 b2 hown3 hg3 hb3; obtain ⟨z0, z1, z2, z3, z4, z5, z6, z7⟩ := V3.cells)))
 all_goals
  refine NoPanic.normal ?_
  go_wp2
  have Vf : VLoc (putV w3 (w.heap.size + 1) x1) (w.heap.size + 1) x1 := putV_loc V3 x1
  have hres := HF.out A3 c3 _ _ rfl (putV_own o3 (owns_ne o3 V3 (by decide)) x1) (putV_keep K3 (Nat.le_succ _) x1)
  obtain ⟨e0, e1, e2, e3, e4, e5, e6, e7⟩ := Vf.cells
  unfold putV at hres e0 e1 e2 e3 e4 e5 e6 e7
  exact bodyPost_ret (v := .tuple #[.slice A3 (n + zs.length) c3, .agg x1.val]) (by simp [results, Tryz.results46, go_sem, e0, e1, e2, e3, e4, e5, e6, e7, PW.val]) rfl hres
end Go.Proofs.YtnieminnnkbneaaGreat

namespace Go.Proofs.YtnieminnnkbneaaGreat
open Go.RowKit
set_option linter.unusedVariables false

theorem risKey2_any (s : ByteArray) (w : World) : Calls Tryz.prog 95 #[.string s] w fun e w' => e = .returned (.bool (isKey s)) ∧ w = w' := by
 by_cases h1 : 1 ≤ s.size
 ·by_cases h2 : s.size ≤ 64
  ·have hk : isKey s = true := by unfold isKey; simp; omega
   rw [hk]
   clear hk
   have t1 : (1 : Int) ≤ (s.size : Int) := by omega
   have t2 : (s.size : Int) ≤ 64 := by omega
   go_enter Tryz.func95, Tryz.ntmps95
   go_wp2
   go_ret
   exact ⟨rfl, rfl⟩
  ·have hk : isKey s = false := by unfold isKey; simp; omega
   rw [hk]
   clear hk
   have t1 : (1 : Int) ≤ (s.size : Int) := by omega
   have t2 : ¬ (s.size : Int) ≤ 64 := by omega
   go_enter Tryz.func95, Tryz.ntmps95
   go_wp2
   go_ret
   exact ⟨rfl, rfl⟩
 ·have hk : isKey s = false := by unfold isKey; simp; omega
  rw [hk]
  clear hk
  have t1 : ¬ (1 : Int) ≤ (s.size : Int) := by omega
  go_enter Tryz.func95, Tryz.ntmps95
  go_wp2
  go_ret
  exact ⟨rfl, rfl⟩

set_option maxRecDepth 100000 in
set_option maxHeartbeats 2000000 in
theorem r14proc_any (x : PW) (y : Prc) (A : Option Addr) (cap : Nat) (w : World) (hr : Row w A (codeCells y.code)) (hlen : y.code.length ≤ 140737488355328) :
  Calls Tryz.prog 47 #[.agg x.val, .agg (procCells y.name y.args A y.code.length cap)] w fun e w' => e = .returned (.int .i64 (pwProcE x y)) ∧ Below w.heap.size w w' := by
 obtain ⟨E, hE⟩ : ∃ E, E = pwProcE x y := ⟨_, rfl⟩
 rw [← hE]
 unfold pwProcE at hE
 obtain ⟨yn, ya, yc⟩ := y
 obtain ⟨live, number, mark, fr, pr, en, name, key⟩ := x
 have V2 : VLoc (w.alloc (.cells (PW.val ⟨live, number, mark, fr, pr, en, name, key⟩) 29)) w.heap.size ⟨live, number, mark, fr, pr, en, name, key⟩ := Loc.new w _ _
 unfold PW.val at *
 unfold procCells
 simp only at *
 have b1 := ((Below.refl w.heap.size w).alloc (Nat.le_refl _) (.cells #[.int .i64 number, .int .i64 mark, .int .i64 fr, .int .i64 pr, .int .i64 en, .string name, .string key, .bool live] 29)).alloc (by simp) (.cells #[.string yn, .int .i64 ya, .slice A yc.length cap] 54)
 have V3 := Loc.alloc V2 (.cells #[.string yn, .int .i64 ya, .slice A yc.length cap] 54)
 have P3 := Loc.new (w.alloc (.cells #[.int .i64 number, .int .i64 mark, .int .i64 fr, .int .i64 pr, .int .i64 en, .string name, .string key, .bool live] 29)) #[.string yn, .int .i64 ya, .slice A yc.length cap] 54
 rw [World.size_alloc] at P3
 have hck := fun V (hb : Row V A (codeCells yc)) => refCheck_any ⟨yn, ya, yc⟩ A cap V hb (by simp only; omega)
 obtain ⟨C, hC⟩ : ∃ C, C = procCheck ⟨yn, ya, yc⟩ := ⟨_, rfl⟩
 obtain ⟨c1, c2⟩ := C
 rw [← hC] at hck hE
 unfold procCells at hck
 simp only at hck hE
 obtain ⟨nc, hnc⟩ : ∃ nc, nc = yc.length := ⟨_, rfl⟩
 rw [← hnc] at hck b1 V3 P3 ⊢
 have HCK := Lib.hid (hck _ (hr.of_below b1 (Nat.le_refl _)))
 have HE := Lib.hid hE
 clear hck hC hr V2 hlen hnc hE
 go_enter Tryz.func47, Tryz.ntmps47
 go_upto_region 2 with (go_at_call 93; refine HCK.out.mono ?_; rintro e w3 ⟨rfl, b3⟩)
 have V4 := V3.below b3 V3.lt
 have P4 := P3.below b3 P3.lt
 have bb := below_then b1 b3 b1.size
 have z0 := P4.cell 0
 have k5 := V4.cell 5
 have k4 := V4.cell 4
 simp only [PW.val, List.getElem?_toArray, List.getElem?_cons_zero, List.getElem?_cons_succ] at z0 k5 k4
 clear V3 P3 b1 b3 HCK
 have he := HE.out
 by_cases hc2 : c2 = 0
 ·subst hc2
  rw [if_neg (by simp)] at he
  cases hl : leS yn name with
  | true =>
   have hE25 : E = 25 := by
    rw [he]
    by_cases hen : 0 < en
    ·rw [if_pos hen]
    ·rw [if_neg hen, if_pos hl]
   have HE2 := Lib.hid hE25
   clear he hE25
   unfold leS at hl
   go_wp2
   go_ret
   exact ⟨by rw [HE2.out]; rfl, bb⟩
  | false =>
   by_cases hen : 0 < en
   ·have t0 : (0 : Int) < (en : Int) := by omega
    have HE2 : Hid (E = 25) := Lib.hid (by rw [he, if_pos hen])
    clear he
    unfold leS at hl
    go_wp2
    go_ret
    exact ⟨by rw [HE2.out]; rfl, bb⟩
   ·have t0 : ¬ (0 : Int) < (en : Int) := by omega
    have HE2 : Hid (E = 0) := Lib.hid (by rw [he, if_neg hen, if_neg (by simp [hl])])
    clear he
    unfold leS at hl
    go_wp2
    go_ret
    exact ⟨by rw [HE2.out]; rfl, bb⟩
 ·rw [if_pos hc2] at he
  have t1 : (c2 != 0) = true := by simpa using hc2
  have HE2 := Lib.hid he
  clear he hc2
  go_wp2
  go_ret
  exact ⟨by rw [HE2.out]; rfl, bb⟩

set_option maxRecDepth 100000 in
set_option maxHeartbeats 2000000 in
theorem r14entry_any (x : PW) (y : Ent) (w : World) :
  Calls Tryz.prog 50 #[.agg x.val, .agg y.cells] w fun e w' => e = .returned (.int .i64 (pwEntE x y)) ∧ Below w.heap.size w w' := by
 obtain ⟨E, hE⟩ : ∃ E, E = pwEntE x y := ⟨_, rfl⟩
 rw [← hE]
 unfold pwEntE at hE
 obtain ⟨yk, ⟨vk, vn, vt⟩⟩ := y
 obtain ⟨live, number, mark, fr, pr, en, name, key⟩ := x
 have V2 : VLoc (w.alloc (.cells (PW.val ⟨live, number, mark, fr, pr, en, name, key⟩) 29)) w.heap.size ⟨live, number, mark, fr, pr, en, name, key⟩ := Loc.new w _ _
 unfold PW.val at *
 unfold Ent.cells
 simp only at *
 have b1 := ((Below.refl w.heap.size w).alloc (Nat.le_refl _) (.cells #[.int .i64 number, .int .i64 mark, .int .i64 fr, .int .i64 pr, .int .i64 en, .string name, .string key, .bool live] 29)).alloc (by simp) (.cells #[.string yk, .int .i64 vk, .int .i64 vn, .string vt] 62)
 have V3 := Loc.alloc V2 (.cells #[.string yk, .int .i64 vk, .int .i64 vn, .string vt] 62)
 have P3 := Loc.new (w.alloc (.cells #[.int .i64 number, .int .i64 mark, .int .i64 fr, .int .i64 pr, .int .i64 en, .string name, .string key, .bool live] 29)) #[.string yk, .int .i64 vk, .int .i64 vn, .string vt] 62
 rw [World.size_alloc] at P3
 have hck := fun V => refDCheck_any ⟨vk, vn, vt⟩ V
 obtain ⟨D, hD⟩ : ∃ D, D = datumCheck ⟨vk, vn, vt⟩ := ⟨_, rfl⟩
 rw [← hD] at hck hE
 unfold valCells at hck
 simp only at hck
 have HCK := Lib.hid hck
 have hik := fun V => risKey2_any yk V
 obtain ⟨I, hI⟩ : ∃ I, I = isKey yk := ⟨_, rfl⟩
 rw [← hI] at hik hE
 have HIK := Lib.hid hik
 have HE := Lib.hid hE
 clear hck hD V2 hE hI hik
 go_enter Tryz.func50, Tryz.ntmps50
 have hz0 := P3.cell 0
 simp only [List.getElem?_toArray, List.getElem?_cons_zero] at hz0
 go_upto_region 2 with (go_at_call 95; refine (HIK.out _).mono ?_; rintro e w2 ⟨rfl, rfl⟩)
 have he := HE.out
 cases I with
 | false =>
  have HE2 : Hid (E = 5) := Lib.hid (by rw [he]; rfl)
  clear he
  go_wp2
  go_ret
  exact ⟨by rw [HE2.out]; rfl, b1⟩
 | true =>
  rw [if_neg (by simp)] at he
  have HE2 := Lib.hid he
  clear he
  go_upto_region 5 with (go_at_call 96; refine (HCK.out _).mono ?_; rintro e w3 ⟨rfl, b3⟩)
  have V4 := V3.below b3 V3.lt
  have P4 := P3.below b3 P3.lt
  have bb := below_then b1 b3 b1.size
  have z0 := P4.cell 0
  have z1 := P4.cell 1
  have k6 := V4.cell 6
  simp only [PW.val, List.getElem?_toArray, List.getElem?_cons_zero, List.getElem?_cons_succ] at z0 z1 k6
  clear V3 P3 b1 b3 HCK HIK
  have he := HE2.out
  by_cases hD0 : D = 0
  ·subst hD0
   rw [if_neg (by simp)] at he
   by_cases hvk : vk = 0
   ·have t2 : (vk == 0) = true := by simp [hvk]
    have HE3 : Hid (E = 14) := Lib.hid (by rw [he, if_pos hvk])
    clear he hvk
    go_wp2
    go_ret
    exact ⟨by rw [HE3.out]; rfl, bb⟩
   ·have t2 : (vk == 0) = false := by simpa using hvk
    rw [if_neg hvk] at he
    clear hvk
    cases hl : leS yk key with
    | true =>
     have HE3 : Hid (E = 25) := Lib.hid (by rw [he, if_pos hl])
     clear he
     unfold leS at hl
     go_wp2
     go_ret
     exact ⟨by rw [HE3.out]; rfl, bb⟩
    | false =>
     have HE3 : Hid (E = 0) := Lib.hid (by rw [he, if_neg (by simp [hl])])
     clear he
     unfold leS at hl
     go_wp2
     go_ret
     exact ⟨by rw [HE3.out]; rfl, bb⟩
  ·rw [if_pos hD0] at he
   have t1 : (D != 0) = true := by simpa using hD0
   have HE3 := Lib.hid he
   clear he hD0
   go_wp2
   go_ret
   exact ⟨by rw [HE3.out]; rfl, bb⟩

/-- A writer of bytes in a block. -/
structure BW (B : Nat) (W : World) (wb : Nat) (A : Option Addr) (c : Nat) (zs : Bs) : Prop where
 t : Loc W wb #[.slice A zs.length c, .int .i64 0] 104
 o : W.ownsRow B 5 1 (.slice A zs.length c) zs.length (cellsB zs)
theorem BW.below {B wb c : Nat} {W V : World} {A : Option Addr} {zs : Bs} (h : BW B W wb A c zs) (hb : Below W.heap.size W V) : BW B V wb A c zs := ⟨h.t.below hb h.t.lt, owns_mono' h.o hb⟩
theorem BW.new {B c : Nat} {W V : World} {A : Option Addr} {zs : Bs} (o : V.ownsRow W.heap.size 5 1 (.slice A zs.length c) zs.length (cellsB zs)) (hB : B ≤ W.heap.size) : BW B (V.alloc (.cells #[.slice A zs.length c, .int .i64 0] 104)) V.heap.size A c zs :=
 ⟨Loc.new V _ _, owns_mono' (owns_mono o hB) ((Below.refl V.heap.size V).alloc (Nat.le_refl _) _)⟩
def put2 (w : World) (b : Nat) (u v : Value) : World := (w.setCell ⟨b, 0, none⟩ u).setCell ⟨b, 1, none⟩ v
theorem BW.step {B wb c c' : Nat} {W V : World} {A A' : Option Addr} {zs zs' : Bs} (h : BW B W wb A c zs) (hb : Below W.heap.size W V) (o : V.ownsRow W.heap.size 5 1 (.slice A' zs'.length c') zs'.length (cellsB zs')) (hB : B ≤ W.heap.size) :
  BW B (put2 V wb (.slice A' zs'.length c') (.int .i64 0)) wb A' c' zs' ∧ V.cell? ⟨wb, 0, none⟩ = some (.slice A zs.length c) ∧ V.cell? ⟨wb, 1, none⟩ = some (.int .i64 0) ∧ V.frozen? ⟨wb, 0, none⟩ = false ∧ V.frozen? ⟨wb, 1, none⟩ = false := by
 have g := h.below hb
 obtain ⟨T, O⟩ := ws_put g.t (owns_mono o hB)
 exact ⟨⟨T, O⟩, g.t.cell 0, g.t.cell 1, g.t.free 0, g.t.free 1⟩
theorem put2_loc {w : World} {b b' : Nat} {c : Array Value} {t : TypeId} {u v : Value} (h : Loc w b' c t) (hne : b' ≠ b) : Loc (put2 w b u v) b' c t := (h.other (a := ⟨b, 0, none⟩) hne _).other (a := ⟨b, 1, none⟩) hne _
theorem put2_below {B : Nat} {a w : World} {b : Nat} {u v : Value} (h : Below B a w) (hb : B ≤ b) : Below B a (put2 w b u v) := (h.setCell (p := ⟨b, 0, none⟩) hb _).setCell (p := ⟨b, 1, none⟩) hb _
theorem put2_own {W : World} {base size n b : Nat} {e : TypeId} {v u1 u2 : Value} {xs : List Value} (h : W.ownsRow base e size v n xs) (hb : v.ownBlock ≠ some b) : (put2 W b u1 u2).ownsRow base e size v n xs :=
 owns_setCell (a := ⟨b, 1, none⟩) (owns_setCell (a := ⟨b, 0, none⟩) h hb _) hb _
theorem BW.num {B wb c : Nat} {W : World} {A : Option Addr} {zs : Bs} (h : BW B W wb A c zs) (v : Nat) (hv : v ≤ 281474976710655) (hl : zs.length ≤ 10000000) :
  Calls Tryz.prog 45 #[.agg #[.slice A zs.length c, .int .i64 0], .int .i64 v] W (RW (zs ++ encNumber v) W) :=
 rwnumber_any A zs.length c zs v W (Row.of_owns h.o) rfl (owns_none h.o) (by omega) (by omega) (by omega)
theorem bodyF_more (k : UInt8) (f : Nat) (extra : Bs) : bodyF k f extra = bodyF k f [] ++ extra := by unfold bodyF; simp

/-- A writer of bytes in a block, behind the blocks of a writer's value and of the result. -/
structure HS (w W : World) (q : Nat) (A : Option Addr) (c : Nat) (zs : Bs) (x : PW) : Prop where
 bw : BW w.heap.size W q A c zs
 v1 : VLoc W w.heap.size x
 v3 : VLoc W (w.heap.size + 1) PW.zero
 b : Below w.heap.size w W
 hq : w.heap.size + 2 ≤ q
theorem HS.below {w W V : World} {q c : Nat} {A : Option Addr} {zs : Bs} {x : PW} (h : HS w W q A c zs x) (hb : Below W.heap.size W V) : HS w V q A c zs x :=
 ⟨h.bw.below hb, Loc.below h.v1 hb (Loc.lt h.v1), Loc.below h.v3 hb (Loc.lt h.v3), below_then h.b hb h.b.size, h.hq⟩
theorem HS.step {w W V : World} {q c c' : Nat} {A A' : Option Addr} {zs zs' : Bs} {x : PW} (h : HS w W q A c zs x) (hb : Below W.heap.size W V) (o : V.ownsRow W.heap.size 5 1 (.slice A' zs'.length c') zs'.length (cellsB zs')) :
  HS w (put2 V q (.slice A' zs'.length c') (.int .i64 0)) q A' c' zs' x ∧ V.cell? ⟨q, 0, none⟩ = some (.slice A zs.length c) ∧ V.cell? ⟨q, 1, none⟩ = some (.int .i64 0) ∧ V.frozen? ⟨q, 0, none⟩ = false ∧ V.frozen? ⟨q, 1, none⟩ = false := by
 obtain ⟨B', r⟩ := h.bw.step hb o h.b.size
 have g := h.below hb
 have hq := h.hq
 exact ⟨⟨B', put2_loc g.v1 (by omega), put2_loc g.v3 (by omega), put2_below g.b (by omega), hq⟩, r⟩

/-- As FrP, the writer behind it by name. -/
def FrQ (w : World) (x1 : PW) (v : Value) (base : Nat) (zs : Bs) (e : Ending) (w' : World) : Prop :=
 ∃ A' c', e = .returned (.tuple #[.slice A' zs.length c', .agg #[.int .i64 x1.number, .int .i64 x1.mark, .int .i64 x1.frames, .int .i64 x1.procs, .int .i64 x1.entries, .string x1.name, .string x1.key, .bool x1.live]]) ∧ w'.ownsRow base 5 1 (.slice A' zs.length c') zs.length (cellsB zs) ∧ Keep w.heap.size (fun k => v.ownBlock = some k) w w'
theorem framedQ_any (x x1 : PW) (hx : x1 = { x with frames := x.frames + 1 }) (O B : Option Addr) (n m c cb base : Nat) (xs ys zs : Bs) (hzs : zs = xs ++ (headB ys ++ ys)) (w : World) (ho : w.ownsRow base 5 1 (.slice O n c) n (cellsB xs)) (hbase : base ≤ w.heap.size) (hn : n = xs.length) (hr : Row w B (cellsB ys)) (hm : m = ys.length) (hz : B = none → m = 0) (hm9 : m ≤ 80000000) (hn9 : n ≤ 90000000) (hf : x.frames ≤ 281474976710655) :
  Calls Tryz.prog 46 #[.slice O n c, .agg #[.int .i64 x.number, .int .i64 x.mark, .int .i64 x.frames, .int .i64 x.procs, .int .i64 x.entries, .string x.name, .string x.key, .bool x.live], .slice B m cb] w (FrQ w x1 (.slice O n c) base zs) := by
 subst hx; subst hzs
 exact framed_any x O B n m c cb base xs ys w ho hbase hn hr hm hz hm9 hn9 hf

/-- What head answers. -/
def HeadP (w : World) (q : Bs × PW) (e : Ending) (w' : World) : Prop :=
 ∃ A c, e = .returned (.tuple #[.slice A q.1.length c, .agg q.2.val]) ∧ w'.ownsRow w.heap.size 5 1 (.slice A q.1.length c) q.1.length (cellsB q.1) ∧ Below w.heap.size w w'

set_option maxRecDepth 100000 in
set_option maxHeartbeats 4000000 in
theorem r14head_any (x : PW) (w : World) (hn1 : x.number ≤ 281474976710655) (hn2 : x.mark ≤ 281474976710655) (hf : x.frames ≤ 281474976710655) :
  Calls Tryz.prog 43 #[.agg x.val] w (HeadP w (pwHead x)) := by
 have V1 : VLoc ((w.alloc (.cells x.val 29)).alloc (.cells PW.zero.val 29)) w.heap.size x := (Loc.new w x.val 29).alloc _
 have V3 : VLoc ((w.alloc (.cells x.val 29)).alloc (.cells PW.zero.val 29)) (w.heap.size + 1) PW.zero := by
  have h := Loc.new (w.alloc (.cells x.val 29)) PW.zero.val 29
  rw [World.size_alloc] at h
  exact h
 have b1 := ((Below.refl w.heap.size w).alloc (Nat.le_refl _) (.cells x.val 29)).alloc (by simp) (.cells PW.zero.val 29)
 obtain ⟨W0, hW0⟩ : ∃ W0, W0 = ((w.alloc (.cells x.val 29)).alloc (.cells PW.zero.val 29)) := ⟨_, rfl⟩
 rw [← hW0] at V1 V3 b1
 have hsz0 : W0.heap.size = w.heap.size + 2 := by rw [hW0]; simp
 have HW0 : Hid (((w.alloc (.cells #[.int .i64 x.number, .int .i64 x.mark, .int .i64 x.frames, .int .i64 x.procs, .int .i64 x.entries, .string x.name, .string x.key, .bool x.live] 29)).alloc (.cells #[.int .i64 0, .int .i64 0, .int .i64 0, .int .i64 0, .int .i64 0, .string ⟨#[]⟩, .string ⟨#[]⟩, .bool false] 29)) = W0) := Lib.hid hW0.symm
 clear hW0
 by_cases h0 : x.frames = 0
 ·have hq : pwHead x = (headFrame x, { x with frames := 1 }) := by unfold pwHead; rw [if_pos h0]
  have t0 : ¬ (0 : Int) < (x.frames : Int) := by omega
  have HBE := Lib.hid (begun_any 1 0 (by decide) W0)
  have HQ := Lib.hid hq
  have H0 := Lib.hid h0
  obtain ⟨z0, hz0⟩ : ∃ z0, z0 = bodyF 1 0 [] := ⟨_, rfl⟩
  have hl0 : z0.length ≤ 11 := by rw [hz0]; exact (bodyF_le 1 0 []).2
  have HBE' : Hid (Calls Tryz.prog 44 #[.int .u8 1, .int .i64 0] W0 (RW z0 W0)) := Lib.hid (by rw [hz0]; exact HBE.out)
  have k1 := V1.cells
  have HZ0 := Lib.hid hz0
  clear hq h0 hz0 HBE
  unfold PW.val
  go_enter Tryz.func43, Tryz.ntmps43
  go_upto_region 1 with (fail)
  rw [HW0.out]
  obtain ⟨k10, k11, k12, k13, k14, k15, k16, k17⟩ := k1
  go_upto_region 4 with (go_at_call 44; refine HBE'.out.mono ?_; rintro e w2 ⟨A2, c2, rfl, o2, b2⟩)
  have B2 := BW.new (B := w.heap.size) o2 b1.size
  have b12 := (below_then b1 b2 b1.size).alloc (below_then b1 b2 b1.size).size (.cells #[.slice A2 z0.length c2, .int .i64 0] 104)
  have V12 := Loc.alloc (Loc.below V1 b2 V1.lt) (.cells #[.slice A2 z0.length c2, .int .i64 0] 104)
  have V32 := Loc.alloc (Loc.below V3 b2 V3.lt) (.cells #[.slice A2 z0.length c2, .int .i64 0] 104)
  obtain ⟨q, hq⟩ : ∃ q, q = w2.heap.size := ⟨_, rfl⟩
  obtain ⟨W2, hW2⟩ : ∃ W2, W2 = w2.alloc (.cells #[.slice A2 z0.length c2, .int .i64 0] 104) := ⟨_, rfl⟩
  rw [← hW2, ← hq] at B2
  rw [← hW2] at b12 V12 V32
  rw [← hW2, ← hq]
  have hqs : W0.heap.size ≤ q := by rw [hq]; exact b2.size
  have S2 : HS w W2 q A2 c2 z0 x := ⟨B2, V12, V32, b12, by omega⟩
  obtain ⟨z1, hz1⟩ : ∃ z1, z1 = z0 ++ encNumber (x.number : Int) := ⟨_, rfl⟩
  obtain ⟨z2, hz2⟩ : ∃ z2, z2 = z1 ++ encNumber (x.mark : Int) := ⟨_, rfl⟩
  have hl1 : z1.length ≤ 21 := by rw [hz1, List.length_append]; have := encNumber_le (x.number : Int); omega
  have hl2 : z2.length ≤ 31 := by rw [hz2, List.length_append]; have := encNumber_le (x.mark : Int); omega
  have hnu := S2.bw.num x.number hn1 (by omega)
  rw [← hz1] at hnu
  have HNU := Lib.hid hnu
  have HZ : Hid (headB z2 ++ z2 = headFrame x) := Lib.hid (by
   have e : bodyF 1 0 (encNumber (x.number : Int) ++ encNumber (x.mark : Int)) = z2 := by rw [bodyF_more, hz2, hz1, HZ0.out, List.append_assoc]
   unfold headFrame frameB
   rw [e])
  have HZ1 := Lib.hid hz1
  have HZ2 := Lib.hid hz2
  have c20 := B2.t.cell 0
  have c21 := B2.t.cell 1
  have d20 := V12.cell 0
  simp only [PW.val, List.getElem?_toArray, List.getElem?_cons_zero, List.getElem?_cons_succ] at c20 c21 d20
  clear hnu hz1 hz2 hW2 hq o2 b2 V12 V32 b12 B2 V1 V3 HBE' HZ0 k10 k11 k12 k13 k14 k15 k16 k17
  go_upto_region 5 with (go_at_call 45; refine HNU.out.mono ?_; rintro e w4 ⟨A4, c4, rfl, o4, b4⟩; obtain ⟨S4, y0, y1, g0, g1⟩ := S2.step b4 o4)
  obtain ⟨W4, hW4⟩ : ∃ W4, W4 = put2 w4 q (.slice A4 z1.length c4) (.int .i64 0) := ⟨_, rfl⟩
  rw [← hW4] at S4
  unfold put2 at hW4
  rw [← hW4]
  have hnu := S4.bw.num x.mark hn2 (by omega)
  rw [← HZ2.out] at hnu
  have HNU2 := Lib.hid hnu
  have c40 := S4.bw.t.cell 0
  have c41 := S4.bw.t.cell 1
  have d41 := Loc.cell S4.v1 1
  simp only [PW.val, List.getElem?_toArray, List.getElem?_cons_zero, List.getElem?_cons_succ] at c40 c41 d41
  clear hnu hW4 o4 b4 S2 y0 y1 g0 g1 c20 c21 d20 HNU
  go_upto_region 6 with (go_at_call 45; refine HNU2.out.mono ?_; rintro e w6 ⟨A6, c6, rfl, o6, b6⟩; obtain ⟨S6, y0, y1, g0, g1⟩ := S4.step b6 o6)
  obtain ⟨W6, hW6⟩ : ∃ W6, W6 = put2 w6 q (.slice A6 z2.length c6) (.int .i64 0) := ⟨_, rfl⟩
  rw [← hW6] at S6
  unfold put2 at hW6
  rw [← hW6]
  obtain ⟨x1, hx1⟩ : ∃ x1 : PW, x1 = { x with frames := x.frames + 1 } := ⟨_, rfl⟩
  obtain ⟨zf, hzf⟩ : ∃ zf, zf = headFrame x := ⟨_, rfl⟩
  have HFR := Lib.hid (framedQ_any x x1 hx1 none A6 0 z2.length 0 c6 w.heap.size [] z2 zf (by rw [List.nil_append, HZ.out, hzf]) W6 (World.ownsRow_nil _ _ _ _) S6.b.size rfl (Row.of_owns S6.bw.o) rfl (owns_none S6.bw.o) (by omega) (by decide) hf)
  have HQ2 : Hid (pwHead x = (zf, x1)) := Lib.hid (by rw [HQ.out, hzf, hx1, H0.out])
  have c60 := S6.bw.t.cell 0
  obtain ⟨k10, k11, k12, k13, k14, k15, k16, k17⟩ := VLoc.cells S6.v1
  simp only [List.getElem?_toArray, List.getElem?_cons_zero] at c60
  clear hzf hW6 o6 b6 S4 y0 y1 g0 g1 c40 c41 d41 HNU2 hx1
  go_wp2_with (go_at_call 46; refine HFR.out.mono ?_; rintro e w8 ⟨A8, c8, rfl, o8, K8⟩; have b8 := K8.below (fun k _ h => by cases h); have V8 : VLoc w8 (w.heap.size + 1) PW.zero := Loc.below S6.v3 b8 (Loc.lt S6.v3); obtain ⟨m0, m1, m2, m3, m4, m5, m6, m7⟩ := V8.cells; obtain ⟨f0, f1, f2, f3, f4, f5, f6, f7⟩ := V8.free8)
  have Vf : VLoc (putV w8 (w.heap.size + 1) x1) (w.heap.size + 1) x1 := putV_loc V8 x1
  have of := putV_own o8 (owns_ne o8 V8 (by decide)) x1
  have bf := putV_below (below_then S6.b b8 S6.b.size) (Nat.le_succ _) x1
  obtain ⟨e0, e1, e2, e3, e4, e5, e6, e7⟩ := Vf.cells
  have hres : HeadP w (pwHead x) (.returned (.tuple #[.slice A8 zf.length c8, .agg x1.val])) (putV w8 (w.heap.size + 1) x1) := by rw [HQ2.out]; exact ⟨A8, c8, rfl, of, bf⟩
  unfold putV at hres e0 e1 e2 e3 e4 e5 e6 e7
  exact bodyPost_ret (v := .tuple #[.slice A8 zf.length c8, .agg x1.val]) (by simp [results, Tryz.results43, go_sem, e0, e1, e2, e3, e4, e5, e6, e7, PW.val]) rfl hres
 ·have hq : pwHead x = ([], x) := by unfold pwHead; rw [if_neg h0]
  have t0 : (0 : Int) < (x.frames : Int) := by omega
  have HQ := Lib.hid hq
  have k1 := V1.cells
  have k2 := V3.cells
  have k3 := V3.free8
  have Vf : VLoc (putV W0 (w.heap.size + 1) x).drew (w.heap.size + 1) x := Loc.drew (putV_loc V3 x)
  have bf := below_drewN (putV_below b1 (Nat.le_succ w.heap.size) x) 1
  have hfin := Vf.cells
  have hres : HeadP w (pwHead x) (.returned (.tuple #[.slice none 0 0, .agg x.val])) (putV W0 (w.heap.size + 1) x).drew := by rw [hq]; exact ⟨none, 0, rfl, World.ownsRow_nil _ _ _ _, bf⟩
  have HRES := Lib.hid hres
  have HFIN := Lib.hid hfin
  clear hq h0 hres hfin Vf bf
  unfold PW.val
  go_enter Tryz.func43, Tryz.ntmps43
  go_upto_region 1 with (fail)
  rw [HW0.out]
  obtain ⟨k10, k11, k12, k13, k14, k15, k16, k17⟩ := k1
  obtain ⟨m0, m1, m2, m3, m4, m5, m6, m7⟩ := k2
  obtain ⟨f0, f1, f2, f3, f4, f5, f6, f7⟩ := k3
  go_upto_region 2 with (fail)
  go_region
  all_goals
   go_wp2
   have hres := HRES.out
   obtain ⟨e0, e1, e2, e3, e4, e5, e6, e7⟩ := HFIN.out
   unfold putV at hres e0 e1 e2 e3 e4 e5 e6 e7
   exact bodyPost_ret (v := .tuple #[.slice none 0 0, .agg x.val]) (by simp [results, Tryz.results43, go_sem, e0, e1, e2, e3, e4, e5, e6, e7, PW.val]) rfl hres
end Go.Proofs.YtnieminnnkbneaaGreat
