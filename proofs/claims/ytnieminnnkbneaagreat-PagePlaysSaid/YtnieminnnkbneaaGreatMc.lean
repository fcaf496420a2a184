/- Walk of treadleref6.Encode. -/
import Derived.Test.YtnieminnnkbneaaGreatGen
import Derived.Test.YtnieminnnkbneaaGreatOctW
import Derived.Test.YtnieminnnkbneaaGreatRound
import Derived.Test.YtnieminnnkbneaaGreatProc4
namespace Go.Proofs.YtnieminnnkbneaaGreat
open Go.RowKit

/-- A writer's value is answered: the bytes are memory of its own. -/
def RW (xs : Bs) (w : World) (e : Ending) (w' : World) : Prop :=
 ∃ A c, e = .returned (.agg #[.slice A xs.length c, .int .i64 0]) ∧ w'.ownsRow w.heap.size 5 1 (.slice A xs.length c) xs.length (cellsB xs) ∧ Below w.heap.size w w'

set_option maxRecDepth 100000 in
set_option maxHeartbeats 2000000 in
theorem rlaid_any (A B : Option Addr) (n m ca cb : Nat) (xs ys : Bs) (w : World) (ha : Row w A (cellsB xs)) (hb : Row w B (cellsB ys)) (hn : n = xs.length) (hm : m = ys.length) (hA : A = none → n = 0) (hB : B = none → m = 0) (hl : n + m ≤ 140737488355328) :
  Calls Tryz.prog 90 #[.agg #[.slice A n ca, .int .i64 0], .slice B m cb] w (RW (xs ++ ys) w) := by
 have HN := Lib.hid hn
 have HM := Lib.hid hm
 have HB := Lib.hid hb
 have b1 := ((Below.refl w.heap.size w).alloc (Nat.le_refl _) (.cells #[.slice A n ca, .int .i64 0] 104)).alloc (by simp) (.cells #[.slice none 0 0, .int .i64 0] 104)
 have L1 := (Loc.new w #[.slice A n ca, .int .i64 0] 104).alloc (.cells #[.slice none 0 0, .int .i64 0] 104)
 have Z1 := Loc.new (w.alloc (.cells #[.slice A n ca, .int .i64 0] 104)) #[.slice none 0 0, .int .i64 0] 104
 simp only [World.size_alloc] at Z1
 have hsrc := (ha.of_below b1 (Nat.le_refl _)).src (P := Tryz.prog) (size := 1) (n := n) (c := ca) (tx := 33) Tryz.underlying33 (by rw [cellsB_length, hn]; omega) (cellsB_one xs) hA
 have HSRC := Lib.hid hsrc
 clear hsrc ha hb hn hm hA
 go_enter Tryz.func90, Tryz.ntmps90
 go_wp2_with (first | (at_builtin; refine wpList_append_mine _ rfl _ _ 33 33 rfl 5 (.int .u8 0) 1 1 Tryz.underlying33 infoU8 rfl (by decide) (.slice none 0 0) 0 [] rfl (World.ownsRow_nil _ _ _ _) (.slice A n ca) n (cellsB xs) rfl HSRC.out (by unfold maxLen; omega) (by omega) ?_; intro A1 c1 w1 hown1 hg1 hb1 hx1; have L2 := L1.grown hg1 (by simp [Value.ownBlock]); have Z2 := Z1.grown hg1 (by simp [Value.ownBlock]); obtain ⟨o1, b2⟩ := own_next0 (World.ownsRow_nil _ w.heap.size _ _) hown1 hg1 hb1 b1.size b1; rw [Nat.zero_add, List.nil_append] at o1; clear hx1 hg1 hb1 hown1; have HSB := Lib.hid ((HB.out.of_below b2 (Nat.le_refl _)).src (P := Tryz.prog) (size := 1) (n := m) (c := cb) (tx := 33) Tryz.underlying33 (by rw [cellsB_length, HM.out]; omega) (cellsB_one ys) hB)) | (at_builtin; refine wpList_append_mine _ rfl _ _ 33 33 rfl 5 (.int .u8 0) 1 1 Tryz.underlying33 infoU8 rfl (by decide) (.slice A1 n c1) n (cellsB xs) rfl (owns_base o1 (fun _ _ => Nat.zero_le _)) (.slice B m cb) m (cellsB ys) rfl HSB.out (by unfold maxLen; omega) (by omega) ?_; intro A2 c2 w2 hown2 hg2 hb2 hx2; have L3 := L2.grown hg2 (owns_ne o1 L2 (by decide)); have Z3 := Z2.grown hg2 (owns_ne o1 Z2 (by decide)); obtain ⟨o2, b3⟩ := own_next0 o1 hown2 hg2 hb2 b2.size b2; have l0 := L3.cell 0; have l1 := L3.cell 1; have lf := L3.free 0; have z0 := Z3.cell 0; have z1 := Z3.cell 1; have zf0 := Z3.free 0; have zf1 := Z3.free 1; simp at l0 l1 z0 z1; clear hx2 hg2 hb2 hown2))
 have o3 := owns_setCell (a := ⟨w.heap.size, 0, none⟩) o2 (owns_ne o2 L3 (by decide)) (.slice A2 (n + m) c2)
 have Z4 := Z3.other (a := ⟨w.heap.size, 0, none⟩) (by show w.heap.size + 1 ≠ w.heap.size; omega) (.slice A2 (n + m) c2)
 have o4 := owns_setCell (a := ⟨w.heap.size + 1, 0, none⟩) o3 (owns_ne o3 Z4 (by decide)) (.slice A2 (n + m) c2)
 have Z5 := Z4.set 0 (.slice A2 (n + m) c2)
 have o5 := owns_setCell (a := ⟨w.heap.size + 1, 1, none⟩) o4 (owns_ne o4 Z5 (by decide)) (.int .i64 0)
 have Z6 := Z5.set 1 (.int .i64 0)
 have b6 := ((b3.setCell (p := ⟨w.heap.size, 0, none⟩) (Nat.le_refl _) (.slice A2 (n + m) c2)).setCell (p := ⟨w.heap.size + 1, 0, none⟩) (Nat.le_succ _) (.slice A2 (n + m) c2)).setCell (p := ⟨w.heap.size + 1, 1, none⟩) (Nat.le_succ _) (.int .i64 0)
 have e0 := Z6.cell 0; have e1 := Z6.cell 1
 simp at e0 e1
 have hln : (xs ++ ys).length = n + m := by rw [List.length_append, HN.out, HM.out]
 refine bodyPost_ret (v := .agg #[.slice A2 (n + m) c2, .int .i64 0]) (by simp [results, Tryz.results90, go_sem, e0, e1]) rfl ?_
 unfold RW
 rw [hln, cellsB_append]
 exact ⟨A2, c2, rfl, o5, b6⟩

set_option maxHeartbeats 2000000 in
theorem rsevens_any (u : Nat) (w : World) (hu : u < 18446744073709551616) :
  Calls Tryz.prog 91 #[.int .u64 u] w fun e w' => ∃ A c, e = .returned (.slice A (sevens u).length c) ∧ w'.ownsRow w.heap.size 5 1 (.slice A (sevens u).length c) (sevens u).length (cellsB (sevens u)) ∧
   Below w.heap.size w w' := by
 go_enter Tryz.func91, Tryz.ntmps91
 go_wp2
 go_loopw [0, 3] (fun t v wr => ∃ (pre : Bs) (k f : Nat) (A : Option Addr) (c : Nat), sevens u = pre ++ sevF (f + 1) k ∧ k < 18446744073709551616 ∧ pre.length + f ≤ 9 ∧ (k < 128 ^ (f + 1)) ∧ t = .int .u64 k ∧ v = .slice A pre.length c ∧
   wr.ownsRow w.heap.size 5 1 (.slice A pre.length c) pre.length (cellsB pre) ∧ Below w.heap.size w wr)
  (fun t _ _ => (intOf t).toNat)
 case atStart => exact ⟨[], u, 9, none, 0, rfl, hu, by simp, by omega, rfl, rfl, World.ownsRow_nil _ _ _ _, Below.refl _ _⟩
 case round =>
  rename_i wr
  obtain ⟨pre, k, f, A, c, h1, h2, h3, h4, rfl, rfl, hown, hb⟩ := hrel
  have hsz := hb.size
  by_cases hk : 128 ≤ k
  ·obtain ⟨f, rfl⟩ : ∃ g, f = g + 1 := by
    cases f with
    | zero => omega
    | succ g => exact ⟨g, rfl⟩
   obtain ⟨b, hbb⟩ : ∃ b, b = UInt8.ofNat (k % 128 + 128) := ⟨_, rfl⟩
   have hbn : b.toNat = k % 128 + 128 := by rw [hbb, UInt8.toNat_ofNat']; omega
   have hs1 : sevens u = (pre ++ [b]) ++ sevF (f + 1) (k / 128) := by
    rw [h1, sevF, if_neg (by omega), List.append_assoc, hbb]; rfl
   have hs2 : k / 128 < 128 ^ (f + 1) := by
    rw [Nat.pow_succ] at h4; exact Nat.div_lt_of_lt_mul (by rw [Nat.mul_comm]; exact h4)
   have HS1 := Lib.hid hs1
   have HS2 := Lib.hid hs2
   have hsrc : Src Tryz.prog 1 33 (.slice (some ⟨wr.heap.size, 0, none⟩) 1 1) 1 (cellsB [b]) (wr.alloc (.cells #[.int .u8 ((k : Int) % 128 + 128)] 5)) := by
    have h := Row.new wr (cellsB [b]) 5
    have h' := h.src (P := Tryz.prog) (size := 1) (n := 1) (c := 1) Tryz.underlying33 rfl (cellsB_one [b]) (by simp)
    rw [show ((k : Int) % 128 + 128) = (b.toNat : Int) by omega]; exact h'
   clear h1 h4 hs1 hs2 hbb hbn
   have hk' : (128 : Int) ≤ (k : Int) := by omega
   go_wp2_with (at_builtin; refine wpList_append_mine _ rfl _ _ 33 33 rfl 5 (.int .u8 0) 1 1 Tryz.underlying33 infoU8 rfl (by decide) (.slice A pre.length c) _ _ rfl ((owns_base hown (fun _ _ => Nat.zero_le _)).alloc _) _ 1 (cellsB [b]) rfl hsrc (by unfold maxLen; omega) (by omega) ?_; intro A1 cap1 w1 hown1 hg hbl _)
   go_roundw
   case rel =>
    obtain ⟨ho, hbe⟩ := own_next hown hown1 hg hbl hsz hb
    exact ⟨pre ++ [b], k / 128, f, A1, cap1, HS1.out, by omega, by simp; omega, HS2.out, by simp, by simp, by simpa [cellsB_append] using ho, hbe⟩
   case measure => simp [intOf]; omega
  ·obtain ⟨b, hbb⟩ : ∃ b, b = UInt8.ofNat k := ⟨_, rfl⟩
   have hbit := low256 k
   rw [← hbb] at hbit
   have hs1 : sevens u = pre ++ [b] := by
    rw [h1, sevF, if_pos (by omega), hbb]
   have HS1 := Lib.hid hs1
   have h3' : pre.length ≤ 9 := by omega
   have hk' : ¬ (128 : Int) ≤ (k : Int) := by omega
   have hkk : (k : Int) % 256 = (k : Int) := by omega
   have hkb : ((k : Int) = (b.toNat : Int)) := by omega
   have hsrc : Src Tryz.prog 1 33 (.slice (some ⟨wr.heap.size, 0, none⟩) 1 1) 1 (cellsB [b]) (wr.alloc (.cells #[.int .u8 (k : Int)] 5)) := by
    have h := Row.new wr (cellsB [b]) 5
    have h' := h.src (P := Tryz.prog) (size := 1) (n := 1) (c := 1) Tryz.underlying33 rfl (cellsB_one [b]) (by simp)
    rw [hkb]; exact h'
   clear h1 h3 h4 hs1 hbb hbit hkk hkb
   go_wp2_with (at_builtin; refine wpList_append_mine _ rfl _ _ 33 33 rfl 5 (.int .u8 0) 1 1 Tryz.underlying33 infoU8 rfl (by decide) (.slice A pre.length c) _ _ rfl ((owns_base hown (fun _ _ => Nat.zero_le _)).alloc _) _ 1 (cellsB [b]) rfl hsrc (by unfold maxLen; omega) (by omega) ?_; intro A1 cap1 w1 hown1 hg hbl _)
   go_ret
   obtain ⟨ho, hbe⟩ := own_next hown hown1 hg hbl hsz hb
   have hl : (sevens u).length = pre.length + 1 := by rw [HS1.out]; simp
   refine ⟨A1, cap1, by rw [hl]; rfl, ?_, hbe⟩
   rw [hl, HS1.out, cellsB_append]; exact ho

/-- What the result's cell holds, when a writer's value is answered through it. -/
theorem rw_end {w W : World} {r n c : Nat} {A : Option Addr} {zs : Bs} {c0 c1 : Value} (hr : Loc W r #[c0, c1] 104) (hw : w.heap.size ≤ r) (hn : n = zs.length) (hown : W.ownsRow w.heap.size 5 1 (.slice A n c) n (cellsB zs)) (hb : Below w.heap.size w W) :
  ((W.setCell ⟨r, 0, none⟩ (.slice A n c)).setCell ⟨r, 1, none⟩ (.int .i64 0)).cell? ⟨r, 0, none⟩ = some (.slice A n c) ∧ ((W.setCell ⟨r, 0, none⟩ (.slice A n c)).setCell ⟨r, 1, none⟩ (.int .i64 0)).cell? ⟨r, 1, none⟩ = some (.int .i64 0) ∧
   RW zs w (.returned (.agg #[.slice A n c, .int .i64 0])) ((W.setCell ⟨r, 0, none⟩ (.slice A n c)).setCell ⟨r, 1, none⟩ (.int .i64 0)) := by
 have h0 := hr.set 0 (.slice A n c)
 have h1 := h0.set 1 (.int .i64 0)
 have o0 := owns_setCell (a := ⟨r, 0, none⟩) hown (owns_ne hown hr (by decide)) (.slice A n c)
 have o1 := owns_setCell (a := ⟨r, 1, none⟩) o0 (owns_ne o0 h0 (by decide)) (.int .i64 0)
 have e0 := h1.cell 0; have e1 := h1.cell 1
 simp at e0 e1
 refine ⟨e0, e1, ?_⟩
 subst hn
 exact ⟨A, c, rfl, o1, (hb.setCell (p := ⟨r, 0, none⟩) hw _).setCell (p := ⟨r, 1, none⟩) hw _⟩

set_option maxRecDepth 100000 in
set_option maxHeartbeats 2000000 in
theorem rwbyte_any (A : Option Addr) (n ca : Nat) (xs : Bs) (v : UInt8) (w : World) (ha : Row w A (cellsB xs)) (hn : n = xs.length) (hA : A = none → n = 0) (hl : n + 1 ≤ 140737488355328) :
  Calls Tryz.prog 88 #[.agg #[.slice A n ca, .int .i64 0], .int .u8 v.toNat] w (RW (xs ++ [v]) w) := by
 have b1 := (((Below.refl w.heap.size w).alloc (Nat.le_refl _) (.cells #[.slice A n ca, .int .i64 0] 104)).alloc (by simp) (.cells #[.slice none 0 0, .int .i64 0] 104)).alloc (by simp; omega) (.cells #[.int .u8 v.toNat] 5)
 have Z1 := (Loc.new (w.alloc (.cells #[.slice A n ca, .int .i64 0] 104)) #[.slice none 0 0, .int .i64 0] 104).alloc (.cells #[.int .u8 v.toNat] 5)
 have hrow := Row.new ((w.alloc (.cells #[.slice A n ca, .int .i64 0] 104)).alloc (.cells #[.slice none 0 0, .int .i64 0] 104)) (cellsB [v]) 5
 simp only [World.size_alloc] at Z1 hrow
 obtain ⟨zs, hzs⟩ : ∃ zs, zs = xs ++ [v] := ⟨_, rfl⟩
 have hlaid := rlaid_any A (some ⟨w.heap.size + 1 + 1, 0, none⟩) n 1 ca 1 xs [v] _ (ha.of_below b1 (Nat.le_refl _)) hrow hn rfl hA (fun h => by cases h) hl
 rw [← hzs] at hlaid ⊢
 have HL := Lib.hid hlaid
 clear ha hrow hlaid hzs hn
 go_enter Tryz.func88, Tryz.ntmps88
 go_wp2_with fail
 refine HL.out.mono ?_; rintro e w1 ⟨A2, c2, rfl, o2, hb⟩
 have Z2 := Z1.below hb Z1.lt
 have b2 := below_then b1 hb b1.size
 have o3 := owns_mono o2 b1.size
 have z0 := Z2.cell 0; have z1 := Z2.cell 1; have f0 := Z2.free 0; have f1 := Z2.free 1
 simp at z0 z1
 clear HL hb Z1 o2
 go_wp2
 obtain ⟨e0, e1, hrw⟩ := rw_end Z2 (Nat.le_succ _) rfl o3 b2
 exact bodyPost_ret (v := .agg #[.slice A2 zs.length c2, .int .i64 0]) (by simp [results, Tryz.results88, go_sem, e0, e1]) rfl hrw

theorem take_at1 {P : Program} {md : Region.Mode} {ops : Array Oper} {Q : Exit → Act → World → Prop} {S : World → Prop} (i d : Nat) {oi : Oper} {v : Value} {fuel : Nat} {listed : Array Bool} {a : Act} {w : World} (hi : ops[i]? = some oi) (hd : oi.dst = some d)
  (hs : Region.noSelect ops = true) (hf : Region.free md ops listed i = true) (hr : (Region.ready md ops listed).contains i = true)
  (hQ : ∀ c a w, Q (.panic c) (a.put oi.dst v) w → Q (.panic c) a w) (hy : YieldsIf P ops S oi v a) (hS : S w)
  (h : wpAnyH P md ops Q S fuel (listed.setIfInBounds i true) (a.put (some d) v) w) : wpAnyH P md ops Q S (fuel + 1) listed a w :=
 wpAnyH_take hi hs hf hr hQ hy hS (by rw [hd]; exact h)

theorem two_far {w : World} {b : Nat} {v0 v1 : Value} (h : w.cell? ⟨b, 0, none⟩ = some v0 ∧ w.cell? ⟨b, 1, none⟩ = some v1) (u v : Value) :
  ((w.setCell ⟨b + 1, 0, none⟩ u).setCell ⟨b + 1, 1, none⟩ v).cell? ⟨b, 0, none⟩ = some v0 ∧ ((w.setCell ⟨b + 1, 0, none⟩ u).setCell ⟨b + 1, 1, none⟩ v).cell? ⟨b, 1, none⟩ = some v1 := by
 have hne : b + 1 ≠ b := by omega
 constructor
 ·rw [World.cell?_setCell_far _ _ _ _ hne, World.cell?_setCell_far _ _ _ _ hne]; exact h.1
 ·rw [World.cell?_setCell_far _ _ _ _ hne, World.cell?_setCell_far _ _ _ _ hne]; exact h.2

set_option maxRecDepth 100000 in
set_option maxHeartbeats 4000000 in
theorem rwnumber_any (A : Option Addr) (n ca : Nat) (xs : Bs) (v : Int) (w : World) (ha : Row w A (cellsB xs)) (hn : n = xs.length) (hA : A = none → n = 0) (hl : n + 10 ≤ 140737488355328) (h0 : 0 ≤ v) (h1 : v ≤ 9223372036854775807) :
  Calls Tryz.prog 45 #[.agg #[.slice A n ca, .int .i64 0], .int .i64 v] w (RW (xs ++ encNumber v) w) := by
 obtain ⟨k, rfl⟩ := Int.eq_ofNat_of_zero_le h0
 have b1 := ((Below.refl w.heap.size w).alloc (Nat.le_refl _) (.cells #[.slice A n ca, .int .i64 0] 104)).alloc (by simp) (.cells #[.slice none 0 0, .int .i64 0] 104)
 have L1 := (Loc.new w #[.slice A n ca, .int .i64 0] 104).alloc (.cells #[.slice none 0 0, .int .i64 0] 104)
 have Z1 := Loc.new (w.alloc (.cells #[.slice A n ca, .int .i64 0] 104)) #[.slice none 0 0, .int .i64 0] 104
 simp only [World.size_alloc] at Z1
 obtain ⟨w1, hw1⟩ : ∃ w1, w1 = (w.alloc (.cells #[.slice A n ca, .int .i64 0] 104)).alloc (.cells #[.slice none 0 0, .int .i64 0] 104) := ⟨_, rfl⟩
 obtain ⟨zs, hzs⟩ : ∃ zs, zs = xs ++ encNumber (k : Int) := ⟨_, rfl⟩
 obtain ⟨ys, hys⟩ : ∃ ys, ys = sevens k := ⟨_, rfl⟩
 have hsv := fun W => rsevens_any k W (by omega)
 have hyl := sevens_le k
 have hzy : zs = xs ++ ys := by rw [hzs, hys]; rfl
 rw [← hys] at hsv hyl
 rw [← hw1] at b1 L1 Z1
 have hlaid := fun B cb W (h1 : Below w1.heap.size w1 W) (h2 : Row W B (cellsB ys)) (h3 : B = none → ys.length = 0) => rlaid_any A B n ys.length ca cb xs ys W ((ha.of_below b1 (Nat.le_refl _)).of_below h1 (Nat.le_refl _)) h2 hn rfl hA h3 (by omega)
 rw [← hzy] at hlaid
 rw [← hzs]
 have HS := Lib.hid hsv
 have HL := Lib.hid hlaid
 have hss : ∀ W, Below w1.heap.size w1 W → W.cell? ⟨w.heap.size, 0, none⟩ = some (.slice A n ca) ∧ W.cell? ⟨w.heap.size, 1, none⟩ = some (.int .i64 0) := fun W hW => by
  have l := L1.below hW L1.lt
  have c0 := l.cell 0; have c1 := l.cell 1
  simp at c0 c1
  exact ⟨c0, c1⟩
 have HSS := Lib.hid hss
 have HW := Lib.hid hw1
 clear ha hn hsv hlaid hzy hzs hys hss hw1
 go_enter Tryz.func45, Tryz.ntmps45
 have l0 := L1.cell 0; have l1 := L1.cell 1
 simp at l0 l1
 have hkm : IntKind.u64.wrap (k : Int) = (k : Int) := by simp [IntKind.bits, IntKind.wrap, IntKind.signed]; omega
 go_wp2
 rw [← HW.out]
 go_region_held3 (fun V => V.cell? ⟨w.heap.size, 0, none⟩ = some (.slice A n ca) ∧ V.cell? ⟨w.heap.size, 1, none⟩ = some (.int .i64 0)) ((first | (with_reducible exact t5 _ _) | (with_reducible exact HSS.out _ d4) | (with_reducible exact HSS.out _ d3) | exact ⟨l0, l1⟩)) ((first | (go_at_call 91; refine (HS.out _).mono ?_; rintro e w3 ⟨A3, c3, rfl, own3, hb3⟩; have d3 := below_then ((Below.refl w1.heap.size w1).drew) hb3 (Nat.le_refl _)) | (go_at_call 90; refine (HL.out A3 c3 _ d3 (Row.of_owns own3) (owns_none own3)).mono ?_; rintro e w4 ⟨A4, c4, rfl, own4, hb4⟩; have d4 := below_then d3 hb4 d3.size; have t5 := fun u v => two_far (HSS.out _ d4) u v; have Z4 := Z1.below d4 Z1.lt; have z0 := Z4.cell 0; have z1 := Z4.cell 1; have f0 := Z4.free 0; have f1 := Z4.free 1; simp at z0 z1)))
 go_wp2
 obtain ⟨e0, e1, hrw⟩ := rw_end Z4 (Nat.le_succ _) rfl (owns_mono own4 (Nat.le_trans b1.size d3.size)) (below_then b1 d4 b1.size)
 exact bodyPost_ret (v := .agg #[.slice A4 zs.length c4, .int .i64 0]) (by simp [results, Tryz.results45, go_sem, e0, e1]) rfl hrw

set_option maxRecDepth 100000 in
set_option maxHeartbeats 4000000 in
theorem rwtext_any (A : Option Addr) (n ca : Nat) (xs : Bs) (s : ByteArray) (w : World) (ha : Row w A (cellsB xs)) (hn : n = xs.length) (hA : A = none → n = 0) (hl : n + s.size + 10 ≤ 140737488355328) :
  Calls Tryz.prog 49 #[.agg #[.slice A n ca, .int .i64 0], .string s] w (RW (xs ++ encText s.data.toList) w) := by
 have b1 := ((Below.refl w.heap.size w).alloc (Nat.le_refl _) (.cells #[.slice A n ca, .int .i64 0] 104)).alloc (by simp) (.cells #[.slice none 0 0, .int .i64 0] 104)
 have L1 := (Loc.new w #[.slice A n ca, .int .i64 0] 104).alloc (.cells #[.slice none 0 0, .int .i64 0] 104)
 have Z1 := Loc.new (w.alloc (.cells #[.slice A n ca, .int .i64 0] 104)) #[.slice none 0 0, .int .i64 0] 104
 simp only [World.size_alloc] at Z1
 obtain ⟨ys, hys⟩ : ∃ ys, ys = s.data.toList := ⟨_, rfl⟩
 obtain ⟨us, hus⟩ : ∃ us, us = xs ++ encNumber (s.size : Int) := ⟨_, rfl⟩
 obtain ⟨zs, hzs⟩ : ∃ zs, zs = xs ++ encText s.data.toList := ⟨_, rfl⟩
 have hysz : ys.length = s.size := by rw [hys]; simp
 have hzu : zs = us ++ ys := by
  rw [hzs, hus, hys, List.append_assoc]
  unfold encText encNumber
  rw [Int.toNat_natCast, size_data]
 have hul : us.length ≤ n + 10 := by rw [hus, List.length_append, hn]; have := sevens_le ((s.size : Int)).toNat; unfold encNumber; omega
 have hnum := fun W (h : Row W A (cellsB xs)) => rwnumber_any A n ca xs s.size W h hn hA (by omega) (by omega) (by omega)
 have hlaid := fun A' c' B cb W (h1 : Row W A' (cellsB us)) (h3 : A' = none → us.length = 0) (h2 : Row W B (cellsB ys)) (h4 : B = none → ys.length = 0) => rlaid_any A' B us.length ys.length c' cb us ys W h1 h2 rfl rfl h3 h4 (by omega)
 rw [← hzu] at hlaid
 rw [← hus] at hnum
 rw [← hzs]
 have HA := Lib.hid ha
 have HNUM := Lib.hid hnum
 have HL := Lib.hid hlaid
 have HYS := Lib.hid hys
 have HYZ := Lib.hid hysz
 have hyget : ∀ j (h : j < s.size), cellsB (ys.take (j + 1)) = cellsB (ys.take j) ++ [.int .u8 (s[j]).toNat] := fun j h => by
  have e : ys[j]? = some s[j] := by rw [hys]; exact bget s j h
  rw [List.take_add_one, e, cellsB_append]
  rfl
 have HG := Lib.hid hyget
 clear ha hn hnum hlaid hzu hzs hus hys hysz hyget
 go_enter Tryz.func49, Tryz.ntmps49
 go_wp2_with fail
 go_loopw [5, 6] (fun v i wr => ∃ (j : Nat) (B : Option Addr) (c : Nat), j ≤ s.size ∧ i = .int .i64 j ∧ v = .slice B j c ∧ wr.ownsRow w.heap.size 5 1 (.slice B j c) j (cellsB (ys.take j)) ∧
   Loc wr w.heap.size #[.slice A n ca, .int .i64 0] 104 ∧ Loc wr (w.heap.size + 1) #[.slice none 0 0, .int .i64 0] 104 ∧ Below w.heap.size w wr) (fun _ i _ => s.size - (intOf i).toNat)
 case atStart => exact ⟨0, none, 0, Nat.zero_le _, rfl, rfl, World.ownsRow_nil _ _ _ _, L1, Z1, b1⟩
 case round =>
  obtain ⟨wi, rfl⟩ : ∃ wi, wi = wr := ⟨_, rfl⟩
  obtain ⟨j, B, c, hj, rfl, rfl, hown, LI, ZI, bi⟩ := hrel
  clear L1 Z1 b1
  by_cases hlt : j < s.size
  ·have hlt' : (j : Int) < (s.size : Int) := by omega
   have hsrc := Row.src (P := Tryz.prog) (c := 1) (size := 1) (n := 1) (tx := 33) (Row.of_loc (Loc.new wi #[.int .u8 (s[j]).toNat] 5)) Tryz.underlying33 rfl (by simp [Value.oneCell']) (fun h => by simp at h)
   have HSRC := Lib.hid hsrc
   clear hsrc
   have own2 := owns_mono' hown ((Below.refl wi.heap.size wi).alloc (Nat.le_refl _) (.cells #[.int .u8 (s[j]).toNat] 5))
   have LI2 := LI.alloc (.cells #[.int .u8 (s[j]).toNat] 5)
   have ZI2 := ZI.alloc (.cells #[.int .u8 (s[j]).toNat] 5)
   have b2 := bi.alloc bi.size (.cells #[.int .u8 (s[j]).toNat] 5)
   go_wp2_with (at_builtin; refine wpList_append_mine _ rfl _ _ 33 33 rfl 5 (.int .u8 0) 1 1 Tryz.underlying33 infoU8 rfl (by decide) (.slice B j c) j _ rfl (owns_base own2 (fun _ _ => Nat.zero_le _)) _ 1 _ rfl HSRC.out (by unfold maxLen; omega) (by omega) ?_; intro A2 c2 w2 hown2 hg2 hb2 hx2; have L3 := LI2.grown hg2 (owns_ne own2 LI2 (by decide)); have Z3 := ZI2.grown hg2 (owns_ne own2 ZI2 (by decide)); obtain ⟨o2, b3⟩ := own_next0 own2 hown2 hg2 hb2 b2.size b2; clear hx2 hg2 hb2 hown2)
   go_roundw
   case rel =>
    refine ⟨j + 1, A2, c2, by omega, by go_num, rfl, ?_, L3, Z3, b3⟩
    rw [HG.out j hlt]
    exact o2
   case measure => simp [intOf]; omega
  ·obtain rfl : j = s.size := by omega
   rw [List.take_of_length_le (by rw [HYZ.out]; exact Nat.le_refl _)] at hown
   have hl2 := HL.out
   rw [HYZ.out] at hl2
   have HL2 := Lib.hid hl2
   have l0 := LI.cell 0; have l1 := LI.cell 1
   simp at l0 l1
   clear hl2 HL
   go_wp2_with (first | (go_at_call 45; refine (HNUM.out _ (HA.out.of_below bi (Nat.le_refl _))).mono ?_; rintro e w3 ⟨A3, c3, rfl, o3, hb3⟩) | (go_at_call 90; refine (HL2.out A3 c3 B c _ (Row.of_owns o3) (owns_none o3) (Row.of_owns (owns_mono' hown hb3)) (owns_none hown)).mono ?_; rintro e w4 ⟨A4, c4, rfl, o4, hb4⟩; have Z3 := ZI.below hb3 ZI.lt; have Z4 := Z3.below hb4 Z3.lt; have z0 := Z4.cell 0; have z1 := Z4.cell 1; have f0 := Z4.free 0; have f1 := Z4.free 1; simp at z0 z1))
   have d3 := below_then bi hb3 bi.size
   obtain ⟨e0, e1, hrw⟩ := rw_end Z4 (Nat.le_succ _) rfl (owns_mono o4 d3.size) (below_then d3 hb4 d3.size)
   exact bodyPost_ret (v := .agg #[.slice A4 zs.length c4, .int .i64 0]) (by simp [results, Tryz.results49, go_sem, e0, e1]) rfl hrw

theorem zig_pos {v : Int} (h : 0 ≤ v) : zig v = (2 * v).toNat := by unfold zig; rw [if_pos h]
theorem zig_neg {v : Int} (h : v < 0) : zig v = (-2 * v - 1).toNat := by unfold zig; rw [if_neg (by omega)]

set_option maxRecDepth 100000 in
set_option maxHeartbeats 4000000 in
theorem rwint_any (A : Option Addr) (n ca : Nat) (xs : Bs) (v : Int) (w : World) (ha : Row w A (cellsB xs)) (hn : n = xs.length) (hA : A = none → n = 0) (hl : n + 10 ≤ 140737488355328) (h0 : -9223372036854775808 ≤ v) (h1 : v ≤ 9223372036854775807) :
  Calls Tryz.prog 97 #[.agg #[.slice A n ca, .int .i64 0], .int .i64 v] w (RW (xs ++ encInt v) w) := by
 have b1 := ((Below.refl w.heap.size w).alloc (Nat.le_refl _) (.cells #[.slice A n ca, .int .i64 0] 104)).alloc (by simp) (.cells #[.slice none 0 0, .int .i64 0] 104)
 have L1 := (Loc.new w #[.slice A n ca, .int .i64 0] 104).alloc (.cells #[.slice none 0 0, .int .i64 0] 104)
 have Z1 := Loc.new (w.alloc (.cells #[.slice A n ca, .int .i64 0] 104)) #[.slice none 0 0, .int .i64 0] 104
 simp only [World.size_alloc] at Z1
 obtain ⟨w1, hw1⟩ : ∃ w1, w1 = (w.alloc (.cells #[.slice A n ca, .int .i64 0] 104)).alloc (.cells #[.slice none 0 0, .int .i64 0] 104) := ⟨_, rfl⟩
 obtain ⟨zs, hzs⟩ : ∃ zs, zs = xs ++ encInt v := ⟨_, rfl⟩
 obtain ⟨k, hk⟩ : ∃ k, k = zig v := ⟨_, rfl⟩
 obtain ⟨ys, hys⟩ : ∃ ys, ys = sevens k := ⟨_, rfl⟩
 have hku : k < 18446744073709551616 := by rw [hk]; unfold zig; split <;> omega
 have hsv := fun W => rsevens_any k W hku
 have hyl := sevens_le k
 have hzy : zs = xs ++ ys := by rw [hzs, hys, hk]; rfl
 rw [← hys] at hsv hyl
 rw [← hw1] at b1 L1 Z1
 have hlaid := fun B cb W (h1 : Below w1.heap.size w1 W) (h2 : Row W B (cellsB ys)) (h3 : B = none → ys.length = 0) => rlaid_any A B n ys.length ca cb xs ys W ((ha.of_below b1 (Nat.le_refl _)).of_below h1 (Nat.le_refl _)) h2 hn rfl hA h3 (by omega)
 rw [← hzy] at hlaid
 rw [← hzs]
 have HS := Lib.hid hsv
 have HL := Lib.hid hlaid
 have hss : ∀ W, Below w1.heap.size w1 W → W.cell? ⟨w.heap.size, 0, none⟩ = some (.slice A n ca) ∧ W.cell? ⟨w.heap.size, 1, none⟩ = some (.int .i64 0) := fun W hW => by
  have l := L1.below hW L1.lt
  have c0 := l.cell 0; have c1 := l.cell 1
  simp at c0 c1
  exact ⟨c0, c1⟩
 have HSS := Lib.hid hss
 have HW := Lib.hid hw1
 have HK := Lib.hid hk
 clear ha hn hsv hlaid hzy hzs hys hss hw1 hk
 have l0 := L1.cell 0; have l1 := L1.cell 1
 simp at l0 l1
 by_cases hv : 0 ≤ v
 ·have hk2 : (2 : Int) * v = (k : Int) := by rw [HK.out, zig_pos hv]; omega
  have hkw : IntKind.u64.wrap (2 * IntKind.u64.wrap v) = (k : Int) := by rw [← hk2]; simp [IntKind.bits, IntKind.wrap, IntKind.signed]; omega
  clear hk2
  go_enter Tryz.func97, Tryz.ntmps97
  go_wp2
  rw [← HW.out]
  go_region_held3 (fun V => V.cell? ⟨w.heap.size, 0, none⟩ = some (.slice A n ca) ∧ V.cell? ⟨w.heap.size, 1, none⟩ = some (.int .i64 0)) ((first | (with_reducible exact t5 _ _) | (with_reducible exact HSS.out _ d4) | (with_reducible exact HSS.out _ d3) | exact ⟨l0, l1⟩)) ((first | (go_at_call 91; refine (HS.out _).mono ?_; rintro e w3 ⟨A3, c3, rfl, own3, hb3⟩; have d3 := below_then ((Below.refl w1.heap.size w1).drew) hb3 (Nat.le_refl _)) | (go_at_call 90; refine (HL.out A3 c3 _ d3 (Row.of_owns own3) (owns_none own3)).mono ?_; rintro e w4 ⟨A4, c4, rfl, own4, hb4⟩; have d4 := below_then d3 hb4 d3.size; have t5 := fun u v => two_far (HSS.out _ d4) u v; have Z4 := Z1.below d4 Z1.lt; have z0 := Z4.cell 0; have z1 := Z4.cell 1; have f0 := Z4.free 0; have f1 := Z4.free 1; simp at z0 z1)))
  go_wp2
  obtain ⟨e0, e1, hrw⟩ := rw_end Z4 (Nat.le_succ _) rfl (owns_mono own4 (Nat.le_trans b1.size d3.size)) (below_then b1 d4 b1.size)
  exact bodyPost_ret (v := .agg #[.slice A4 zs.length c4, .int .i64 0]) (by simp [results, Tryz.results97, go_sem, e0, e1]) rfl hrw
 ·have hv1 : IntKind.i64.wrap (v + 1) = v + 1 := by simp [IntKind.bits, IntKind.wrap, IntKind.signed]; omega
  obtain ⟨m, hm⟩ : ∃ m, m = -(v + 1) := ⟨_, rfl⟩
  have hm0 : 0 ≤ m := by omega
  have hm1 : m ≤ 9223372036854775807 := by omega
  have hv2 : IntKind.i64.wrap (-(v + 1)) = m := by rw [← hm]; simp [IntKind.bits, IntKind.wrap, IntKind.signed]; omega
  have hv3 : IntKind.u64.wrap m = m := by simp [IntKind.bits, IntKind.wrap, IntKind.signed]; omega
  have hv4 : IntKind.u64.wrap (2 * m) = 2 * m := by simp [IntKind.bits, IntKind.wrap, IntKind.signed]; omega
  have hk2 : (2 : Int) * m + 1 = (k : Int) := by rw [HK.out, zig_neg (by omega), hm]; omega
  have hv5 : IntKind.u64.wrap (2 * m + 1) = (k : Int) := by rw [← hk2]; simp [IntKind.bits, IntKind.wrap, IntKind.signed]; omega
  clear hm hk2
  go_enter Tryz.func97, Tryz.ntmps97
  go_wp2
  rw [← HW.out]
  go_region_held3 (fun V => V.cell? ⟨w.heap.size, 0, none⟩ = some (.slice A n ca) ∧ V.cell? ⟨w.heap.size, 1, none⟩ = some (.int .i64 0)) ((first | (with_reducible exact t5 _ _) | (with_reducible exact HSS.out _ d4) | (with_reducible exact HSS.out _ d3) | exact ⟨l0, l1⟩)) ((first | (go_at_call 91; refine (HS.out _).mono ?_; rintro e w3 ⟨A3, c3, rfl, own3, hb3⟩; have d3 := below_then ((Below.refl w1.heap.size w1).drew) hb3 (Nat.le_refl _)) | (go_at_call 90; refine (HL.out A3 c3 _ d3 (Row.of_owns own3) (owns_none own3)).mono ?_; rintro e w4 ⟨A4, c4, rfl, own4, hb4⟩; have d4 := below_then d3 hb4 d3.size; have t5 := fun u v => two_far (HSS.out _ d4) u v; have Z4 := Z1.below d4 Z1.lt; have z0 := Z4.cell 0; have z1 := Z4.cell 1; have f0 := Z4.free 0; have f1 := Z4.free 1; simp at z0 z1)))
  go_wp2
  obtain ⟨e0, e1, hrw⟩ := rw_end Z4 (Nat.le_succ _) rfl (owns_mono own4 (Nat.le_trans b1.size d3.size)) (below_then b1 d4 b1.size)
  exact bodyPost_ret (v := .agg #[.slice A4 zs.length c4, .int .i64 0]) (by simp [results, Tryz.results97, go_sem, e0, e1]) rfl hrw
end Go.Proofs.YtnieminnnkbneaaGreat

namespace Go.Proofs.YtnieminnnkbneaaGreat
open Go.RowKit

theorem refLetter_any (b : UInt8) (w : World) :
  Calls Tryz.prog 138 #[.int .u8 (b.toNat : Int)] w fun e w' => e = .returned (.bool (letterB b.toNat)) ∧ w = w' := by
 obtain ⟨r, hr⟩ : ∃ r, r = letterB b.toNat := ⟨_, rfl⟩
 rw [← hr]
 have HR := Lib.hid hr
 clear hr
 have hb := b.toNat_lt
 go_enter Tryz.func138, Tryz.ntmps138
 go_wp2
 all_goals
  go_ret
  refine ⟨ret_bool ?_, rfl⟩
  rw [HR.out, Bool.eq_iff_iff]
  simp [letterB]
  try omega

set_option maxHeartbeats 1000000 in
theorem refIsName_any (s : ByteArray) (w : World) :
  Calls Tryz.prog 116 #[.string s] w fun e w' => e = .returned (.bool (isName s)) ∧ w = w' := by
 obtain ⟨r, hr⟩ : ∃ r, r = isName s := ⟨_, rfl⟩
 rw [← hr]
 have HR := Lib.hid hr
 clear hr
 by_cases hl : s.size < 1 ∨ 32 < s.size
 ·have hr := HR.out
  rw [isName_len s hl] at hr
  subst hr
  go_enter Tryz.func116, Tryz.ntmps116
  rcases hl with hl | hl
  ·go_wp2
   go_ret
   exact ⟨rfl, rfl⟩
  ·go_wp2
   go_ret
   exact ⟨rfl, rfl⟩
 ·have hl1 : ¬ s.size < 1 := by omega
  have hl2 : s.size ≤ 32 := by omega
  have hl3 : 0 < s.size := by omega
  clear hl
  by_cases hf : letterB (s[0]).toNat = true
  ·have hF := fun W => (refLetter_any s[0] W).mono (R' := fun e w' => e = .returned (.bool true) ∧ W = w') (fun e w' h => ⟨by rw [h.1, hf], h.2⟩)
   have HF := Lib.hid hF
   clear hF
   go_enter Tryz.func116, Tryz.ntmps116
   go_wp2_with (go_at_call 138; refine (HF.out _).mono ?_; rintro e w' ⟨rfl, rfl⟩)
   go_loop [3] (fun i => ∃ k : Nat, k ≤ s.size ∧ i = .int .i64 k ∧ Hid (∀ j (h : j < s.size), j < k → nameB (s[j]).toNat = true)) (fun i => s.size - (intOf i).toNat)
   case atStart => exact ⟨0, Nat.zero_le _, rfl, Lib.hid (fun j _ h => by omega)⟩
   case round =>
    obtain ⟨k, hk, rfl, HN⟩ := hrel
    by_cases hlt : k < s.size
    ·obtain ⟨c, hc⟩ : ∃ c, c = s[k] := ⟨_, rfl⟩
     have hG := fun W => refLetter_any c W
     obtain ⟨lb, hlb⟩ : ∃ lb, lb = letterB c.toNat := ⟨_, rfl⟩
     rw [← hlb] at hG
     have hc255 := c.toNat_lt
     have hnm : nameB c.toNat = (lb || (decide (48 ≤ c.toNat) && decide (c.toNat ≤ 57)) || c.toNat == 95 || c.toNat == 45 || c.toNat == 46) := by rw [hlb]; rfl
     have hix : s[k].toNat = c.toNat := by rw [hc]
     have HC := Lib.hid hc
     have HG := Lib.hid hG
     have HM := Lib.hid hnm
     clear hG hlb hnm hc
     cases lb with
     | true =>
      go_wp2_with (go_at_call 138; refine (HG.out _).mono ?_; rintro e w' ⟨rfl, rfl⟩)
      go_round
      case rel => 
       refine ⟨k + 1, by omega, by go_num, Lib.hid (fun j h hj => ?_)⟩
       rcases Nat.lt_or_ge j k with h' | h'
       ·exact HN.out j h h'
       ·obtain rfl : j = k := by omega
        rw [← HC.out, HM.out]; simp
      case measure => simp [intOf]; omega
     | false =>
      go_wp2_with (go_at_call 138; refine (HG.out _).mono ?_; rintro e w' ⟨rfl, rfl⟩)
      all_goals try simp only [bne_iff_ne, ne_eq, bne_eq_false_iff_eq] at *
      all_goals first
       | (go_ret
          refine ⟨ret_bool ?_, rfl⟩
          rw [HR.out]
          refine (isName_no s k hlt ?_).symm
          rw [← HC.out, HM.out]
          exact name_false _ (by omega) (by omega) (by omega) (by omega))
       | (go_round
          case rel =>
           refine ⟨k + 1, by omega, by go_num, Lib.hid (fun j h hj => ?_)⟩
           rcases Nat.lt_or_ge j k with h' | h'
           ·exact HN.out j h h'
           ·obtain rfl : j = k := by omega
            rw [← HC.out, HM.out]
            exact name_true _ (by omega)
          case measure => simp [intOf]; omega)
    ·go_wp2
     go_ret
     refine ⟨ret_bool ?_, rfl⟩
     rw [HR.out]
     exact (isName_get s hl3 hl2 hf (fun j h => HN.out j h (by omega))).symm
  ·have hr := HR.out
   have hf' : letterB (s[0]).toNat = false := by simpa using hf
   rw [isName_first s hl3 hf'] at hr
   subst hr
   have hF := fun W => (refLetter_any s[0] W).mono (R' := fun e w' => e = .returned (.bool false) ∧ W = w') (fun e w' h => ⟨by rw [h.1, hf'], h.2⟩)
   have HF := Lib.hid hF
   clear hF hf hf'
   go_enter Tryz.func116, Tryz.ntmps116
   go_wp2_with (go_at_call 138; refine (HF.out _).mono ?_; rintro e w' ⟨rfl, rfl⟩)
   go_ret
   exact ⟨rfl, rfl⟩

/-! ### fields -/
def fieldsS (op : Int) : Bs :=
 if op = 1 then [65, 86] else if op = 2 then [65, 78] else if op = 3 ∨ op = 14 ∨ op = 4 then [65, 66] else if op = 5 ∨ op = 15 then [65]
 else if op = 6 ∨ op = 7 ∨ op = 8 ∨ op = 9 then [65, 66, 67] else if op = 10 then [66, 67, 78] else if op = 11 then [97, 66, 67, 78]
 else if op = 12 ∨ op = 13 then [65, 66, 67, 78] else if op = 16 then [] else [63]

theorem ret_str {a b : ByteArray} (h : a = b) : Ending.returned (.string a) = .returned (.string b) := by rw [h]

set_option maxHeartbeats 1000000 in
theorem refFields_any (op : Int) (w : World) :
  Calls Tryz.prog 94 #[.int .i64 op] w fun e w' => e = .returned (.string (ofBs (fieldsS op))) ∧ w = w' := by
 obtain ⟨r, hr⟩ : ∃ r, r = ofBs (fieldsS op) := ⟨_, rfl⟩
 rw [← hr]
 have HR := Lib.hid hr
 clear hr
 go_enter Tryz.func94, Tryz.ntmps94
 go_wp2
 all_goals
  go_ret
  refine ⟨ret_str ?_, rfl⟩
  rw [HR.out]
  simp_all [fieldsS, ofBs]

def hasB (l : Bs) (c : UInt8) : Bool := l.contains c

theorem hasB_append (a : Bs) (x c : UInt8) : hasB (a ++ [x]) c = (hasB a c || c == x) := by
 induction a with
 | nil => simp only [hasB, List.nil_append, List.contains_cons, List.contains_nil, Bool.or_false, Bool.false_or]
 | cons y a ih =>
  simp only [hasB, List.cons_append, List.contains_cons] at ih ⊢
  rw [ih, Bool.or_assoc]

theorem hasB_take {l : Bs} {c : UInt8} {k : Nat} (hk : k < l.length) (h : hasB (l.take k) c = false) (hc : l[k] ≠ c) : hasB (l.take (k + 1)) c = false := by
 rw [List.take_succ_eq_append_getElem hk, hasB_append, h]
 simpa using fun e => hc e.symm

set_option maxHeartbeats 1000000 in
theorem refHas_any (l : Bs) (c : UInt8) (w : World) (hl : l.length ≤ 9223372036854775807) :
  Calls Tryz.prog 140 #[.string (ofBs l), .int .u8 (c.toNat : Int)] w fun e w' => e = .returned (.bool (hasB l c)) ∧ w = w' := by
 obtain ⟨r, hr⟩ : ∃ r, r = hasB l c := ⟨_, rfl⟩
 rw [← hr]
 have HR := Lib.hid hr
 obtain ⟨s, hs⟩ : ∃ s, s = ofBs l := ⟨_, rfl⟩
 have hsz : s.size = l.length := by rw [hs, ← size_data, ofBs_data]
 have hget : ∀ k (h : k < s.size) (h' : k < l.length), s[k] = l[k] := fun k h h' => by
  have h1 := bget s k h
  have hd : s.data.toList = l := by rw [hs, ofBs_data]
  rw [hd, List.getElem?_eq_getElem h'] at h1
  exact (Option.some.inj h1).symm
 rw [← hs]
 have HG := Lib.hid hget
 clear hr hs hget
 go_enter Tryz.func140, Tryz.ntmps140
 go_wp2
 go_loop [5] (fun i => ∃ k : Nat, k ≤ s.size ∧ i = .int .i64 k ∧ Hid (hasB (l.take k) c = false)) (fun i => s.size - (intOf i).toNat)
 case atStart => exact ⟨0, Nat.zero_le _, rfl, Lib.hid rfl⟩
 case round =>
  obtain ⟨k, hk, rfl, HN⟩ := hrel
  by_cases hlt : k < s.size
  ·have hkl : k < l.length := by omega
   have hsk := HG.out k hlt hkl
   by_cases he : l[k] = c
   ·have ht : ((s[k].toNat : Int) == (c.toNat : Int)) = true := by rw [hsk, he]; simp
    have HE := Lib.hid he
    clear he hsk
    go_wp2
    go_ret
    refine ⟨ret_bool ?_, rfl⟩
    rw [HR.out, hasB]
    symm
    rw [List.contains_iff_exists_mem_beq]
    exact ⟨l[k], List.getElem_mem hkl, by simp [HE.out]⟩
   ·have ht : ((s[k].toNat : Int) == (c.toNat : Int)) = false := by
     rw [hsk]
     simp only [beq_eq_false_iff_ne, ne_eq, Int.natCast_inj]
     exact fun h => he (UInt8.toNat_inj.1 h)
    have HE := Lib.hid he
    clear he hsk
    go_wp2
    go_round
    case rel => exact ⟨k + 1, by omega, by go_num, Lib.hid (hasB_take hkl HN.out HE.out)⟩
    case measure => simp [intOf]; omega
  ·go_wp2
   go_ret
   refine ⟨ret_bool ?_, rfl⟩
   have h := HN.out
   rw [List.take_of_length_le (by omega)] at h
   rw [HR.out, h]
end Go.Proofs.YtnieminnnkbneaaGreat

namespace Go.Proofs.YtnieminnnkbneaaGreat
open Go.RowKit

set_option maxHeartbeats 1000000 in
theorem refDCheck_any (v : Val) (w : World) :
  Calls Tryz.prog 96 #[.agg (valCells v)] w fun e w' => e = .returned (.int .i64 (datumCheck v)) ∧ Below w.heap.size w w' := by
 obtain ⟨k, n, s⟩ := v
 unfold valCells
 obtain ⟨r, hr⟩ : ∃ r, r = datumCheck ⟨k, n, s⟩ := ⟨_, rfl⟩
 rw [← hr]
 have HR := Lib.hid hr
 clear hr
 go_enter Tryz.func96, Tryz.ntmps96
 go_wp2
 all_goals
  go_ret
  refine ⟨ret_int ?_, (Below.refl _ _).alloc (Nat.le_refl _) _⟩
  have hr := HR.out
  simp only [datumCheck] at hr
  have hsz := size_nil s
  first
   | (simp_all; done)
   | (simp_all; omega)
   | (rw [hr]; simp_all; omega)
   | (obtain rfl : k = 0 := by omega
      simp_all)

/-- A register, if there is that field; else zero. -/
def refReg (l : Bs) (f : UInt8) (v : Int) : Bool := if hasB l f then decide (0 ≤ v) && decide (v < 16) else v == 0

theorem refReg_any (l : Bs) (f : UInt8) (v : Int) (w : World) (hl : l.length ≤ 9223372036854775807) :
  Calls Tryz.prog 139 #[.string (ofBs l), .int .u8 (f.toNat : Int), .int .i64 v] w fun e w' => e = .returned (.bool (refReg l f v)) ∧ w = w' := by
 obtain ⟨r, hr⟩ : ∃ r, r = refReg l f v := ⟨_, rfl⟩
 rw [← hr]
 have HR := Lib.hid hr
 have hh := fun W => refHas_any l f W hl
 obtain ⟨h, hhb⟩ : ∃ h, h = hasB l f := ⟨_, rfl⟩
 rw [← hhb] at hh
 have HH := Lib.hid hh
 have HHB := Lib.hid hhb
 clear hr hh hhb
 go_enter Tryz.func139, Tryz.ntmps139
 go_wp2_with fail
 refine (HH.out _).mono ?_; rintro e w1 ⟨rfl, rfl⟩
 cases h with
 | true =>
  go_wp2
  all_goals
   go_ret
   refine ⟨ret_bool ?_, rfl⟩
   rw [HR.out, refReg, ← HHB.out]
   simp_all
   try omega
 | false =>
  go_wp2
  all_goals
   go_ret
   refine ⟨ret_bool ?_, rfl⟩
   rw [HR.out, refReg, ← HHB.out]
   simp_all
   try omega

/-- Is N what the table says? -/
def refNum (args : Int) (op n : Int) : Bool :=
 if op = 2 then decide (0 ≤ n) && decide (n < args) else if op = 10 ∨ op = 11 then decide (1 ≤ n) && decide (n ≤ 6) else if op = 12 ∨ op = 13 then decide (1 ≤ n) && decide (n ≤ 64) else n == 0

set_option maxHeartbeats 1000000 in
theorem refNum_any (name : ByteArray) (args : Int) (A : Option Addr) (len cap : Nat) (x : Ins) (w : World) :
  Calls Tryz.prog 141 #[.agg (procCells name args A len cap), .agg (insCells x)] w fun e w' => e = .returned (.bool (refNum args x.op x.n)) ∧ Below w.heap.size w w' := by
 obtain ⟨r, hr⟩ : ∃ r, r = refNum args x.op x.n := ⟨_, rfl⟩
 rw [← hr]
 have HR := Lib.hid hr
 obtain ⟨op, xa, xb, xc, xn, xv⟩ := x
 clear hr
 unfold procCells insCells
 simp only at HR ⊢
 go_enter Tryz.func141, Tryz.ntmps141
 go_wp2
 all_goals
  go_ret
  refine ⟨ret_bool ?_, ((Below.refl _ _).alloc (Nat.le_refl _) _).alloc (by simp) _⟩
  rw [HR.out]
  simp_all [refNum]
  try omega

/-- The document's error of an instruction. -/
def refIns (args len place : Int) (x : Ins) : Int :=
 if fieldsS x.op = [63] then 16 else
 if (if hasB (fieldsS x.op) 97 then decide (1 ≤ x.a) && decide (x.a ≤ len - 1 - place) else refReg (fieldsS x.op) 65 x.a) && (refReg (fieldsS x.op) 66 x.b && (refReg (fieldsS x.op) 67 x.c && refNum args x.op x.n)) then
  (if hasB (fieldsS x.op) 86 then datumCheck x.v else if x.v.kind = 0 ∧ x.v.num = 0 ∧ x.v.text.size = 0 then 0 else 16)
 else 16

theorem refIns_eq (args len place : Int) (x : Ins) : refIns args len place x = insCheck args len place x := by
 have he0 : emptyB = ByteArray.empty := rfl
 by_cases h : 1 ≤ x.op ∧ x.op ≤ 16
 ·obtain ⟨op, a, b, c, n, v⟩ := x
  simp only at h
  have ho : op = 1 ∨ op = 2 ∨ op = 3 ∨ op = 4 ∨ op = 5 ∨ op = 6 ∨ op = 7 ∨ op = 8 ∨ op = 9 ∨ op = 10 ∨ op = 11 ∨ op = 12 ∨ op = 13 ∨ op = 14 ∨ op = 15 ∨ op = 16 := by omega
  rcases ho with rfl | rfl | rfl | rfl | rfl | rfl | rfl | rfl | rfl | rfl | rfl | rfl | rfl | rfl | rfl | rfl
  all_goals
   unfold insCheck
   simp [fieldsOf, Fld.get]
   simp [refIns, fieldsS, hasB, refReg, refNum, fieldsOf, Fld.may, Fld.put, insRest, clearF, hasVal, Ins.isZero, Val.zero, he0]
   by_cases he : v.text = ByteArray.empty <;> (try simp only [he, not_true_eq_false, not_false_eq_true, and_true, and_false, if_false]) <;> repeat' split
   all_goals first | rfl | omega | (exfalso; simp_all; done) | (exfalso; simp_all; omega)
 ·have h1 : x.op < 1 ∨ 16 < x.op := by omega
  have h2 : fieldsS x.op = [63] := by
   unfold fieldsS
   simp only [show ¬ x.op = 1 by omega, show ¬ x.op = 2 by omega, show ¬ x.op = 3 by omega, show ¬ x.op = 4 by omega, show ¬ x.op = 5 by omega, show ¬ x.op = 6 by omega, show ¬ x.op = 7 by omega, show ¬ x.op = 8 by omega, show ¬ x.op = 9 by omega, show ¬ x.op = 10 by omega, show ¬ x.op = 11 by omega, show ¬ x.op = 12 by omega, show ¬ x.op = 13 by omega, show ¬ x.op = 14 by omega, show ¬ x.op = 15 by omega, show ¬ x.op = 16 by omega, or_self, if_false]
  unfold refIns insCheck
  rw [if_pos h2, if_pos h1]

theorem fieldsS_le (op : Int) : (fieldsS op).length ≤ 4 := by
 unfold fieldsS
 repeat' split
 all_goals simp

set_option maxHeartbeats 4000000 in
theorem refInstr_any (name : ByteArray) (args : Int) (A : Option Addr) (cap : Nat) (l : List Ins) (k : Nat) (hk : k < l.length) (w : World) (hr : Row w A (codeCells l)) (hlen : l.length ≤ 140737488355328) :
  Calls Tryz.prog 117 #[.agg (procCells name args A l.length cap), .int .i64 k] w fun e w' => e = .returned (.int .i64 (insCheck args l.length k l[k])) ∧ Below w.heap.size w w' := by
 rw [← refIns_eq]
 obtain ⟨b, off, rfl, hc⟩ := hr.ins (by omega)
 have hx := hc k hk
 obtain ⟨L, hL⟩ : ∃ L, L = l.length := ⟨_, rfl⟩
 rw [← hL] at hlen hk ⊢
 generalize l[k] = x at *
 obtain ⟨r, hr1⟩ : ∃ r, r = refIns args L k x := ⟨_, rfl⟩
 rw [← hr1]
 have HR := Lib.hid hr1
 have hnum := fun W => refNum_any name args (some ⟨b, off, none⟩) L cap x W
 obtain ⟨op, xa, xb, xc, xn, xv⟩ := x
 have x0 := hx 0 (by decide); have x1 := hx 1 (by decide); have x2 := hx 2 (by decide); have x3 := hx 3 (by decide)
 have x4 := hx 4 (by decide); have x5 := hx 5 (by decide); have x6 := hx 6 (by decide); have x7 := hx 7 (by decide)
 simp only [insCells, List.getElem?_toArray, List.getElem?_cons_zero, List.getElem?_cons_succ, Nat.add_zero] at x0 x1 x2 x3 x4 x5 x6 x7
 have hbl : b < w.heap.size := World.block_lt_of_cell? w _ x0
 obtain ⟨fs, hfs⟩ : ∃ fs, fs = fieldsS op := ⟨_, rfl⟩
 have hfl : fs.length ≤ 9223372036854775807 := by rw [hfs]; have := fieldsS_le op; omega
 have hfields := fun W => refFields_any op W
 rw [← hfs] at hfields
 obtain ⟨ra, hra⟩ : ∃ ra, ra = refReg fs 65 xa := ⟨_, rfl⟩
 obtain ⟨rb, hrb⟩ : ∃ rb, rb = refReg fs 66 xb := ⟨_, rfl⟩
 obtain ⟨rc, hrc⟩ : ∃ rc, rc = refReg fs 67 xc := ⟨_, rfl⟩
 obtain ⟨rn, hrn⟩ : ∃ rn, rn = refNum args op xn := ⟨_, rfl⟩
 obtain ⟨ha, hha⟩ : ∃ ha, ha = hasB fs 97 := ⟨_, rfl⟩
 obtain ⟨hv, hhv⟩ : ∃ hv, hv = hasB fs 86 := ⟨_, rfl⟩
 have cra := fun W => refReg_any fs 65 xa W hfl
 have crb := fun W => refReg_any fs 66 xb W hfl
 have crc := fun W => refReg_any fs 67 xc W hfl
 have cha := fun W => refHas_any fs 97 W hfl
 have chv := fun W => refHas_any fs 86 W hfl
 have cdv := fun W => refDCheck_any xv W
 simp only at hnum
 rw [← hrn] at hnum
 rw [← hra, show ((65 : UInt8).toNat : Int) = 65 from by decide] at cra
 rw [← hrb, show ((66 : UInt8).toNat : Int) = 66 from by decide] at crb
 rw [← hrc, show ((67 : UInt8).toNat : Int) = 67 from by decide] at crc
 rw [← hha, show ((97 : UInt8).toNat : Int) = 97 from by decide] at cha
 rw [← hhv, show ((86 : UInt8).toNat : Int) = 86 from by decide] at chv
 have hres : r = if fs = [63] then 16 else if (if ha then decide (1 ≤ xa) && decide (xa ≤ (L : Int) - 1 - k) else ra) && (rb && (rc && rn)) then (if hv then datumCheck xv else if xv.kind = 0 ∧ xv.num = 0 ∧ xv.text.size = 0 then 0 else 16) else 16 := by
  rw [hr1, hra, hrb, hrc, hrn, hha, hhv, hfs]; rfl
 have HRES := Lib.hid hres
 have HF := Lib.hid hfields
 have CRA := Lib.hid cra; have CRB := Lib.hid crb; have CRC := Lib.hid crc
 have CHA := Lib.hid cha; have CHV := Lib.hid chv; have CDV := Lib.hid cdv; have CNUM := Lib.hid hnum
 clear hr hc hx hr1 HR hra hrb hrc hrn hha hhv cra crb crc cha chv cdv hnum hfields hres hfs
 have hk' : (k : Int) < (L : Int) := by omega
 clear hL
 unfold procCells valCells at *
 go_enter Tryz.func117, Tryz.ntmps117
 have b1 := ((Below.refl w.heap.size w).alloc (Nat.le_refl _) (.cells #[.string name, .int .i64 args, .slice (some ⟨b, off, none⟩) L cap] 54)).alloc (by simp) (.cells #[.int .i64 op, .int .i64 xa, .int .i64 xb, .int .i64 xc, .int .i64 xn, .int .i64 xv.kind, .int .i64 xv.num, .string xv.text] 109)
 go_wp2_with fail
 refine (HF.out _).mono ?_; rintro e w1 ⟨rfl, rfl⟩
 by_cases h63 : fs = [63]
 ·have hS : ((ofBs fs).toList == [63]) = true := by rw [ByteArray.toList_eq, ofBs_data, h63]; rfl
  have H63 := Lib.hid h63
  clear h63
  go_wp2
  go_ret
  refine ⟨ret_int ?_, b1⟩
  rw [HRES.out, if_pos H63.out]
 ·have hS : ((ofBs fs).toList == [63]) = false := by rw [ByteArray.toList_eq, ofBs_data]; simpa using h63
  have H63 := Lib.hid h63
  clear h63
  go_wp2_with fail
  refine (CRA.out _).mono ?_; rintro e w1 ⟨rfl, rfl⟩
  go_wp2_with fail
  refine (CHA.out _).mono ?_; rintro e w1 ⟨rfl, rfl⟩
  obtain ⟨ac, hac⟩ : ∃ ac, ac = if ha then decide (1 ≤ xa) && decide (xa ≤ (L : Int) - 1 - k) else ra := ⟨_, rfl⟩
  have hres := HRES.out
  rw [if_neg H63.out, ← hac] at hres
  have HRES2 := Lib.hid hres
  clear hres HRES
  have hcase : (ha = false ∧ ra = ac) ∨ (ha = true ∧ ((1 ≤ xa ∧ xa ≤ (L : Int) - 1 - k ∧ ac = true) ∨ (1 ≤ xa ∧ ¬ xa ≤ (L : Int) - 1 - k ∧ ac = false) ∨ (¬ 1 ≤ xa ∧ ac = false))) := by
   cases ha with
   | false => left; exact ⟨rfl, by rw [hac]; simp⟩
   | true =>
    right
    refine ⟨rfl, ?_⟩
    by_cases h1 : 1 ≤ xa <;> by_cases h2 : xa ≤ (L : Int) - 1 - k <;> simp [hac, h1, h2]
  clear hac
  rcases hcase with ⟨rfl, rfl⟩ | ⟨rfl, ⟨h1, h2, rfl⟩ | ⟨h1, h2, rfl⟩ | ⟨h1, rfl⟩⟩
  all_goals
   go_wp2_with fail
   refine (CRB.out _).mono ?_; rintro e w1 ⟨rfl, rfl⟩
   go_wp2_with fail
   refine (CRC.out _).mono ?_; rintro e w1 ⟨rfl, rfl⟩
   go_wp2_with fail
   refine (CNUM.out _).mono ?_; rintro e w1 ⟨rfl, hb⟩
   have b2 := below_then b1 hb b1.size
   have L1 := (Loc.new (w.alloc (.cells #[.string name, .int .i64 args, .slice (some ⟨b, off, none⟩) L cap] 54)) #[.int .i64 op, .int .i64 xa, .int .i64 xb, .int .i64 xc, .int .i64 xn, .int .i64 xv.kind, .int .i64 xv.num, .string xv.text] 109).below hb (by simp)
   simp only [World.size_alloc] at L1
   have z5 := L1.cell 5; have z6 := L1.cell 6; have z7 := L1.cell 7
   simp at z5 z6 z7
   clear L1 hb
   go_wp2_with fail
   all_goals first
    | (go_ret
       refine ⟨ret_int ?_, b2⟩
       rw [HRES2.out]
       simp_all
       done)
    | (refine (CHV.out _).mono ?_
       rintro e w2 ⟨rfl, rfl⟩
       cases hv with
       | true =>
        go_wp2_with fail
        refine (CDV.out _).mono ?_
        rintro e w3 ⟨rfl, hb⟩
        go_wp2
        go_ret
        refine ⟨ret_int ?_, below_then b2 hb b2.size⟩
        rw [HRES2.out]
        simp_all
       | false =>
        go_wp2
        all_goals
         go_ret
         refine ⟨ret_int ?_, b2⟩
         rw [HRES2.out]
         have hsz := size_nil xv.text
         first | (simp_all; done) | (simp_all; omega))
end Go.Proofs.YtnieminnnkbneaaGreat

namespace Go.Proofs.YtnieminnnkbneaaGreat
open Go.RowKit

def RE (x : Bs × Int) (w : World) (e : Ending) (w' : World) : Prop :=
 ∃ A c, e = .returned (.tuple #[.slice A x.1.length c, .int .i64 x.2]) ∧ w'.ownsRow w.heap.size 5 1 (.slice A x.1.length c) x.1.length (cellsB x.1) ∧ Below w.heap.size w w'

set_option maxRecDepth 100000 in
set_option maxHeartbeats 4000000 in
theorem rdenc_any (v : Val) (w : World) (hv : i64v v) :
  Calls Tryz.prog 51 #[.agg (valCells v)] w (RE (datumEncode v) w) := by
 have hck := fun W => refDCheck_any v W
 by_cases hz : datumCheck v = 0
 ·have he : datumEncode v = (datumBytes v, 0) := by unfold datumEncode; rw [if_pos hz]
  rw [he]
  rw [hz] at hck
  rcases datumCheck_zero hz with ⟨h0, h1, h2⟩ | ⟨h0, h1⟩ | ⟨h0, h1, h2⟩
  ·obtain ⟨k, n, s⟩ := v
   simp only at h0 h1 h2
   subst h0 h1 h2
   have hb : datumBytes ⟨0, 0, emptyB⟩ = [0] := rfl
   have hby := fun W => rwbyte_any none 0 0 [] 0 W (Row.nil _ _) rfl (fun _ => rfl) (by decide)
   have e0 : ((0 : UInt8).toNat : Int) = 0 := rfl
   rw [e0] at hby
   rw [hb]
   unfold valCells at *
   have HCK := Lib.hid hck
   have HBY := Lib.hid hby
   clear hck hby hz he hb e0 hv
   go_enter Tryz.func51, Tryz.ntmps51
   have L1 := Loc.new w #[.int .i64 0, .int .i64 0, .string emptyB] 60
   have b1 := (Below.refl w.heap.size w).alloc (Nat.le_refl _) (.cells #[.int .i64 0, .int .i64 0, .string emptyB] 60)
   go_wp2_with fail
   refine (HCK.out _).mono ?_; rintro e w2 ⟨rfl, hb⟩
   have L2 := L1.below hb L1.lt
   have b2 := below_then b1 hb b1.size
   have l0 := L2.cell 0; have l1 := L2.cell 1; have l2 := L2.cell 2
   simp at l0 l1 l2
   clear L1 b1 hb
   go_wp2_with fail
   refine (HBY.out _).mono ?_; rintro e w3 ⟨A3, c3, rfl, o3, hb⟩
   have L3 := L2.below hb L2.lt
   have b3 := below_then b2 hb b2.size
   have l0' := L3.cell 0; have l1' := L3.cell 1; have l2' := L3.cell 2
   simp at l0' l1' l2'
   have hlt := L3.lt
   clear l0 l1 l2
   go_wp2
   go_ret2
   exact ⟨A3, c3, rfl, owns_mono' (owns_mono o3 b2.size) ((Below.refl w3.heap.size w3).alloc (Nat.le_refl _) _), b3.alloc b3.size _⟩
  ·obtain ⟨k, n, s⟩ := v
   simp only at h0 h1
   subst h0 h1
   skip
   obtain ⟨zs, hzs⟩ : ∃ zs, zs = [1] ++ encInt n := ⟨_, rfl⟩
   have hb : datumBytes ⟨1, n, emptyB⟩ = zs := by rw [hzs]; rfl
   have hby := fun W => rwbyte_any none 0 0 [] 1 W (Row.nil _ _) rfl (fun _ => rfl) (by decide)
   have e0 : ((1 : UInt8).toNat : Int) = 1 := rfl
   rw [e0] at hby
   have hmo := fun A c W (h : Row W A (cellsB [1])) (hA : A = none → 1 = 0) => rwint_any A 1 c [1] n W h rfl hA (by decide) hv.1 hv.2
   rw [← hzs] at hmo
   rw [hb]
   unfold valCells at *
   have HCK := Lib.hid hck
   have HBY := Lib.hid hby
   have HMO := Lib.hid hmo
   clear hck hby hz he hb e0 hv hzs hmo
   go_enter Tryz.func51, Tryz.ntmps51
   have L1 := Loc.new w #[.int .i64 1, .int .i64 n, .string emptyB] 60
   have b1 := (Below.refl w.heap.size w).alloc (Nat.le_refl _) (.cells #[.int .i64 1, .int .i64 n, .string emptyB] 60)
   go_wp2_with fail
   refine (HCK.out _).mono ?_; rintro e w2 ⟨rfl, hb⟩
   have L2 := L1.below hb L1.lt
   have b2 := below_then b1 hb b1.size
   have l0 := L2.cell 0; have l1 := L2.cell 1; have l2 := L2.cell 2
   simp at l0 l1 l2
   clear L1 b1 hb
   go_wp2_with fail
   refine (HBY.out _).mono ?_; rintro e w3 ⟨A3, c3, rfl, o3, hb⟩
   simp only [List.nil_append, List.length_cons, List.length_nil] at o3 ⊢
   have L3 := L2.below hb L2.lt
   have b3 := below_then b2 hb b2.size
   have l0' := L3.cell 0; have l1' := L3.cell 1; have l2' := L3.cell 2
   simp at l0' l1' l2'
   have hlt := L3.lt
   have T4 := Loc.new w3 #[.slice A3 1 c3, .int .i64 0] 104
   have L4 := L3.alloc (.cells #[.slice A3 1 c3, .int .i64 0] 104)
   have b4 := b3.alloc b3.size (.cells #[.slice A3 1 c3, .int .i64 0] 104)
   have o4 := owns_mono' o3 ((Below.refl w3.heap.size w3).alloc (Nat.le_refl _) (.cells #[.slice A3 1 c3, .int .i64 0] 104))
   clear l0 l1 l2 L2 L3 hb
   go_wp2_with fail
   refine (HMO.out A3 c3 _ (Row.of_owns o4) (owns_none o4)).mono ?_; rintro e w5 ⟨A5, c5, rfl, o5, hb⟩
   have T5 := T4.below hb T4.lt
   have L5 := L4.below hb L4.lt
   have b5 := below_then b4 hb b4.size
   have t0 := T5.cell 0; have t1 := T5.cell 1; have f0 := T5.free 0; have f1 := T5.free 1
   have m0 := L5.cell 0; have m1 := L5.cell 1; have m2 := L5.cell 2
   simp at t0 t1 m0 m1 m2
   have hsz : w.heap.size ≤ w3.heap.size := Nat.le_of_lt hlt
   have o6 := owns_setCell (a := ⟨w3.heap.size, 0, none⟩) (owns_mono o5 b4.size) (owns_ne o5 T5 (by decide)) (.slice A5 zs.length c5)
   have T6 := T5.set 0 (.slice A5 zs.length c5)
   have o7 := owns_setCell (a := ⟨w3.heap.size, 1, none⟩) o6 (owns_ne o6 T6 (by decide)) (.int .i64 0)
   have b7 := (b5.setCell (p := ⟨w3.heap.size, 0, none⟩) hsz (.slice A5 zs.length c5)).setCell (p := ⟨w3.heap.size, 1, none⟩) hsz (.int .i64 0)
   have hne : ¬ w3.heap.size = w.heap.size := by omega
   clear T4 L4 hb l0' l1' l2' o5 o6
   go_wp2
   go_ret2
   exact ⟨A5, c5, rfl, o7, b7⟩
  ·obtain ⟨k, n, s⟩ := v
   simp only at h0 h1
   subst h0 h1
   skip
   obtain ⟨zs, hzs⟩ : ∃ zs, zs = [2] ++ encText s.data.toList := ⟨_, rfl⟩
   have hb : datumBytes ⟨2, 0, s⟩ = zs := by rw [hzs]; rfl
   have hby := fun W => rwbyte_any none 0 0 [] 2 W (Row.nil _ _) rfl (fun _ => rfl) (by decide)
   have e0 : ((2 : UInt8).toNat : Int) = 2 := rfl
   rw [e0] at hby
   have hmo := fun A c W (h : Row W A (cellsB [2])) (hA : A = none → 1 = 0) => rwtext_any A 1 c [2] s W h rfl hA (by have : s.size ≤ 256 := h2; omega)
   rw [← hzs] at hmo
   rw [hb]
   unfold valCells at *
   have HCK := Lib.hid hck
   have HBY := Lib.hid hby
   have HMO := Lib.hid hmo
   clear hck hby hz he hb e0 hv hzs hmo
   go_enter Tryz.func51, Tryz.ntmps51
   have L1 := Loc.new w #[.int .i64 2, .int .i64 0, .string s] 60
   have b1 := (Below.refl w.heap.size w).alloc (Nat.le_refl _) (.cells #[.int .i64 2, .int .i64 0, .string s] 60)
   go_wp2_with fail
   refine (HCK.out _).mono ?_; rintro e w2 ⟨rfl, hb⟩
   have L2 := L1.below hb L1.lt
   have b2 := below_then b1 hb b1.size
   have l0 := L2.cell 0; have l1 := L2.cell 1; have l2 := L2.cell 2
   simp at l0 l1 l2
   clear L1 b1 hb
   go_wp2_with fail
   refine (HBY.out _).mono ?_; rintro e w3 ⟨A3, c3, rfl, o3, hb⟩
   simp only [List.nil_append, List.length_cons, List.length_nil] at o3 ⊢
   have L3 := L2.below hb L2.lt
   have b3 := below_then b2 hb b2.size
   have l0' := L3.cell 0; have l1' := L3.cell 1; have l2' := L3.cell 2
   simp at l0' l1' l2'
   have hlt := L3.lt
   have T4 := Loc.new w3 #[.slice A3 1 c3, .int .i64 0] 104
   have L4 := L3.alloc (.cells #[.slice A3 1 c3, .int .i64 0] 104)
   have b4 := b3.alloc b3.size (.cells #[.slice A3 1 c3, .int .i64 0] 104)
   have o4 := owns_mono' o3 ((Below.refl w3.heap.size w3).alloc (Nat.le_refl _) (.cells #[.slice A3 1 c3, .int .i64 0] 104))
   clear l0 l1 l2 L2 L3 hb
   go_wp2_with fail
   refine (HMO.out A3 c3 _ (Row.of_owns o4) (owns_none o4)).mono ?_; rintro e w5 ⟨A5, c5, rfl, o5, hb⟩
   have T5 := T4.below hb T4.lt
   have L5 := L4.below hb L4.lt
   have b5 := below_then b4 hb b4.size
   have t0 := T5.cell 0; have t1 := T5.cell 1; have f0 := T5.free 0; have f1 := T5.free 1
   have m0 := L5.cell 0; have m1 := L5.cell 1; have m2 := L5.cell 2
   simp at t0 t1 m0 m1 m2
   have hsz : w.heap.size ≤ w3.heap.size := Nat.le_of_lt hlt
   have o6 := owns_setCell (a := ⟨w3.heap.size, 0, none⟩) (owns_mono o5 b4.size) (owns_ne o5 T5 (by decide)) (.slice A5 zs.length c5)
   have T6 := T5.set 0 (.slice A5 zs.length c5)
   have o7 := owns_setCell (a := ⟨w3.heap.size, 1, none⟩) o6 (owns_ne o6 T6 (by decide)) (.int .i64 0)
   have b7 := (b5.setCell (p := ⟨w3.heap.size, 0, none⟩) hsz (.slice A5 zs.length c5)).setCell (p := ⟨w3.heap.size, 1, none⟩) hsz (.int .i64 0)
   have hne : ¬ w3.heap.size = w.heap.size := by omega
   clear T4 L4 hb l0' l1' l2' o5 o6
   go_wp2
   go_ret2
   exact ⟨A5, c5, rfl, o7, b7⟩
 ·have he : datumEncode v = ([], datumCheck v) := by unfold datumEncode; rw [if_neg hz]
  rw [he]
  obtain ⟨E, hE⟩ : ∃ E, E = datumCheck v := ⟨_, rfl⟩
  rw [← hE] at hz hck ⊢
  have hE' : (E != 0) = true := by simpa using hz
  obtain ⟨k, n, s⟩ := v
  unfold valCells at *
  have HCK := Lib.hid hck
  clear hck hE hz he hv
  go_enter Tryz.func51, Tryz.ntmps51
  have b1 := (Below.refl w.heap.size w).alloc (Nat.le_refl _) (.cells #[.int .i64 k, .int .i64 n, .string s] 60)
  go_wp2_with fail
  refine (HCK.out _).mono ?_; rintro e w2 ⟨rfl, hb⟩
  go_wp2
  go_ret2
  exact ⟨none, 0, rfl, World.ownsRow_nil _ _ _ _, below_then b1 hb b1.size⟩
end Go.Proofs.YtnieminnnkbneaaGreat

namespace Go.Proofs.YtnieminnnkbneaaGreat
open Go.RowKit

set_option maxHeartbeats 4000000 in
theorem refCheck_any (p : Prc) (A : Option Addr) (cap : Nat) (w : World) (hr : Row w A (codeCells p.code)) (hlen : p.code.length ≤ 9223372036854775807) :
  Calls Tryz.prog 93 #[.agg (procCells p.name p.args A p.code.length cap)] w fun e w' => e = .returned (.tuple #[.int .i64 (procCheck p).1, .int .i64 (procCheck p).2]) ∧ Below w.heap.size w w' := by
 obtain ⟨name, args, l⟩ := p
 obtain ⟨R1, R2, hR⟩ : ∃ R1 R2, (R1, R2) = procCheck ⟨name, args, l⟩ := ⟨_, _, rfl⟩
 rw [← hR]
 simp only at hr hlen ⊢
 have HR := Lib.hid hR
 obtain ⟨L, hL⟩ : ∃ L, L = l.length := ⟨_, rfl⟩
 rw [← hL] at hlen ⊢
 have HL := Lib.hid hL
 have HROW := Lib.hid hr
 obtain ⟨nm, hnm⟩ : ∃ nm, nm = isName name := ⟨_, rfl⟩
 have hN := fun W => refIsName_any name W
 rw [← hnm] at hN
 have HN := Lib.hid hN
 have HNM := Lib.hid hnm
 clear hR hL hr hN hnm
 unfold procCells
 go_enter Tryz.func93, Tryz.ntmps93
 have bw0 : Below w.heap.size w (w.alloc (.cells #[.string name, .int .i64 args, .slice A L cap] 54)) := (Below.refl _ _).alloc (Nat.le_refl _) _
 have HP := Loc.new w #[.string name, .int .i64 args, .slice A L cap] 54
 go_wp2_with fail
 refine (HN.out _).mono ?_; rintro e w' ⟨rfl, rfl⟩
 cases nm with
 | false =>
  go_wp2
  go_ret2
  refine ⟨ret_pair ?_, bw0⟩
  rw [HR.out]; simp [procCheck, ← HNM.out]
 | true =>
  by_cases ha : args < 0 ∨ 16 < args
  ·have hpc : procCheck ⟨name, args, l⟩ = (-1, 1) := by simp only [procCheck, ← HNM.out]; rw [if_neg (by simp), if_pos ha]
   have HPC := Lib.hid hpc
   clear hpc
   rcases ha with ha | ha
   all_goals
    go_wp2
    go_ret2
    refine ⟨ret_pair ?_, bw0⟩
    rw [HR.out, HPC.out]
  ·have ha1 : ¬ args < 0 := by omega
   have ha2 : ¬ 16 < args := by omega
   by_cases hl : 64 < l.length
   ·have hpc : procCheck ⟨name, args, l⟩ = (-1, 4) := by simp only [procCheck, ← HNM.out]; rw [if_neg (by simp), if_neg ha, if_pos hl]
    have HPC := Lib.hid hpc
    have hl' : (64 : Int) < (L : Int) := by have := HL.out; omega
    clear hpc ha
    go_wp2
    go_ret2
    refine ⟨ret_pair ?_, bw0⟩
    rw [HR.out, HPC.out]
   ·have hpc : procCheck ⟨name, args, l⟩ = codeCheck args l.length 0 l := by simp only [procCheck, ← HNM.out]; rw [if_neg (by simp), if_neg ha, if_neg hl]
    have HPC := Lib.hid hpc
    have hl' : ¬ (64 : Int) < (L : Int) := by have := HL.out; omega
    clear hpc ha
    go_wp2
    go_loopw [5, 6] (fun i _ wr => ∃ j : Nat, j ≤ L ∧ i = .int .i64 j ∧ Hid (∀ m (h : m < l.length), m < j → insCheck args l.length m l[m] = 0) ∧ Below w.heap.size w wr ∧ Loc wr w.heap.size #[.string name, .int .i64 args, .slice A L cap] 54)
     (fun i _ _ => L - (intOf i).toNat)
    case atStart => exact ⟨0, Nat.zero_le _, rfl, Lib.hid (fun m _ h => absurd h (by omega)), bw0, HP⟩
    case round =>
     obtain ⟨wi, rfl⟩ : ∃ wi, wi = wr := ⟨_, rfl⟩
     obtain ⟨j, hj, rfl, HJ, bwr, LPr⟩ := hrel
     have c0 := LPr.cell 0; have c1 := LPr.cell 1; have c2 := LPr.cell 2
     simp at c0 c1 c2
     by_cases hlt : j < L
     ·have hjl : j < l.length := by rw [← HL.out]; exact hlt
      have hI := refInstr_any name args A cap l j hjl wi (HROW.out.of_below bwr (Nat.le_refl _)) (by rw [← HL.out]; omega)
      obtain ⟨r, hr1⟩ : ∃ r, r = insCheck args l.length j l[j] := ⟨_, rfl⟩
      rw [← hr1, ← HL.out] at hI
      unfold procCells at hI
      have HI := Lib.hid hI
      have HR1 := Lib.hid hr1
      have hlt' : (j : Int) < (L : Int) := by omega
      clear hI hr1
      by_cases h0 : r = 0
      ·subst h0
       go_wp2_with fail
       refine HI.out.mono ?_; rintro e w' ⟨rfl, hb⟩
       go_wp2
       go_roundw
       case rel =>
        refine ⟨j + 1, by omega, by go_num, Lib.hid (fun m hm hmj => ?_), below_then bwr hb bwr.size, LPr.below hb LPr.lt⟩
        rcases Nat.lt_or_ge m j with h | h
        ·exact HJ.out m hm h
        ·obtain rfl : m = j := by omega
         exact HR1.out.symm
       case measure => simp [intOf]; omega
      ·have h0' : (r != 0) = true := by simpa using h0
       have H0 := Lib.hid h0
       clear h0
       go_wp2_with fail
       refine HI.out.mono ?_; rintro e w' ⟨rfl, hb⟩
       go_wp2
       go_ret2
       refine ⟨ret_pair ?_, below_then bwr hb bwr.size⟩
       rw [HR.out, HPC.out, codeCheck_step args l.length 0 l j (by have := HL.out; omega) (fun m hm hmj => by rw [Nat.zero_add]; exact HJ.out m hm hmj), Nat.zero_add, List.drop_eq_getElem_cons hjl, codeCheck, ← HR1.out, if_pos H0.out]
     ·obtain rfl : j = L := by omega
      go_wp2
      go_ret2
      refine ⟨ret_pair ?_, bwr⟩
      rw [HR.out, HPC.out, codeCheck_step args l.length 0 l l.length (Nat.le_refl _) (fun m hm hmj => by rw [Nat.zero_add]; exact HJ.out m hm (by have := HL.out; omega)), List.drop_length, codeCheck]
end Go.Proofs.YtnieminnnkbneaaGreat

namespace Go.Proofs.YtnieminnnkbneaaGreat
open Go.RowKit

/-- What one letter of an operation's fields lays. -/
def letBytes (x : Ins) (c : UInt8) : Bs :=
 if c = 65 then [UInt8.ofNat x.a.toNat] else if c = 66 then [UInt8.ofNat x.b.toNat] else if c = 67 then [UInt8.ofNat x.c.toNat]
 else if c = 97 then encNumber x.a else if c = 78 then encNumber x.n else if c = 86 then encText (datumBytes x.v) else []

theorem let_bytes {x : Ins} (h1 : 1 ≤ x.op) (h2 : x.op ≤ 16) : (fieldsS x.op).flatMap (letBytes x) = (fieldsOf x.op).flatMap (fldBytes x) ++ (if hasVal x.op then encText (datumBytes x.v) else []) := by
 obtain ⟨op, a, b, c, n, v⟩ := x
 simp only at h1 h2
 have h : op = 1 ∨ op = 2 ∨ op = 3 ∨ op = 4 ∨ op = 5 ∨ op = 6 ∨ op = 7 ∨ op = 8 ∨ op = 9 ∨ op = 10 ∨ op = 11 ∨ op = 12 ∨ op = 13 ∨ op = 14 ∨ op = 15 ∨ op = 16 := by omega
 rcases h with rfl | rfl | rfl | rfl | rfl | rfl | rfl | rfl | rfl | rfl | rfl | rfl | rfl | rfl | rfl | rfl <;>
  simp [fieldsS, fieldsOf, letBytes, fldBytes, hasVal, Fld.one, Fld.get]

theorem ins_bytes {x : Ins} (h1 : 1 ≤ x.op) (h2 : x.op ≤ 16) : insBytes x = UInt8.ofNat x.op.toNat :: (fieldsS x.op).flatMap (letBytes x) := by
 rw [let_bytes h1 h2]; rfl

theorem let_fld {op : Int} (h1 : 1 ≤ op) (h2 : op ≤ 16) : ∀ c ∈ fieldsS op,
  (c = 65 ∧ Fld.a ∈ fieldsOf op) ∨ (c = 66 ∧ Fld.b ∈ fieldsOf op) ∨ (c = 67 ∧ Fld.c ∈ fieldsOf op) ∨ (c = 97 ∧ Fld.skip ∈ fieldsOf op) ∨ (c = 78 ∧ (Fld.arg ∈ fieldsOf op ∨ Fld.how ∈ fieldsOf op ∨ Fld.many ∈ fieldsOf op)) ∨ (c = 86 ∧ hasVal op = true) := by
 have h : op = 1 ∨ op = 2 ∨ op = 3 ∨ op = 4 ∨ op = 5 ∨ op = 6 ∨ op = 7 ∨ op = 8 ∨ op = 9 ∨ op = 10 ∨ op = 11 ∨ op = 12 ∨ op = 13 ∨ op = 14 ∨ op = 15 ∨ op = 16 := by omega
 rcases h with rfl | rfl | rfl | rfl | rfl | rfl | rfl | rfl | rfl | rfl | rfl | rfl | rfl | rfl | rfl | rfl <;> decide

/-- The letters that an operation may have, and what is known of the field. -/
theorem let_may {args len place : Int} {x : Ins} (h : insCheck args len place x = 0) {c : UInt8} (hc : c ∈ fieldsS x.op) :
  (c = 65 ∧ 0 ≤ x.a ∧ x.a < 16) ∨ (c = 66 ∧ 0 ≤ x.b ∧ x.b < 16) ∨ (c = 67 ∧ 0 ≤ x.c ∧ x.c < 16) ∨ (c = 97 ∧ 0 ≤ x.a) ∨ (c = 78 ∧ 0 ≤ x.n) ∨ (c = 86 ∧ datumCheck x.v = 0) := by
 obtain ⟨⟨h1, h2⟩, hf, hv⟩ := insCheck_zero h
 rcases let_fld h1 h2 c hc with ⟨e, m⟩ | ⟨e, m⟩ | ⟨e, m⟩ | ⟨e, m⟩ | ⟨e, m⟩ | ⟨e, m⟩
 ·have := Fld.may_pos (hf _ m)
  exact .inl ⟨e, this.1, this.2 rfl⟩
 ·have := Fld.may_pos (hf _ m)
  exact .inr (.inl ⟨e, this.1, this.2 rfl⟩)
 ·have := Fld.may_pos (hf _ m)
  exact .inr (.inr (.inl ⟨e, this.1, this.2 rfl⟩))
 ·have := Fld.may_pos (hf _ m)
  exact .inr (.inr (.inr (.inl ⟨e, this.1⟩)))
 ·have : 0 ≤ x.n := by
   rcases m with m | m | m
   ·exact (Fld.may_pos (hf _ m)).1
   ·exact (Fld.may_pos (hf _ m)).1
   ·exact (Fld.may_pos (hf _ m)).1
  exact .inr (.inr (.inr (.inr (.inl ⟨e, this⟩))))
 ·exact .inr (.inr (.inr (.inr (.inr ⟨e, hv m⟩))))

theorem ws_put {W : World} {wb base n c : Nat} {A : Option Addr} {zs : Bs} {c0 c1 : Value} (T : Loc W wb #[c0, c1] 104) (o : W.ownsRow base 5 1 (.slice A n c) n (cellsB zs)) :
  Loc ((W.setCell ⟨wb, 0, none⟩ (.slice A n c)).setCell ⟨wb, 1, none⟩ (.int .i64 0)) wb #[.slice A n c, .int .i64 0] 104 ∧
   ((W.setCell ⟨wb, 0, none⟩ (.slice A n c)).setCell ⟨wb, 1, none⟩ (.int .i64 0)).ownsRow base 5 1 (.slice A n c) n (cellsB zs) := by
 have t0 := T.set 0 (.slice A n c)
 have t1 := t0.set 1 (.int .i64 0)
 exact ⟨t1, owns_setCell (a := ⟨wb, 1, none⟩) (owns_setCell (a := ⟨wb, 0, none⟩) o (owns_ne o T (by decide)) _) (owns_ne (owns_setCell (a := ⟨wb, 0, none⟩) o (owns_ne o T (by decide)) (.slice A n c)) t0 (by decide)) _⟩

/-- The state of the loops of Encode: the writer's block, its row, the procedure's block, the instruction's block. -/
structure ESt (w W : World) (wb xb : Nat) (P X : Array Value) (B : Option Addr) (c : Nat) (zs : Bs) : Prop where
 t : Loc W wb #[.slice B zs.length c, .int .i64 0] 104
 o : W.ownsRow w.heap.size 5 1 (.slice B zs.length c) zs.length (cellsB zs)
 p : Loc W w.heap.size P 54
 x : Loc W xb X 109
 b : Below w.heap.size w W

theorem ESt.below {w W V : World} {wb xb : Nat} {P X : Array Value} {B : Option Addr} {c : Nat} {zs : Bs} (h : ESt w W wb xb P X B c zs) (hb : Below W.heap.size W V) : ESt w V wb xb P X B c zs :=
 ⟨h.t.below hb h.t.lt, owns_mono' h.o hb, h.p.below hb h.p.lt, h.x.below hb h.x.lt, below_then h.b hb h.b.size⟩

theorem ESt.step {w W V : World} {wb xb : Nat} {P X : Array Value} {B A' : Option Addr} {c c' n : Nat} {zs zs' : Bs} (h : ESt w W wb xb P X B c zs) (hb : Below W.heap.size W V)
  (o : V.ownsRow W.heap.size 5 1 (.slice A' n c') n (cellsB zs')) (hn : n = zs'.length) (hw : w.heap.size ≤ wb) :
  ESt w ((V.setCell ⟨wb, 0, none⟩ (.slice A' n c')).setCell ⟨wb, 1, none⟩ (.int .i64 0)) wb xb P X A' c' zs' ∧
   V.cell? ⟨wb, 0, none⟩ = some (.slice B zs.length c) ∧ V.cell? ⟨wb, 1, none⟩ = some (.int .i64 0) ∧ V.frozen? ⟨wb, 0, none⟩ = false ∧ V.frozen? ⟨wb, 1, none⟩ = false := by
 subst hn
 have g := h.below hb
 obtain ⟨T, O⟩ := ws_put g.t (owns_mono o h.b.size)
 have np : w.heap.size ≠ wb := g.p.ne g.t (by decide)
 have nx : xb ≠ wb := g.x.ne g.t (by decide)
 have e0 := g.t.cell 0; have e1 := g.t.cell 1
 simp at e0 e1
 exact ⟨⟨T, O, (g.p.other (a := ⟨wb, 0, none⟩) np _).other (a := ⟨wb, 1, none⟩) np _, (g.x.other (a := ⟨wb, 0, none⟩) nx _).other (a := ⟨wb, 1, none⟩) nx _, (g.b.setCell (p := ⟨wb, 0, none⟩) hw _).setCell (p := ⟨wb, 1, none⟩) hw _⟩,
  e0, e1, g.t.free 0, g.t.free 1⟩

theorem rwbyte_num (A : Option Addr) (n ca : Nat) (xs : Bs) (v : Int) (w : World) (ha : Row w A (cellsB xs)) (hn : n = xs.length) (hA : A = none → n = 0) (hl : n + 1 ≤ 140737488355328) (h0 : 0 ≤ v) (h1 : v < 256) :
  Calls Tryz.prog 88 #[.agg #[.slice A n ca, .int .i64 0], .int .u8 v] w (RW (xs ++ [UInt8.ofNat v.toNat]) w) := by
 have h := rwbyte_any A n ca xs (UInt8.ofNat v.toNat) w ha hn hA hl
 have e : ((UInt8.ofNat v.toNat).toNat : Int) = v := by rw [UInt8.toNat_ofNat']; omega
 rw [e] at h
 exact h

set_option maxRecDepth 100000 in
set_option maxHeartbeats 8000000 in
theorem refEncode_any (p : Prc) (A : Option Addr) (cap : Nat) (w : World) (hr : Row w A (codeCells p.code)) (hlen : p.code.length ≤ 140737488355328) (hin : p.inR) :
  Calls Tryz.prog 48 #[.agg (procCells p.name p.args A p.code.length cap)] w (RE (procEncode p) w) := by
 have hck := fun W (h : Row W A (codeCells p.code)) => refCheck_any p A cap W h (by omega)
 by_cases hz : (procCheck p).2 = 0
 ·have he : procEncode p = (procBytes p, 0) := by unfold procEncode; rw [if_pos hz]
  rw [he]
  rw [hz] at hck
  obtain ⟨hnm, ha, hl64, hall⟩ := procCheck_zero hz
  obtain ⟨name, args, l⟩ := p
  simp only at *
  obtain ⟨ys, hys⟩ : ∃ ys, ys = procBytes ⟨name, args, l⟩ := ⟨_, rfl⟩
  obtain ⟨z, hz1⟩ : ∃ z, z = (procCheck ⟨name, args, l⟩).1 := ⟨_, rfl⟩
  rw [← hz1] at hck
  rw [← hys]
  obtain ⟨t1, ht1⟩ : ∃ t1, t1 = [] ++ encText name.data.toList := ⟨_, rfl⟩
  obtain ⟨t2, ht2⟩ : ∃ t2, t2 = t1 ++ encNumber args := ⟨_, rfl⟩
  obtain ⟨hd, hhd⟩ : ∃ hd, hd = t2 ++ encNumber (l.length : Int) := ⟨_, rfl⟩
  have l1 : t1.length ≤ 42 := by rw [ht1]; have := encText_le name.data.toList; have := isName_le hnm; have h3 : name.data.toList.length = name.size := by simp
                                 simp only [List.nil_append]; omega
  have l2 : t2.length ≤ 52 := by rw [ht2, List.length_append]; have := encNumber_le args; omega
  have l3 : hd.length ≤ 62 := by rw [hhd, List.length_append]; have := encNumber_le (l.length : Int); omega
  have c1 := fun W => rwtext_any none 0 0 [] name W (Row.nil _ _) rfl (fun _ => rfl) (by have := isName_le hnm; omega)
  have c2 := fun A c W (h : Row W A (cellsB t1)) (hA : A = none → t1.length = 0) => rwnumber_any A t1.length c t1 args W h rfl hA (by omega) (by omega) (by omega)
  have c3 := fun A c W (h : Row W A (cellsB t2)) (hA : A = none → t2.length = 0) => rwnumber_any A t2.length c t2 (l.length : Int) W h rfl hA (by omega) (by omega) (by omega)
  rw [← ht1] at c1
  rw [← ht2] at c2
  rw [← hhd] at c3
  have hyz : ys = hd ++ l.flatMap insBytes := by rw [hys, hhd, ht2, ht1]; simp [procBytes]
  have HCK := Lib.hid hck
  have C1 := Lib.hid c1
  have C2 := Lib.hid c2
  have C3 := Lib.hid c3
  have HYZ := Lib.hid hyz
  have HALL := Lib.hid hall
  have HR := Lib.hid hr
  have HIN := Lib.hid hin
  have HL3 := Lib.hid l3
  clear hck c1 c2 c3 hyz hall hr hin hys ht1 ht2 hhd hz he hnm l1 l2 l3 hz1
  unfold procCells at *
  go_enter Tryz.func48, Tryz.ntmps48
  have L1 := Loc.new w #[.string name, .int .i64 args, .slice A l.length cap] 54
  have b1 := (Below.refl w.heap.size w).alloc (Nat.le_refl _) (.cells #[.string name, .int .i64 args, .slice A l.length cap] 54)
  go_wp2_with fail
  refine (HCK.out _ (HR.out.of_below b1 (Nat.le_refl _))).mono ?_; rintro e w2 ⟨rfl, hb⟩
  have L2 := L1.below hb L1.lt
  have b2 := below_then b1 hb b1.size
  have p0 := L2.cell 0; have p1 := L2.cell 1; have p2 := L2.cell 2
  simp at p0 p1 p2
  clear L1 b1 hb
  go_wp2_with fail
  refine (C1.out _).mono ?_; rintro e w3 ⟨A3, k3, rfl, o3, hb⟩
  have L3 := L2.below hb L2.lt
  have b3 := below_then b2 hb b2.size
  have T4 := Loc.new w3 #[.slice A3 t1.length k3, .int .i64 0] 104
  have L4 := L3.alloc (.cells #[.slice A3 t1.length k3, .int .i64 0] 104)
  have b4 := b3.alloc b3.size (.cells #[.slice A3 t1.length k3, .int .i64 0] 104)
  have o4 := owns_mono' (owns_mono o3 b2.size) ((Below.refl w3.heap.size w3).alloc (Nat.le_refl _) (.cells #[.slice A3 t1.length k3, .int .i64 0] 104))
  have p0' := L3.cell 0; have p1' := L3.cell 1; have p2' := L3.cell 2
  simp at p0' p1' p2'
  have hlt := L3.lt
  clear p0 p1 p2 L2 L3 b2 b3 o3 hb
  go_wp2_with fail
  have hsz : w.heap.size ≤ w3.heap.size := Nat.le_of_lt hlt
  have hne : ¬ w3.heap.size = w.heap.size := by omega
  refine (C2.out A3 k3 _ (Row.of_owns o4) (owns_none o4)).mono ?_; rintro e w5 ⟨A5, k5, rfl, o5, hb⟩
  have T5 := T4.below hb T4.lt
  have L5 := L4.below hb L4.lt
  have b5 := below_then b4 hb b4.size
  have t0 := T5.cell 0; have t1' := T5.cell 1; have f0 := T5.free 0; have f1 := T5.free 1
  have q0 := L5.cell 0; have q1 := L5.cell 1; have q2 := L5.cell 2
  simp at t0 t1' q0 q1 q2
  obtain ⟨T6, o6⟩ := ws_put T5 (owns_mono o5 b4.size)
  have L6 := (L5.other (a := ⟨w3.heap.size, 0, none⟩) (fun h => hne h.symm) (.slice A5 t2.length k5)).other (a := ⟨w3.heap.size, 1, none⟩) (fun h => hne h.symm) (.int .i64 0)
  have b6 := (b5.setCell (p := ⟨w3.heap.size, 0, none⟩) hsz (.slice A5 t2.length k5)).setCell (p := ⟨w3.heap.size, 1, none⟩) hsz (.int .i64 0)
  clear T4 L4 b4 o4 p0' p1' p2' o5 hb
  go_wp2_with fail
  refine (C3.out A5 k5 _ (Row.of_owns o6) (owns_none o6)).mono ?_; rintro e w7 ⟨A7, k7, rfl, o7, hb⟩
  have T7 := T6.below hb T6.lt
  have L7 := L6.below hb L6.lt
  have b7 := below_then b6 hb b6.size
  clear t0 t1' f0 f1 q0 q1 q2 T5 L5 b5 
  have t0 := T7.cell 0; have t1' := T7.cell 1; have f0 := T7.free 0; have f1 := T7.free 1
  have q0 := L7.cell 0; have q1 := L7.cell 1; have q2 := L7.cell 2
  simp at t0 t1' q0 q1 q2
  obtain ⟨T8, o8⟩ := ws_put T7 (owns_mono o7 b6.size)
  have L8 := (L7.other (a := ⟨w3.heap.size, 0, none⟩) (fun h => hne h.symm) (.slice A7 hd.length k7)).other (a := ⟨w3.heap.size, 1, none⟩) (fun h => hne h.symm) (.int .i64 0)
  have b8 := (b7.setCell (p := ⟨w3.heap.size, 0, none⟩) hsz (.slice A7 hd.length k7)).setCell (p := ⟨w3.heap.size, 1, none⟩) hsz (.int .i64 0)
  clear T6 L6 b6 o6 o7 hb T7 L7 b7
  go_wp2_with fail
  obtain ⟨zj, hzj⟩ : ∃ zj : Nat → Bs, zj = fun j => hd ++ (l.take j).flatMap insBytes := ⟨_, rfl⟩
  have z0 : zj 0 = hd := by rw [hzj]; simp
  have zl : zj l.length = ys := by rw [hzj, HYZ.out]; simp
  have zs : ∀ j (h : j < l.length), zj (j + 1) = zj j ++ insBytes l[j] := fun j h => by
   have htake : l.take (j + 1) = l.take j ++ [l[j]] := List.take_succ_eq_append_getElem h
   rw [hzj]
   simp only [htake, List.flatMap_append, List.flatMap_cons, List.flatMap_nil, List.append_nil, List.append_assoc]
  have zb : ∀ j, j ≤ l.length → (zj j).length ≤ 62 + 400 * 64 := fun j hj => by
   have h2 := codeBytes_le (l := l.take j) (fun x hx => by
    obtain ⟨k, hk, rfl⟩ := List.getElem_of_mem (List.mem_of_mem_take hx)
    exact (insCheck_zero (HALL.out k hk)).2.2)
   have := HL3.out
   rw [hzj]
   simp only [List.length_append, List.length_take] at *; omega
  have Z0 := Lib.hid z0
  have ZL := Lib.hid zl
  have ZS := Lib.hid zs
  have ZB := Lib.hid zb
  clear hzj z0 zl zs zb HYZ t0 t1' f0 f1 q0 q1 q2
  go_loopw [7] (fun i wr => ∃ (j : Nat) (B : Option Addr) (c : Nat), j ≤ l.length ∧ i = .int .i64 j ∧ Loc wr w3.heap.size #[.slice B (zj j).length c, .int .i64 0] 104 ∧ wr.ownsRow w.heap.size 5 1 (.slice B (zj j).length c) (zj j).length (cellsB (zj j)) ∧
    Loc wr w.heap.size #[.string name, .int .i64 args, .slice A l.length cap] 54 ∧ Below w.heap.size w wr) (fun i _ => l.length - (intOf i).toNat)
  case atStart => exact ⟨0, A7, k7, Nat.zero_le _, rfl, by rw [Z0.out]; exact T8, by rw [Z0.out]; exact o8, L8, b8⟩
  case round =>
   obtain ⟨wi, rfl⟩ : ∃ wi, wi = wr := ⟨_, rfl⟩
   obtain ⟨j, B, c, hj, rfl, Ti, oi, Li, bi⟩ := hrel
   clear T8 o8 L8 b8
   have q2 := Li.cell 2
   have t0 := Ti.cell 0; have t1' := Ti.cell 1
   simp at q2 t0 t1'
   by_cases hjl : j < l.length
   ·obtain ⟨b, off, rfl, hc⟩ := HR.out.ins (by omega)
    have hx := hc j hjl
    have hck := HALL.out j hjl
    have hin := HIN.out.2 l[j] (List.getElem_mem hjl)
    have hzj := ZS.out j hjl
    have hzb := ZB.out (j + 1) (by omega)
    have hjl' : (j : Int) < (l.length : Int) := by omega
    obtain ⟨pre, hpre⟩ : ∃ pre, pre = zj j := ⟨_, rfl⟩
    rw [← hpre] at Ti oi t0 hzj
    obtain ⟨zn, hzn⟩ : ∃ zn, zn = zj (j + 1) := ⟨_, rfl⟩
    rw [← hzn] at hzj hzb
    have HZN := Lib.hid hzn
    clear hpre hzn hc
    generalize l[j] = x at *
    have hbl : b < w.heap.size := World.block_lt_of_cell? w _ ((hx 0 (by decide)).trans rfl)
    have hxi : ∀ i, i < 8 → wi.cell? ⟨b, off + j * 8 + i, none⟩ = (insCells x)[i]? := fun i hi => (bi.cell (p := ⟨b, off + j * 8 + i, none⟩) hbl).trans (hx i hi)
    obtain ⟨⟨ho1, ho2⟩, _, hval⟩ := insCheck_zero hck
    have hmay := fun c (hc : c ∈ fieldsS x.op) => let_may hck hc
    rw [ins_bytes ho1 ho2] at hzj
    have hfs := fun W => refFields_any x.op W
    obtain ⟨zs, hzs⟩ : ∃ zs : Nat → Bs, zs = fun k => pre ++ [UInt8.ofNat x.op.toNat] ++ ((fieldsS x.op).take k).flatMap (letBytes x) := ⟨_, rfl⟩
    have hz0 : zs 0 = pre ++ [UInt8.ofNat x.op.toNat] := by rw [hzs]; simp
    have hzl : zs (fieldsS x.op).length = zn := by rw [hzs, hzj]; simp
    have hzk : ∀ k (h : k < (fieldsS x.op).length), zs (k + 1) = zs k ++ letBytes x (fieldsS x.op)[k] := fun k h => by
     have htake : (fieldsS x.op).take (k + 1) = (fieldsS x.op).take k ++ [(fieldsS x.op)[k]] := List.take_succ_eq_append_getElem h
     rw [hzs]
     simp only [htake, List.flatMap_append, List.flatMap_cons, List.flatMap_nil, List.append_nil, List.append_assoc]
    have hzkb : ∀ k, k ≤ (fieldsS x.op).length → (zs k).length ≤ zn.length := fun k h => by
     rw [← hzl, hzs]
     have h1 : (fieldsS x.op) = (fieldsS x.op).take k ++ (fieldsS x.op).drop k := (List.take_append_drop _ _).symm
     simp only [List.length_append, List.take_length]
     conv => rhs; rw [h1, List.flatMap_append]
     simp only [List.length_append]
     omega
    have hby := fun A c W (h : Row W A (cellsB pre)) (hA : A = none → pre.length = 0) => rwbyte_num A pre.length c pre x.op W h rfl hA (by have := hzkb 0 (Nat.zero_le _); rw [hz0] at this; simp at this; omega) (by omega) (by omega)
    rw [← hz0] at hby
    obtain ⟨fs, hfse⟩ : ∃ fs, fs = fieldsS x.op := ⟨_, rfl⟩
    rw [← hfse] at hmay hfs hzl hzk hzkb
    have hfl : fs.length ≤ 4 := by rw [hfse]; exact fieldsS_le _
    obtain ⟨s, hs⟩ : ∃ s, s = ofBs fs := ⟨_, rfl⟩
    have hsz : s.size = fs.length := by rw [hs, ← size_data, ofBs_data]
    have hget : ∀ k (h : k < s.size) (h' : k < fs.length), s[k] = fs[k] := fun k h h' => by
     have h1 := bget s k h
     have hd : s.data.toList = fs := by rw [hs, ofBs_data]
     rw [hd, List.getElem?_eq_getElem h'] at h1
     exact (Option.some.inj h1).symm
    rw [← hs] at hfs
    obtain ⟨op, xa, xb, xc, xn, xv⟩ := x
    simp only at ho1 ho2 hval hmay hfs hby
    have x0 := hxi 0 (by decide); have x1 := hxi 1 (by decide); have x2 := hxi 2 (by decide); have x3 := hxi 3 (by decide)
    have x4 := hxi 4 (by decide); have x5 := hxi 5 (by decide); have x6 := hxi 6 (by decide); have x7 := hxi 7 (by decide)
    simp only [insCells, List.getElem?_toArray, List.getElem?_cons_zero, List.getElem?_cons_succ, Nat.add_zero] at x0 x1 x2 x3 x4 x5 x6 x7
    have hsi : w3.heap.size < wi.heap.size := Ti.lt
    have X1 := Loc.new wi #[.int .i64 op, .int .i64 xa, .int .i64 xb, .int .i64 xc, .int .i64 xn, .int .i64 xv.kind, .int .i64 xv.num, .string xv.text] 109
    have ha1 := (Below.refl wi.heap.size wi).alloc (Nat.le_refl _) (.cells #[.int .i64 op, .int .i64 xa, .int .i64 xb, .int .i64 xc, .int .i64 xn, .int .i64 xv.kind, .int .i64 xv.num, .string xv.text] 109)
    have S1 : ESt w (wi.alloc (.cells #[.int .i64 op, .int .i64 xa, .int .i64 xb, .int .i64 xc, .int .i64 xn, .int .i64 xv.kind, .int .i64 xv.num, .string xv.text] 109)) w3.heap.size wi.heap.size #[.string name, .int .i64 args, .slice (some ⟨b, off, none⟩) l.length cap]
      #[.int .i64 op, .int .i64 xa, .int .i64 xb, .int .i64 xc, .int .i64 xn, .int .i64 xv.kind, .int .i64 xv.num, .string xv.text] B c pre := ⟨Ti.alloc _, owns_mono' oi ha1, Li.alloc _, X1, bi.alloc bi.size _⟩
    have HMAY := Lib.hid hmay
    have HVAL := Lib.hid hval
    have HFS := Lib.hid hfs
    have HBY := Lib.hid hby
    have HZ0 := Lib.hid hz0
    have HZL := Lib.hid hzl
    have HZK := Lib.hid hzk
    have HZKB := Lib.hid hzkb
    have HSZ := Lib.hid hsz
    have HG := Lib.hid hget
    have hiv := hin.2.2.2.2.2
    obtain ⟨_, hia, _, _, hinn, _, _⟩ := hin
    have HIV := Lib.hid hiv
    have HIA := Lib.hid hia
    have HIN2 := Lib.hid hinn
    clear hmay hval hfs hby hz0 hzl hzk hzkb hsz hget hs hfse hzs hzj hx hxi hck Li bi X1 ha1 hiv hia hinn
    have ho3 : op < 256 := by omega
    go_wp2_with fail
    refine (HBY.out B c _ (Row.of_owns S1.o) (owns_none S1.o)).mono ?_; rintro e w5 ⟨A5, c5, rfl, o5, hb⟩
    obtain ⟨S2, v0, v1, f0, f1⟩ := S1.step hb o5 rfl hsz
    have i0 := (S1.below hb).x.cell 0
    simp at i0
    have hne2 : ¬ wi.heap.size = w3.heap.size := by omega
    clear S1 hb o5 Ti oi t0 t1' q2 x0 x1 x2 x3 x4 x5 x6 x7 HBY
    go_wp2_with fail
    refine (HFS.out _).mono ?_; rintro e w6 ⟨rfl, rfl⟩
    go_wp2_with fail
    clear v0 v1 f0 f1 i0
    obtain ⟨L, hL⟩ : ∃ L, L = fs.length := ⟨_, rfl⟩
    rw [← hL] at hfl
    have HL := Lib.hid hL
    clear hL
    go_loopw [10] (fun i wk => ∃ (k : Nat) (B : Option Addr) (c : Nat), k ≤ L ∧ i = .int .i64 k ∧ ESt w wk w3.heap.size wi.heap.size #[.string name, .int .i64 args, .slice (some ⟨b, off, none⟩) l.length cap]
      #[.int .i64 op, .int .i64 xa, .int .i64 xb, .int .i64 xc, .int .i64 xn, .int .i64 xv.kind, .int .i64 xv.num, .string xv.text] B c (zs k)) (fun i _ => L - (intOf i).toNat)
    case atStart => exact ⟨0, A5, c5, Nat.zero_le _, rfl, S2⟩
    case round =>
     obtain ⟨wk, rfl⟩ : ∃ wk, wk = wr := ⟨_, rfl⟩
     obtain ⟨k, B2, d, hk, rfl, S⟩ := hrel
     clear S2
     have t0 := S.t.cell 0; have t1' := S.t.cell 1
     have i0 := S.x.cell 0; have i1 := S.x.cell 1; have i2 := S.x.cell 2; have i3 := S.x.cell 3; have i4 := S.x.cell 4; have i5 := S.x.cell 5; have i6 := S.x.cell 6; have i7 := S.x.cell 7
     simp at t0 t1' i0 i1 i2 i3 i4 i5 i6 i7
     by_cases hkL : k < L
     ·have hkf : k < fs.length := by rw [← HL.out]; exact hkL
      have hks : k < s.size := by rw [HSZ.out]; exact hkf
      have hm := HMAY.out fs[k] (List.getElem_mem hkf)
      have hsk := HG.out k hks hkf
      have hz := HZK.out k hkf
      have hzb2 := HZKB.out k (by omega)
      have hks' : (k : Int) < (s.size : Int) := by omega
      generalize fs[k] = cc at *
      rcases hm with ⟨rfl, hm1, hm2⟩ | ⟨rfl, hm1, hm2⟩ | ⟨rfl, hm1, hm2⟩ | ⟨rfl, hm1⟩ | ⟨rfl, hm1⟩ | ⟨rfl, hm1⟩
      ·have hl : letBytes ⟨op, xa, xb, xc, xn, xv⟩ 65 = [UInt8.ofNat xa.toNat] := rfl
       rw [hl] at hz
       have hct := fun W (h : Row W B2 (cellsB (zs k))) (hA : B2 = none → (zs k).length = 0) => rwbyte_num B2 (zs k).length d (zs k) xa W h rfl hA (by omega) hm1 (by omega)
       rw [← hz] at hct
       have HCT := Lib.hid hct
       have hsk' : (s[k].toNat : Int) = 65 := by rw [hsk]; rfl
       clear hl hct hz hsk
       go_wp2_with fail
       refine (HCT.out _ (Row.of_owns S.o) (owns_none S.o)).mono ?_; rintro e V ⟨A', c', rfl, o', hb⟩
       obtain ⟨S', v0, v1, f0, f1⟩ := S.step hb o' rfl hsz
       clear S hb o' hsk'
       go_wp2
       go_roundw
       case rel => exact ⟨k + 1, A', c', by omega, by go_num, S'⟩
       case measure => simp [intOf]; omega
      ·have hl : letBytes ⟨op, xa, xb, xc, xn, xv⟩ 66 = [UInt8.ofNat xb.toNat] := rfl
       rw [hl] at hz
       have hct := fun W (h : Row W B2 (cellsB (zs k))) (hA : B2 = none → (zs k).length = 0) => rwbyte_num B2 (zs k).length d (zs k) xb W h rfl hA (by omega) hm1 (by omega)
       rw [← hz] at hct
       have HCT := Lib.hid hct
       have hsk' : (s[k].toNat : Int) = 66 := by rw [hsk]; rfl
       clear hl hct hz hsk
       go_wp2_with fail
       refine (HCT.out _ (Row.of_owns S.o) (owns_none S.o)).mono ?_; rintro e V ⟨A', c', rfl, o', hb⟩
       obtain ⟨S', v0, v1, f0, f1⟩ := S.step hb o' rfl hsz
       clear S hb o' hsk'
       go_wp2
       go_roundw
       case rel => exact ⟨k + 1, A', c', by omega, by go_num, S'⟩
       case measure => simp [intOf]; omega
      ·have hl : letBytes ⟨op, xa, xb, xc, xn, xv⟩ 67 = [UInt8.ofNat xc.toNat] := rfl
       rw [hl] at hz
       have hct := fun W (h : Row W B2 (cellsB (zs k))) (hA : B2 = none → (zs k).length = 0) => rwbyte_num B2 (zs k).length d (zs k) xc W h rfl hA (by omega) hm1 (by omega)
       rw [← hz] at hct
       have HCT := Lib.hid hct
       have hsk' : (s[k].toNat : Int) = 67 := by rw [hsk]; rfl
       clear hl hct hz hsk
       go_wp2_with fail
       refine (HCT.out _ (Row.of_owns S.o) (owns_none S.o)).mono ?_; rintro e V ⟨A', c', rfl, o', hb⟩
       obtain ⟨S', v0, v1, f0, f1⟩ := S.step hb o' rfl hsz
       clear S hb o' hsk'
       go_wp2
       go_roundw
       case rel => exact ⟨k + 1, A', c', by omega, by go_num, S'⟩
       case measure => simp [intOf]; omega
      ·have hl : letBytes ⟨op, xa, xb, xc, xn, xv⟩ 97 = encNumber xa := rfl
       rw [hl] at hz
       have hct := fun W (h : Row W B2 (cellsB (zs k))) (hA : B2 = none → (zs k).length = 0) => rwnumber_any B2 (zs k).length d (zs k) xa W h rfl hA (by omega) hm1 HIA.out.2
       rw [← hz] at hct
       have HCT := Lib.hid hct
       have hsk' : (s[k].toNat : Int) = 97 := by rw [hsk]; rfl
       clear hl hct hz hsk
       go_wp2_with fail
       refine (HCT.out _ (Row.of_owns S.o) (owns_none S.o)).mono ?_; rintro e V ⟨A', c', rfl, o', hb⟩
       obtain ⟨S', v0, v1, f0, f1⟩ := S.step hb o' rfl hsz
       clear S hb o' hsk'
       go_wp2
       go_roundw
       case rel => exact ⟨k + 1, A', c', by omega, by go_num, S'⟩
       case measure => simp [intOf]; omega
      ·have hl : letBytes ⟨op, xa, xb, xc, xn, xv⟩ 78 = encNumber xn := rfl
       rw [hl] at hz
       have hct := fun W (h : Row W B2 (cellsB (zs k))) (hA : B2 = none → (zs k).length = 0) => rwnumber_any B2 (zs k).length d (zs k) xn W h rfl hA (by omega) hm1 HIN2.out.2
       rw [← hz] at hct
       have HCT := Lib.hid hct
       have hsk' : (s[k].toNat : Int) = 78 := by rw [hsk]; rfl
       clear hl hct hz hsk
       go_wp2_with fail
       refine (HCT.out _ (Row.of_owns S.o) (owns_none S.o)).mono ?_; rintro e V ⟨A', c', rfl, o', hb⟩
       obtain ⟨S', v0, v1, f0, f1⟩ := S.step hb o' rfl hsz
       clear S hb o' hsk'
       go_wp2
       go_roundw
       case rel => exact ⟨k + 1, A', c', by omega, by go_num, S'⟩
       case measure => simp [intOf]; omega
      ·have hl : letBytes ⟨op, xa, xb, xc, xn, xv⟩ 86 = encText (datumBytes xv) := rfl
       rw [hl] at hz
       have hdl := datumBytes_le hm1
       have hde : datumEncode xv = (datumBytes xv, 0) := by unfold datumEncode; rw [if_pos hm1]
       have hdn := fun W => rdenc_any xv W ⟨HIV.out.2.1, HIV.out.2.2⟩
       rw [hde] at hdn
       obtain ⟨db, hdb⟩ : ∃ db, db = datumBytes xv := ⟨_, rfl⟩
       rw [← hdb] at hdn hdl hz
       have hct := fun W (h : Row W B2 (cellsB (zs k))) (hA : B2 = none → (zs k).length = 0) => rwtext_any B2 (zs k).length d (zs k) ⟨db.toArray⟩ W h rfl hA (by show (zs k).length + db.toArray.size + 10 ≤ _; rw [List.size_toArray]; omega)
       rw [show (⟨db.toArray⟩ : ByteArray).data.toList = db from rfl, ← hz] at hct
       have HCT := Lib.hid hct
       unfold valCells at hdn
       have HDN := Lib.hid hdn
       have hsk' : (s[k].toNat : Int) = 86 := by rw [hsk]; rfl
       clear hl hct hz hsk hde hdn hdb hm1
       go_wp2_with fail
       refine (HDN.out _).mono ?_; rintro e V ⟨A', c', rfl, o', hb⟩
       have hcv := run_ofBytes (P := Tryz.prog) 33 9 5 Tryz.underlying33 Tryz.underlying5 Tryz.underlying9 (W := V) (A := A') (xs := db) db.length c' rfl (Row.of_owns o') (owns_none o')
       have S1 := S.below hb
       clear S t0 t1' i0 i1 i2 i3 i4 i5 i6 i7 hsk' o' hb
       have t0 := S1.t.cell 0; have t1' := S1.t.cell 1
       simp at t0 t1'
       go_wp2_with fail
       refine (HCT.out _ (Row.of_owns S1.o) (owns_none S1.o)).mono ?_; rintro e V2 ⟨A2, c2, rfl, o2, hb⟩
       obtain ⟨S', v0, v1, f0, f1⟩ := S1.step hb o2 rfl hsz
       clear S1 hb o2 hcv
       go_wp2
       go_roundw
       case rel => exact ⟨k + 1, A2, c2, by omega, by go_num, S'⟩
       case measure => simp [intOf]; omega
     ·obtain rfl : k = L := by omega
      have hsl : (s.size : Int) ≤ (k : Int) := by have := HSZ.out; have := HL.out; omega
      have hzz : zs k = zj (j + 1) := by rw [HL.out, HZL.out, HZN.out]
      rw [hzz] at S
      clear hzz t0
      go_wp2
      go_roundw
      case rel => exact ⟨j + 1, B2, d, by omega, by go_num, S.t, S.o, S.p, S.b⟩
      case measure => simp [intOf]; omega
   ·obtain rfl : j = l.length := by omega
    rw [ZL.out] at Ti oi t0
    go_wp2
    go_ret2
    exact ⟨B, c, rfl, oi, bi⟩
 ·have he : procEncode p = ([], (procCheck p).2) := by unfold procEncode; rw [if_neg hz]
  rw [he]
  obtain ⟨E1, E2, hE⟩ : ∃ E1 E2, (E1, E2) = procCheck p := ⟨_, _, rfl⟩
  rw [← hE] at hz hck ⊢
  have hE' : (E2 != 0) = true := by simpa using hz
  obtain ⟨name, args, l⟩ := p
  simp only at *
  have HCK := Lib.hid hck
  have HR := Lib.hid hr
  clear hck hE hz he hr hin
  unfold procCells at *
  go_enter Tryz.func48, Tryz.ntmps48
  have b1 := (Below.refl w.heap.size w).alloc (Nat.le_refl _) (.cells #[.string name, .int .i64 args, .slice A l.length cap] 54)
  go_wp2_with fail
  refine (HCK.out _ (HR.out.of_below b1 (Nat.le_refl _))).mono ?_; rintro e w2 ⟨rfl, hb⟩
  go_wp2
  go_ret2
  exact ⟨none, 0, rfl, World.ownsRow_nil _ _ _ _, below_then b1 hb b1.size⟩
end Go.Proofs.YtnieminnnkbneaaGreat
