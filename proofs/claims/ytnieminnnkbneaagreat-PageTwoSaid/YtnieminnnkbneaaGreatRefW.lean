/- Walks of treadleref1's writer, which goes by value. -/
import Derived.Test.YtnieminnnkbneaaGreatGen
import Derived.Test.YtnieminnnkbneaaGreatOctW
namespace Go.Proofs.YtnieminnnkbneaaGreat
open Go.RowKit

/-- A writer's value is answered: the bytes are memory of its own. -/
def RW (xs : Bs) (w : World) (e : Ending) (w' : World) : Prop :=
  ∃ A c, e = .returned (.agg #[.slice A xs.length c, .int .i64 0]) ∧ w'.ownsRow w.heap.size 5 1 (.slice A xs.length c) xs.length (cellsB xs) ∧ Below w.heap.size w w'

set_option maxRecDepth 100000 in
set_option maxHeartbeats 2000000 in
theorem rlaid_any (A B : Option Addr) (n m ca cb : Nat) (xs ys : Bs) (w : World) (ha : Row w A (cellsB xs)) (hb : Row w B (cellsB ys)) (hn : n = xs.length) (hm : m = ys.length) (hA : A = none → n = 0) (hB : B = none → m = 0) (hl : n + m ≤ 140737488355328) :
    Calls Tryz.prog 90 #[.agg #[.slice A n ca, .int .i64 0], .slice B m cb] w (RW (xs ++ ys) w) := by
  have HN := Lib.hid hn
  have HM := Lib.hid hm
  have HB := Lib.hid hb
  have b1 := ((Below.refl w.heap.size w).alloc (Nat.le_refl _) (.cells #[.slice A n ca, .int .i64 0] 104)).alloc (by simp) (.cells #[.slice none 0 0, .int .i64 0] 104)
  have L1 := (Loc.new w #[.slice A n ca, .int .i64 0] 104).alloc (.cells #[.slice none 0 0, .int .i64 0] 104)
  have Z1 := Loc.new (w.alloc (.cells #[.slice A n ca, .int .i64 0] 104)) #[.slice none 0 0, .int .i64 0] 104
  simp only [World.size_alloc] at Z1
  have hsrc := (ha.of_below b1 (Nat.le_refl _)).src (P := Tryz.prog) (size := 1) (n := n) (c := ca) (tx := 33) Tryz.underlying33 (by rw [cellsB_length, hn]; omega) (cellsB_one xs) hA
  have HSRC := Lib.hid hsrc
  clear hsrc ha hb hn hm hA
  go_enter Tryz.func90, Tryz.ntmps90
  go_wp2_with (first | (at_builtin; refine wpList_append_mine _ rfl _ _ 33 33 rfl 5 (.int .u8 0) 1 1 Tryz.underlying33 infoU8 rfl (by decide) (.slice none 0 0) 0 [] rfl (World.ownsRow_nil _ _ _ _) (.slice A n ca) n (cellsB xs) rfl HSRC.out (by unfold maxLen; omega) (by omega) ?_; intro A1 c1 w1 hown1 hg1 hb1 hx1; have L2 := L1.grown hg1 (by simp [Value.ownBlock]); have Z2 := Z1.grown hg1 (by simp [Value.ownBlock]); obtain ⟨o1, b2⟩ := own_next0 (World.ownsRow_nil _ w.heap.size _ _) hown1 hg1 hb1 b1.size b1; rw [Nat.zero_add, List.nil_append] at o1; clear hx1 hg1 hb1 hown1; have HSB := Lib.hid ((HB.out.of_below b2 (Nat.le_refl _)).src (P := Tryz.prog) (size := 1) (n := m) (c := cb) (tx := 33) Tryz.underlying33 (by rw [cellsB_length, HM.out]; omega) (cellsB_one ys) hB)) | (at_builtin; refine wpList_append_mine _ rfl _ _ 33 33 rfl 5 (.int .u8 0) 1 1 Tryz.underlying33 infoU8 rfl (by decide) (.slice A1 n c1) n (cellsB xs) rfl (owns_base o1 (fun _ _ => Nat.zero_le _)) (.slice B m cb) m (cellsB ys) rfl HSB.out (by unfold maxLen; omega) (by omega) ?_; intro A2 c2 w2 hown2 hg2 hb2 hx2; have L3 := L2.grown hg2 (owns_ne o1 L2 (by decide)); have Z3 := Z2.grown hg2 (owns_ne o1 Z2 (by decide)); obtain ⟨o2, b3⟩ := own_next0 o1 hown2 hg2 hb2 b2.size b2; have l0 := L3.cell 0; have l1 := L3.cell 1; have lf := L3.free 0; have z0 := Z3.cell 0; have z1 := Z3.cell 1; have zf0 := Z3.free 0; have zf1 := Z3.free 1; simp at l0 l1 z0 z1; clear hx2 hg2 hb2 hown2))
  have o3 := owns_setCell (a := ⟨w.heap.size, 0, none⟩) o2 (owns_ne o2 L3 (by decide)) (.slice A2 (n + m) c2)
  have Z4 := Z3.other (a := ⟨w.heap.size, 0, none⟩) (by show w.heap.size + 1 ≠ w.heap.size; omega) (.slice A2 (n + m) c2)
  have o4 := owns_setCell (a := ⟨w.heap.size + 1, 0, none⟩) o3 (owns_ne o3 Z4 (by decide)) (.slice A2 (n + m) c2)
  have Z5 := Z4.set 0 (.slice A2 (n + m) c2)
  have o5 := owns_setCell (a := ⟨w.heap.size + 1, 1, none⟩) o4 (owns_ne o4 Z5 (by decide)) (.int .i64 0)
  have Z6 := Z5.set 1 (.int .i64 0)
  have b6 := ((b3.setCell (p := ⟨w.heap.size, 0, none⟩) (Nat.le_refl _) (.slice A2 (n + m) c2)).setCell (p := ⟨w.heap.size + 1, 0, none⟩) (Nat.le_succ _) (.slice A2 (n + m) c2)).setCell (p := ⟨w.heap.size + 1, 1, none⟩) (Nat.le_succ _) (.int .i64 0)
  have e0 := Z6.cell 0; have e1 := Z6.cell 1
  simp at e0 e1
  have hln : (xs ++ ys).length = n + m := by rw [List.length_append, HN.out, HM.out]
  refine bodyPost_ret (v := .agg #[.slice A2 (n + m) c2, .int .i64 0]) (by simp [results, Tryz.results90, go_sem, e0, e1]) rfl ?_
  unfold RW
  rw [hln, cellsB_append]
  exact ⟨A2, c2, rfl, o5, b6⟩

set_option maxHeartbeats 2000000 in
theorem rsevens_any (u : Nat) (w : World) (hu : u < 18446744073709551616) :
    Calls Tryz.prog 91 #[.int .u64 u] w fun e w' => ∃ A c, e = .returned (.slice A (sevens u).length c) ∧ w'.ownsRow w.heap.size 5 1 (.slice A (sevens u).length c) (sevens u).length (cellsB (sevens u)) ∧
      Below w.heap.size w w' := by
  go_enter Tryz.func91, Tryz.ntmps91
  go_wp2
  go_loopw [0, 3] (fun t v wr => ∃ (pre : Bs) (k f : Nat) (A : Option Addr) (c : Nat), sevens u = pre ++ sevF (f + 1) k ∧ k < 18446744073709551616 ∧ pre.length + f ≤ 9 ∧ (k < 128 ^ (f + 1)) ∧ t = .int .u64 k ∧ v = .slice A pre.length c ∧
      wr.ownsRow w.heap.size 5 1 (.slice A pre.length c) pre.length (cellsB pre) ∧ Below w.heap.size w wr)
    (fun t _ _ => (intOf t).toNat)
  case atStart => exact ⟨[], u, 9, none, 0, rfl, hu, by simp, by omega, rfl, rfl, World.ownsRow_nil _ _ _ _, Below.refl _ _⟩
  case round =>
    rename_i wr
    obtain ⟨pre, k, f, A, c, h1, h2, h3, h4, rfl, rfl, hown, hb⟩ := hrel
    have hsz := hb.size
    by_cases hk : 128 ≤ k
    · obtain ⟨f, rfl⟩ : ∃ g, f = g + 1 := by
        cases f with
        | zero => omega
        | succ g => exact ⟨g, rfl⟩
      obtain ⟨b, hbb⟩ : ∃ b, b = UInt8.ofNat (k % 128 + 128) := ⟨_, rfl⟩
      have hbn : b.toNat = k % 128 + 128 := by rw [hbb, UInt8.toNat_ofNat']; omega
      have hs1 : sevens u = (pre ++ [b]) ++ sevF (f + 1) (k / 128) := by
        rw [h1, sevF, if_neg (by omega), List.append_assoc, hbb]; rfl
      have hs2 : k / 128 < 128 ^ (f + 1) := by
        rw [Nat.pow_succ] at h4; exact Nat.div_lt_of_lt_mul (by rw [Nat.mul_comm]; exact h4)
      have HS1 := Lib.hid hs1
      have HS2 := Lib.hid hs2
      have hsrc : Src Tryz.prog 1 33 (.slice (some ⟨wr.heap.size, 0, none⟩) 1 1) 1 (cellsB [b]) (wr.alloc (.cells #[.int .u8 ((k : Int) % 128 + 128)] 5)) := by
        have h := Row.new wr (cellsB [b]) 5
        have h' := h.src (P := Tryz.prog) (size := 1) (n := 1) (c := 1) Tryz.underlying33 rfl (cellsB_one [b]) (by simp)
        rw [show ((k : Int) % 128 + 128) = (b.toNat : Int) by omega]; exact h'
      clear h1 h4 hs1 hs2 hbb hbn
      have hk' : (128 : Int) ≤ (k : Int) := by omega
      go_wp2_with (at_builtin; refine wpList_append_mine _ rfl _ _ 33 33 rfl 5 (.int .u8 0) 1 1 Tryz.underlying33 infoU8 rfl (by decide) (.slice A pre.length c) _ _ rfl ((owns_base hown (fun _ _ => Nat.zero_le _)).alloc _) _ 1 (cellsB [b]) rfl hsrc (by unfold maxLen; omega) (by omega) ?_; intro A1 cap1 w1 hown1 hg hbl _)
      go_roundw
      case rel =>
        obtain ⟨ho, hbe⟩ := own_next hown hown1 hg hbl hsz hb
        exact ⟨pre ++ [b], k / 128, f, A1, cap1, HS1.out, by omega, by simp; omega, HS2.out, by simp, by simp, by simpa [cellsB_append] using ho, hbe⟩
      case measure => simp [intOf]; omega
    · obtain ⟨b, hbb⟩ : ∃ b, b = UInt8.ofNat k := ⟨_, rfl⟩
      have hbit := low256 k
      rw [← hbb] at hbit
      have hs1 : sevens u = pre ++ [b] := by
        rw [h1, sevF, if_pos (by omega), hbb]
      have HS1 := Lib.hid hs1
      have h3' : pre.length ≤ 9 := by omega
      have hk' : ¬ (128 : Int) ≤ (k : Int) := by omega
      have hkk : (k : Int) % 256 = (k : Int) := by omega
      have hkb : ((k : Int) = (b.toNat : Int)) := by omega
      have hsrc : Src Tryz.prog 1 33 (.slice (some ⟨wr.heap.size, 0, none⟩) 1 1) 1 (cellsB [b]) (wr.alloc (.cells #[.int .u8 (k : Int)] 5)) := by
        have h := Row.new wr (cellsB [b]) 5
        have h' := h.src (P := Tryz.prog) (size := 1) (n := 1) (c := 1) Tryz.underlying33 rfl (cellsB_one [b]) (by simp)
        rw [hkb]; exact h'
      clear h1 h3 h4 hs1 hbb hbit hkk hkb
      go_wp2_with (at_builtin; refine wpList_append_mine _ rfl _ _ 33 33 rfl 5 (.int .u8 0) 1 1 Tryz.underlying33 infoU8 rfl (by decide) (.slice A pre.length c) _ _ rfl ((owns_base hown (fun _ _ => Nat.zero_le _)).alloc _) _ 1 (cellsB [b]) rfl hsrc (by unfold maxLen; omega) (by omega) ?_; intro A1 cap1 w1 hown1 hg hbl _)
      go_ret
      obtain ⟨ho, hbe⟩ := own_next hown hown1 hg hbl hsz hb
      have hl : (sevens u).length = pre.length + 1 := by rw [HS1.out]; simp
      refine ⟨A1, cap1, by rw [hl]; rfl, ?_, hbe⟩
      rw [hl, HS1.out, cellsB_append]; exact ho

/-- What the result's cell holds, when a writer's value is answered through it. -/
theorem rw_end {w W : World} {r n c : Nat} {A : Option Addr} {zs : Bs} {c0 c1 : Value} (hr : Loc W r #[c0, c1] 104) (hw : w.heap.size ≤ r) (hn : n = zs.length) (hown : W.ownsRow w.heap.size 5 1 (.slice A n c) n (cellsB zs)) (hb : Below w.heap.size w W) :
    ((W.setCell ⟨r, 0, none⟩ (.slice A n c)).setCell ⟨r, 1, none⟩ (.int .i64 0)).cell? ⟨r, 0, none⟩ = some (.slice A n c) ∧ ((W.setCell ⟨r, 0, none⟩ (.slice A n c)).setCell ⟨r, 1, none⟩ (.int .i64 0)).cell? ⟨r, 1, none⟩ = some (.int .i64 0) ∧
      RW zs w (.returned (.agg #[.slice A n c, .int .i64 0])) ((W.setCell ⟨r, 0, none⟩ (.slice A n c)).setCell ⟨r, 1, none⟩ (.int .i64 0)) := by
  have h0 := hr.set 0 (.slice A n c)
  have h1 := h0.set 1 (.int .i64 0)
  have o0 := owns_setCell (a := ⟨r, 0, none⟩) hown (owns_ne hown hr (by decide)) (.slice A n c)
  have o1 := owns_setCell (a := ⟨r, 1, none⟩) o0 (owns_ne o0 h0 (by decide)) (.int .i64 0)
  have e0 := h1.cell 0; have e1 := h1.cell 1
  simp at e0 e1
  refine ⟨e0, e1, ?_⟩
  subst hn
  exact ⟨A, c, rfl, o1, (hb.setCell (p := ⟨r, 0, none⟩) hw _).setCell (p := ⟨r, 1, none⟩) hw _⟩

set_option maxRecDepth 100000 in
set_option maxHeartbeats 2000000 in
theorem rwbyte_any (A : Option Addr) (n ca : Nat) (xs : Bs) (v : UInt8) (w : World) (ha : Row w A (cellsB xs)) (hn : n = xs.length) (hA : A = none → n = 0) (hl : n + 1 ≤ 140737488355328) :
    Calls Tryz.prog 88 #[.agg #[.slice A n ca, .int .i64 0], .int .u8 v.toNat] w (RW (xs ++ [v]) w) := by
  have b1 := (((Below.refl w.heap.size w).alloc (Nat.le_refl _) (.cells #[.slice A n ca, .int .i64 0] 104)).alloc (by simp) (.cells #[.slice none 0 0, .int .i64 0] 104)).alloc (by simp; omega) (.cells #[.int .u8 v.toNat] 5)
  have Z1 := (Loc.new (w.alloc (.cells #[.slice A n ca, .int .i64 0] 104)) #[.slice none 0 0, .int .i64 0] 104).alloc (.cells #[.int .u8 v.toNat] 5)
  have hrow := Row.new ((w.alloc (.cells #[.slice A n ca, .int .i64 0] 104)).alloc (.cells #[.slice none 0 0, .int .i64 0] 104)) (cellsB [v]) 5
  simp only [World.size_alloc] at Z1 hrow
  obtain ⟨zs, hzs⟩ : ∃ zs, zs = xs ++ [v] := ⟨_, rfl⟩
  have hlaid := rlaid_any A (some ⟨w.heap.size + 1 + 1, 0, none⟩) n 1 ca 1 xs [v] _ (ha.of_below b1 (Nat.le_refl _)) hrow hn rfl hA (fun h => by cases h) hl
  rw [← hzs] at hlaid ⊢
  have HL := Lib.hid hlaid
  clear ha hrow hlaid hzs hn
  go_enter Tryz.func88, Tryz.ntmps88
  go_wp2_with fail
  refine HL.out.mono ?_; rintro e w1 ⟨A2, c2, rfl, o2, hb⟩
  have Z2 := Z1.below hb Z1.lt
  have b2 := below_then b1 hb b1.size
  have o3 := owns_mono o2 b1.size
  have z0 := Z2.cell 0; have z1 := Z2.cell 1; have f0 := Z2.free 0; have f1 := Z2.free 1
  simp at z0 z1
  clear HL hb Z1 o2
  go_wp2
  obtain ⟨e0, e1, hrw⟩ := rw_end Z2 (Nat.le_succ _) rfl o3 b2
  exact bodyPost_ret (v := .agg #[.slice A2 zs.length c2, .int .i64 0]) (by simp [results, Tryz.results88, go_sem, e0, e1]) rfl hrw

theorem take_at1 {P : Program} {md : Region.Mode} {ops : Array Oper} {Q : Exit → Act → World → Prop} {S : World → Prop} (i d : Nat) {oi : Oper} {v : Value} {fuel : Nat} {listed : Array Bool} {a : Act} {w : World} (hi : ops[i]? = some oi) (hd : oi.dst = some d)
    (hs : Region.noSelect ops = true) (hf : Region.free md ops listed i = true) (hr : (Region.ready md ops listed).contains i = true)
    (hQ : ∀ c a w, Q (.panic c) (a.put oi.dst v) w → Q (.panic c) a w) (hy : YieldsIf P ops S oi v a) (hS : S w)
    (h : wpAnyH P md ops Q S fuel (listed.setIfInBounds i true) (a.put (some d) v) w) : wpAnyH P md ops Q S (fuel + 1) listed a w :=
  wpAnyH_take hi hs hf hr hQ hy hS (by rw [hd]; exact h)

theorem two_far {w : World} {b : Nat} {v0 v1 : Value} (h : w.cell? ⟨b, 0, none⟩ = some v0 ∧ w.cell? ⟨b, 1, none⟩ = some v1) (u v : Value) :
    ((w.setCell ⟨b + 1, 0, none⟩ u).setCell ⟨b + 1, 1, none⟩ v).cell? ⟨b, 0, none⟩ = some v0 ∧ ((w.setCell ⟨b + 1, 0, none⟩ u).setCell ⟨b + 1, 1, none⟩ v).cell? ⟨b, 1, none⟩ = some v1 := by
  have hne : b + 1 ≠ b := by omega
  constructor
  · rw [World.cell?_setCell_far _ _ _ _ hne, World.cell?_setCell_far _ _ _ _ hne]; exact h.1
  · rw [World.cell?_setCell_far _ _ _ _ hne, World.cell?_setCell_far _ _ _ _ hne]; exact h.2

set_option maxRecDepth 100000 in
set_option maxHeartbeats 4000000 in
theorem rwnumber_any (A : Option Addr) (n ca : Nat) (xs : Bs) (v : Int) (w : World) (ha : Row w A (cellsB xs)) (hn : n = xs.length) (hA : A = none → n = 0) (hl : n + 10 ≤ 140737488355328) (h0 : 0 ≤ v) (h1 : v ≤ 9223372036854775807) :
    Calls Tryz.prog 45 #[.agg #[.slice A n ca, .int .i64 0], .int .i64 v] w (RW (xs ++ encNumber v) w) := by
  obtain ⟨k, rfl⟩ := Int.eq_ofNat_of_zero_le h0
  have b1 := ((Below.refl w.heap.size w).alloc (Nat.le_refl _) (.cells #[.slice A n ca, .int .i64 0] 104)).alloc (by simp) (.cells #[.slice none 0 0, .int .i64 0] 104)
  have L1 := (Loc.new w #[.slice A n ca, .int .i64 0] 104).alloc (.cells #[.slice none 0 0, .int .i64 0] 104)
  have Z1 := Loc.new (w.alloc (.cells #[.slice A n ca, .int .i64 0] 104)) #[.slice none 0 0, .int .i64 0] 104
  simp only [World.size_alloc] at Z1
  obtain ⟨w1, hw1⟩ : ∃ w1, w1 = (w.alloc (.cells #[.slice A n ca, .int .i64 0] 104)).alloc (.cells #[.slice none 0 0, .int .i64 0] 104) := ⟨_, rfl⟩
  obtain ⟨zs, hzs⟩ : ∃ zs, zs = xs ++ encNumber (k : Int) := ⟨_, rfl⟩
  obtain ⟨ys, hys⟩ : ∃ ys, ys = sevens k := ⟨_, rfl⟩
  have hsv := fun W => rsevens_any k W (by omega)
  have hyl := sevens_le k
  have hzy : zs = xs ++ ys := by rw [hzs, hys]; rfl
  rw [← hys] at hsv hyl
  rw [← hw1] at b1 L1 Z1
  have hlaid := fun B cb W (h1 : Below w1.heap.size w1 W) (h2 : Row W B (cellsB ys)) (h3 : B = none → ys.length = 0) => rlaid_any A B n ys.length ca cb xs ys W ((ha.of_below b1 (Nat.le_refl _)).of_below h1 (Nat.le_refl _)) h2 hn rfl hA h3 (by omega)
  rw [← hzy] at hlaid
  rw [← hzs]
  have HS := Lib.hid hsv
  have HL := Lib.hid hlaid
  have hss : ∀ W, Below w1.heap.size w1 W → W.cell? ⟨w.heap.size, 0, none⟩ = some (.slice A n ca) ∧ W.cell? ⟨w.heap.size, 1, none⟩ = some (.int .i64 0) := fun W hW => by
    have l := L1.below hW L1.lt
    have c0 := l.cell 0; have c1 := l.cell 1
    simp at c0 c1
    exact ⟨c0, c1⟩
  have HSS := Lib.hid hss
  have HW := Lib.hid hw1
  clear ha hn hsv hlaid hzy hzs hys hss hw1
  go_enter Tryz.func45, Tryz.ntmps45
  have l0 := L1.cell 0; have l1 := L1.cell 1
  simp at l0 l1
  have hkm : IntKind.u64.wrap (k : Int) = (k : Int) := by simp [IntKind.bits, IntKind.wrap, IntKind.signed]; omega
  go_wp2
  rw [← HW.out]
  go_region_held3 (fun V => V.cell? ⟨w.heap.size, 0, none⟩ = some (.slice A n ca) ∧ V.cell? ⟨w.heap.size, 1, none⟩ = some (.int .i64 0)) ((first | (with_reducible exact t5 _ _) | (with_reducible exact HSS.out _ d4) | (with_reducible exact HSS.out _ d3) | exact ⟨l0, l1⟩)) ((first | (go_at_call 91; refine (HS.out _).mono ?_; rintro e w3 ⟨A3, c3, rfl, own3, hb3⟩; have d3 := below_then ((Below.refl w1.heap.size w1).drew) hb3 (Nat.le_refl _)) | (go_at_call 90; refine (HL.out A3 c3 _ d3 (Row.of_owns own3) (owns_none own3)).mono ?_; rintro e w4 ⟨A4, c4, rfl, own4, hb4⟩; have d4 := below_then d3 hb4 d3.size; have t5 := fun u v => two_far (HSS.out _ d4) u v; have Z4 := Z1.below d4 Z1.lt; have z0 := Z4.cell 0; have z1 := Z4.cell 1; have f0 := Z4.free 0; have f1 := Z4.free 1; simp at z0 z1)))
  go_wp2
  obtain ⟨e0, e1, hrw⟩ := rw_end Z4 (Nat.le_succ _) rfl (owns_mono own4 (Nat.le_trans b1.size d3.size)) (below_then b1 d4 b1.size)
  exact bodyPost_ret (v := .agg #[.slice A4 zs.length c4, .int .i64 0]) (by simp [results, Tryz.results45, go_sem, e0, e1]) rfl hrw

set_option maxRecDepth 100000 in
set_option maxHeartbeats 4000000 in
theorem rwtext_any (A : Option Addr) (n ca : Nat) (xs : Bs) (s : ByteArray) (w : World) (ha : Row w A (cellsB xs)) (hn : n = xs.length) (hA : A = none → n = 0) (hl : n + s.size + 10 ≤ 140737488355328) :
    Calls Tryz.prog 49 #[.agg #[.slice A n ca, .int .i64 0], .string s] w (RW (xs ++ encText s.data.toList) w) := by
  have b1 := ((Below.refl w.heap.size w).alloc (Nat.le_refl _) (.cells #[.slice A n ca, .int .i64 0] 104)).alloc (by simp) (.cells #[.slice none 0 0, .int .i64 0] 104)
  have L1 := (Loc.new w #[.slice A n ca, .int .i64 0] 104).alloc (.cells #[.slice none 0 0, .int .i64 0] 104)
  have Z1 := Loc.new (w.alloc (.cells #[.slice A n ca, .int .i64 0] 104)) #[.slice none 0 0, .int .i64 0] 104
  simp only [World.size_alloc] at Z1
  obtain ⟨ys, hys⟩ : ∃ ys, ys = s.data.toList := ⟨_, rfl⟩
  obtain ⟨us, hus⟩ : ∃ us, us = xs ++ encNumber (s.size : Int) := ⟨_, rfl⟩
  obtain ⟨zs, hzs⟩ : ∃ zs, zs = xs ++ encText s.data.toList := ⟨_, rfl⟩
  have hysz : ys.length = s.size := by rw [hys]; simp
  have hzu : zs = us ++ ys := by
    rw [hzs, hus, hys, List.append_assoc]
    unfold encText encNumber
    rw [Int.toNat_natCast, size_data]
  have hul : us.length ≤ n + 10 := by rw [hus, List.length_append, hn]; have := sevens_le ((s.size : Int)).toNat; unfold encNumber; omega
  have hnum := fun W (h : Row W A (cellsB xs)) => rwnumber_any A n ca xs s.size W h hn hA (by omega) (by omega) (by omega)
  have hlaid := fun A' c' B cb W (h1 : Row W A' (cellsB us)) (h3 : A' = none → us.length = 0) (h2 : Row W B (cellsB ys)) (h4 : B = none → ys.length = 0) => rlaid_any A' B us.length ys.length c' cb us ys W h1 h2 rfl rfl h3 h4 (by omega)
  rw [← hzu] at hlaid
  rw [← hus] at hnum
  rw [← hzs]
  have HA := Lib.hid ha
  have HNUM := Lib.hid hnum
  have HL := Lib.hid hlaid
  have HYS := Lib.hid hys
  have HYZ := Lib.hid hysz
  have hyget : ∀ j (h : j < s.size), cellsB (ys.take (j + 1)) = cellsB (ys.take j) ++ [.int .u8 (s[j]).toNat] := fun j h => by
    have e : ys[j]? = some s[j] := by rw [hys]; exact bget s j h
    rw [List.take_add_one, e, cellsB_append]
    rfl
  have HG := Lib.hid hyget
  clear ha hn hnum hlaid hzu hzs hus hys hysz hyget
  go_enter Tryz.func49, Tryz.ntmps49
  go_wp2_with fail
  go_loopw [5, 6] (fun v i wr => ∃ (j : Nat) (B : Option Addr) (c : Nat), j ≤ s.size ∧ i = .int .i64 j ∧ v = .slice B j c ∧ wr.ownsRow w.heap.size 5 1 (.slice B j c) j (cellsB (ys.take j)) ∧
      Loc wr w.heap.size #[.slice A n ca, .int .i64 0] 104 ∧ Loc wr (w.heap.size + 1) #[.slice none 0 0, .int .i64 0] 104 ∧ Below w.heap.size w wr) (fun _ i _ => s.size - (intOf i).toNat)
  case atStart => exact ⟨0, none, 0, Nat.zero_le _, rfl, rfl, World.ownsRow_nil _ _ _ _, L1, Z1, b1⟩
  case round =>
    obtain ⟨wi, rfl⟩ : ∃ wi, wi = wr := ⟨_, rfl⟩
    obtain ⟨j, B, c, hj, rfl, rfl, hown, LI, ZI, bi⟩ := hrel
    clear L1 Z1 b1
    by_cases hlt : j < s.size
    · have hlt' : (j : Int) < (s.size : Int) := by omega
      have hsrc := Row.src (P := Tryz.prog) (c := 1) (size := 1) (n := 1) (tx := 33) (Row.of_loc (Loc.new wi #[.int .u8 (s[j]).toNat] 5)) Tryz.underlying33 rfl (by simp [Value.oneCell']) (fun h => by simp at h)
      have HSRC := Lib.hid hsrc
      clear hsrc
      have own2 := owns_mono' hown ((Below.refl wi.heap.size wi).alloc (Nat.le_refl _) (.cells #[.int .u8 (s[j]).toNat] 5))
      have LI2 := LI.alloc (.cells #[.int .u8 (s[j]).toNat] 5)
      have ZI2 := ZI.alloc (.cells #[.int .u8 (s[j]).toNat] 5)
      have b2 := bi.alloc bi.size (.cells #[.int .u8 (s[j]).toNat] 5)
      go_wp2_with (at_builtin; refine wpList_append_mine _ rfl _ _ 33 33 rfl 5 (.int .u8 0) 1 1 Tryz.underlying33 infoU8 rfl (by decide) (.slice B j c) j _ rfl (owns_base own2 (fun _ _ => Nat.zero_le _)) _ 1 _ rfl HSRC.out (by unfold maxLen; omega) (by omega) ?_; intro A2 c2 w2 hown2 hg2 hb2 hx2; have L3 := LI2.grown hg2 (owns_ne own2 LI2 (by decide)); have Z3 := ZI2.grown hg2 (owns_ne own2 ZI2 (by decide)); obtain ⟨o2, b3⟩ := own_next0 own2 hown2 hg2 hb2 b2.size b2; clear hx2 hg2 hb2 hown2)
      go_roundw
      case rel =>
        refine ⟨j + 1, A2, c2, by omega, by go_num, rfl, ?_, L3, Z3, b3⟩
        rw [HG.out j hlt]
        exact o2
      case measure => simp [intOf]; omega
    · obtain rfl : j = s.size := by omega
      rw [List.take_of_length_le (by rw [HYZ.out]; exact Nat.le_refl _)] at hown
      have hl2 := HL.out
      rw [HYZ.out] at hl2
      have HL2 := Lib.hid hl2
      have l0 := LI.cell 0; have l1 := LI.cell 1
      simp at l0 l1
      clear hl2 HL
      go_wp2_with (first | (go_at_call 45; refine (HNUM.out _ (HA.out.of_below bi (Nat.le_refl _))).mono ?_; rintro e w3 ⟨A3, c3, rfl, o3, hb3⟩) | (go_at_call 90; refine (HL2.out A3 c3 B c _ (Row.of_owns o3) (owns_none o3) (Row.of_owns (owns_mono' hown hb3)) (owns_none hown)).mono ?_; rintro e w4 ⟨A4, c4, rfl, o4, hb4⟩; have Z3 := ZI.below hb3 ZI.lt; have Z4 := Z3.below hb4 Z3.lt; have z0 := Z4.cell 0; have z1 := Z4.cell 1; have f0 := Z4.free 0; have f1 := Z4.free 1; simp at z0 z1))
      have d3 := below_then bi hb3 bi.size
      obtain ⟨e0, e1, hrw⟩ := rw_end Z4 (Nat.le_succ _) rfl (owns_mono o4 d3.size) (below_then d3 hb4 d3.size)
      exact bodyPost_ret (v := .agg #[.slice A4 zs.length c4, .int .i64 0]) (by simp [results, Tryz.results49, go_sem, e0, e1]) rfl hrw

theorem zig_pos {v : Int} (h : 0 ≤ v) : zig v = (2 * v).toNat := by unfold zig; rw [if_pos h]
theorem zig_neg {v : Int} (h : v < 0) : zig v = (-2 * v - 1).toNat := by unfold zig; rw [if_neg (by omega)]

set_option maxRecDepth 100000 in
set_option maxHeartbeats 4000000 in
theorem rwint_any (A : Option Addr) (n ca : Nat) (xs : Bs) (v : Int) (w : World) (ha : Row w A (cellsB xs)) (hn : n = xs.length) (hA : A = none → n = 0) (hl : n + 10 ≤ 140737488355328) (h0 : -9223372036854775808 ≤ v) (h1 : v ≤ 9223372036854775807) :
    Calls Tryz.prog 97 #[.agg #[.slice A n ca, .int .i64 0], .int .i64 v] w (RW (xs ++ encInt v) w) := by
  have b1 := ((Below.refl w.heap.size w).alloc (Nat.le_refl _) (.cells #[.slice A n ca, .int .i64 0] 104)).alloc (by simp) (.cells #[.slice none 0 0, .int .i64 0] 104)
  have L1 := (Loc.new w #[.slice A n ca, .int .i64 0] 104).alloc (.cells #[.slice none 0 0, .int .i64 0] 104)
  have Z1 := Loc.new (w.alloc (.cells #[.slice A n ca, .int .i64 0] 104)) #[.slice none 0 0, .int .i64 0] 104
  simp only [World.size_alloc] at Z1
  obtain ⟨w1, hw1⟩ : ∃ w1, w1 = (w.alloc (.cells #[.slice A n ca, .int .i64 0] 104)).alloc (.cells #[.slice none 0 0, .int .i64 0] 104) := ⟨_, rfl⟩
  obtain ⟨zs, hzs⟩ : ∃ zs, zs = xs ++ encInt v := ⟨_, rfl⟩
  obtain ⟨k, hk⟩ : ∃ k, k = zig v := ⟨_, rfl⟩
  obtain ⟨ys, hys⟩ : ∃ ys, ys = sevens k := ⟨_, rfl⟩
  have hku : k < 18446744073709551616 := by rw [hk]; unfold zig; split <;> omega
  have hsv := fun W => rsevens_any k W hku
  have hyl := sevens_le k
  have hzy : zs = xs ++ ys := by rw [hzs, hys, hk]; rfl
  rw [← hys] at hsv hyl
  rw [← hw1] at b1 L1 Z1
  have hlaid := fun B cb W (h1 : Below w1.heap.size w1 W) (h2 : Row W B (cellsB ys)) (h3 : B = none → ys.length = 0) => rlaid_any A B n ys.length ca cb xs ys W ((ha.of_below b1 (Nat.le_refl _)).of_below h1 (Nat.le_refl _)) h2 hn rfl hA h3 (by omega)
  rw [← hzy] at hlaid
  rw [← hzs]
  have HS := Lib.hid hsv
  have HL := Lib.hid hlaid
  have hss : ∀ W, Below w1.heap.size w1 W → W.cell? ⟨w.heap.size, 0, none⟩ = some (.slice A n ca) ∧ W.cell? ⟨w.heap.size, 1, none⟩ = some (.int .i64 0) := fun W hW => by
    have l := L1.below hW L1.lt
    have c0 := l.cell 0; have c1 := l.cell 1
    simp at c0 c1
    exact ⟨c0, c1⟩
  have HSS := Lib.hid hss
  have HW := Lib.hid hw1
  have HK := Lib.hid hk
  clear ha hn hsv hlaid hzy hzs hys hss hw1 hk
  have l0 := L1.cell 0; have l1 := L1.cell 1
  simp at l0 l1
  by_cases hv : 0 ≤ v
  · have hk2 : (2 : Int) * v = (k : Int) := by rw [HK.out, zig_pos hv]; omega
    have hkw : IntKind.u64.wrap (2 * IntKind.u64.wrap v) = (k : Int) := by rw [← hk2]; simp [IntKind.bits, IntKind.wrap, IntKind.signed]; omega
    clear hk2
    go_enter Tryz.func97, Tryz.ntmps97
    go_wp2
    rw [← HW.out]
    go_region_held3 (fun V => V.cell? ⟨w.heap.size, 0, none⟩ = some (.slice A n ca) ∧ V.cell? ⟨w.heap.size, 1, none⟩ = some (.int .i64 0)) ((first | (with_reducible exact t5 _ _) | (with_reducible exact HSS.out _ d4) | (with_reducible exact HSS.out _ d3) | exact ⟨l0, l1⟩)) ((first | (go_at_call 91; refine (HS.out _).mono ?_; rintro e w3 ⟨A3, c3, rfl, own3, hb3⟩; have d3 := below_then ((Below.refl w1.heap.size w1).drew) hb3 (Nat.le_refl _)) | (go_at_call 90; refine (HL.out A3 c3 _ d3 (Row.of_owns own3) (owns_none own3)).mono ?_; rintro e w4 ⟨A4, c4, rfl, own4, hb4⟩; have d4 := below_then d3 hb4 d3.size; have t5 := fun u v => two_far (HSS.out _ d4) u v; have Z4 := Z1.below d4 Z1.lt; have z0 := Z4.cell 0; have z1 := Z4.cell 1; have f0 := Z4.free 0; have f1 := Z4.free 1; simp at z0 z1)))
    go_wp2
    obtain ⟨e0, e1, hrw⟩ := rw_end Z4 (Nat.le_succ _) rfl (owns_mono own4 (Nat.le_trans b1.size d3.size)) (below_then b1 d4 b1.size)
    exact bodyPost_ret (v := .agg #[.slice A4 zs.length c4, .int .i64 0]) (by simp [results, Tryz.results97, go_sem, e0, e1]) rfl hrw
  · have hv1 : IntKind.i64.wrap (v + 1) = v + 1 := by simp [IntKind.bits, IntKind.wrap, IntKind.signed]; omega
    obtain ⟨m, hm⟩ : ∃ m, m = -(v + 1) := ⟨_, rfl⟩
    have hm0 : 0 ≤ m := by omega
    have hm1 : m ≤ 9223372036854775807 := by omega
    have hv2 : IntKind.i64.wrap (-(v + 1)) = m := by rw [← hm]; simp [IntKind.bits, IntKind.wrap, IntKind.signed]; omega
    have hv3 : IntKind.u64.wrap m = m := by simp [IntKind.bits, IntKind.wrap, IntKind.signed]; omega
    have hv4 : IntKind.u64.wrap (2 * m) = 2 * m := by simp [IntKind.bits, IntKind.wrap, IntKind.signed]; omega
    have hk2 : (2 : Int) * m + 1 = (k : Int) := by rw [HK.out, zig_neg (by omega), hm]; omega
    have hv5 : IntKind.u64.wrap (2 * m + 1) = (k : Int) := by rw [← hk2]; simp [IntKind.bits, IntKind.wrap, IntKind.signed]; omega
    clear hm hk2
    go_enter Tryz.func97, Tryz.ntmps97
    go_wp2
    rw [← HW.out]
    go_region_held3 (fun V => V.cell? ⟨w.heap.size, 0, none⟩ = some (.slice A n ca) ∧ V.cell? ⟨w.heap.size, 1, none⟩ = some (.int .i64 0)) ((first | (with_reducible exact t5 _ _) | (with_reducible exact HSS.out _ d4) | (with_reducible exact HSS.out _ d3) | exact ⟨l0, l1⟩)) ((first | (go_at_call 91; refine (HS.out _).mono ?_; rintro e w3 ⟨A3, c3, rfl, own3, hb3⟩; have d3 := below_then ((Below.refl w1.heap.size w1).drew) hb3 (Nat.le_refl _)) | (go_at_call 90; refine (HL.out A3 c3 _ d3 (Row.of_owns own3) (owns_none own3)).mono ?_; rintro e w4 ⟨A4, c4, rfl, own4, hb4⟩; have d4 := below_then d3 hb4 d3.size; have t5 := fun u v => two_far (HSS.out _ d4) u v; have Z4 := Z1.below d4 Z1.lt; have z0 := Z4.cell 0; have z1 := Z4.cell 1; have f0 := Z4.free 0; have f1 := Z4.free 1; simp at z0 z1)))
    go_wp2
    obtain ⟨e0, e1, hrw⟩ := rw_end Z4 (Nat.le_succ _) rfl (owns_mono own4 (Nat.le_trans b1.size d3.size)) (below_then b1 d4 b1.size)
    exact bodyPost_ret (v := .agg #[.slice A4 zs.length c4, .int .i64 0]) (by simp [results, Tryz.results97, go_sem, e0, e1]) rfl hrw
end Go.Proofs.YtnieminnnkbneaaGreat
