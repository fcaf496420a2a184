/- Walk of ProcOwn. Printed by gen_po.py. -/
import Derived.Test.YtkggjjipgjijbaaPoa
namespace Go.Proofs.Ytkggjjipgjijbaa
open Go.RowKit

theorem t_ip : (28 : TypeId) ≠ 24 := by decide
theorem t_up : (5 : TypeId) ≠ 24 := by decide
theorem t_ua : (5 : TypeId) ≠ 51 := by decide
theorem t_ub : (5 : TypeId) ≠ 52 := by decide
theorem t_ia : (28 : TypeId) ≠ 51 := by decide
theorem t_ib : (28 : TypeId) ≠ 52 := by decide

/-- All that stands: the desk with its four boxes. -/
structure OSt (w wr : World) (k : Nat) (F : Nat → Nat → Rw) (G : Nat → Box) (P T : Array Value) (p5 R Q : Nat) (csR csQ : Array Value) (line kept was : Rw) : Prop where
  d : Desk w wr (PD k) F 4 G
  g0 : G 0 = ⟨w.heap.size, P, 24⟩
  g1 : G 1 = ⟨p5, T, 24⟩
  g2 : G 2 = ⟨R, csR, 51⟩
  g3 : G 3 = ⟨Q, csQ, 52⟩
  fx : FixF F line kept was

/-- The rows handed out so far, and the arrays that tell them. -/
def FS0 (F : Nat → Nat → Rw) (k : Nat) (csR csQ : Array Value) (zs : Bs) (l : List Ins) : Prop :=
  (∀ j, j < k → ∃ A c, F 0 j = Rw.new 5 1 A zs.length c (cellsB zs) ∧ csR[j]? = some (.slice A zs.length c)) ∧ (∀ j, j < k → ∃ A c, F 1 j = Rw.new 28 8 A l.length c (codeCells l) ∧ csQ[j]? = some (.slice A l.length c))

theorem FS0.next {F : Nat → Nat → Rw} {k : Nat} {csR csQ : Array Value} {zs : Bs} {l : List Ins} (h : FS0 F k csR csQ zs l) {A B : Option Addr} {c d : Nat} (hR : k < csR.size) (hQ : k < csQ.size) :
    FS0 (up (up F 0 k (Rw.new 5 1 A zs.length c (cellsB zs))) 1 k (Rw.new 28 8 B l.length d (codeCells l))) (k + 1) (csR.setIfInBounds k (.slice A zs.length c)) (csQ.setIfInBounds k (.slice B l.length d)) zs l := by
  refine ⟨fun j hj => ?_, fun j hj => ?_⟩
  · rw [up_other _ _ (by omega)]
    by_cases e : j = k
    · subst e
      exact ⟨A, c, up_self _ _ _ _, by rw [Array.getElem?_setIfInBounds_self_of_lt hR]⟩
    · obtain ⟨A', c', h1, h2⟩ := h.1 j (by omega)
      exact ⟨A', c', by rw [up_other _ _ (by omega)]; exact h1, by rw [Array.getElem?_setIfInBounds_ne (fun e2 => e e2.symm)]; exact h2⟩
  · by_cases e : j = k
    · subst e
      exact ⟨B, d, up_self _ _ _ _, by rw [Array.getElem?_setIfInBounds_self_of_lt hQ]⟩
    · obtain ⟨A', c', h1, h2⟩ := h.2 j (by omega)
      exact ⟨A', c', by rw [up_other _ _ (by omega), up_other _ _ (by omega)]; exact h1, by rw [Array.getElem?_setIfInBounds_ne (fun e2 => e e2.symm)]; exact h2⟩

theorem FS0.fs {F : Nat → Nat → Rw} {csR csQ : Array Value} {zs : Bs} {l : List Ins} (h : FS0 F 3 csR csQ zs l) :
    FS F (fun j => ⟨(F 0 j).A, (F 0 j).c⟩) (fun j => ⟨(F 1 j).A, (F 1 j).c⟩) zs l (pro 0 zs.length 0) (pro 0 l.length 0) ∧ (∀ j, j < 3 → csR[j]? = some (.slice (F 0 j).A zs.length (F 0 j).c)) ∧ ∀ j, j < 3 → csQ[j]? = some (.slice (F 1 j).A l.length (F 1 j).c) := by
  refine ⟨⟨fun j hj => ?_, fun j hj => ?_⟩, fun j hj => ?_, fun j hj => ?_⟩
  · obtain ⟨A, c, h1, _⟩ := h.1 j hj
    rw [pro_zero, partB_zero]
    show F 0 j = Rw.new 5 1 (F 0 j).A zs.length (F 0 j).c (cellsB zs)
    rw [h1]
    rfl
  · obtain ⟨A, c, h1, _⟩ := h.2 j hj
    rw [pro_zero, partI_zero]
    show F 1 j = Rw.new 28 8 (F 1 j).A l.length (F 1 j).c (codeCells l)
    rw [h1]
    rfl
  · obtain ⟨A, c, h1, h2⟩ := h.1 j hj
    rw [h1]
    exact h2
  · obtain ⟨A, c, h1, h2⟩ := h.2 j hj
    rw [h1]
    exact h2

/-- As OSt, with the arrays of the long rows. -/
structure OG (w wr : World) (F : Nat → Nat → Rw) (G : Nat → Box) (P T : Array Value) (p5 R Q X Y : Nat) (csR csQ csX csY : Array Value) (line kept was : Rw) : Prop where
  d : Desk w wr (PD 3) F 6 G
  g0 : G 0 = ⟨w.heap.size, P, 24⟩
  g1 : G 1 = ⟨p5, T, 24⟩
  g2 : G 2 = ⟨R, csR, 51⟩
  g3 : G 3 = ⟨Q, csQ, 52⟩
  g4 : G 4 = ⟨X, csX, 51⟩
  g5 : G 5 = ⟨Y, csY, 52⟩
  fx : FixF F line kept was

theorem partB_at (zs : Bs) (j m : Nat) (h : m < zs.length) : (partB zs j zs.length)[m]? = some (vB j) := by
  unfold partB
  rw [List.getElem?_append_left (by simpa using h), List.getElem?_replicate_of_lt h]
theorem partB_on (zs : Bs) (j m k : Nat) (h : m < zs.length + k) (h2 : zs.length ≤ m) : (partB zs j zs.length ++ List.replicate k (vG j))[m]? = some (vG j) := by
  rw [List.getElem?_append_right (by rw [partB_len zs j _ (Nat.le_refl _)]; exact h2), partB_len zs j _ (Nat.le_refl _), List.getElem?_replicate_of_lt (by omega)]
theorem partB_in (zs : Bs) (j m k : Nat) (h : m < zs.length) : (partB zs j zs.length ++ List.replicate k (vG j))[m]? = some (vB j) := by
  rw [List.getElem?_append_left (by rw [partB_len zs j _ (Nat.le_refl _)]; exact h)]
  exact partB_at zs j m h

theorem partI_at (l : List Ins) (j m : Nat) (h : m < l.length) : (partI l j l.length)[m]? = some (opI (30 + (j : Int))) := by
  unfold partI
  rw [List.getElem?_append_left (by simpa using h), List.getElem?_replicate_of_lt h]
theorem partI_on (l : List Ins) (j m k : Nat) (h : m < l.length + k) (h2 : l.length ≤ m) : (partI l j l.length ++ List.replicate k (opI (60 + (j : Int))))[m]? = some (opI (60 + (j : Int))) := by
  rw [List.getElem?_append_right (by rw [partI_len l j _ (Nat.le_refl _)]; exact h2), partI_len l j _ (Nat.le_refl _), List.getElem?_replicate_of_lt (by omega)]
theorem partI_in (l : List Ins) (j m k : Nat) (h : m < l.length) : (partI l j l.length ++ List.replicate k (opI (60 + (j : Int))))[m]? = some (opI (30 + (j : Int))) := by
  rw [List.getElem?_append_left (by rw [partI_len l j _ (Nat.le_refl _)]; exact h)]
  exact partI_at l j m h
theorem code_at {l : List Ins} {m : Nat} {x : Ins} (h : l[m]? = some x) : (codeCells l)[m * 8]? = some (.int .i64 x.op) := by
  induction l generalizing m with
  | nil => simp at h
  | cons y l ih =>
    have e2 : codeCells (y :: l) = (insCells y).toList ++ codeCells l := by simp [codeCells]
    rw [e2]
    cases m with
    | zero =>
      simp only [List.getElem?_cons_zero, Option.some.injEq] at h
      subst h
      rfl
    | succ m =>
      rw [List.getElem?_cons_succ] at h
      rw [List.getElem?_append_right (by simp [insCells]; omega)]
      have e : (m + 1) * 8 - (insCells y).toList.length = m * 8 := by simp [insCells]; omega
      rw [e]
      exact ih h

theorem PD_fix {k j : Nat} (h : j < 3) : PD k 2 j := .inl ⟨rfl, h⟩
theorem PD_b {k j : Nat} (h : j < k) : PD k 0 j := .inr ⟨by omega, h⟩
theorem PD_i {k j : Nat} (h : j < k) : PD k 1 j := .inr ⟨by omega, h⟩

set_option maxRecDepth 100000 in
set_option maxHeartbeats 16000000 in
theorem pown_any (p : Prc) (A : Option Addr) (cap : Nat) (w : World) (hr : Row w A (codeCells p.code)) (hA : A = none → p.code.length = 0) (hln : p.code.length ≤ 9223372036854775807) (hin : p.inR) :
    Calls Try.prog 9 #[.agg (procCells p.name p.args A p.code.length cap)] w fun e w' => e = .returned (.bool true) ∧ Below w.heap.size w w' := by
  by_cases hbig : 65536 < p.code.length
  · obtain ⟨name, args, l⟩ := p
    simp only at *
    obtain ⟨L, hL⟩ : ∃ L, L = l.length := ⟨_, rfl⟩
    rw [← hL] at hbig ⊢
    have hb' : (65536 : Int) < (L : Int) := by omega
    clear hL hr hA hin
    unfold procCells
    go_enter Try.func9, Try.ntmps9
    go_wp2
    go_ret
    exact ⟨rfl, (Below.refl _ _).alloc (Nat.le_refl _) _⟩
  have hlen : p.code.length ≤ 65536 := by omega
  obtain ⟨z1, z2, hz⟩ : ∃ z1 z2, procCheck p = (z1, z2) := ⟨_, _, rfl⟩
  have hck := fun W (h : Row W A (codeCells p.code)) => pcheck_any p A cap W h (by omega) hin
  rw [hz] at hck
  by_cases hz2 : z2 = 0
  · subst hz2
    have hz0 : (procCheck p).2 = 0 := by rw [hz]
    have hpe : procEncode p = (procBytes p, 0) := by unfold procEncode; rw [if_pos hz0]
    have hbk := proc_back hz0 (fun y hy => (hin.2 y hy).2.2.2.2.2.2) []
    simp only [List.append_nil, if_true] at hbk
    have hen := fun W (h : Row W A (codeCells p.code)) => pencode_any p A cap W h (by omega) hin
    rw [hpe] at hen
    have hblen : (procBytes p).length ≤ 70000 := by have := procBytes_le hz0; omega
    obtain ⟨zs, hzs⟩ : ∃ zs, zs = procBytes p := ⟨_, rfl⟩
    rw [← hzs] at hen hbk hblen
    have hdc := fun A1 c1 W (h1 : Row W A1 (cellsB zs)) (h2 : A1 = none → zs.length = 0) => pdecode_any A1 zs.length c1 zs W h1 rfl h2 (by omega)
    unfold DPost at hdc
    rw [hbk] at hdc
    have hsm := fun A2 c2 W (h1 : Row W A (codeCells p.code)) (h2 : Row W A2 (codeCells p.code)) => refSame_any p p A A2 cap c2 W h1 h2 (by omega) (by omega)
    have htw := fun W (h : Row W A (codeCells p.code)) => twin_any p A cap W h hA hlen
    clear hzs hz hz0 hpe hbk hin
    obtain ⟨name, args, l⟩ := p
    simp only at *
    obtain ⟨L, hL⟩ : ∃ L, L = l.length := ⟨_, rfl⟩
    rw [← hL] at hbig hlen hck hen hdc hsm htw ⊢
    obtain ⟨N, hN⟩ : ∃ N, N = zs.length := ⟨_, rfl⟩
    rw [← hN] at hen hdc hblen
    unfold procCells at *
    have HL := Lib.hid hL
    have HN := Lib.hid hN
    have HR := Lib.hid hr
    have HCK := Lib.hid hck
    have HEN := Lib.hid hen
    have HDC := Lib.hid hdc
    have HSM := Lib.hid hsm
    have HTW := Lib.hid htw
    have hb' : ¬ (65536 : Int) < (L : Int) := by omega
    clear hL hN hr hA hck hen hdc hsm htw hbig hln
    go_enter Try.func9, Try.ntmps9
    have D0 := (Desk.start w (fun _ _ => Rw.new 0 0 none 0 0 []) (fun _ => ⟨0, #[], 0⟩)).addBox #[.string name, .int .i64 args, .slice A L cap] 24 (fun _ _ h => h.elim)
    go_wp2_with fail
    refine (HCK.out _ (HR.out.of_below D0.b (Nat.le_refl _))).mono ?_; rintro e w1 ⟨rfl, hb⟩
    have D1 := D0.below hb
    have LP : Loc w1 w.heap.size #[.string name, .int .i64 args, .slice A L cap] 24 := D1.loc (i := 0) (by decide) rfl
    have p0 := LP.cell 0; have p1 := LP.cell 1; have p2 := LP.cell 2
    simp at p0 p1 p2
    clear D0 hb LP
    go_wp2_with fail
    refine (HTW.out _ (HR.out.of_below D1.b (Nat.le_refl _))).mono ?_; rintro e w2 ⟨g, cW, rfl, oW, hb⟩
    have D2 := D1.addRow 2 2 hb oW (fun i hi => by
      obtain rfl : i = 0 := by omega
      exact t_ip)
    have D3 := D2.addBox #[.string name, .int .i64 args, .slice (some ⟨g, 0, none⟩) L cW] 24 (fun c j hd => by
      rcases hd with hd | ⟨rfl, rfl⟩
      · exact hd.elim
      · exact t_ip)
    have LP : Loc (w2.alloc (.cells #[.string name, .int .i64 args, .slice (some ⟨g, 0, none⟩) L cW] 24)) w.heap.size #[.string name, .int .i64 args, .slice A L cap] 24 := D3.loc (i := 0) (by decide) rfl
    have p0' := LP.cell 0; have p1' := LP.cell 1; have p2' := LP.cell 2
    simp at p0' p1' p2'
    clear D1 D2 oW hb LP p0 p1 p2
    go_wp2_with fail
    refine (HEN.out _ (HR.out.of_below D3.b (Nat.le_refl _))).mono ?_; rintro e w3 ⟨AL, cL, rfl, oL, hb⟩
    have D4 := D3.addRow 2 0 hb oL (fun i hi => by
      have h : i = 0 ∨ i = 1 := by omega
      rcases h with rfl | rfl <;> exact t_up)
    have hbA := (Below.refl w3.heap.size w3).alloc (Nat.le_refl _) (.cells #[] 5)
    have hlit : (w3.alloc (.cells #[] 5)).ownsRow w3.heap.size 5 1 (.slice (some ⟨w3.heap.size, 0, none⟩) 0 0) 0 [] := World.ownsRow_lit w3 #[] 0 (Nat.le_refl _) (by decide) rfl
    have HLIT := Lib.hid (owns_base (base' := 0) hlit (fun _ _ => Nat.zero_le _))
    have hsrc := (Row.of_owns (owns_mono' oL hbA)).src (P := Try.prog) (size := 1) (n := N) (c := cL) (tx := 38) Try.underlying38 (by rw [cellsB_length, HN.out]; omega) (cellsB_one zs) (owns_none oL)
    have HSRC := Lib.hid hsrc
    clear hsrc p0' p1' p2' hb
    go_wp2_with (first | (at_builtin; refine wpList_append_mine _ rfl _ _ 38 38 rfl 5 (.int .u8 0) 1 1 Try.underlying38 infoU8 rfl (by decide) (.slice (some ⟨w3.heap.size, 0, none⟩) 0 0) 0 [] rfl HLIT.out (.slice AL N cL) N (cellsB zs) rfl HSRC.out (by unfold maxLen; omega) (by omega) ?_; intro AK cK w5 hown5 hg5 hb5 hx5))
    obtain ⟨oK, bK⟩ := own_next0 hlit hown5 hg5 hb5 hbA.size hbA
    rw [Nat.zero_add, List.nil_append] at oK
    have D6 := D4.addRow 2 1 bK oK (fun i hi => by
      have h : i = 0 ∨ i = 1 := by omega
      rcases h with rfl | rfl <;> exact t_up)
    have D7 := D6.addBox #[.slice none 0 0, .slice none 0 0, .slice none 0 0] 51 (fun c j hd => by
      rcases hd with ((hd | ⟨rfl, rfl⟩) | ⟨rfl, rfl⟩) | ⟨rfl, rfl⟩
      · exact hd.elim
      · exact t_ia
      · exact t_ua
      · exact t_ua)
    have D8 := D7.addBox #[.slice none 0 0, .slice none 0 0, .slice none 0 0] 52 (fun c j hd => by
      rcases hd with ((hd | ⟨rfl, rfl⟩) | ⟨rfl, rfl⟩) | ⟨rfl, rfl⟩
      · exact hd.elim
      · exact t_ib
      · exact t_ub
      · exact t_ub)
    obtain ⟨p5, hp5⟩ : ∃ p5, p5 = w2.heap.size := ⟨_, rfl⟩
    obtain ⟨R, hR⟩ : ∃ R, R = w5.heap.size := ⟨_, rfl⟩
    obtain ⟨Q, hQ⟩ : ∃ Q, Q = (w5.alloc (.cells #[.slice none 0 0, .slice none 0 0, .slice none 0 0] 51)).heap.size := ⟨_, rfl⟩
    have hQR : Q = R + 1 := by rw [hQ, hR]; simp
    rw [← hp5, ← hR, ← hQ] at D8
    have D9 := D8.congr (E := PD 0) (fun c j h => by
      rcases h with ⟨rfl, h⟩ | ⟨_, h⟩
      · have h : j = 0 ∨ j = 1 ∨ j = 2 := by omega
        rcases h with rfl | rfl | rfl
        · exact .inl (.inr ⟨rfl, rfl⟩)
        · exact .inr ⟨rfl, rfl⟩
        · exact .inl (.inl (.inr ⟨rfl, rfl⟩))
      · omega) (fun _ _ _ => rfl)
    have S0 : OSt w _ 0 _ _ #[.string name, .int .i64 args, .slice A L cap] #[.string name, .int .i64 args, .slice (some ⟨g, 0, none⟩) L cW] p5 R Q #[.slice none 0 0, .slice none 0 0, .slice none 0 0] #[.slice none 0 0, .slice none 0 0, .slice none 0 0] (Rw.new 5 1 AL N cL (cellsB zs)) (Rw.new 5 1 AK N cK (cellsB zs)) (Rw.new 28 8 (some ⟨g, 0, none⟩) (L + 9) cW (codeCells (l ++ marks 9))) :=
      ⟨D9, rfl, rfl, rfl, rfl, rfl, rfl, rfl⟩
    clear D3 D4 D6 D7 D8 D9 hbA hlit HLIT HSRC oL oK bK hown5 hg5 hb5 hx5
    rw [← hp5, ← hR, ← hQR]
    obtain ⟨F0, hF0⟩ : ∃ F0 : Nat → Nat → Rw, F0 = up (up (up (fun _ _ => Rw.new 0 0 none 0 0 []) 2 2 (Rw.new 28 8 (some ⟨g, 0, none⟩) (L + 9) cW (codeCells (l ++ marks 9)))) 2 0 (Rw.new 5 1 AL N cL (cellsB zs))) 2 1 (Rw.new 5 1 AK N cK (cellsB zs)) := ⟨_, rfl⟩
    rw [← hF0] at S0
    have HQR := Lib.hid hQR
    clear hp5 hR hQ hF0 hQR
    go_loopw [11] (fun i wr => ∃ (k : Nat) (F : Nat → Nat → Rw) (G : Nat → Box) (csR csQ : Array Value), k ≤ 3 ∧ i = .int .i64 (k : Nat) ∧ OSt w wr k F G #[.string name, .int .i64 args, .slice A L cap] #[.string name, .int .i64 args, .slice (some ⟨g, 0, none⟩) L cW] p5 R Q csR csQ (Rw.new 5 1 AL N cL (cellsB zs)) (Rw.new 5 1 AK N cK (cellsB zs)) (Rw.new 28 8 (some ⟨g, 0, none⟩) (L + 9) cW (codeCells (l ++ marks 9))) ∧ csR.size = 3 ∧ csQ.size = 3 ∧ Hid (FS0 F k csR csQ zs l)) (fun i _ => 3 - (intOf i).toNat)
    case atStart => exact ⟨0, _, _, _, _, by omega, rfl, S0, rfl, rfl, Lib.hid ⟨fun j hj => absurd hj (by omega), fun j hj => absurd hj (by omega)⟩⟩
    case round =>
      obtain ⟨wi, rfl⟩ : ∃ wi, wi = wr := ⟨_, rfl⟩
      obtain ⟨k, F, G, csR, csQ, hk, rfl, S, hcR, hcQ, HFS⟩ := hrel
      clear S0
      by_cases hk3 : k < 3
      · have LP : Loc wi w.heap.size #[.string name, .int .i64 args, .slice A L cap] 24 := S.d.loc (i := 0) (by decide) S.g0
        have p0 := LP.cell 0; have p1 := LP.cell 1; have p2 := LP.cell 2
        simp at p0 p1 p2
        have hk3' : (k : Int) < 3 := by omega
        have hk0' : (0 : Int) ≤ (k : Int) := by omega
        clear LP
        go_wp2_with fail
        refine (HEN.out _ (HR.out.of_below S.d.b (Nat.le_refl _))).mono ?_; rintro e u1 ⟨A1, c1, rfl, o1, hb⟩
        have E1 := S.d.addRow 0 k hb o1 (fun i hi => by
          have h : i = 0 ∨ i = 1 ∨ i = 2 ∨ i = 3 := by omega
          rcases h with rfl | rfl | rfl | rfl
          · rw [S.g0]; exact t_up
          · rw [S.g1]; exact t_up
          · rw [S.g2]; exact t_ua
          · rw [S.g3]; exact t_ub)
        have hfx1 := S.fx.up (c := 0) (j := k) (by decide) (Rw.new 5 1 A1 N c1 (cellsB zs))
        have oL1 := E1.own (.inl (PD_fix (j := 0) (by decide))) hfx1.1
        clear hb o1
        go_wp2_with fail
        refine (HDC.out AL cL _ (Row.of_owns oL1) (owns_none oL1)).mono ?_; rintro e u2 ⟨A2, c2, rfl, o2, hb⟩
        have E2 := E1.addRow 1 k hb o2 (fun i hi => by
          have h : i = 0 ∨ i = 1 ∨ i = 2 ∨ i = 3 := by omega
          rcases h with rfl | rfl | rfl | rfl
          · rw [S.g0]; exact t_ip
          · rw [S.g1]; exact t_ip
          · rw [S.g2]; exact t_ia
          · rw [S.g3]; exact t_ib)
        have hfx2 := hfx1.up (c := 1) (j := k) (by decide) (Rw.new 28 8 A2 L c2 (codeCells l))
        have bq := (Below.refl u2.heap.size u2).alloc (Nat.le_refl _) (.cells #[.string name, .int .i64 args, .slice A2 L c2] 24)
        have QB := Loc.new u2 #[.string name, .int .i64 args, .slice A2 L c2] 24
        have E3 := E2.below bq
        have oK3 := E3.own (.inl (.inl (PD_fix (j := 1) (by decide)))) hfx2.2.1
        have o13 := E3.own (cl := 0) (j := k) (.inl (.inr ⟨rfl, rfl⟩)) (r := Rw.new 5 1 A1 N c1 (cellsB zs)) (by rw [up_other _ _ (by omega)]; exact up_self _ _ _ _)
        have LP : Loc (u2.alloc (.cells #[.string name, .int .i64 args, .slice A2 L c2] 24)) w.heap.size #[.string name, .int .i64 args, .slice A L cap] 24 := E3.loc (i := 0) (by decide) S.g0
        have LR : Loc u2 R csR 51 := E2.loc (i := 2) (by decide) S.g2
        have LQ : Loc u2 Q csQ 52 := E2.loc (i := 3) (by decide) S.g3
        have hneR : ¬ u2.heap.size = R := by have := LR.lt; omega
        have hneQ : ¬ u2.heap.size = Q := by have := LQ.lt; omega
        clear E1 E2 oL1 hb bq o2 p0 p1 p2 LR LQ
        have p0 := LP.cell 0; have p1 := LP.cell 1; have p2 := LP.cell 2; have q0 := QB.cell 0; have q1 := QB.cell 1; have q2 := QB.cell 2
        simp at p0 p1 p2 q0 q1 q2
        clear LP
        go_wp2_with fail
        have hsm := same_any A1 AK N N c1 cK zs zs _ (Row.of_owns o13) (Row.of_owns oK3) HN.out HN.out (by omega) (by omega)
        rw [decide_eq_true rfl] at hsm
        refine hsm.mono ?_; rintro e u3 ⟨rfl, hb⟩
        have E4 := E3.below hb
        have QB4 := QB.below hb QB.lt
        have o24 := E4.own (cl := 1) (j := k) (.inr ⟨rfl, rfl⟩) (r := Rw.new 28 8 A2 L c2 (codeCells l)) (up_self _ _ _ _)
        have LP : Loc u3 w.heap.size #[.string name, .int .i64 args, .slice A L cap] 24 := E4.loc (i := 0) (by decide) S.g0
        have p0' := LP.cell 0; have p1' := LP.cell 1; have p2' := LP.cell 2; have q0' := QB4.cell 0; have q1' := QB4.cell 1; have q2' := QB4.cell 2
        simp at p0' p1' p2' q0' q1' q2'
        clear E3 QB oK3 o13 hsm hb p0 p1 p2 q0 q1 q2 LP
        go_wp2_with fail
        refine (HSM.out A2 c2 _ (HR.out.of_below E4.b (Nat.le_refl _)) (Row.of_owns o24)).mono ?_; rintro e u4 ⟨⟨res, rfl, hres⟩, hb⟩
        obtain rfl : res = true := by simpa using hres
        have E5 := E4.below hb
        have QB5 := QB4.below hb QB4.lt
        have LR : Loc u4 R csR 51 := E5.loc (i := 2) (by decide) S.g2
        have LQ : Loc u4 Q csQ 52 := E5.loc (i := 3) (by decide) S.g3
        obtain ⟨vr, hvr⟩ : ∃ v, u4.cell? ⟨R, k, none⟩ = some v := ⟨csR[k]'(by omega), by rw [LR.cell k]; exact Array.getElem?_eq_getElem (by omega)⟩
        obtain ⟨vq, hvq⟩ : ∃ v, u4.cell? ⟨Q, k, none⟩ = some v := ⟨csQ[k]'(by omega), by rw [LQ.cell k]; exact Array.getElem?_eq_getElem (by omega)⟩
        have fr := LR.free k; have fq := LQ.free k
        have q2 := QB5.cell 2
        simp at q2
        have hQR : ¬ Q = R := by have := HQR.out; omega
        have E6 := (E5.setBox 2 (by decide) S.g2 k (.slice A1 N c1)).setBox 3 (by decide) (B := ⟨Q, csQ, 52⟩) (by rw [upb_other _ _ (by decide)]; exact S.g3) k (.slice A2 L c2)
        have hfs := HFS.out.next (A := A1) (c := c1) (B := A2) (d := c2) (by omega : k < csR.size) (by omega : k < csQ.size)
        rw [← HN.out, ← HL.out] at hfs
        have S9 : OSt w _ (k + 1) _ _ #[.string name, .int .i64 args, .slice A L cap] #[.string name, .int .i64 args, .slice (some ⟨g, 0, none⟩) L cW] p5 R Q (csR.setIfInBounds k (.slice A1 N c1)) (csQ.setIfInBounds k (.slice A2 L c2)) (Rw.new 5 1 AL N cL (cellsB zs)) (Rw.new 5 1 AK N cK (cellsB zs)) (Rw.new 28 8 (some ⟨g, 0, none⟩) (L + 9) cW (codeCells (l ++ marks 9))) :=
          ⟨E6.congr (E := PD (k + 1)) (fun c j h => by
            rcases h with h | ⟨h1, h2⟩
            · exact .inl (.inl (.inl h))
            · by_cases e : j = k
              · subst e
                have h : c = 0 ∨ c = 1 := by omega
                rcases h with rfl | rfl
                · exact .inl (.inr ⟨rfl, rfl⟩)
                · exact .inr ⟨rfl, rfl⟩
              · exact .inl (.inl (.inr ⟨h1, by omega⟩))) (fun _ _ _ => rfl), S.g0, S.g1, rfl, rfl, hfx2⟩
        have HFS9 := Lib.hid hfs
        clear E4 E5 E6 QB4 QB5 LR LQ o24 S HFS hfs hres hb p0' p1' p2' q0' q1' q2'
        go_wp2
        go_roundw
        case rel => exact ⟨k + 1, _, _, _, _, by omega, by go_num, S9, by simpa using hcR, by simpa using hcQ, HFS9⟩
        case measure => simp [intOf]; omega
      · have hk3e : k = 3 := by omega
        have hk3n : ¬ (k : Int) < 3 := by omega
        rw [hk3e] at HFS S
        clear hk3e
        obtain ⟨RP, hRP⟩ : ∃ RP : Nat → Pl, RP = fun j => ⟨(F 0 j).A, (F 0 j).c⟩ := ⟨_, rfl⟩
        obtain ⟨QP, hQP⟩ : ∃ QP : Nat → Pl, QP = fun j => ⟨(F 1 j).A, (F 1 j).c⟩ := ⟨_, rfl⟩
        obtain ⟨hfs, hrc, hqc⟩ := HFS.out.fs
        rw [← hRP, ← hQP] at hfs
        have hrc' : ∀ j, j < 3 → csR[j]? = some (.slice (RP j).A N (RP j).c) := fun j hj => by rw [hRP, HN.out]; exact hrc j hj
        have hqc' : ∀ j, j < 3 → csQ[j]? = some (.slice (QP j).A L (QP j).c) := fun j hj => by rw [hQP, HL.out]; exact hqc j hj
        have HRC := Lib.hid hrc'
        have HQC := Lib.hid hqc'
        have HFS1 := Lib.hid hfs
        clear hfs hrc hqc hrc' hqc' hRP hQP HFS hcR hcQ
        have b0 := Below.refl wi.heap.size wi
        go_wp2
        go_loopw [16] (fun i wr => ∃ k : Nat, k ≤ 3 ∧ i = .int .i64 (k : Nat) ∧ Below wi.heap.size wi wr) (fun i _ => 3 - (intOf i).toNat)
        case atStart => exact ⟨0, by omega, rfl, b0⟩
        case round =>
          obtain ⟨wk, rfl⟩ : ∃ wk, wk = wr := ⟨_, rfl⟩
          obtain ⟨k, hk, rfl, bk⟩ := hrel
          clear b0
          have E := S.d.below bk
          by_cases hk3 : k < 3
          · have LP : Loc wk w.heap.size #[.string name, .int .i64 args, .slice A L cap] 24 := E.loc (i := 0) (by decide) S.g0
            have p0 := LP.cell 0; have p1 := LP.cell 1; have p2 := LP.cell 2
            simp at p0 p1 p2
            have LR : Loc wk R csR 51 := E.loc (i := 2) (by decide) S.g2
            have LQ : Loc wk Q csQ 52 := E.loc (i := 3) (by decide) S.g3
            have r0 := (LR.cell k).trans (HRC.out k hk3)
            have r1 := (LQ.cell k).trans (HQC.out k hk3)
            have hk3' : (k : Int) < 3 := by omega
            have hk0' : (0 : Int) ≤ (k : Int) := by omega
            have hneR := LR.lt
            have hneQ := LQ.lt
            have hneP := LP.lt
            clear LP LR LQ
            go_wp2_with fail
            have bq := (Below.refl wk.heap.size wk).alloc (Nat.le_refl _) (.cells #[.string name, .int .i64 args, .slice (QP k).A L (QP k).c] 24)
            have QB := Loc.new wk #[.string name, .int .i64 args, .slice (QP k).A L (QP k).c] 24
            have E3 := E.below bq
            have hx0 := HFS1.out.1 k hk3
            have hx1 := HFS1.out.2 k hk3
            rw [pro_zero, partB_zero, ← HN.out] at hx0
            rw [pro_zero, partI_zero, ← HL.out] at hx1
            have o13 := E3.own (PD_b hk3) hx0
            have o23 := E3.own (PD_i hk3) hx1
            have oK3 := E3.own (PD_fix (j := 1) (by decide)) S.fx.2.1
            have hsm := same_any (RP k).A AK N N (RP k).c cK zs zs _ (Row.of_owns o13) (Row.of_owns oK3) HN.out HN.out (by omega) (by omega)
            rw [decide_eq_true rfl] at hsm
            refine hsm.mono ?_; rintro e u3 ⟨rfl, hb⟩
            have E4 := E3.below hb
            have QB4 := QB.below hb QB.lt
            have LP : Loc u3 w.heap.size #[.string name, .int .i64 args, .slice A L cap] 24 := E4.loc (i := 0) (by decide) S.g0
            have p0' := LP.cell 0; have p1' := LP.cell 1; have p2' := LP.cell 2; have q0' := QB4.cell 0; have q1' := QB4.cell 1; have q2' := QB4.cell 2
            simp at p0' p1' p2' q0' q1' q2'
            have o24 := E4.own (PD_i hk3) hx1
            have bk4 := below_then (below_then bk bq bk.size) hb (below_then bk bq bk.size).size
            clear E3 QB oK3 o13 o23 hsm hb LP bq p0 p1 p2 r0 r1 hneR hneQ hneP hx0 hx1 E
            go_wp2_with fail
            refine (HSM.out (QP k).A (QP k).c _ (HR.out.of_below E4.b (Nat.le_refl _)) (Row.of_owns o24)).mono ?_; rintro e u4 ⟨⟨res, rfl, hres⟩, hb⟩
            obtain rfl : res = true := by simpa using hres
            have bk5 := below_then bk4 hb bk4.size
            clear E4 QB4 o24 hres hb p0' p1' p2' q0' q1' q2' bk4 bk
            go_wp2
            go_roundw
            case rel => exact ⟨k + 1, by omega, by go_num, bk5⟩
            case measure => simp [intOf]; omega
          · have hk3n' : ¬ (k : Int) < 3 := by omega
            have S2 : OSt w wk 3 F G #[.string name, .int .i64 args, .slice A L cap] #[.string name, .int .i64 args, .slice (some ⟨g, 0, none⟩) L cW] p5 R Q csR csQ (Rw.new 5 1 AL N cL (cellsB zs)) (Rw.new 5 1 AK N cK (cellsB zs)) (Rw.new 28 8 (some ⟨g, 0, none⟩) (L + 9) cW (codeCells (l ++ marks 9))) := ⟨E, S.g0, S.g1, S.g2, S.g3, S.fx⟩
            clear S E bk
            go_wp2
            go_loopw [18] (fun i wr => ∃ (k : Nat) (F : Nat → Nat → Rw), k ≤ 3 ∧ i = .int .i64 (k : Nat) ∧ OSt w wr 3 F G #[.string name, .int .i64 args, .slice A L cap] #[.string name, .int .i64 args, .slice (some ⟨g, 0, none⟩) L cW] p5 R Q csR csQ (Rw.new 5 1 AL N cL (cellsB zs)) (Rw.new 5 1 AK N cK (cellsB zs)) (Rw.new 28 8 (some ⟨g, 0, none⟩) (L + 9) cW (codeCells (l ++ marks 9))) ∧ Hid (FS F RP QP zs l (pro k zs.length 0) (pro k l.length 0))) (fun i _ => 3 - (intOf i).toNat)
            case atStart => exact ⟨0, F, by omega, rfl, S2, HFS1⟩
            case round =>
              obtain ⟨wk, rfl⟩ : ∃ wk, wk = wr := ⟨_, rfl⟩
              obtain ⟨k, F, hk, rfl, S, HFS⟩ := hrel
              clear S2 HFS1
              by_cases hk3 : k < 3
              · have hk3' : (k : Int) < 3 := by omega
                have hk0' : (0 : Int) ≤ (k : Int) := by omega
                have w10 : IntKind.i64.wrap (10 + (k : Int)) = 10 + (k : Int) := by simp [IntKind.bits, IntKind.wrap, IntKind.signed]; omega
                have w10b : IntKind.u8.wrap (10 + (k : Int)) = 10 + (k : Int) := by simp [IntKind.bits, IntKind.wrap, IntKind.signed]; omega
                have w30 : IntKind.i64.wrap (30 + (k : Int)) = 30 + (k : Int) := by simp [IntKind.bits, IntKind.wrap, IntKind.signed]; omega
                go_wp2
                go_loopw [19] (fun i wr => ∃ (m : Nat) (F : Nat → Nat → Rw), m ≤ N ∧ i = .int .i64 (m : Nat) ∧ OSt w wr 3 F G #[.string name, .int .i64 args, .slice A L cap] #[.string name, .int .i64 args, .slice (some ⟨g, 0, none⟩) L cW] p5 R Q csR csQ (Rw.new 5 1 AL N cL (cellsB zs)) (Rw.new 5 1 AK N cK (cellsB zs)) (Rw.new 28 8 (some ⟨g, 0, none⟩) (L + 9) cW (codeCells (l ++ marks 9))) ∧ Hid (FS F RP QP zs l (pro k zs.length m) (pro k l.length 0))) (fun i _ => N - (intOf i).toNat)
                case atStart => exact ⟨0, F, Nat.zero_le _, rfl, S, HFS⟩
                case round =>
                  obtain ⟨wm, rfl⟩ : ∃ wm, wm = wr := ⟨_, rfl⟩
                  obtain ⟨m, F, hm, rfl, Sm, HFm⟩ := hrel
                  clear S HFS
                  have LR : Loc wm R csR 51 := Sm.d.loc (i := 2) (by decide) Sm.g2
                  have r0 := (LR.cell k).trans (HRC.out k hk3)
                  clear LR
                  by_cases hmN : m < N
                  · have hmN' : (m : Int) < (N : Int) := by omega
                    have hx0 := HFm.out.1 k hk3
                    rw [pro_at, ← HN.out] at hx0
                    have own := Sm.d.own (PD_b hk3) hx0
                    obtain ⟨gb, hgb⟩ := owns_some own (by show 0 < N; omega)
                    have hgb' : (RP k).A = some ⟨gb, 0, none⟩ := hgb
                    rw [hgb'] at r0 hx0
                    have own2 := Sm.d.own (PD_b hk3) hx0
                    have hpl := partB_len zs k m (by rw [← HN.out]; omega)
                    have yc := owns_cell (g := gb) (c := (RP k).c) (n := N) own2 m (by show m < (partB zs k m).length; rw [hpl, ← HN.out]; exact hmN)
                    obtain ⟨yv, y0⟩ : ∃ v, wm.cell? ⟨gb, m, none⟩ = some v := ⟨(partB zs k m)[m]'(by rw [hpl, ← HN.out]; exact hmN), by rw [yc.1]; exact List.getElem?_eq_getElem _⟩
                    have y1 := yc.2
                    have E1 := Sm.d.put 0 k (PD_b hk3) hx0 m (vB k)
                    have hf1 := HFm.out.putB hk3 (by rw [← HN.out]; exact hmN)
                    rw [← HN.out, hgb'] at hf1
                    have S1 : OSt w _ 3 _ G #[.string name, .int .i64 args, .slice A L cap] #[.string name, .int .i64 args, .slice (some ⟨g, 0, none⟩) L cW] p5 R Q csR csQ (Rw.new 5 1 AL N cL (cellsB zs)) (Rw.new 5 1 AK N cK (cellsB zs)) (Rw.new 28 8 (some ⟨g, 0, none⟩) (L + 9) cW (codeCells (l ++ marks 9))) := ⟨E1, Sm.g0, Sm.g1, Sm.g2, Sm.g3, Sm.fx.up (c := 0) (j := k) (by decide) _⟩
                    have HF1 : Hid (FS (up F 0 k (Rw.new 5 1 (some ⟨gb, 0, none⟩) N (RP k).c ((partB zs k m).set m (vB k)))) RP QP zs l (pro k zs.length (m + 1)) (pro k l.length 0)) := Lib.hid (by rw [← HN.out]; exact hf1)
                    unfold vB at S1 HF1
                    clear hx0 own own2 hpl yc hgb hgb' E1 hf1 Sm HFm
                    go_wp2
                    go_roundw
                    case rel => exact ⟨m + 1, _, by omega, by go_num, S1, HF1⟩
                    case measure => simp [intOf]; omega
                  · have hmn : ¬ (m : Int) < (N : Int) := by omega
                    have hme : m = zs.length := by rw [← HN.out]; omega
                    have hf1 := HFm.out
                    rw [hme, pro_next] at hf1
                    have HF1 := Lib.hid hf1
                    clear hf1 HFm hme
                    go_wp2
                    go_loopw [20] (fun i wr => ∃ (m : Nat) (F : Nat → Nat → Rw), m ≤ L ∧ i = .int .i64 (m : Nat) ∧ OSt w wr 3 F G #[.string name, .int .i64 args, .slice A L cap] #[.string name, .int .i64 args, .slice (some ⟨g, 0, none⟩) L cW] p5 R Q csR csQ (Rw.new 5 1 AL N cL (cellsB zs)) (Rw.new 5 1 AK N cK (cellsB zs)) (Rw.new 28 8 (some ⟨g, 0, none⟩) (L + 9) cW (codeCells (l ++ marks 9))) ∧ Hid (FS F RP QP zs l (pro (k + 1) zs.length 0) (pro k l.length m))) (fun i _ => L - (intOf i).toNat)
                    case atStart => exact ⟨0, F, Nat.zero_le _, rfl, Sm, HF1⟩
                    case round =>
                      obtain ⟨wm, rfl⟩ : ∃ wm, wm = wr := ⟨_, rfl⟩
                      obtain ⟨m, F, hm, rfl, Sm, HFm⟩ := hrel
                      clear HF1 r0
                      have LQ : Loc wm Q csQ 52 := Sm.d.loc (i := 3) (by decide) Sm.g3
                      have r0 := (LQ.cell k).trans (HQC.out k hk3)
                      clear LQ
                      by_cases hmL : m < L
                      · have hmL' : (m : Int) < (L : Int) := by omega
                        have hx0 := HFm.out.2 k hk3
                        rw [pro_at, ← HL.out] at hx0
                        have own := Sm.d.own (PD_i hk3) hx0
                        obtain ⟨gb, hgb⟩ := owns_some own (by show 0 < L; omega)
                        have hgb' : (QP k).A = some ⟨gb, 0, none⟩ := hgb
                        rw [hgb'] at r0 hx0
                        have own2 := Sm.d.own (PD_i hk3) hx0
                        have hpl := partI_len l k m (by rw [← HL.out]; omega)
                        have hcl : (codeCells (partI l k m)).length = L * 8 := by rw [codeCells_length, hpl, HL.out]
                        have y := fun j (hj : j < 8) => owns_cell (g := gb) (c := (QP k).c) (n := L) own2 (m * 8 + j) (by show m * 8 + j < (codeCells (partI l k m)).length; omega)
                        have hv : ∀ j (hj : j < 8), ∃ v, wm.cell? ⟨gb, m * 8 + j, none⟩ = some v := fun j hj => ⟨(codeCells (partI l k m))[m * 8 + j]'(by omega), by rw [(y j hj).1]; exact List.getElem?_eq_getElem _⟩
                        obtain ⟨v0, y0⟩ := hv 0 (by decide); obtain ⟨v1, y1⟩ := hv 1 (by decide); obtain ⟨v2, y2⟩ := hv 2 (by decide); obtain ⟨v3, y3⟩ := hv 3 (by decide); obtain ⟨v4, y4⟩ := hv 4 (by decide); obtain ⟨v5, y5⟩ := hv 5 (by decide); obtain ⟨v6, y6⟩ := hv 6 (by decide); obtain ⟨v7, y7⟩ := hv 7 (by decide)
                        have f0 := (y 0 (by decide)).2; have f1 := (y 1 (by decide)).2; have f2 := (y 2 (by decide)).2; have f3 := (y 3 (by decide)).2; have f4 := (y 4 (by decide)).2; have f5 := (y 5 (by decide)).2; have f6 := (y 6 (by decide)).2; have f7 := (y 7 (by decide)).2
                        simp only [Nat.add_zero] at y0 f0
                        have E1 := Sm.d.putI 1 k (PD_i hk3) hx0 m (by rw [hpl, ← HL.out]; exact hmL) (opI (30 + (k : Int)))
                        have hf1 := HFm.out.putI hk3 (by rw [← HL.out]; exact hmL)
                        rw [← HL.out, hgb'] at hf1
                        have S1 : OSt w _ 3 _ G #[.string name, .int .i64 args, .slice A L cap] #[.string name, .int .i64 args, .slice (some ⟨g, 0, none⟩) L cW] p5 R Q csR csQ (Rw.new 5 1 AL N cL (cellsB zs)) (Rw.new 5 1 AK N cK (cellsB zs)) (Rw.new 28 8 (some ⟨g, 0, none⟩) (L + 9) cW (codeCells (l ++ marks 9))) := ⟨E1, Sm.g0, Sm.g1, Sm.g2, Sm.g3, Sm.fx.up (c := 1) (j := k) (by decide) _⟩
                        have HF1 : Hid (FS (up F 1 k (Rw.new 28 8 (some ⟨gb, 0, none⟩) L (QP k).c (codeCells ((partI l k m).set m (opI (30 + (k : Int))))))) RP QP zs l (pro (k + 1) zs.length 0) (pro k l.length (m + 1))) := Lib.hid (by rw [← HL.out]; exact hf1)
                        unfold putW at S1
                        simp only [opI] at S1
                        clear hx0 own own2 hpl hcl y hv hgb hgb' E1 hf1 Sm HFm
                        go_wp2
                        go_roundw
                        case rel => exact ⟨m + 1, _, by omega, by go_num, S1, HF1⟩
                        case measure => simp [intOf]; omega
                      · have hmn2 : ¬ (m : Int) < (L : Int) := by omega
                        have hme : m = l.length := by rw [← HL.out]; omega
                        have hf1 := HFm.out
                        rw [hme, pro_next] at hf1
                        have HF1 := Lib.hid hf1
                        clear hf1 HFm hme
                        go_wp2
                        go_roundw
                        case rel => exact ⟨k + 1, F, by omega, by go_num, Sm, HF1⟩
                        case measure => simp [intOf]; omega
              · have hk3e : k = 3 := by omega
                have hk3m : ¬ (k : Int) < 3 := by omega
                rw [hk3e] at HFS
                clear hk3e
                have D5 := (S.d.addBox #[.slice none 0 0, .slice none 0 0, .slice none 0 0] 51 (fun c j hd => by
                  have := S.d.ty c j hd 2 (by decide)
                  rw [S.g2] at this
                  exact this)).addBox #[.slice none 0 0, .slice none 0 0, .slice none 0 0] 52 (fun c j hd => by
                  have := S.d.ty c j hd 3 (by decide)
                  rw [S.g3] at this
                  exact this)
                have hgs := HFS.out.gs
                obtain ⟨X, hX⟩ : ∃ X, X = wk.heap.size := ⟨_, rfl⟩
                obtain ⟨Y, hY⟩ : ∃ Y, Y = (wk.alloc (.cells #[.slice none 0 0, .slice none 0 0, .slice none 0 0] 51)).heap.size := ⟨_, rfl⟩
                have hXY : Y = X + 1 := by rw [hY, hX]; simp
                rw [← hX, ← hY] at D5
                have S0 : OG w _ F _ #[.string name, .int .i64 args, .slice A L cap] #[.string name, .int .i64 args, .slice (some ⟨g, 0, none⟩) L cW] p5 R Q X Y csR csQ #[.slice none 0 0, .slice none 0 0, .slice none 0 0] #[.slice none 0 0, .slice none 0 0, .slice none 0 0] (Rw.new 5 1 AL N cL (cellsB zs)) (Rw.new 5 1 AK N cK (cellsB zs)) (Rw.new 28 8 (some ⟨g, 0, none⟩) (L + 9) cW (codeCells (l ++ marks 9))) := ⟨D5, S.g0, S.g1, S.g2, S.g3, rfl, rfl, S.fx⟩
                have HGS0 := Lib.hid hgs
                go_wp2
                rw [← hX, ← hXY]
                have HXY := Lib.hid hXY
                clear hX hY hXY D5 hgs S HFS
                go_loopw [23] (fun i wr => ∃ (k : Nat) (F : Nat → Nat → Rw) (G : Nat → Box) (csX csY : Array Value), k ≤ 3 ∧ i = .int .i64 (k : Nat) ∧ OG w wr F G #[.string name, .int .i64 args, .slice A L cap] #[.string name, .int .i64 args, .slice (some ⟨g, 0, none⟩) L cW] p5 R Q X Y csR csQ csX csY (Rw.new 5 1 AL N cL (cellsB zs)) (Rw.new 5 1 AK N cK (cellsB zs)) (Rw.new 28 8 (some ⟨g, 0, none⟩) (L + 9) cW (codeCells (l ++ marks 9))) ∧ csX.size = 3 ∧ csY.size = 3 ∧ Hid (GS F RP QP zs l (pro k 70 0) (pro k 70 0)) ∧ Hid (∀ j, j < k → csX[j]? = some (F 0 j).v ∧ csY[j]? = some (F 1 j).v)) (fun i _ => 3 - (intOf i).toNat)
                case atStart => exact ⟨0, F, _, _, _, by omega, rfl, S0, rfl, rfl, HGS0, Lib.hid fun j hj => absurd hj (by omega)⟩
                case round =>
                  obtain ⟨wk, rfl⟩ : ∃ wk, wk = wr := ⟨_, rfl⟩
                  obtain ⟨k, F, G, csX, csY, hk, rfl, S, hcX, hcY, HGS, HCS⟩ := hrel
                  clear S0 HGS0
                  by_cases hk3 : k < 3
                  · have hk3' : (k : Int) < 3 := by omega
                    have hk0' : (0 : Int) ≤ (k : Int) := by omega
                    have w10 : IntKind.i64.wrap (100 + (k : Int)) = 100 + (k : Int) := by simp [IntKind.bits, IntKind.wrap, IntKind.signed]; omega
                    have w10b : IntKind.u8.wrap (100 + (k : Int)) = 100 + (k : Int) := by simp [IntKind.bits, IntKind.wrap, IntKind.signed]; omega
                    have w60 : IntKind.i64.wrap (60 + (k : Int)) = 60 + (k : Int) := by simp [IntKind.bits, IntKind.wrap, IntKind.signed]; omega
                    have LR : Loc wk R csR 51 := S.d.loc (i := 2) (by decide) S.g2
                    have LQ : Loc wk Q csQ 52 := S.d.loc (i := 3) (by decide) S.g3
                    have r0 := (LR.cell k).trans (HRC.out k hk3)
                    have r1 := (LQ.cell k).trans (HQC.out k hk3)
                    have ha0 := (HGS.out.1 k hk3).2 (by rw [pro_at])
                    have ha1 := (HGS.out.2 k hk3).2 (by rw [pro_at])
                    have HA0 := Lib.hid ha0
                    have HA1 := Lib.hid ha1
                    clear LR LQ ha0 ha1
                    go_wp2
                    go_loopw [24, 25, 26] (fun a b i wr => ∃ (m : Nat) (F : Nat → Nat → Rw), m ≤ 70 ∧ a = .slice (F 0 k).A (N + m) (F 0 k).c ∧ b = .slice (F 1 k).A (L + m) (F 1 k).c ∧ i = .int .i64 (m : Nat) ∧ OG w wr F G #[.string name, .int .i64 args, .slice A L cap] #[.string name, .int .i64 args, .slice (some ⟨g, 0, none⟩) L cW] p5 R Q X Y csR csQ csX csY (Rw.new 5 1 AL N cL (cellsB zs)) (Rw.new 5 1 AK N cK (cellsB zs)) (Rw.new 28 8 (some ⟨g, 0, none⟩) (L + 9) cW (codeCells (l ++ marks 9))) ∧ Hid (GS F RP QP zs l (pro k 70 m) (pro k 70 m)) ∧ Hid (∀ j, j < k → csX[j]? = some (F 0 j).v ∧ csY[j]? = some (F 1 j).v)) (fun _ _ i _ => 70 - (intOf i).toNat)
                    case atStart => exact ⟨0, F, Nat.zero_le _, by rw [HA0.out.1, HA0.out.2]; rfl, by rw [HA1.out.1, HA1.out.2]; rfl, rfl, S, HGS, HCS⟩
                    case round =>
                      obtain ⟨wm, rfl⟩ : ∃ wm, wm = wr := ⟨_, rfl⟩
                      obtain ⟨m, F, hm, rfl, rfl, rfl, Sm, HGm, HCm⟩ := hrel
                      clear S HGS HCS r0 r1 HA0 HA1
                      have hx0 := (HGm.out.1 k hk3).1
                      have hx1 := (HGm.out.2 k hk3).1
                      obtain ⟨gA, hgA⟩ : ∃ x, x = (F 0 k).A := ⟨_, rfl⟩
                      obtain ⟨gc, hgc⟩ : ∃ x, x = (F 0 k).c := ⟨_, rfl⟩
                      obtain ⟨hA, hhA⟩ : ∃ x, x = (F 1 k).A := ⟨_, rfl⟩
                      obtain ⟨hc, hhc⟩ : ∃ x, x = (F 1 k).c := ⟨_, rfl⟩
                      rw [pro_at, ← hgA, ← hgc, ← HN.out] at hx0
                      rw [pro_at, ← hhA, ← hhc, ← HL.out] at hx1
                      rw [← hgA, ← hgc, ← hhA, ← hhc]
                      by_cases hm7 : m < 70
                      · have hm7' : (m : Int) < 70 := by omega
                        have HX0 := Lib.hid hx0
                        have HX1 := Lib.hid hx1
                        have bA := (Below.refl wm.heap.size wm).alloc (Nat.le_refl _) (.cells #[.int .u8 (100 + (k : Int))] 5)
                        have E0 := Sm.d.below bA
                        have own0 := E0.own (PD_b hk3) hx0
                        have hsrc := Row.src (P := Try.prog) (c := 1) (size := 1) (n := 1) (tx := 38) (Row.of_loc (Loc.new wm #[.int .u8 (100 + (k : Int))] 5)) Try.underlying38 rfl (by simp [Value.oneCell']) (fun h => by simp at h)
                        have HSRC := Lib.hid hsrc
                        have HOWN := Lib.hid (owns_base (base' := 0) own0 (fun _ _ => Nat.zero_le _))
                        clear hsrc own0 hgA hgc hhA hhc hx0 hx1 bA
                        go_wp2_with (first | (at_builtin; refine wpList_append_keep _ rfl _ _ 38 38 rfl 5 (.int .u8 0) 1 1 Try.underlying38 infoU8 rfl (by decide) (.slice gA (N + m) gc) (N + m) _ rfl HOWN.out _ 1 _ rfl HSRC.out (by unfold maxLen; omega) (by omega) ?_; intro A1 c1 w9 hown hg hbl hmv; have E1 := E0.grow 0 k (PD_b hk3) HX0.out hown hg hbl hmv; have bB := (Below.refl w9.heap.size w9).alloc (Nat.le_refl _) (.cells #[.int .i64 (60 + (k : Int)), .int .i64 0, .int .i64 0, .int .i64 0, .int .i64 0, .int .i64 0, .int .i64 0, .string ⟨#[]⟩] 28); have E2 := E1.below bB; have hx1' := (up_other F (c := 0) (j := k) (c' := 1) (j' := k) ⟨5, 1, (RP k).A, N, (RP k).c, partB zs k N, A1, N + m + 1, c1, partB zs k N ++ List.replicate m (vG k) ++ [vG k]⟩ (by omega)).trans HX1.out; have own1 := E2.own (PD_i hk3) hx1'; have hsrc := Row.src (P := Try.prog) (c := 1) (size := 8) (n := 1) (tx := 22) (Row.of_loc (Loc.new w9 #[.int .i64 (60 + (k : Int)), .int .i64 0, .int .i64 0, .int .i64 0, .int .i64 0, .int .i64 0, .int .i64 0, .string ⟨#[]⟩] 28)) Try.underlying22 rfl (by simp [Value.oneCell']) (fun h => by simp at h); have HSRI := Lib.hid hsrc; have HOWI := Lib.hid (owns_base (base' := 0) own1 (fun _ _ => Nat.zero_le _)); have HX1' := Lib.hid hx1'; clear hsrc own1 hown hg hbl hmv E0 E1 bB hx1' HOWN HSRC) | (at_builtin; refine wpList_append_keep _ rfl _ _ 22 22 rfl 28 (.agg #[.int .i64 0, .int .i64 0, .int .i64 0, .int .i64 0, .int .i64 0, .int .i64 0, .int .i64 0, .string ⟨#[]⟩]) 8 72 Try.underlying22 infoIns rfl (by decide) (.slice hA (L + m) hc) (L + m) _ rfl HOWI.out _ 1 _ rfl HSRI.out (by unfold maxLen; omega) (by omega) ?_; intro A2 c2 w8 hown hg hbl hmv; have E3 := E2.grow 1 k (PD_i hk3) HX1'.out hown hg hbl hmv; clear hown hg hbl hmv E2 HOWI HSRI HX1'))
                        have S1 : OG w _ (up (up F 0 k ⟨5, 1, (RP k).A, N, (RP k).c, partB zs k N, A1, N + m + 1, c1, partB zs k N ++ List.replicate m (vG k) ++ [vG k]⟩) 1 k ⟨28, 8, (QP k).A, L, (QP k).c, codeCells (partI l k L), A2, L + m + 1, c2, codeCells (partI l k L ++ List.replicate m (opI (60 + (k : Int)))) ++ (insCells (opI (60 + (k : Int)))).toList⟩) G #[.string name, .int .i64 args, .slice A L cap] #[.string name, .int .i64 args, .slice (some ⟨g, 0, none⟩) L cW] p5 R Q X Y csR csQ csX csY (Rw.new 5 1 AL N cL (cellsB zs)) (Rw.new 5 1 AK N cK (cellsB zs)) (Rw.new 28 8 (some ⟨g, 0, none⟩) (L + 9) cW (codeCells (l ++ marks 9))) :=
                          ⟨E3, Sm.g0, Sm.g1, Sm.g2, Sm.g3, Sm.g4, Sm.g5, (Sm.fx.up (c := 0) (j := k) (by decide) _).up (c := 1) (j := k) (by decide) _⟩
                        have hg1 := (HGm.out.growB hk3 (A' := A1) (c' := c1)).growI hk3 (A' := A2) (c' := c2)
                        rw [← HN.out, ← HL.out] at hg1
                        have e0 : up (up F 0 k ⟨5, 1, (RP k).A, N, (RP k).c, partB zs k N, A1, N + m + 1, c1, partB zs k N ++ List.replicate m (vG k) ++ [vG k]⟩) 1 k ⟨28, 8, (QP k).A, L, (QP k).c, codeCells (partI l k L), A2, L + m + 1, c2, codeCells (partI l k L ++ List.replicate m (opI (60 + (k : Int)))) ++ (insCells (opI (60 + (k : Int)))).toList⟩ 0 k = ⟨5, 1, (RP k).A, N, (RP k).c, partB zs k N, A1, N + m + 1, c1, partB zs k N ++ List.replicate m (vG k) ++ [vG k]⟩ := (up_other _ _ (by omega)).trans (up_self _ _ _ _)
                        have e1 : up (up F 0 k ⟨5, 1, (RP k).A, N, (RP k).c, partB zs k N, A1, N + m + 1, c1, partB zs k N ++ List.replicate m (vG k) ++ [vG k]⟩) 1 k ⟨28, 8, (QP k).A, L, (QP k).c, codeCells (partI l k L), A2, L + m + 1, c2, codeCells (partI l k L ++ List.replicate m (opI (60 + (k : Int)))) ++ (insCells (opI (60 + (k : Int)))).toList⟩ 1 k = ⟨28, 8, (QP k).A, L, (QP k).c, codeCells (partI l k L), A2, L + m + 1, c2, codeCells (partI l k L ++ List.replicate m (opI (60 + (k : Int)))) ++ (insCells (opI (60 + (k : Int)))).toList⟩ := up_self _ _ _ _
                        have hc1 : ∀ j, j < k → csX[j]? = some (up (up F 0 k ⟨5, 1, (RP k).A, N, (RP k).c, partB zs k N, A1, N + m + 1, c1, partB zs k N ++ List.replicate m (vG k) ++ [vG k]⟩) 1 k ⟨28, 8, (QP k).A, L, (QP k).c, codeCells (partI l k L), A2, L + m + 1, c2, codeCells (partI l k L ++ List.replicate m (opI (60 + (k : Int)))) ++ (insCells (opI (60 + (k : Int)))).toList⟩ 0 j).v ∧ csY[j]? = some (up (up F 0 k ⟨5, 1, (RP k).A, N, (RP k).c, partB zs k N, A1, N + m + 1, c1, partB zs k N ++ List.replicate m (vG k) ++ [vG k]⟩) 1 k ⟨28, 8, (QP k).A, L, (QP k).c, codeCells (partI l k L), A2, L + m + 1, c2, codeCells (partI l k L ++ List.replicate m (opI (60 + (k : Int)))) ++ (insCells (opI (60 + (k : Int)))).toList⟩ 1 j).v := fun j hj => by
                          rw [up_other _ _ (by omega), up_other _ _ (by omega), up_other _ _ (by omega), up_other _ _ (by omega)]
                          exact HCm.out j hj
                        have HG1 := Lib.hid hg1
                        have HC1 := Lib.hid hc1
                        have HE0 := Lib.hid e0
                        have HE1 := Lib.hid e1
                        clear hg1 hc1 e0 e1 E3 Sm HGm HCm HX0 HX1
                        go_roundw
                        case rel => exact ⟨m + 1, _, by omega, by rw [HE0.out]; rfl, by rw [HE1.out]; rfl, by go_num, S1, HG1, HC1⟩
                        case measure => simp [intOf]; omega
                      · have hm7n : ¬ (m : Int) < 70 := by omega
                        have hme : m = 70 := by omega
                        have LX : Loc wm X csX 51 := Sm.d.loc (i := 4) (by decide) Sm.g4
                        have LY : Loc wm Y csY 52 := Sm.d.loc (i := 5) (by decide) Sm.g5
                        obtain ⟨vr, hvr⟩ : ∃ v, wm.cell? ⟨X, k, none⟩ = some v := ⟨csX[k]'(by omega), by rw [LX.cell k]; exact Array.getElem?_eq_getElem (by omega)⟩
                        obtain ⟨vq, hvq⟩ : ∃ v, wm.cell? ⟨Y, k, none⟩ = some v := ⟨csY[k]'(by omega), by rw [LY.cell k]; exact Array.getElem?_eq_getElem (by omega)⟩
                        have fr := LX.free k; have fq := LY.free k
                        have hYX : ¬ Y = X := by have := HXY.out; omega
                        have E6 := (Sm.d.setBox 4 (by decide) Sm.g4 k (.slice gA (N + m) gc)).setBox 5 (by decide) (B := ⟨Y, csY, 52⟩) (by rw [upb_other _ _ (by decide)]; exact Sm.g5) k (.slice hA (L + m) hc)
                        have S9 : OG w _ F _ #[.string name, .int .i64 args, .slice A L cap] #[.string name, .int .i64 args, .slice (some ⟨g, 0, none⟩) L cW] p5 R Q X Y csR csQ (csX.setIfInBounds k (.slice gA (N + m) gc)) (csY.setIfInBounds k (.slice hA (L + m) hc)) (Rw.new 5 1 AL N cL (cellsB zs)) (Rw.new 5 1 AK N cK (cellsB zs)) (Rw.new 28 8 (some ⟨g, 0, none⟩) (L + 9) cW (codeCells (l ++ marks 9))) :=
                          ⟨E6, Sm.g0, Sm.g1, Sm.g2, Sm.g3, rfl, rfl, Sm.fx⟩
                        have hg1 := HGm.out
                        rw [hme, pro_next] at hg1
                        have HG1 := Lib.hid hg1
                        have hc1 : ∀ j, j < k + 1 → (csX.setIfInBounds k (.slice gA (N + m) gc))[j]? = some (F 0 j).v ∧ (csY.setIfInBounds k (.slice hA (L + m) hc))[j]? = some (F 1 j).v := fun j hj => by
                          by_cases e : j = k
                          · subst e
                            rw [Array.getElem?_setIfInBounds_self_of_lt (by omega), Array.getElem?_setIfInBounds_self_of_lt (by omega), hx0, hx1]
                            exact ⟨rfl, rfl⟩
                          · rw [Array.getElem?_setIfInBounds_ne (fun e2 => e e2.symm), Array.getElem?_setIfInBounds_ne (fun e2 => e e2.symm)]
                            exact HCm.out j (by omega)
                        have HC1 := Lib.hid hc1
                        clear LX LY E6 hg1 hc1 hme Sm HGm HCm hx0 hx1 hgA hgc hhA hhc
                        go_wp2
                        go_roundw
                        case rel => exact ⟨k + 1, F, _, _, _, by omega, by go_num, S9, by simpa using hcX, by simpa using hcY, HG1, HC1⟩
                        case measure => simp [intOf]; omega
                  · have hk3e : k = 3 := by omega
                    have hk3q : ¬ (k : Int) < 3 := by omega
                    rw [hk3e] at HGS HCS
                    clear hk3e
                    have b0 := Below.refl wk.heap.size wk
                    go_wp2
                    go_loopw [27] (fun i wr => ∃ k : Nat, k ≤ 3 ∧ i = .int .i64 (k : Nat) ∧ Below wk.heap.size wk wr) (fun i _ => 3 - (intOf i).toNat)
                    case atStart => exact ⟨0, by omega, rfl, b0⟩
                    case round =>
                      obtain ⟨wc, rfl⟩ : ∃ wc, wc = wr := ⟨_, rfl⟩
                      obtain ⟨k, hk, rfl, bc⟩ := hrel
                      clear b0
                      by_cases hk3 : k < 3
                      · have hk3' : (k : Int) < 3 := by omega
                        have hk0' : (0 : Int) ≤ (k : Int) := by omega
                        have w10 : IntKind.i64.wrap (10 + (k : Int)) = 10 + (k : Int) := by simp [IntKind.bits, IntKind.wrap, IntKind.signed]; omega
                        have w10b : IntKind.u8.wrap (10 + (k : Int)) = 10 + (k : Int) := by simp [IntKind.bits, IntKind.wrap, IntKind.signed]; omega
                        have w100 : IntKind.i64.wrap (100 + (k : Int)) = 100 + (k : Int) := by simp [IntKind.bits, IntKind.wrap, IntKind.signed]; omega
                        have w100b : IntKind.u8.wrap (100 + (k : Int)) = 100 + (k : Int) := by simp [IntKind.bits, IntKind.wrap, IntKind.signed]; omega
                        have w30 : IntKind.i64.wrap (30 + (k : Int)) = 30 + (k : Int) := by simp [IntKind.bits, IntKind.wrap, IntKind.signed]; omega
                        have w60 : IntKind.i64.wrap (60 + (k : Int)) = 60 + (k : Int) := by simp [IntKind.bits, IntKind.wrap, IntKind.signed]; omega
                        have hx0 := (HGS.out.1 k hk3).1
                        have hx1 := (HGS.out.2 k hk3).1
                        rw [pro_all _ hk3] at hx0 hx1
                        obtain ⟨hc0, hc1⟩ := HCS.out k hk3
                        obtain ⟨gA, hgA⟩ : ∃ x, x = (F 0 k).A := ⟨_, rfl⟩
                        obtain ⟨gc, hgc⟩ : ∃ x, x = (F 0 k).c := ⟨_, rfl⟩
                        obtain ⟨hA, hhA⟩ : ∃ x, x = (F 1 k).A := ⟨_, rfl⟩
                        obtain ⟨hc, hhc⟩ : ∃ x, x = (F 1 k).c := ⟨_, rfl⟩
                        obtain ⟨NL, hNL⟩ : ∃ n, n = N + 70 := ⟨_, rfl⟩
                        obtain ⟨LL, hLL⟩ : ∃ n, n = L + 70 := ⟨_, rfl⟩
                        rw [← hgA, ← hgc, ← HN.out, ← hNL] at hx0
                        rw [← hhA, ← hhc, ← HL.out, ← hLL] at hx1
                        rw [hx0] at hc0
                        rw [hx1] at hc1
                        have hc0' : csX[k]? = some (.slice gA NL gc) := hc0
                        have hc1' : csY[k]? = some (.slice hA LL hc) := hc1
                        have HC0 := Lib.hid hc0'
                        have HC1 := Lib.hid hc1'
                        have HX0 := Lib.hid hx0
                        have HX1 := Lib.hid hx1
                        have HNL := Lib.hid hNL
                        have HLL := Lib.hid hLL
                        have hs1 : ∀ W, Below wk.heap.size wk W → W.cell? ⟨R, k, none⟩ = some (.slice (RP k).A N (RP k).c) ∧ W.cell? ⟨Q, k, none⟩ = some (.slice (QP k).A L (QP k).c) ∧ W.cell? ⟨X, k, none⟩ = some (.slice gA NL gc) ∧ W.cell? ⟨Y, k, none⟩ = some (.slice hA LL hc) := fun W b => by
                          have E := S.d.below b
                          have LR : Loc W R csR 51 := E.loc (i := 2) (by decide) S.g2
                          have LQ : Loc W Q csQ 52 := E.loc (i := 3) (by decide) S.g3
                          have LX : Loc W X csX 51 := E.loc (i := 4) (by decide) S.g4
                          have LY : Loc W Y csY 52 := E.loc (i := 5) (by decide) S.g5
                          exact ⟨(LR.cell k).trans (HRC.out k hk3), (LQ.cell k).trans (HQC.out k hk3), (LX.cell k).trans HC0.out, (LY.cell k).trans HC1.out⟩
                        have HS1 := Lib.hid hs1
                        clear hx0 hx1 hc0 hc1 hc0' hc1' hgA hgc hhA hhc hNL hLL hs1 HC0 HC1
                        have bc0 := bc
                        go_wp2
                        go_loopw [28] (fun i wr => ∃ m : Nat, m ≤ NL ∧ i = .int .i64 (m : Nat) ∧ Below wk.heap.size wk wr) (fun i _ => NL - (intOf i).toNat)
                        case atStart => exact ⟨0, Nat.zero_le _, rfl, bc0⟩
                        case round =>
                          obtain ⟨wm, rfl⟩ : ∃ wm, wm = wr := ⟨_, rfl⟩
                          obtain ⟨m, hm, rfl, bm⟩ := hrel
                          clear bc bc0
                          obtain ⟨r0, r1, x0, x1⟩ := HS1.out wm bm
                          by_cases hmN : m < NL
                          · have hmN' : (m : Int) < (NL : Int) := by omega
                            have E := S.d.below bm
                            have own := E.own (PD_b hk3) HX0.out
                            obtain ⟨gb, hgb⟩ := owns_some own (by show 0 < NL; omega)
                            have hgb' : gA = some ⟨gb, 0, none⟩ := hgb
                            have hnl := HNL.out
                            have hpl : (partB zs k N ++ List.replicate 70 (vG k)).length = NL := by rw [List.length_append, List.length_replicate, partB_len zs k N (by rw [← HN.out]; exact Nat.le_refl _), ← HN.out, hnl]
                            have own2 : wm.ownsRow w.heap.size 5 1 (.slice (some ⟨gb, 0, none⟩) NL gc) NL (partB zs k N ++ List.replicate 70 (vG k)) := by
                              rw [← hgb']; exact own
                            have y0 := (owns_cell own2 m (by rw [hpl]; exact hmN)).1
                            rw [hgb'] at x0
                            by_cases hmn : m < N
                            · have hmn' : (m : Int) < (N : Int) := by omega
                              have hmn2 : ¬ (N : Int) ≤ (m : Int) := by omega
                              have hz : m < zs.length := by rw [← HN.out]; exact hmn
                              have ha := partB_in zs k m 70 hz
                              rw [← HN.out] at ha
                              rw [ha] at y0
                              have hvw : Row wm (RP k).A (partB zs k N) := E.view (PD_b hk3) HX0.out
                              rcases hvw with h0 | ⟨rb, off, hrA, hrc⟩
                              · have := congrArg List.length h0
                                rw [partB_len zs k N (by rw [← HN.out]; exact Nat.le_refl _), List.length_nil] at this
                                omega
                              · have z0 := hrc m (by rw [partB_len zs k N (by rw [← HN.out]; exact Nat.le_refl _)]; exact hz)
                                have ha2 := partB_at zs k m hz
                                rw [← HN.out] at ha2
                                rw [ha2] at z0
                                rw [hrA] at r0
                                unfold vB at y0 z0
                                clear ha ha2 hrc hrA own own2 hgb hgb' hpl hnl hz E x1 r1
                                go_wp2
                                go_roundw
                                case rel => exact ⟨m + 1, by omega, by go_num, bm⟩
                                case measure => simp [intOf]; omega
                            · have hmn' : ¬ (m : Int) < (N : Int) := by omega
                              have hmn2 : (N : Int) ≤ (m : Int) := by omega
                              have hmb : (m : Int) < 80000 := by omega
                              have ha := partB_on zs k m 70 (by rw [← HN.out]; omega) (by rw [← HN.out]; omega)
                              rw [← HN.out] at ha
                              rw [ha] at y0
                              unfold vG at y0
                              clear ha own own2 hgb hgb' hpl hnl E x1 r1
                              go_wp2
                              go_roundw
                              case rel => exact ⟨m + 1, by omega, by go_num, bm⟩
                              case measure => simp [intOf]; omega
                          · have hmNn : ¬ (m : Int) < (NL : Int) := by omega
                            have bm0 := bm
                            go_wp2
                            go_loopw [30] (fun i wr => ∃ m : Nat, m ≤ LL ∧ i = .int .i64 (m : Nat) ∧ Below wk.heap.size wk wr) (fun i _ => LL - (intOf i).toNat)
                            case atStart => exact ⟨0, Nat.zero_le _, rfl, bm0⟩
                            case round =>
                              obtain ⟨wm, rfl⟩ : ∃ wm, wm = wr := ⟨_, rfl⟩
                              obtain ⟨m, hm, rfl, bm⟩ := hrel
                              clear bm0 r0 r1 x0 x1
                              obtain ⟨r0, r1, x0, x1⟩ := HS1.out wm bm
                              by_cases hmL : m < LL
                              · have hmL' : (m : Int) < (LL : Int) := by omega
                                have E := S.d.below bm
                                have own := E.own (PD_i hk3) HX1.out
                                obtain ⟨gb, hgb⟩ := owns_some own (by show 0 < LL; omega)
                                have hgb' : hA = some ⟨gb, 0, none⟩ := hgb
                                have hnl := HLL.out
                                have hpl : (codeCells (partI l k L ++ List.replicate 70 (opI (60 + (k : Int))))).length = LL * 8 := by rw [codeCells_length, List.length_append, List.length_replicate, partI_len l k L (by rw [← HL.out]; exact Nat.le_refl _), ← HL.out, hnl]
                                have own2 : wm.ownsRow w.heap.size 28 8 (.slice (some ⟨gb, 0, none⟩) LL hc) LL (codeCells (partI l k L ++ List.replicate 70 (opI (60 + (k : Int))))) := by
                                  rw [← hgb']; exact own
                                have y0 := (owns_cell own2 (m * 8) (by rw [hpl]; omega)).1
                                rw [hgb'] at x1
                                by_cases hmn : m < L
                                · have hmn' : (m : Int) < (L : Int) := by omega
                                  have hmn2 : ¬ (L : Int) ≤ (m : Int) := by omega
                                  have hz : m < l.length := by rw [← HL.out]; exact hmn
                                  have ha := code_at (partI_in l k m 70 hz)
                                  rw [← HL.out] at ha
                                  rw [ha] at y0
                                  have hvw : Row wm (QP k).A (codeCells (partI l k L)) := E.view (PD_i hk3) HX1.out
                                  rcases hvw with h0 | ⟨rb, off, hrA, hrc⟩
                                  · have := congrArg List.length h0
                                    rw [codeCells_length, partI_len l k L (by rw [← HL.out]; exact Nat.le_refl _), List.length_nil] at this
                                    omega
                                  · have z0 := hrc (m * 8) (by rw [codeCells_length, partI_len l k L (by rw [← HL.out]; exact Nat.le_refl _)]; omega)
                                    have ha2 := code_at (partI_at l k m hz)
                                    rw [← HL.out] at ha2
                                    rw [ha2] at z0
                                    rw [hrA] at r1
                                    simp only [opI] at y0 z0
                                    clear ha ha2 hrc hrA own own2 hgb hgb' hpl hnl hz E x0 r0
                                    go_wp2
                                    go_roundw
                                    case rel => exact ⟨m + 1, by omega, by go_num, bm⟩
                                    case measure => simp [intOf]; omega
                                · have hmn' : ¬ (m : Int) < (L : Int) := by omega
                                  have hmn2 : (L : Int) ≤ (m : Int) := by omega
                                  have hmb : (m : Int) < 80000 := by omega
                                  have ha := code_at (partI_on l k m 70 (by rw [← HL.out]; omega) (by rw [← HL.out]; omega))
                                  rw [← HL.out] at ha
                                  rw [ha] at y0
                                  simp only [opI] at y0
                                  clear ha own own2 hgb hgb' hpl hnl E x0 r0
                                  go_wp2
                                  go_roundw
                                  case rel => exact ⟨m + 1, by omega, by go_num, bm⟩
                                  case measure => simp [intOf]; omega
                              · have hmLn : ¬ (m : Int) < (LL : Int) := by omega
                                go_wp2
                                go_roundw
                                case rel => exact ⟨k + 1, by omega, by go_num, bm⟩
                                case measure => simp [intOf]; omega
                      · have hk3r : ¬ (k : Int) < 3 := by omega
                        have E := S.d.below bc
                        have oL := E.own (PD_fix (j := 0) (by decide)) S.fx.1
                        have oK := E.own (PD_fix (j := 1) (by decide)) S.fx.2.1
                        have hsm := same_any AL AK N N cL cK zs zs _ (Row.of_owns oL) (Row.of_owns oK) HN.out HN.out (by omega) (by omega)
                        rw [decide_eq_true rfl] at hsm
                        have HSA := Lib.hid hsm
                        clear hsm oL oK
                        go_wp2_with fail
                        refine HSA.out.mono ?_; rintro e u1 ⟨rfl, hb⟩
                        have E1 := E.below hb
                        have LP : Loc u1 w.heap.size #[.string name, .int .i64 args, .slice A L cap] 24 := E1.loc (i := 0) (by decide) S.g0
                        have LT : Loc u1 p5 #[.string name, .int .i64 args, .slice (some ⟨g, 0, none⟩) L cW] 24 := E1.loc (i := 1) (by decide) S.g1
                        have p0 := LP.cell 0; have p1 := LP.cell 1; have p2 := LP.cell 2; have t0 := LT.cell 0; have t1 := LT.cell 1; have t2 := LT.cell 2
                        simp at p0 p1 p2 t0 t1 t2
                        have oW := E1.own (PD_fix (j := 2) (by decide)) S.fx.2.2
                        have hrw : Row u1 (some ⟨g, 0, none⟩) (codeCells l) := Row.code (Row.of_owns oW)
                        clear LP LT oW E HSA hb
                        go_wp2_with fail
                        refine (HSM.out (some ⟨g, 0, none⟩) cW _ (HR.out.of_below E1.b (Nat.le_refl _)) hrw).mono ?_; rintro e u2 ⟨⟨res, rfl, hres⟩, hb⟩
                        obtain rfl : res = true := by simpa using hres
                        have b2 := below_then E1.b hb E1.b.size
                        clear p0 p1 p2 t0 t1 t2 hrw hres hb E1
                        go_wp2_with fail
                        refine (known_any _).mono ?_; rintro e u3 ⟨rfl, hb⟩
                        go_wp2
                        go_ret
                        exact ⟨rfl, below_then b2 hb b2.size⟩
  · have hz3 : (z2 != 0) = true := by simpa using hz2
    obtain ⟨name, args, l⟩ := p
    simp only at *
    obtain ⟨L, hL⟩ : ∃ L, L = l.length := ⟨_, rfl⟩
    rw [← hL] at hbig hlen hck ⊢
    unfold procCells at *
    have HR := Lib.hid hr
    have HCK := Lib.hid hck
    have hb' : ¬ (65536 : Int) < (L : Int) := by omega
    clear hL hr hA hck hz hin
    go_enter Try.func9, Try.ntmps9
    have b1 := (Below.refl w.heap.size w).alloc (Nat.le_refl _) (.cells #[.string name, .int .i64 args, .slice A L cap] 24)
    go_wp2_with fail
    refine (HCK.out _ (HR.out.of_below b1 (Nat.le_refl _))).mono ?_; rintro e w1 ⟨rfl, hb⟩
    have b2 := below_then b1 hb b1.size
    go_wp2_with fail
    refine (known_any _).mono ?_; rintro e w2 ⟨rfl, hb2⟩
    go_wp2
    go_ret
    exact ⟨rfl, below_then b2 hb2 b2.size⟩
end Go.Proofs.Ytkggjjipgjijbaa
