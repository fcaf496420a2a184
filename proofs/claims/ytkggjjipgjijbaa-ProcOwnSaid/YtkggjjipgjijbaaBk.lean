/- Walk of ProcBack. -/
import Derived.Test.YtkggjjipgjijbaaChk
import Derived.Test.YtkggjjipgjijbaaProc7
import Derived.Test.YtkggjjipgjijbaaRound2
namespace Go.Proofs.Ytkggjjipgjijbaa
open Go.RowKit

theorem bk_iff {p : Prc} {k : Nat} {x : Ins} (hk : k < p.code.length) (h1 : (procCheck p).2 = 0) (h2 : (procCheck ⟨p.name, p.args, p.code.set k x⟩).2 = 0) (hi : p.inR) (hx : x.inR) :
    procBytes p = procBytes ⟨p.name, p.args, p.code.set k x⟩ ↔ x = p.code[k] := by
  have hv : ∀ {l : List Ins}, (∀ y ∈ l, y.inR) → ∀ y ∈ l, i64v y.v := fun h y hy => (h y hy).2.2.2.2.2.2
  have e1 := proc_back h1 (hv hi.2) []
  have e2 := proc_back h2 (hv (set_inR hi.2 hx k)) []
  simp only [List.append_nil, if_true] at e1 e2
  constructor
  · intro h
    rw [h, e2] at e1
    have e3 : (⟨p.name, p.args, p.code.set k x⟩ : Prc) = p := congrArg Prod.fst e1
    have e4 : p.code.set k x = p.code := congrArg Prc.code e3
    have e5 : (p.code.set k x)[k]? = some x := by simp [hk]
    rw [e4, List.getElem?_eq_getElem hk] at e5
    exact (Option.some.inj e5).symm
  · rintro rfl
    rw [List.set_getElem_self]

theorem procBytes_le {p : Prc} (h : (procCheck p).2 = 0) : (procBytes p).length ≤ 30000 := by
  obtain ⟨hn, ha, hl, hall⟩ := procCheck_zero h
  have h1 := encText_le p.name.data.toList
  have h2 := isName_le hn
  have h3 : p.name.data.toList.length = p.name.size := by simp
  have h4 := encNumber_le p.args
  have h5 := encNumber_le (p.code.length : Int)
  have h6 : (p.code.flatMap insBytes).length ≤ 400 * p.code.length := codeBytes_le (fun x hx => by
    obtain ⟨j, hj, rfl⟩ := List.getElem_of_mem hx
    exact (insCheck_zero (hall j hj)).2.2)
  unfold procBytes
  simp only [List.length_append]
  omega

theorem run_eql {P : Program} {ev : Operand → Value} {o : Oper} {w : World} (x y : Operand) (t t' : TypeId) (ho : o.op = .binOp .eql t x y t') (b : Bool) (cx cy : Array Value) (hx : ev x = .agg cx) (hy : ev y = .agg cy)
    (h : (Op.equal t (.agg cx) (.agg cy)).run P w = .ok b w) (hg : ∀ w, (eqGuard .eql t x y (.agg cx) (.agg cy)).run P w = .ok () w) : (execOp ev o).run P w = .ok (.value (.bool b)) w := by
  unfold execOp
  simp [ho, hx, hy, Go.binOp]
  rw [hg w]
  simp [h]

/-- An operation taken first, its slot named: so the state can be laid out anew behind it. -/
theorem take_at {P : Program} {md : Region.Mode} {ops : Array Oper} {Q : Exit → Act → World → Prop} {S : World → Prop} (i d : Nat) {oi : Oper} {v : Value} {fuel : Nat} {listed : Array Bool} {a : Act} {w : World} (hi : ops[i]? = some oi) (hd : oi.dst = some d)
    (hs : Region.noSelect ops = true) (hf : Region.free md ops listed i = true) (hr : (Region.ready md ops listed).contains i = true)
    (hQ : ∀ c a w, Q (.panic c) (a.put oi.dst v) w → Q (.panic c) a w) (hy : YieldsIf P ops S oi v a) (hS : S w)
    (h : wpAnyH P md ops Q S fuel (listed.setIfInBounds i true) (a.put (some d) v) w) : wpAnyH P md ops Q S (fuel + 1) listed a w :=
  wpAnyH_take hi hs hf hr hQ hy hS (by rw [hd]; exact h)

set_option maxRecDepth 100000 in
set_option maxHeartbeats 8000000 in
theorem back_any (p : Prc) (A : Option Addr) (cap : Nat) (x : Ins) (i : Int) (w : World) (hr : Row w A (codeCells p.code)) (hA : A = none → p.code.length = 0) (hln : p.code.length ≤ 9223372036854775807) (hin : p.inR) (hx : x.inR) :
    Calls Try.prog 6 #[.agg (procCells p.name p.args A p.code.length cap), .agg (insCells x), .int .i64 i] w fun e w' => e = .returned (.bool true) ∧ Below w.heap.size w w' := by
  by_cases hbig : 65536 < p.code.length
  · obtain ⟨name, args, l⟩ := p
    simp only at *
    obtain ⟨L, hL⟩ : ∃ L, L = l.length := ⟨_, rfl⟩
    rw [← hL] at hbig ⊢
    have hb' : (65536 : Int) < (L : Int) := by omega
    clear hL hr hA hin hx
    obtain ⟨xo, xa, xb, xc, xn, xv⟩ := x
    unfold procCells insCells
    go_enter Try.func6, Try.ntmps6
    go_wp2
    go_ret
    exact ⟨rfl, ((Below.refl _ _).alloc (Nat.le_refl _) _).alloc (by simp) _⟩
  · have hlen : p.code.length ≤ 65536 := by omega
    obtain ⟨z1, z2, hz⟩ : ∃ z1 z2, procCheck p = (z1, z2) := ⟨_, _, rfl⟩
    have hck := fun W (h : Row W A (codeCells p.code)) => pcheck_any p A cap W h (by omega) hin
    have hen := fun W (h : Row W A (codeCells p.code)) => pencode_any p A cap W h (by omega) hin
    rw [hz] at hck
    by_cases hz2 : z2 = 0
    · subst hz2
      have hz0 : (procCheck p).2 = 0 := by rw [hz]
      have hpe : procEncode p = (procBytes p, 0) := by unfold procEncode; rw [if_pos hz0]
      have hbk := proc_back hz0 (fun y hy => (hin.2 y hy).2.2.2.2.2.2) []
      simp only [List.append_nil, if_true] at hbk
      obtain ⟨bs, hbs⟩ : ∃ bs, bs = procBytes p := ⟨_, rfl⟩
      rw [hpe] at hen
      have hblen : bs.length ≤ 140737488355328 := by rw [hbs]; have := procBytes_le hz0; omega
      have hdc := fun A1 c1 W (h1 : Row W A1 (cellsB bs)) (h2 : A1 = none → bs.length = 0) => pdecode_any A1 bs.length c1 bs W h1 rfl h2 hblen
      rw [← hbs] at hen hbk
      unfold DPost at hdc
      rw [hbk] at hdc
      have hsm := fun A2 c2 W (h1 : Row W A (codeCells p.code)) (h2 : Row W A2 (codeCells p.code)) => refSame_any p p A A2 cap c2 W h1 h2 (by omega) (by omega)
      have htw := fun W (h : Row W A (codeCells p.code)) => twin_any p A cap W h hA hlen
      have hen2 := fun k g c' W (h : Row W (some ⟨g, 0, none⟩) (codeCells (p.code.set k x))) => pencode_any ⟨p.name, p.args, p.code.set k x⟩ (some ⟨g, 0, none⟩) c' W h (by rw [List.length_set]; omega) ⟨hin.1, set_inR hin.2 hx k⟩
      have hiff := fun k (hk : k < p.code.length) h2 => bk_iff hk hz0 h2 hin hx
      have HBS := Lib.hid hbs
      clear hbs hz hz0 hpe hbk hin hx
      obtain ⟨name, args, l⟩ := p
      simp only [List.length_set] at *
      obtain ⟨L, hL⟩ : ∃ L, L = l.length := ⟨_, rfl⟩
      rw [← hL] at hbig hlen hck hen hdc hsm htw hen2 ⊢
      obtain ⟨xo, xa, xb, xc, xn, xv⟩ := x
      unfold procCells at *
      unfold insCells
      have HL := Lib.hid hL
      have HR := Lib.hid hr
      have HCK := Lib.hid hck
      have HEN := Lib.hid hen
      have HDC := Lib.hid hdc
      have HSM := Lib.hid hsm
      have HTW := Lib.hid htw
      have HEN2 := Lib.hid hen2
      have HIFF := Lib.hid hiff
      have hb' : ¬ (65536 : Int) < (L : Int) := by omega
      clear hL hr hA hck hen hdc hsm htw hen2 hiff hbig hln
      go_enter Try.func6, Try.ntmps6
      have LP := (Loc.new w #[.string name, .int .i64 args, .slice A L cap] 24).alloc (.cells #[.int .i64 xo, .int .i64 xa, .int .i64 xb, .int .i64 xc, .int .i64 xn, .int .i64 xv.kind, .int .i64 xv.num, .string xv.text] 28)
      have LX := Loc.new (w.alloc (.cells #[.string name, .int .i64 args, .slice A L cap] 24)) #[.int .i64 xo, .int .i64 xa, .int .i64 xb, .int .i64 xc, .int .i64 xn, .int .i64 xv.kind, .int .i64 xv.num, .string xv.text] 28
      have b1 := ((Below.refl w.heap.size w).alloc (Nat.le_refl _) (.cells #[.string name, .int .i64 args, .slice A L cap] 24)).alloc (by simp) (.cells #[.int .i64 xo, .int .i64 xa, .int .i64 xb, .int .i64 xc, .int .i64 xn, .int .i64 xv.kind, .int .i64 xv.num, .string xv.text] 28)
      simp only [World.size_alloc] at LX
      go_wp2_with fail
      refine (HCK.out _ (HR.out.of_below b1 (Nat.le_refl _))).mono ?_; rintro e w1 ⟨rfl, hb⟩
      have LP1 := LP.below hb (by simp only [World.size_alloc]; omega)
      have LX1 := LX.below hb (by simp only [World.size_alloc]; omega)
      have b2 := below_then b1 hb b1.size
      have p0 := LP1.cell 0; have p1 := LP1.cell 1; have p2 := LP1.cell 2
      simp at p0 p1 p2
      clear LP LX b1 hb
      go_wp2_with fail
      refine (HEN.out _ (HR.out.of_below b2 (Nat.le_refl _))).mono ?_; rintro e w2 ⟨A1, c1, rfl, hown, hb⟩
      have LP2 := LP1.below hb LP1.lt
      have LX2 := LX1.below hb LX1.lt
      have b3 := below_then b2 hb b2.size
      clear LP1 LX1 b2 hb p0 p1 p2
      go_wp2_with fail
      refine (HDC.out A1 c1 _ (Row.of_owns hown) (owns_none hown)).mono ?_; rintro e w3 ⟨A2, c2, rfl, hown2, hb⟩
      have LP3 := (LP2.below hb LP2.lt).alloc (.cells #[.string name, .int .i64 args, .slice A2 L c2] 24)
      have LX3 := (LX2.below hb LX2.lt).alloc (.cells #[.string name, .int .i64 args, .slice A2 L c2] 24)
      have LQ3 := Loc.new w3 #[.string name, .int .i64 args, .slice A2 L c2] 24
      have b4 := (below_then b3 hb b3.size).alloc (below_then b3 hb b3.size).size (.cells #[.string name, .int .i64 args, .slice A2 L c2] 24)
      have oB3 := owns_mono' (owns_mono' hown hb) ((Below.refl w3.heap.size w3).alloc (Nat.le_refl _) (.cells #[.string name, .int .i64 args, .slice A2 L c2] 24))
      have oQ3 := owns_mono' hown2 ((Below.refl w3.heap.size w3).alloc (Nat.le_refl _) (.cells #[.string name, .int .i64 args, .slice A2 L c2] 24))
      have p0 := LP3.cell 0; have p1 := LP3.cell 1; have p2 := LP3.cell 2
      simp at p0 p1 p2
      clear LP2 LX2 b3 hown hown2 hb
      go_wp2_with fail
      refine (HSM.out A2 c2 _ (HR.out.of_below b4 (Nat.le_refl _)) (Row.of_owns oQ3)).mono ?_; rintro e w4 ⟨⟨res, rfl, hres⟩, hb⟩
      obtain rfl : res = true := hres.2 (by trivial)
      have LP4 := LP3.below hb LP3.lt
      have LX4 := LX3.below hb LX3.lt
      have b5 := below_then b4 hb b4.size
      have oB4 := owns_mono' oB3 hb
      have p0' := LP4.cell 0; have p1' := LP4.cell 1; have p2' := LP4.cell 2
      simp at p0' p1' p2'
      clear LP3 LX3 LQ3 b4 oB3 oQ3 hb p0 p1 p2 hres
      by_cases hL0 : L = 0
      · subst hL0
        go_wp2_with fail
        refine (known_any _).mono ?_; rintro e w5 ⟨rfl, hb⟩
        go_wp2
        go_ret
        exact ⟨rfl, below_then b5 hb b5.size⟩
      · obtain ⟨k, hk, hcase⟩ := idx_case i L (by omega)
        have hkl : k < l.length := by rw [← HL.out]; exact hk
        have hL0' : ((L : Int) == 0) = false := by simp; omega
        obtain ⟨b, off, hAe, hc⟩ := HR.out.ins (by omega)
        subst hAe
        rcases hcase with ⟨h1, h2⟩ | ⟨h1, h2⟩
        all_goals
          go_wp2_with fail
          refine (HTW.out _ (HR.out.of_below b5 (Nat.le_refl _))).mono ?_; rintro e w5 ⟨g, c', rfl, hown, hb⟩
          obtain ⟨hcap, hgw, hg5⟩ := owns_cap hown (by omega)
          have LX6 := LX4.below hb LX4.lt
          have hx5 : w.heap.size + 1 < w5.heap.size := LX6.lt
          have x0 := LX6.cell 0; have x1 := LX6.cell 1; have x2 := LX6.cell 2; have x3 := LX6.cell 3; have x4 := LX6.cell 4; have x5 := LX6.cell 5; have x6 := LX6.cell 6; have x7 := LX6.cell 7
          simp at x0 x1 x2 x3 x4 x5 x6 x7
          have hkI : (k : Int) < (L : Int) := by omega
          have hcl : (codeCells (l ++ marks 9)).length = (L + 9) * 8 := by rw [codeCells_length, List.length_append, marks_length, HL.out]
          have y := fun j (hj : j < 8) => owns_cell hown (k * 8 + j) (by omega)
          have hv : ∀ j (hj : j < 8), ∃ v, w5.cell? ⟨g, k * 8 + j, none⟩ = some v := fun j hj => ⟨_, (y j hj).1.trans (List.getElem?_eq_getElem (by omega))⟩
          obtain ⟨v0, y0⟩ := hv 0 (by decide); obtain ⟨v1, y1⟩ := hv 1 (by decide); obtain ⟨v2, y2⟩ := hv 2 (by decide); obtain ⟨v3, y3⟩ := hv 3 (by decide); obtain ⟨v4, y4⟩ := hv 4 (by decide); obtain ⟨v5, y5⟩ := hv 5 (by decide); obtain ⟨v6, y6⟩ := hv 6 (by decide); obtain ⟨v7, y7⟩ := hv 7 (by decide)
          have f0 := (y 0 (by decide)).2; have f1 := (y 1 (by decide)).2; have f2 := (y 2 (by decide)).2; have f3 := (y 3 (by decide)).2; have f4 := (y 4 (by decide)).2; have f5 := (y 5 (by decide)).2; have f6 := (y 6 (by decide)).2; have f7 := (y 7 (by decide)).2
          simp only [Nat.add_zero] at y0 f0
          have c6 := (putW_below (k := k) (x := ⟨xo, xa, xb, xc, xn, xv⟩) hb hgw).alloc (putW_below (k := k) (x := ⟨xo, xa, xb, xc, xn, xv⟩) hb hgw).size (.cells #[.string name, .int .i64 args, .slice (some ⟨g, 0, none⟩) L c'] 24)
          have o6 := owns_put hown k (by rw [List.length_append]; omega) ⟨xo, xa, xb, xc, xn, xv⟩
          rw [List.set_append_left _ _ hkl] at o6
          have o7 := owns_mono' o6 ((Below.refl (putW w5 g k ⟨xo, xa, xb, xc, xn, xv⟩).heap.size (putW w5 g k ⟨xo, xa, xb, xc, xn, xv⟩)).alloc (Nat.le_refl _) (.cells #[.string name, .int .i64 args, .slice (some ⟨g, 0, none⟩) L c'] 24))
          have b7 := below_then b5 c6 b5.size
          have LP7 := LP4.below c6 LP4.lt
          have LX7 := LX4.below c6 LX4.lt
          have oB7 := owns_mono' oB4 c6
          clear hcl y hv LP4 LX4 LX6 b5 oB4 hown hb p0' p1' p2'
          go_wp2_with fail
          refine (HEN2.out k g c' _ (Row.of_owns o7).code).mono ?_; rintro e w9 ⟨A3, c3, rfl, oC, hb⟩
          have b8 := below_then b7 hb b7.size
          have LP8 := LP7.below hb LP7.lt
          have LX8 := LX7.below hb LX7.lt
          have oB8 := owns_mono' oB7 hb
          obtain ⟨ys, h, hyh⟩ : ∃ ys h, procEncode ⟨name, args, l.set k ⟨xo, xa, xb, xc, xn, xv⟩⟩ = (ys, h) := ⟨_, _, rfl⟩
          rw [hyh] at oC ⊢
          have p2 := LP8.cell 2
          have x0 := LX8.cell 0; have x1 := LX8.cell 1; have x2 := LX8.cell 2; have x3 := LX8.cell 3; have x4 := LX8.cell 4; have x5 := LX8.cell 5; have x6 := LX8.cell 6; have x7 := LX8.cell 7
          simp at p2 x0 x1 x2 x3 x4 x5 x6 x7
          have hbb : b < w.heap.size := World.block_lt_of_cell? w ⟨b, off + k * 8, none⟩ (hc k hkl 0 (by decide))
          have hq := fun i (hi : i < 8) => (b8.cell (p := ⟨b, off + k * 8 + i, none⟩) hbb).trans (hc k hkl i hi)
          have y0 := hq 0 (by decide); have y1 := hq 1 (by decide); have y2 := hq 2 (by decide); have y3 := hq 3 (by decide); have y4 := hq 4 (by decide); have y5 := hq 5 (by decide); have y6 := hq 6 (by decide); have y7 := hq 7 (by decide)
          obtain ⟨y, hy⟩ : ∃ y, y = l[k] := ⟨_, rfl⟩
          rw [← hy] at y0 y1 y2 y3 y4 y5 y6 y7
          have hss : ∀ W, Below w9.heap.size w9 W → (fun W => W.cell? ⟨w.heap.size, 2, none⟩ = some (.slice (some ⟨b, off, none⟩) L cap) ∧ W.cell? ⟨w.heap.size + 1, 0, none⟩ = some (.int .i64 xo) ∧ W.cell? ⟨w.heap.size + 1, 1, none⟩ = some (.int .i64 xa) ∧ W.cell? ⟨w.heap.size + 1, 2, none⟩ = some (.int .i64 xb) ∧ W.cell? ⟨w.heap.size + 1, 3, none⟩ = some (.int .i64 xc) ∧ W.cell? ⟨w.heap.size + 1, 4, none⟩ = some (.int .i64 xn) ∧ W.cell? ⟨w.heap.size + 1, 5, none⟩ = some (.int .i64 xv.kind) ∧ W.cell? ⟨w.heap.size + 1, 6, none⟩ = some (.int .i64 xv.num) ∧ W.cell? ⟨w.heap.size + 1, 7, none⟩ = some (.string xv.text) ∧ W.cell? ⟨b, off + k * 8, none⟩ = some (.int .i64 y.op) ∧ W.cell? ⟨b, off + k * 8 + 1, none⟩ = some (.int .i64 y.a) ∧ W.cell? ⟨b, off + k * 8 + 2, none⟩ = some (.int .i64 y.b) ∧ W.cell? ⟨b, off + k * 8 + 3, none⟩ = some (.int .i64 y.c) ∧ W.cell? ⟨b, off + k * 8 + 4, none⟩ = some (.int .i64 y.n) ∧ W.cell? ⟨b, off + k * 8 + 5, none⟩ = some (.int .i64 y.v.kind) ∧ W.cell? ⟨b, off + k * 8 + 6, none⟩ = some (.int .i64 y.v.num) ∧ W.cell? ⟨b, off + k * 8 + 7, none⟩ = some (.string y.v.text)) W := fun W hW => by
            have hlt : ∀ {a : Addr} {v : Value}, w9.cell? a = some v → W.cell? a = some v := fun {a v} ha => by rw [hW.cell (World.block_lt_of_cell? w9 a ha)]; exact ha
            exact ⟨hlt p2, hlt x0, hlt x1, hlt x2, hlt x3, hlt x4, hlt x5, hlt x6, hlt x7, hlt y0, hlt y1, hlt y2, hlt y3, hlt y4, hlt y5, hlt y6, hlt y7⟩
          have HSS := Lib.hid hss
          have b8d := (Below.refl w9.heap.size w9).drew
          have hsame := fun (hl : ys.length ≤ 140737488355328) W (hW : Below w9.heap.size w9 W) => same_any A1 A3 bs.length ys.length c1 c3 bs ys W ((Row.of_owns oB8).of_below hW (Nat.le_refl _)) ((Row.of_owns oC).of_below hW (Nat.le_refl _)) rfl rfl hblen hl
          have HC := Lib.hid hc
          have HY := Lib.hid hy
          have HYH := Lib.hid hyh
          clear hb LP7 LX7 oB7 o6 o7 c6 b7 LP8 LX8 oB8 oC p2 x0 x1 x2 x3 x4 x5 x6 x7 y0 y1 y2 y3 y4 y5 y6 y7 f0 f1 f2 f3 f4 f5 f6 f7 hq hss hy hyh
          by_cases hh : h = 0
          · subst hh
            have hplain : (procCheck ⟨name, args, l.set k ⟨xo, xa, xb, xc, xn, xv⟩⟩).2 = 0 ∧ ys = procBytes ⟨name, args, l.set k ⟨xo, xa, xb, xc, xn, xv⟩⟩ := by
              have h1 := HYH.out
              unfold procEncode at h1
              by_cases h2 : (procCheck ⟨name, args, l.set k ⟨xo, xa, xb, xc, xn, xv⟩⟩).2 = 0
              · rw [if_pos h2] at h1
                exact ⟨h2, (congrArg Prod.fst h1).symm⟩
              · rw [if_neg h2] at h1
                exact absurd (congrArg Prod.snd h1) h2
            have hsm2 := hsame (by rw [hplain.2]; have := procBytes_le hplain.1; omega)
            have heq : decide (bs = ys) = (⟨xo, xa, xb, xc, xn, xv⟩ : Ins).eqv y := by
              rw [Bool.eq_iff_iff, Ins.eqv_iff, decide_eq_true_iff, HBS.out, hplain.2, HIFF.out k hkl hplain.1, HY.out]
            rw [heq] at hsm2
            have HSAME := Lib.hid hsm2
            have HEQ : Hid (∀ W : World, (Op.equal 28 (.agg #[.int .i64 xo, .int .i64 xa, .int .i64 xb, .int .i64 xc, .int .i64 xn, .int .i64 xv.kind, .int .i64 xv.num, .string xv.text]) (.agg #[.int .i64 y.op, .int .i64 y.a, .int .i64 y.b, .int .i64 y.c, .int .i64 y.n, .int .i64 y.v.kind, .int .i64 y.v.num, .string y.v.text])).run Try.prog W = .ok ((⟨xo, xa, xb, xc, xn, xv⟩ : Ins).eqv y) W) := Lib.hid fun W => eqInIns 9997 ⟨xo, xa, xb, xc, xn, xv⟩ y W
            generalize (⟨xo, xa, xb, xc, xn, xv⟩ : Ins).eqv y = res at *
            have hres : (res == res) = true := by cases res <;> rfl
            clear hsame hplain hsm2 heq
            go_wp2_with fail
            refine wp_region_held_drew (S := (fun W => W.cell? ⟨w.heap.size, 2, none⟩ = some (.slice (some ⟨b, off, none⟩) L cap) ∧ W.cell? ⟨w.heap.size + 1, 0, none⟩ = some (.int .i64 xo) ∧ W.cell? ⟨w.heap.size + 1, 1, none⟩ = some (.int .i64 xa) ∧ W.cell? ⟨w.heap.size + 1, 2, none⟩ = some (.int .i64 xb) ∧ W.cell? ⟨w.heap.size + 1, 3, none⟩ = some (.int .i64 xc) ∧ W.cell? ⟨w.heap.size + 1, 4, none⟩ = some (.int .i64 xn) ∧ W.cell? ⟨w.heap.size + 1, 5, none⟩ = some (.int .i64 xv.kind) ∧ W.cell? ⟨w.heap.size + 1, 6, none⟩ = some (.int .i64 xv.num) ∧ W.cell? ⟨w.heap.size + 1, 7, none⟩ = some (.string xv.text) ∧ W.cell? ⟨b, off + k * 8, none⟩ = some (.int .i64 y.op) ∧ W.cell? ⟨b, off + k * 8 + 1, none⟩ = some (.int .i64 y.a) ∧ W.cell? ⟨b, off + k * 8 + 2, none⟩ = some (.int .i64 y.b) ∧ W.cell? ⟨b, off + k * 8 + 3, none⟩ = some (.int .i64 y.c) ∧ W.cell? ⟨b, off + k * 8 + 4, none⟩ = some (.int .i64 y.n) ∧ W.cell? ⟨b, off + k * 8 + 5, none⟩ = some (.int .i64 y.v.kind) ∧ W.cell? ⟨b, off + k * 8 + 6, none⟩ = some (.int .i64 y.v.num) ∧ W.cell? ⟨b, off + k * 8 + 7, none⟩ = some (.string y.v.text))) (by kernel_rfl) (HSS.out _ b8d) (fun hH => ?_)
            refine take_at 0 87 (v := ?_) rfl rfl (by kernel_rfl) (by kernel_rfl) (by kernel_rfl) (fun _ _ _ h => h) (Or.inl ⟨by rfl, ?_⟩) hH ?_
            rotate_left
            · intro W hW
              obtain ⟨p2, x0, x1, x2, x3, x4, x5, x6, x7, y0, y1, y2, y3, y4, y5, y6, y7⟩ := hW
              go_simp
              try with_reducible rfl
            try simp only [Act.put, List.setIfInBounds_toArray, List.set_cons_zero, List.set_cons_succ]
            refine take_at 1 88 (v := ?_) rfl rfl (by kernel_rfl) (by kernel_rfl) (by kernel_rfl) (fun _ _ _ h => h) (Or.inl ⟨by rfl, ?_⟩) hH ?_
            rotate_left
            · intro W hW
              obtain ⟨p2, x0, x1, x2, x3, x4, x5, x6, x7, y0, y1, y2, y3, y4, y5, y6, y7⟩ := hW
              go_simp
              try with_reducible rfl
            try simp only [Act.put, List.setIfInBounds_toArray, List.set_cons_zero, List.set_cons_succ]
            refine take_at 2 89 (v := ?_) rfl rfl (by kernel_rfl) (by kernel_rfl) (by kernel_rfl) (fun _ _ _ h => h) (Or.inl ⟨by rfl, ?_⟩) hH ?_
            rotate_left
            · intro W hW
              obtain ⟨p2, x0, x1, x2, x3, x4, x5, x6, x7, y0, y1, y2, y3, y4, y5, y6, y7⟩ := hW
              go_simp
              try with_reducible rfl
            try simp only [Act.put, List.setIfInBounds_toArray, List.set_cons_zero, List.set_cons_succ]
            refine take_at 3 90 (v := ?_) rfl rfl (by kernel_rfl) (by kernel_rfl) (by kernel_rfl) (fun _ _ _ h => h) (Or.inl ⟨by rfl, ?_⟩) hH ?_
            rotate_left
            · intro W hW
              obtain ⟨p2, x0, x1, x2, x3, x4, x5, x6, x7, y0, y1, y2, y3, y4, y5, y6, y7⟩ := hW
              go_simp
              try with_reducible rfl
            try simp only [Act.put, List.setIfInBounds_toArray, List.set_cons_zero, List.set_cons_succ]
            refine take_at 4 91 (v := ?_) rfl rfl (by kernel_rfl) (by kernel_rfl) (by kernel_rfl) (fun _ _ _ h => h) (Or.inl ⟨by rfl, ?_⟩) hH ?_
            rotate_left
            · intro W hW
              obtain ⟨p2, x0, x1, x2, x3, x4, x5, x6, x7, y0, y1, y2, y3, y4, y5, y6, y7⟩ := hW
              go_simp
              try with_reducible rfl
            try simp only [Act.put, List.setIfInBounds_toArray, List.set_cons_zero, List.set_cons_succ]
            refine take_at 6 93 (v := ?_) rfl rfl (by kernel_rfl) (by kernel_rfl) (by kernel_rfl) (fun _ _ _ h => h) (Or.inl ⟨by rfl, ?_⟩) hH ?_
            rotate_left
            · intro W hW
              obtain ⟨p2, x0, x1, x2, x3, x4, x5, x6, x7, y0, y1, y2, y3, y4, y5, y6, y7⟩ := hW
              go_simp
              try with_reducible rfl
            try simp only [Act.put, List.setIfInBounds_toArray, List.set_cons_zero, List.set_cons_succ]
            refine take_at 7 94 (v := ?_) rfl rfl (by kernel_rfl) (by kernel_rfl) (by kernel_rfl) (fun _ _ _ h => h) (Or.inl ⟨by rfl, ?_⟩) hH ?_
            rotate_left
            · intro W hW
              obtain ⟨p2, x0, x1, x2, x3, x4, x5, x6, x7, y0, y1, y2, y3, y4, y5, y6, y7⟩ := hW
              go_simp
              try with_reducible rfl
            try simp only [Act.put, List.setIfInBounds_toArray, List.set_cons_zero, List.set_cons_succ]
            refine take_at 8 95 (v := ?_) rfl rfl (by kernel_rfl) (by kernel_rfl) (by kernel_rfl) (fun _ _ _ h => h) (Or.inl ⟨by rfl, ?_⟩) hH ?_
            rotate_left
            · intro W hW
              obtain ⟨p2, x0, x1, x2, x3, x4, x5, x6, x7, y0, y1, y2, y3, y4, y5, y6, y7⟩ := hW
              go_simp
              try with_reducible rfl
            try simp only [Act.put, List.setIfInBounds_toArray, List.set_cons_zero, List.set_cons_succ]
            refine take_at 9 96 (v := ?_) rfl rfl (by kernel_rfl) (by kernel_rfl) (by kernel_rfl) (fun _ _ _ h => h) (Or.inl ⟨by rfl, ?_⟩) hH ?_
            rotate_left
            · intro W hW
              obtain ⟨p2, x0, x1, x2, x3, x4, x5, x6, x7, y0, y1, y2, y3, y4, y5, y6, y7⟩ := hW
              go_simp
              try with_reducible rfl
            try simp only [Act.put, List.setIfInBounds_toArray, List.set_cons_zero, List.set_cons_succ]
            refine take_at 10 97 (v := ?_) rfl rfl (by kernel_rfl) (by kernel_rfl) (by kernel_rfl) (fun _ _ _ h => h) (Or.inl ⟨by rfl, ?_⟩) hH ?_
            rotate_left
            · intro W hW
              obtain ⟨p2, x0, x1, x2, x3, x4, x5, x6, x7, y0, y1, y2, y3, y4, y5, y6, y7⟩ := hW
              go_simp
              try with_reducible rfl
            try simp only [Act.put, List.setIfInBounds_toArray, List.set_cons_zero, List.set_cons_succ]
            refine take_at 11 98 (v := ?_) rfl rfl (by kernel_rfl) (by kernel_rfl) (by kernel_rfl) (fun _ _ _ h => h) (Or.inl ⟨by rfl, ?_⟩) hH ?_
            rotate_left
            · intro W hW
              obtain ⟨p2, x0, x1, x2, x3, x4, x5, x6, x7, y0, y1, y2, y3, y4, y5, y6, y7⟩ := hW
              go_simp
              try with_reducible rfl
            try simp only [Act.put, List.setIfInBounds_toArray, List.set_cons_zero, List.set_cons_succ]
            refine take_at 12 99 (v := .bool res) rfl rfl (by kernel_rfl) (by kernel_rfl) (by kernel_rfl) (fun _ _ _ h => h) (Or.inl ⟨by rfl, ?_⟩) hH ?_
            · intro W hW
              obtain ⟨p2, x0, x1, x2, x3, x4, x5, x6, x7, y0, y1, y2, y3, y4, y5, y6, y7⟩ := hW
              refine run_eql (.tmp 93) (.tmp 98) 28 28 ?_ res _ _ ?_ ?_ (HEQ.out W) ?_
              · rfl
              · rfl
              · rfl
              · intro w; kernel_rfl
            try simp only [Act.put, List.setIfInBounds_toArray, List.set_cons_zero, List.set_cons_succ]
            refine wpAnyH_ready (rs := [5]) (by kernel_rfl) (by simp) ?_
            refine AllReadyH.cons rfl (fun K hK => ?_) AllReadyH.nil
            go_simp
            refine (HSAME.out _ b8d).mono ?_; rintro e w8' ⟨rfl, hb⟩
            have b8e := below_then b8d hb b8d.size
            refine hK.out _ _ (HSS.out _ b8e) (fun hH1 => ?_)
            clear hK K
            try simp only [Act.put, List.setIfInBounds_toArray, List.set_cons_zero, List.set_cons_succ]
            refine take_at 13 100 (v := ?_) rfl rfl (by kernel_rfl) (by kernel_rfl) (by kernel_rfl) (fun _ _ _ h => h) (Or.inl ⟨by rfl, ?_⟩) hH1 ?_
            rotate_left
            · intro W hW
              obtain ⟨p2, x0, x1, x2, x3, x4, x5, x6, x7, y0, y1, y2, y3, y4, y5, y6, y7⟩ := hW
              go_simp
              try with_reducible rfl
            try simp only [Act.put, List.setIfInBounds_toArray, List.set_cons_zero, List.set_cons_succ]
            refine take_at 14 101 (v := ?_) rfl rfl (by kernel_rfl) (by kernel_rfl) (by kernel_rfl) (fun _ _ _ h => h) (Or.inl ⟨by rfl, ?_⟩) hH1 ?_
            rotate_left
            · intro W hW
              obtain ⟨p2, x0, x1, x2, x3, x4, x5, x6, x7, y0, y1, y2, y3, y4, y5, y6, y7⟩ := hW
              go_simp
              try with_reducible rfl
            try simp only [Act.put, List.setIfInBounds_toArray, List.set_cons_zero, List.set_cons_succ]
            refine take_at 15 102 (v := ?_) rfl rfl (by kernel_rfl) (by kernel_rfl) (by kernel_rfl) (fun _ _ _ h => h) (Or.inl ⟨by rfl, ?_⟩) hH1 ?_
            rotate_left
            · intro W hW
              obtain ⟨p2, x0, x1, x2, x3, x4, x5, x6, x7, y0, y1, y2, y3, y4, y5, y6, y7⟩ := hW
              go_simp
              try with_reducible rfl
            try simp only [Act.put, List.setIfInBounds_toArray, List.set_cons_zero, List.set_cons_succ]
            refine wpAnyH_ready (rs := [16]) (by kernel_rfl) (by simp) ?_
            refine AllReadyH.cons rfl (fun K hK => ?_) AllReadyH.nil
            go_simp
            refine (known_any _).mono ?_; rintro e w9 ⟨rfl, hb⟩
            have b9 := below_then b8e hb b8e.size
            refine hK.out _ _ (HSS.out _ b9) (fun hH2 => ?_)
            clear hK K
            try simp only [Act.put, List.setIfInBounds_toArray, List.set_cons_zero, List.set_cons_succ]
            refine take_at 17 104 (v := ?_) rfl rfl (by kernel_rfl) (by kernel_rfl) (by kernel_rfl) (fun _ _ _ h => h) (Or.inl ⟨by rfl, ?_⟩) hH2 ?_
            rotate_left
            · intro W hW
              obtain ⟨p2, x0, x1, x2, x3, x4, x5, x6, x7, y0, y1, y2, y3, y4, y5, y6, y7⟩ := hW
              go_simp
              try with_reducible rfl
            try simp only [Act.put, List.setIfInBounds_toArray, List.set_cons_zero, List.set_cons_succ]
            refine take_at 18 6 (v := ?_) rfl rfl (by kernel_rfl) (by kernel_rfl) (by kernel_rfl) (fun _ _ _ h => h) (Or.inl ⟨by rfl, ?_⟩) hH2 ?_
            rotate_left
            · intro W hW
              obtain ⟨p2, x0, x1, x2, x3, x4, x5, x6, x7, y0, y1, y2, y3, y4, y5, y6, y7⟩ := hW
              go_simp
              try with_reducible rfl
            try simp only [Act.put, List.setIfInBounds_toArray, List.set_cons_zero, List.set_cons_succ]
            refine wpAnyH_done (by kernel_rfl) ?_ _
            go_wp2
            go_ret
            exact ⟨rfl, below_then b8 b9 b8.size⟩
          · have hh' : (h != 0) = true := by simpa using hh
            clear hsame
            go_wp2_with fail
            refine wp_region_held_drew (S := (fun W => W.cell? ⟨w.heap.size, 2, none⟩ = some (.slice (some ⟨b, off, none⟩) L cap) ∧ W.cell? ⟨w.heap.size + 1, 0, none⟩ = some (.int .i64 xo) ∧ W.cell? ⟨w.heap.size + 1, 1, none⟩ = some (.int .i64 xa) ∧ W.cell? ⟨w.heap.size + 1, 2, none⟩ = some (.int .i64 xb) ∧ W.cell? ⟨w.heap.size + 1, 3, none⟩ = some (.int .i64 xc) ∧ W.cell? ⟨w.heap.size + 1, 4, none⟩ = some (.int .i64 xn) ∧ W.cell? ⟨w.heap.size + 1, 5, none⟩ = some (.int .i64 xv.kind) ∧ W.cell? ⟨w.heap.size + 1, 6, none⟩ = some (.int .i64 xv.num) ∧ W.cell? ⟨w.heap.size + 1, 7, none⟩ = some (.string xv.text) ∧ W.cell? ⟨b, off + k * 8, none⟩ = some (.int .i64 y.op) ∧ W.cell? ⟨b, off + k * 8 + 1, none⟩ = some (.int .i64 y.a) ∧ W.cell? ⟨b, off + k * 8 + 2, none⟩ = some (.int .i64 y.b) ∧ W.cell? ⟨b, off + k * 8 + 3, none⟩ = some (.int .i64 y.c) ∧ W.cell? ⟨b, off + k * 8 + 4, none⟩ = some (.int .i64 y.n) ∧ W.cell? ⟨b, off + k * 8 + 5, none⟩ = some (.int .i64 y.v.kind) ∧ W.cell? ⟨b, off + k * 8 + 6, none⟩ = some (.int .i64 y.v.num) ∧ W.cell? ⟨b, off + k * 8 + 7, none⟩ = some (.string y.v.text))) (by kernel_rfl) (HSS.out _ b8d) (fun hH => ?_)
            refine take_at 0 87 (v := ?_) rfl rfl (by kernel_rfl) (by kernel_rfl) (by kernel_rfl) (fun _ _ _ h => h) (Or.inl ⟨by rfl, ?_⟩) hH ?_
            rotate_left
            · intro W hW
              obtain ⟨p2, x0, x1, x2, x3, x4, x5, x6, x7, y0, y1, y2, y3, y4, y5, y6, y7⟩ := hW
              go_simp
              try with_reducible rfl
            try simp only [Act.put, List.setIfInBounds_toArray, List.set_cons_zero, List.set_cons_succ]
            refine take_at 1 88 (v := ?_) rfl rfl (by kernel_rfl) (by kernel_rfl) (by kernel_rfl) (fun _ _ _ h => h) (Or.inl ⟨by rfl, ?_⟩) hH ?_
            rotate_left
            · intro W hW
              obtain ⟨p2, x0, x1, x2, x3, x4, x5, x6, x7, y0, y1, y2, y3, y4, y5, y6, y7⟩ := hW
              go_simp
              try with_reducible rfl
            try simp only [Act.put, List.setIfInBounds_toArray, List.set_cons_zero, List.set_cons_succ]
            refine take_at 2 89 (v := ?_) rfl rfl (by kernel_rfl) (by kernel_rfl) (by kernel_rfl) (fun _ _ _ h => h) (Or.inl ⟨by rfl, ?_⟩) hH ?_
            rotate_left
            · intro W hW
              obtain ⟨p2, x0, x1, x2, x3, x4, x5, x6, x7, y0, y1, y2, y3, y4, y5, y6, y7⟩ := hW
              go_simp
              try with_reducible rfl
            try simp only [Act.put, List.setIfInBounds_toArray, List.set_cons_zero, List.set_cons_succ]
            refine take_at 3 90 rfl rfl (by kernel_rfl) (by kernel_rfl) (by kernel_rfl) (fun _ _ _ h => h) (Or.inr ⟨by rfl, rfl⟩) hH ?_
            try simp only [Act.put, List.setIfInBounds_toArray, List.set_cons_zero, List.set_cons_succ]
            refine take_at 4 91 rfl rfl (by kernel_rfl) (by kernel_rfl) (by kernel_rfl) (fun _ _ _ h => h) (Or.inr ⟨by rfl, rfl⟩) hH ?_
            try simp only [Act.put, List.setIfInBounds_toArray, List.set_cons_zero, List.set_cons_succ]
            refine take_at 5 92 rfl rfl (by kernel_rfl) (by kernel_rfl) (by kernel_rfl) (fun _ _ _ h => h) (Or.inr ⟨by rfl, rfl⟩) hH ?_
            try simp only [Act.put, List.setIfInBounds_toArray, List.set_cons_zero, List.set_cons_succ]
            refine take_at 6 93 rfl rfl (by kernel_rfl) (by kernel_rfl) (by kernel_rfl) (fun _ _ _ h => h) (Or.inr ⟨by rfl, rfl⟩) hH ?_
            try simp only [Act.put, List.setIfInBounds_toArray, List.set_cons_zero, List.set_cons_succ]
            refine take_at 7 94 rfl rfl (by kernel_rfl) (by kernel_rfl) (by kernel_rfl) (fun _ _ _ h => h) (Or.inr ⟨by rfl, rfl⟩) hH ?_
            try simp only [Act.put, List.setIfInBounds_toArray, List.set_cons_zero, List.set_cons_succ]
            refine take_at 8 95 rfl rfl (by kernel_rfl) (by kernel_rfl) (by kernel_rfl) (fun _ _ _ h => h) (Or.inr ⟨by rfl, rfl⟩) hH ?_
            try simp only [Act.put, List.setIfInBounds_toArray, List.set_cons_zero, List.set_cons_succ]
            refine take_at 9 96 rfl rfl (by kernel_rfl) (by kernel_rfl) (by kernel_rfl) (fun _ _ _ h => h) (Or.inr ⟨by rfl, rfl⟩) hH ?_
            try simp only [Act.put, List.setIfInBounds_toArray, List.set_cons_zero, List.set_cons_succ]
            refine take_at 10 97 rfl rfl (by kernel_rfl) (by kernel_rfl) (by kernel_rfl) (fun _ _ _ h => h) (Or.inr ⟨by rfl, rfl⟩) hH ?_
            try simp only [Act.put, List.setIfInBounds_toArray, List.set_cons_zero, List.set_cons_succ]
            refine take_at 11 98 rfl rfl (by kernel_rfl) (by kernel_rfl) (by kernel_rfl) (fun _ _ _ h => h) (Or.inr ⟨by rfl, rfl⟩) hH ?_
            try simp only [Act.put, List.setIfInBounds_toArray, List.set_cons_zero, List.set_cons_succ]
            refine take_at 12 99 rfl rfl (by kernel_rfl) (by kernel_rfl) (by kernel_rfl) (fun _ _ _ h => h) (Or.inr ⟨by rfl, rfl⟩) hH ?_
            try simp only [Act.put, List.setIfInBounds_toArray, List.set_cons_zero, List.set_cons_succ]
            refine take_at 13 100 rfl rfl (by kernel_rfl) (by kernel_rfl) (by kernel_rfl) (fun _ _ _ h => h) (Or.inr ⟨by rfl, rfl⟩) hH ?_
            try simp only [Act.put, List.setIfInBounds_toArray, List.set_cons_zero, List.set_cons_succ]
            refine take_at 14 101 (v := ?_) rfl rfl (by kernel_rfl) (by kernel_rfl) (by kernel_rfl) (fun _ _ _ h => h) (Or.inl ⟨by rfl, ?_⟩) hH ?_
            rotate_left
            · intro W hW
              obtain ⟨p2, x0, x1, x2, x3, x4, x5, x6, x7, y0, y1, y2, y3, y4, y5, y6, y7⟩ := hW
              go_simp
              try with_reducible rfl
            try simp only [Act.put, List.setIfInBounds_toArray, List.set_cons_zero, List.set_cons_succ]
            refine take_at 15 102 (v := ?_) rfl rfl (by kernel_rfl) (by kernel_rfl) (by kernel_rfl) (fun _ _ _ h => h) (Or.inl ⟨by rfl, ?_⟩) hH ?_
            rotate_left
            · intro W hW
              obtain ⟨p2, x0, x1, x2, x3, x4, x5, x6, x7, y0, y1, y2, y3, y4, y5, y6, y7⟩ := hW
              go_simp
              try with_reducible rfl
            try simp only [Act.put, List.setIfInBounds_toArray, List.set_cons_zero, List.set_cons_succ]
            refine wpAnyH_ready (rs := [16]) (by kernel_rfl) (by simp) ?_
            refine AllReadyH.cons rfl (fun K hK => ?_) AllReadyH.nil
            go_simp
            refine (known_any _).mono ?_; rintro e w9 ⟨rfl, hb⟩
            have b9 := below_then b8d hb b8d.size
            refine hK.out _ _ (HSS.out _ b9) (fun hH2 => ?_)
            clear hK K
            try simp only [Act.put, List.setIfInBounds_toArray, List.set_cons_zero, List.set_cons_succ]
            refine take_at 17 104 (v := ?_) rfl rfl (by kernel_rfl) (by kernel_rfl) (by kernel_rfl) (fun _ _ _ h => h) (Or.inl ⟨by rfl, ?_⟩) hH2 ?_
            rotate_left
            · intro W hW
              obtain ⟨p2, x0, x1, x2, x3, x4, x5, x6, x7, y0, y1, y2, y3, y4, y5, y6, y7⟩ := hW
              go_simp
              try with_reducible rfl
            try simp only [Act.put, List.setIfInBounds_toArray, List.set_cons_zero, List.set_cons_succ]
            refine take_at 18 6 (v := ?_) rfl rfl (by kernel_rfl) (by kernel_rfl) (by kernel_rfl) (fun _ _ _ h => h) (Or.inl ⟨by rfl, ?_⟩) hH2 ?_
            rotate_left
            · intro W hW
              obtain ⟨p2, x0, x1, x2, x3, x4, x5, x6, x7, y0, y1, y2, y3, y4, y5, y6, y7⟩ := hW
              go_simp
              try with_reducible rfl
            try simp only [Act.put, List.setIfInBounds_toArray, List.set_cons_zero, List.set_cons_succ]
            refine wpAnyH_done (by kernel_rfl) ?_ _
            go_wp2
            go_ret
            exact ⟨rfl, below_then b8 b9 b8.size⟩
    · have hpe : procEncode p = ([], z2) := by unfold procEncode; rw [if_neg (by rw [hz]; exact hz2), hz]
      rw [hpe] at hen
      have hz3 : (z2 != 0) = true := by simpa using hz2
      obtain ⟨name, args, l⟩ := p
      simp only at *
      obtain ⟨L, hL⟩ : ∃ L, L = l.length := ⟨_, rfl⟩
      rw [← hL] at hbig hlen hck hen ⊢
      obtain ⟨xo, xa, xb, xc, xn, xv⟩ := x
      unfold procCells at *
      unfold insCells
      have HR := Lib.hid hr
      have HCK := Lib.hid hck
      have HEN := Lib.hid hen
      have hb' : ¬ (65536 : Int) < (L : Int) := by omega
      clear hL hr hA hck hen hbig hln hin hx hz hpe
      go_enter Try.func6, Try.ntmps6
      have LP := (Loc.new w #[.string name, .int .i64 args, .slice A L cap] 24).alloc (.cells #[.int .i64 xo, .int .i64 xa, .int .i64 xb, .int .i64 xc, .int .i64 xn, .int .i64 xv.kind, .int .i64 xv.num, .string xv.text] 28)
      have b1 := ((Below.refl w.heap.size w).alloc (Nat.le_refl _) (.cells #[.string name, .int .i64 args, .slice A L cap] 24)).alloc (by simp) (.cells #[.int .i64 xo, .int .i64 xa, .int .i64 xb, .int .i64 xc, .int .i64 xn, .int .i64 xv.kind, .int .i64 xv.num, .string xv.text] 28)
      go_wp2_with fail
      refine (HCK.out _ (HR.out.of_below b1 (Nat.le_refl _))).mono ?_; rintro e w1 ⟨rfl, hb⟩
      have LP1 := LP.below hb (by simp only [World.size_alloc]; omega)
      have b2 := below_then b1 hb b1.size
      have p0 := LP1.cell 0; have p1 := LP1.cell 1; have p2 := LP1.cell 2
      simp at p0 p1 p2
      clear LP b1 hb
      go_wp2_with fail
      refine (HEN.out _ (HR.out.of_below b2 (Nat.le_refl _))).mono ?_; rintro e w2 ⟨A1, c1, rfl, hown, hb⟩
      have b3 := below_then b2 hb b2.size
      simp only [List.length_nil] at hown ⊢
      clear LP1 b2 hb p0 p1 p2 hown
      go_wp2_with fail
      refine (known_any _).mono ?_; rintro e w3 ⟨rfl, hb⟩
      go_wp2
      go_ret
      exact ⟨rfl, below_then b3 hb b3.size⟩
end Go.Proofs.Ytkggjjipgjijbaa
