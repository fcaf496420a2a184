/- Walk of proc.Encode. -/
import Derived.Test.YtnieminnnkbneaaGreatProc3
import Derived.Test.YtnieminnnkbneaaGreatRound2
namespace Go.Proofs.YtnieminnnkbneaaGreat
open Go.RowKit

theorem encNumber_le (n : Int) : (encNumber n).length ≤ 10 := sevens_le _
theorem encText_le (b : Bs) : (encText b).length ≤ 10 + b.length := by
  have := sevens_le b.length
  simp only [encText, List.length_append]
  omega
theorem datumBytes_le {v : Val} (h : datumCheck v = 0) : (datumBytes v).length ≤ 300 := by
  have ht : v.text.data.toList.length = v.text.size := by simp
  have hk := datum_ok h
  unfold datumBytes
  rcases hk with ⟨h, _⟩ | ⟨h, _⟩ | ⟨h, h2, _⟩
  · simp [h]
  · rw [if_pos h]
    have := encInt_le v.num
    simp only [List.length_cons]; omega
  · rw [if_neg (by omega), if_pos h]
    have := encText_le v.text.data.toList
    simp only [List.length_cons]; omega
theorem fldBytes_le (x : Ins) (f : Fld) : (fldBytes x f).length ≤ 10 := by
  unfold fldBytes
  split
  · simp
  · exact encNumber_le _

theorem fldsBytes_le (x : Ins) (l : List Fld) : (l.flatMap (fldBytes x)).length ≤ 10 * l.length := by
  induction l with
  | nil => simp
  | cons f l ih =>
    have := fldBytes_le x f
    simp only [List.flatMap_cons, List.length_append, List.length_cons]; omega
theorem insBytes_le {x : Ins} (h : hasVal x.op = true → datumCheck x.v = 0) : (insBytes x).length ≤ 400 := by
  have h1 := fldsBytes_le x (fieldsOf x.op)
  have h2 := fieldsOf_len x.op
  unfold insBytes
  by_cases hv : hasVal x.op = true
  · have h3 := datumBytes_le (h hv)
    have h4 := encText_le (datumBytes x.v)
    rw [if_pos hv]
    simp only [List.length_cons, List.length_append]; omega
  · rw [if_neg hv]
    simp only [List.length_cons, List.length_append, List.length_nil]; omega
theorem codeBytes_le {l : List Ins} (h : ∀ x ∈ l, hasVal x.op = true → datumCheck x.v = 0) : (l.flatMap insBytes).length ≤ 400 * l.length := by
  induction l with
  | nil => simp
  | cons x l ih =>
    have h1 := insBytes_le (h x (by simp))
    have h2 := ih (fun y hy => h y (by simp [hy]))
    simp only [List.flatMap_cons, List.length_append, List.length_cons]; omega
theorem isName_le {s : ByteArray} (h : isName s = true) : s.size ≤ 32 := by
  rcases Nat.lt_or_ge 32 s.size with h1 | h1
  · rw [isName_len s (.inr h1)] at h; simp at h
  · exact h1

/-- A writer in work: its blocks lie from q on and are not these. -/
def Lay (q : Nat) (N : Nat → Prop) (w0 w : World) (xs : Bs) : Prop := ∃ F, Wr w F q xs ∧ (∀ k, F k → q ≤ k ∧ ¬ N k) ∧ Below q w0 w

theorem Lay.step {q : Nat} {N : Nat → Prop} {w0 w w' : World} {F : Nat → Prop} {xs ys : Bs} (_hW : Wr w F q xs) (hF : ∀ k, F k → q ≤ k ∧ ¬ N k) (hb : Below q w0 w) (hS : WrStep w w' F q ys) (hq : q ≤ w.heap.size) (hN : ∀ k, N k → k < w.heap.size) : Lay q N w0 w' ys :=
  ⟨_, hS.1, fun k hk => by
    rcases hk with hk | hk
    · exact hF k hk
    · exact ⟨by omega, fun hn => by have := hN k hn; omega⟩, below_wr hb hS hq (fun k hk => (hF k hk).1)⟩
theorem Lay.bel {q : Nat} {N : Nat → Prop} {w0 w : World} {xs : Bs} (h : Lay q N w0 w xs) : Below q w0 w := by
  obtain ⟨_, _, _, h⟩ := h
  exact h
theorem Lay.alloc {q : Nat} {N : Nat → Prop} {w0 w : World} {xs : Bs} (h : Lay q N w0 w xs) (hq : q ≤ w.heap.size) (o : Obj) : Lay q N w0 (w.alloc o) xs := by
  obtain ⟨F, h1, h2, h3⟩ := h
  exact ⟨F, h1.alloc o, h2, Below.alloc' hq o h3⟩
theorem Lay.below {q : Nat} {N : Nat → Prop} {w0 w w' : World} {xs : Bs} (h : Lay q N w0 w xs) (hq : q ≤ w.heap.size) (hb : Below w.heap.size w w') : Lay q N w0 w' xs := by
  obtain ⟨F, h1, h2, h3⟩ := h
  exact ⟨F, h1.below hb, h2, below_then h3 hb hq⟩
theorem Lay.also {q : Nat} {N N' : Nat → Prop} {w0 w : World} {xs : Bs} (h : Lay q N w0 w xs) (hN : ∀ k, N' k → N k ∨ w.heap.size ≤ k) : Lay q N' w0 w xs := by
  obtain ⟨F, h1, h2, h3⟩ := h
  refine ⟨F, h1, fun k hk => ⟨(h2 k hk).1, fun hn => ?_⟩, h3⟩
  rcases hN k hn with h | h
  · exact (h2 k hk).2 h
  · have := h1.bound k hk; omega

theorem Lay.call {P : Program} {f : FuncId} {args : Array Value} {v : Ending} {q : Nat} {N : Nat → Prop} {w0 w : World} {xs ys : Bs} (h : Lay q N w0 w xs) (hq : q ≤ w.heap.size) (hN : ∀ k, N k → k < w.heap.size)
    (hc : ∀ F, Wr w F q xs → Calls P f args w fun e w' => e = v ∧ WrStep w w' F q ys) :
    Calls P f args w fun e w' => e = v ∧ Lay q N w0 w' ys ∧ (∀ b c t, (b < q ∨ N b) → Loc w b c t → Loc w' b c t) ∧ w.heap.size ≤ w'.heap.size := by
  obtain ⟨F, h1, h2, h3⟩ := h
  refine (hc F h1).mono fun e w' ⟨he, hS⟩ => ⟨he, Lay.step h1 h2 h3 hS hq hN, fun b c t hb hl => hl.keep hS.2 hl.lt (fun hf => ?_), hS.2.size⟩
  rcases hb with hb | hb
  · have := (h2 b hf).1; omega
  · exact (h2 b hf).2 hb

set_option maxRecDepth 100000 in
set_option maxHeartbeats 4000000 in
theorem pencode_any (p : Prc) (A : Option Addr) (cap : Nat) (w : World) (hr : Row w A (codeCells p.code)) (hlen : p.code.length ≤ 140737488355328) (hin : p.inR) :
    Calls Tryz.prog 74 #[.agg (procCells p.name p.args A p.code.length cap)] w fun e w' => ∃ A' c', e = .returned (.tuple #[.slice A' (procEncode p).1.length c', .int .i64 (procEncode p).2]) ∧
      w'.ownsRow w.heap.size 5 1 (.slice A' (procEncode p).1.length c') (procEncode p).1.length (cellsB (procEncode p).1) ∧ Below w.heap.size w w' := by
  have hc := fun W (h : Row W A (codeCells p.code)) => pcheck_any p A cap W h hlen hin
  by_cases hz : (procCheck p).2 = 0
  · have he : procEncode p = (procBytes p, 0) := by unfold procEncode; rw [if_pos hz]
    rw [he]
    rw [hz] at hc
    obtain ⟨hnm, ha, hl64, hall⟩ := procCheck_zero hz
    obtain ⟨name, args, l⟩ := p
    simp only at *
    obtain ⟨ys, hys⟩ : ∃ ys, ys = procBytes ⟨name, args, l⟩ := ⟨_, rfl⟩
    obtain ⟨z, hz1⟩ : ∃ z, z = (procCheck ⟨name, args, l⟩).1 := ⟨_, rfl⟩
    rw [← hz1] at hc
    rw [← hys]
    have HY := Lib.hid hys
    have HC := Lib.hid hc
    have HALL := Lib.hid hall
    have HNM := Lib.hid hnm
    have HTL : Hid ((encText name.data.toList).length ≤ 42) := Lib.hid (by have := encText_le name.data.toList; have := isName_le hnm; have h3 : name.data.toList.length = name.size := by simp
                                                                           omega)
    clear hys hc hall hz he hnm hz1
    unfold procCells at *
    go_enter Tryz.func74, Tryz.ntmps74
    go_wp2_with fail
    refine (HC.out _ (hr.of_below ((Below.refl _ _).alloc (Nat.le_refl _) _) (Nat.le_refl _))).mono ?_; rintro e w1 ⟨rfl, hb⟩
    have L1 : Loc w1 w.heap.size _ _ := (Loc.new w _ _).below hb (by simp)
    have b1 := below_then ((Below.refl w.heap.size w).alloc (Nat.le_refl _) _) hb (by simp)
    go_wp2_with fail
    refine (shapes_any _).mono ?_; rintro e w2 ⟨c, rfl, hS, hb2⟩
    have hcs := hS.1
    have hst := fun (c0 : Array Value) (h0 : c0.size = 34) W => store_new 184 c (by rw [hcs]; kernel_rfl) hS.2.1 c0 (by rw [h0, hcs]) W
    have L2 := L1.below hb2 L1.lt
    have b2 := below_then b1 hb2 b1.size
    have q0 := L2.cell 0; have q1 := L2.cell 1; have q2 := L2.cell 2
    simp at q0 q1 q2
    have hne : w.heap.size ≠ w2.heap.size := by have := L2.lt; omega
    have hne2 : w.heap.size ≠ w2.heap.size + 1 := by have := L2.lt; omega
    have hlt2 := L2.lt
    have hlt2' : w.heap.size < w2.heap.size + 1 := by omega
    have HQ := Lib.hid q2
    go_wp2_with fail
    have LB := (L2.alloc (.cells c 184)).alloc (.cells #[.slice none 0 0, .int .i64 0] 146)
    have LT := (Loc.new w2 c 184).alloc (.cells #[.slice none 0 0, .int .i64 0] 146)
    have LY : Lay (w2.heap.size + 1) (fun _ => False) (w2.alloc (.cells c 184)) ((w2.alloc (.cells c 184)).alloc (.cells #[.slice none 0 0, .int .i64 0] 146)) [] := by
      have := Wr.fresh (w2.alloc (.cells c 184))
      simp only [World.size_alloc] at this
      exact ⟨_, this, fun k hk => ⟨by omega, fun f => f⟩, Below.alloc' (by simp) _ (Below.refl _ _)⟩
    refine (LY.call (by simp) (fun _ f => f.elim) (fun F hW => wtext_any _ F [] name _ hW (by have := isName_le HNM.out; simp; omega))).mono ?_; rintro e w3 ⟨rfl, LY3, hk3, hs3⟩
    have LB3 := hk3 _ _ _ (.inl (by omega)) LB
    have LT3 := hk3 _ _ _ (.inl (by omega)) LT
    simp only [World.size_alloc, List.nil_append] at hs3 LY3
    clear LY LB LT hk3
    have q3 := LB3.cell 1
    simp at q3
    go_wp2_with fail
    refine (LY3.call (by omega) (fun _ f => f.elim) (fun F hW => wnumber_any _ F _ args _ hW ha.1 (by omega) (by have := HTL.out; omega))).mono ?_; rintro e w4 ⟨rfl, LY4, hk4, hs4⟩
    have LB4 := hk4 _ _ _ (.inl (by omega)) LB3
    have LT4 := hk4 _ _ _ (.inl (by omega)) LT3
    clear LY3 LB3 LT3 hk4
    have q4 := LB4.cell 2
    simp at q4
    go_wp2_with fail
    refine (LY4.call (by omega) (fun _ f => f.elim) (fun F hW => wnumber_any _ F _ l.length _ hW (by omega) (by omega) (by have := HTL.out; have := encNumber_le args; simp only [List.length_append]; omega))).mono ?_; rintro e w5 ⟨rfl, LY5, hk5, hs5⟩
    have LB5 := hk5 _ _ _ (.inl (by omega)) LB4
    have LT5 := hk5 _ _ _ (.inl (by omega)) LT4
    clear LY4 LB4 LT4 hk5
    have q5 := LB5.cell 2
    simp at q5
    go_wp2_with fail
    obtain ⟨hd, hhd⟩ : ∃ hd, hd = encText name.data.toList ++ encNumber args ++ encNumber l.length := ⟨_, rfl⟩
    rw [← hhd] at LY5
    have HHD := Lib.hid hhd
    have HDL : Hid (hd.length ≤ 70) := Lib.hid (by
      rw [hhd]
      have := HTL.out; have := encNumber_le args; have := encNumber_le (l.length : Int)
      simp only [List.length_append]; omega)
    have HBL : Hid (∀ j, j ≤ l.length → (hd ++ (l.take j).flatMap insBytes).length ≤ 70 + 400 * j) := Lib.hid (fun j hj => by
      have h1 := HDL.out
      have h2 := codeBytes_le (l := l.take j) (fun x hx => by
        obtain ⟨k, hk, rfl⟩ := List.getElem_of_mem (List.mem_of_mem_take hx)
        exact (insCheck_zero (HALL.out k hk)).2.2)
      simp only [List.length_append, List.length_take] at *; omega)
    clear hhd
    have hne3 : w2.heap.size < w5.heap.size := by omega
    have hT2 : Tab (w2.alloc (.cells c 184)) w2.heap.size := ⟨c, _, Loc.new _ _ _, hS.keep (fun g cs t _ h => h.alloc _)⟩
    have HT2 := Lib.hid hT2
    clear hT2 hS hst hcs
    go_loopw [41] (fun i wr => ∃ j : Nat, j ≤ l.length ∧ i = .int .i64 j ∧ Lay (w2.heap.size + 1) (fun _ => False) (w2.alloc (.cells c 184)) wr (hd ++ (l.take j).flatMap insBytes) ∧
        Loc wr w.heap.size #[.string name, .int .i64 args, .slice A l.length cap] 54 ∧ Loc wr w2.heap.size c 184) (fun i _ => l.length - (intOf i).toNat)
    case atStart => exact ⟨0, Nat.zero_le _, rfl, by simpa using LY5, LB5, LT5⟩
    case round =>
      obtain ⟨wo, rfl⟩ : ∃ wo, wo = wr := ⟨_, rfl⟩
      obtain ⟨j, hj, rfl, LYr, LBr, LTr⟩ := hrel
      by_cases hlt : j < l.length
      · have hbF := LYr.bel
        have bwr : Below w.heap.size w wo := below_then (Below.alloc' (Nat.le_of_lt hlt2) _ b2) hbF (by omega)
        have hqr : w2.heap.size + 1 ≤ wo.heap.size := by have := hbF.size; simpa using this
        obtain ⟨b, off, hA, hbl, hc⟩ := (hr.of_below bwr (Nat.le_refl _)).at (by rw [codeCells_length]; omega)
        subst hA
        have hx : ∀ i, i < 8 → wo.cell? ⟨b, off + j * 8 + i, none⟩ = (insCells l[j])[i]? := fun i hi => by
          rw [Nat.add_assoc, hc _ (by rw [codeCells_length]; omega), codeCells_get l j hlt i hi]
        have hi := insCheck_zero (HALL.out j hlt)
        have htake : l.take (j + 1) = l.take j ++ [l[j]] := List.take_succ_eq_append_getElem hlt
        have hbl1 := HBL.out (j + 1) hlt
        have hin' := hin.2 _ (List.getElem_mem hlt)
        rw [htake] at hbl1
        have HTK := Lib.hid htake
        generalize l[j] = x at *
        have hx0 : wo.cell? ⟨b, off + j * 8, none⟩ = (insCells x)[0]? := hx 0 (by decide)
        obtain ⟨op, xa, xb, xc, xn, xv⟩ := x
        obtain ⟨⟨ho1, ho2⟩, hmay, hval⟩ := hi
        simp only at ho1 ho2 hmay hval
        have x0 := hx 0 (by decide); have x1 := hx 1 (by decide); have x2 := hx 2 (by decide); have x3 := hx 3 (by decide)
        have x4 := hx 4 (by decide); have x5 := hx 5 (by decide); have x6 := hx 6 (by decide); have x7 := hx 7 (by decide)
        simp [insCells] at x0 x1 x2 x3 x4 x5 x6 x7
        have HX := Lib.hid hx
        have HIN := Lib.hid hin'
        have HMAY := Lib.hid hmay
        have HVAL := Lib.hid hval
        have HBL1 := Lib.hid hbl1
        have hlt' : (j : Int) < (l.length : Int) := by omega
        clear hx hx0 hc htake hin' hmay hval hbl1
        obtain ⟨o, rfl⟩ := Int.eq_ofNat_of_zero_le (show 0 ≤ op by omega)
        obtain ⟨S, y0, y1, hSg⟩ := tab_at HT2.out o (by omega) (by omega)
        obtain ⟨L, hL⟩ : ∃ L, L = (fieldsOf o).length := ⟨_, rfl⟩
        obtain ⟨v, hv⟩ : ∃ v, v = hasVal o := ⟨_, rfl⟩
        rw [← hL] at y0 hSg
        rw [← hv] at y1
        have HL := Lib.hid hL
        have HV := Lib.hid hv
        have HSG := Lib.hid hSg
        clear hL hv hSg
        obtain ⟨pre, hpre⟩ : ∃ pre, pre = hd ++ (l.take j).flatMap insBytes := ⟨_, rfl⟩
        rw [← hpre] at LYr
        have hprel : pre.length ≤ 30000 := by rw [hpre]; have := HBL.out j hj; omega
        have HPRE := Lib.hid hpre
        have LXr := Loc.new wo (insCells ⟨o, xa, xb, xc, xn, xv⟩) 109
        have LYx := (LYr.also (N' := (· = wo.heap.size)) (fun k hk => .inr (by omega))).alloc hqr (.cells (insCells ⟨o, xa, xb, xc, xn, xv⟩) 109)
        have LBx := LBr.alloc (.cells (insCells ⟨o, xa, xb, xc, xn, xv⟩) 109)
        have LTx := LTr.alloc (.cells (insCells ⟨o, xa, xb, xc, xn, xv⟩) 109)
        clear hpre LYr LBr LTr
        go_wp2_with fail
        refine (LYx.call (by simp; omega) (fun k hk => by simp; omega) (fun F hW => wbyte_num _ F pre o _ hW (by omega) (by omega) (by omega))).mono ?_; rintro e w6 ⟨rfl, LY6, hk6, hs6⟩
        have LB6 := hk6 _ _ _ (.inl (by omega)) LBx
        have LT6 := hk6 _ _ _ (.inl (by omega)) LTx
        have LX6 := hk6 _ _ _ (.inr rfl) LXr
        simp only [World.size_alloc] at hs6
        clear hk6 LBx LTx LXr LYx
        have g0 := LX6.cell 0
        simp [insCells] at g0
        have t0 := (LY6.bel.cell (p := ⟨w2.heap.size, o * 2, none⟩) (show w2.heap.size < w2.heap.size + 1 by omega)).trans y0
        have t1 := (LY6.bel.cell (p := ⟨w2.heap.size, o * 2 + 1, none⟩) (show w2.heap.size < w2.heap.size + 1 by omega)).trans y1
        go_wp2_with fail
        go_loopw [56] (fun i wi => ∃ k : Nat, k ≤ L ∧ i = .int .i64 k ∧ Lay (w2.heap.size + 1) (· = wo.heap.size) (w2.alloc (.cells c 184)) wi (pre ++ [UInt8.ofNat (o : Int).toNat] ++ ((fieldsOf o).take k).flatMap (fldBytes ⟨o, xa, xb, xc, xn, xv⟩)) ∧
            Loc wi w.heap.size #[.string name, .int .i64 args, .slice (some ⟨b, off, none⟩) l.length cap] 54 ∧ Loc wi w2.heap.size c 184 ∧ Loc wi wo.heap.size (insCells ⟨o, xa, xb, xc, xn, xv⟩) 109 ∧ wo.heap.size < wi.heap.size) (fun i _ => L - (intOf i).toNat)
        case atStart => exact ⟨0, Nat.zero_le _, rfl, by simpa using LY6, LB6, LT6, LX6, by omega⟩
        case round =>
          obtain ⟨wi, rfl⟩ : ∃ wi, wi = wr := ⟨_, rfl⟩
          obtain ⟨k, hk, rfl, LYi, LBi, LTi, LXi, hsi⟩ := hrel
          by_cases hkl : k < L
          · obtain ⟨g, rfl, hg⟩ := HSG.out (by omega)
            have hgl := hg.lt
            simp only [World.size_alloc] at hgl
            have hgi := hg.below LYi.bel hgl
            have hkf : k < (fieldsOf o).length := by rw [← HL.out]; exact hkl
            have c0 := hgi.cell (k * 3 + 0); have c2 := hgi.cell (k * 3 + 2); have c1 := hgi.cell (k * 3 + 1)
            rw [shapeCells_get _ _ hkf _ (by decide)] at c0 c1 c2
            have htk : (fieldsOf o).take (k + 1) = (fieldsOf o).take k ++ [(fieldsOf o)[k]] := List.take_succ_eq_append_getElem hkf
            have HTK2 := Lib.hid htk
            generalize hf : (fieldsOf o)[k] = f at *
            have hm := Fld.may_pos (HMAY.out f (mem_take_or hkf hf))
            have hir := HIN.out.get f
            have ci := LXi.cell f.idx
            rw [insCells_get] at ci
            have hfb := fldsBytes_le ⟨o, xa, xb, xc, xn, xv⟩ ((fieldsOf o).take k)
            have hfl : ((fieldsOf o).take k).length ≤ 4 := by have := fieldsOf_len o; rw [List.length_take]; omega
            obtain ⟨sofar, hsf⟩ : ∃ sofar, sofar = pre ++ [UInt8.ofNat (o : Int).toNat] ++ ((fieldsOf o).take k).flatMap (fldBytes ⟨o, xa, xb, xc, xn, xv⟩) := ⟨_, rfl⟩
            have hsl : sofar.length ≤ 30100 := by rw [hsf]; simp only [List.length_append, List.length_singleton]; omega
            rw [← hsf] at LYi
            have HSF := Lib.hid hsf
            obtain ⟨z, hz⟩ : ∃ z, z = f.get ⟨o, xa, xb, xc, xn, xv⟩ := ⟨_, rfl⟩
            rw [← hz] at ci hm hir
            have HZ := Lib.hid hz
            have hfb2 : fldBytes ⟨o, xa, xb, xc, xn, xv⟩ f = if f.one then [UInt8.ofNat z.toNat] else encNumber z := by rw [hz]; rfl
            have HFB := Lib.hid hfb2
            have hAt := fun W => at_any f wo.heap.size W
            have HAt := Lib.hid hAt
            simp [Fld.cells] at c0 c1 c2
            obtain ⟨one, hone⟩ : ∃ one, one = f.one := ⟨_, rfl⟩
            rw [← hone] at c2 hm hfb2
            have HONE := Lib.hid hone
            have hz0 := hm.1
            have hz1 := hm.2
            have hz2 := hir.2
            have HFB2 := Lib.hid hfb2
            have hkl' : (k : Int) < (L : Int) := by omega
            have hqi : w2.heap.size + 1 ≤ wi.heap.size := by omega
            have LYj := LYi.alloc hqi (.cells #[.func (.func f.atFn) #[] #[], .func (.func f.mayFn) #[] #[], .bool one] 192)
            have LBj := LBi.alloc (.cells #[.func (.func f.atFn) #[] #[], .func (.func f.mayFn) #[] #[], .bool one] 192)
            have LTj := LTi.alloc (.cells #[.func (.func f.atFn) #[] #[], .func (.func f.mayFn) #[] #[], .bool one] 192)
            have LXj := LXi.alloc (.cells #[.func (.func f.atFn) #[] #[], .func (.func f.mayFn) #[] #[], .bool one] 192)
            have hL4 : L ≤ 4 := by rw [HL.out]; exact fieldsOf_len o
            have hxi : wo.heap.size ≠ wi.heap.size := by omega
            clear hf htk hAt hone hz hsf hfb hfl hfb2 hm hir hg hgi LYi LBi LTi
            cases one with
            | true =>
              have hz16 := hz1 rfl
              clear hz1
              cases f
              all_goals first
                | exact absurd HONE.out (by decide)
                | (simp only [Fld.atFn] at c0
                   go_wp2_with fail
                   refine (HAt.out _).mono ?_; rintro e w' ⟨rfl, rfl⟩
                   go_wp2_with fail
                   refine (LYj.call (by simp; omega) (fun k hk => by simp; omega) (fun F hW => wbyte_num _ F sofar z _ hW (by omega) (by omega) (by omega))).mono ?_; rintro e w7 ⟨rfl, LY7, hk7, hs7⟩
                   simp only [World.size_alloc] at hs7
                   go_wp2
                   go_roundw
                   case rel =>
                     refine ⟨k + 1, by omega, by go_num, ?_, hk7 _ _ _ (.inl (by omega)) LBj, hk7 _ _ _ (.inl (by omega)) LTj, hk7 _ _ _ (.inr rfl) LXj, by omega⟩
                     rw [HTK2.out, List.flatMap_append, ← List.append_assoc, ← HSF.out]
                     simpa [HFB2.out] using LY7
                   case measure => simp [intOf]; omega)
            | false =>
              clear hz1
              cases f
              all_goals first
                | exact absurd HONE.out (by decide)
                | (simp only [Fld.atFn] at c0
                   go_wp2_with fail
                   refine (HAt.out _).mono ?_; rintro e w' ⟨rfl, rfl⟩
                   go_wp2_with fail
                   refine (LYj.call (by simp; omega) (fun k hk => by simp; omega) (fun F hW => wnumber_any _ F sofar z _ hW hz0 hz2 (by omega))).mono ?_; rintro e w7 ⟨rfl, LY7, hk7, hs7⟩
                   simp only [World.size_alloc] at hs7
                   go_wp2
                   go_roundw
                   case rel =>
                     refine ⟨k + 1, by omega, by go_num, ?_, hk7 _ _ _ (.inl (by omega)) LBj, hk7 _ _ _ (.inl (by omega)) LTj, hk7 _ _ _ (.inr rfl) LXj, by omega⟩
                     rw [HTK2.out, List.flatMap_append, ← List.append_assoc, ← HSF.out]
                     simpa [HFB2.out] using LY7
                   case measure => simp [intOf]; omega)
          · obtain rfl : k = L := by omega
            rw [HL.out, List.take_length] at LYi
            have hqi : w2.heap.size + 1 ≤ wi.heap.size := by omega
            obtain ⟨sofar, hsf⟩ : ∃ sofar, sofar = pre ++ [UInt8.ofNat (o : Int).toNat] ++ (fieldsOf o).flatMap (fldBytes ⟨o, xa, xb, xc, xn, xv⟩) := ⟨_, rfl⟩
            have hsl : sofar.length ≤ 30100 := by
              have hfb := fldsBytes_le ⟨o, xa, xb, xc, xn, xv⟩ (fieldsOf o)
              have := fieldsOf_len o
              rw [hsf]; simp only [List.length_append, List.length_singleton]; omega
            rw [← hsf] at LYi
            have HSF := Lib.hid hsf
            have s1 := (LYi.bel.cell (p := ⟨w2.heap.size, o * 2 + 1, none⟩) (show w2.heap.size < w2.heap.size + 1 by omega)).trans y1
            have i0 := LXi.cell 0; have i5 := LXi.cell 5; have i6 := LXi.cell 6; have i7 := LXi.cell 7
            simp [insCells] at i0 i5 i6 i7
            have hall2 : hd ++ (l.take (j + 1)).flatMap insBytes = sofar ++ (if v then encText (datumBytes xv) else []) := by
              rw [HTK.out, List.flatMap_append, ← List.append_assoc, ← HPRE.out, HSF.out, HV.out]
              simp [insBytes]
            have HALL2 := Lib.hid hall2
            clear hall2 hsf y0 y1 t0 t1 g0 LY6 LB6 LT6 LX6 hs6
            cases v with
            | true =>
              have hdv := HVAL.out HV.out.symm
              obtain ⟨_, _, _, _, _, _, hn0, hn1⟩ := HIN.out
              simp only at hn0 hn1
              have hdl := datumBytes_le hdv
              have hde := fun W => dencode_ok xv hdv hn0 hn1 W
              unfold valCells at hde
              have HDE := Lib.hid hde
              clear hde
              go_wp2_with fail
              refine (HDE.out _).mono ?_; rintro e w7 ⟨A', c', rfl, hown, hb7⟩
              have LY7 := LYi.below hqi hb7
              have LB7 := LBi.below hb7 LBi.lt
              have LT7 := LTi.below hb7 LTi.lt
              have LX7 := LXi.below hb7 LXi.lt
              have hs7 := hb7.size
              have hcv := fun W (h : Row W A' (cellsB (datumBytes xv))) => run_ofBytes (P := Tryz.prog) 33 9 5 Tryz.underlying33 Tryz.underlying5 Tryz.underlying9 (W := W) (A := A') (xs := datumBytes xv) (datumBytes xv).length c' rfl h (owns_none hown)
              have hcv7 := hcv w7 (Row.of_owns hown)
              clear hcv hown hb7 LYi LBi LTi LXi
              go_wp2_with fail
              refine (LY7.call (by omega) (fun k hk => by omega) (fun F hW => wtext_any _ F sofar ⟨(datumBytes xv).toArray⟩ _ hW (by rw [← bsize]; show sofar.length + (datumBytes xv).length + 10 ≤ _; omega))).mono ?_; rintro e w8 ⟨rfl, LY8, hk8, hs8⟩
              go_wp2
              go_roundw
              case rel =>
                refine ⟨j + 1, by omega, by go_num, ?_, hk8 _ _ _ (.inl (by omega)) LB7, hk8 _ _ _ (.inl (by omega)) LT7⟩
                rw [HALL2.out]
                exact LY8.also (fun _ f => f.elim)
              case measure => simp [intOf]; omega
            | false =>
              go_wp2
              go_roundw
              case rel =>
                refine ⟨j + 1, by omega, by go_num, ?_, LBi, LTi⟩
                rw [HALL2.out]
                simpa using LYi.also (N' := fun _ => False) (fun _ f => f.elim)
              case measure => simp [intOf]; omega
      · obtain rfl : j = l.length := by omega
        rw [List.take_length] at LYr
        obtain ⟨F, hW, hF, hbF⟩ := LYr
        have hys : hd ++ l.flatMap insBytes = ys := by rw [HY.out, HHD.out]; simp [procBytes]
        rw [hys] at hW
        have hyl : ys.length ≤ 70 + 400 * l.length := by rw [← hys]; have := HBL.out l.length (Nat.le_refl _); rwa [List.take_length] at this
        have bwo : Below w.heap.size w wo := below_then (Below.alloc' (Nat.le_of_lt hlt2) _ b2) hbF (by omega)
        clear hys
        go_wp2_with fail
        refine (wdata_any _ _ ys _ hW (by omega)).mono ?_; rintro e w6 ⟨A', c', rfl, hown, hb6⟩
        go_wp2
        go_ret2
        exact ⟨A', c', rfl, owns_mono hown bwo.size, below_then bwo hb6 bwo.size⟩
  · have he : procEncode p = ([], (procCheck p).2) := by unfold procEncode; rw [if_neg hz]
    rw [he]
    obtain ⟨name, args, l⟩ := p
    simp only at *
    obtain ⟨E, hE⟩ : ∃ E, E = (procCheck ⟨name, args, l⟩).2 := ⟨_, rfl⟩
    obtain ⟨z, hz1⟩ : ∃ z, z = (procCheck ⟨name, args, l⟩).1 := ⟨_, rfl⟩
    rw [← hE, ← hz1] at hc
    rw [← hE] at hz ⊢
    have HC := Lib.hid hc
    have ht : (E != 0) = true := by simp [hz]
    clear hc he hE hz1 hz
    unfold procCells at *
    go_enter Tryz.func74, Tryz.ntmps74
    go_wp2_with fail
    refine (HC.out _ (hr.of_below ((Below.refl _ _).alloc (Nat.le_refl _) _) (Nat.le_refl _))).mono ?_; rintro e w1 ⟨rfl, hb⟩
    have b1 := below_then ((Below.refl w.heap.size w).alloc (Nat.le_refl _) _) hb (by simp)
    go_wp2
    go_ret2
    exact ⟨none, 0, rfl, World.ownsRow_nil _ _ _ _, b1⟩
end Go.Proofs.YtnieminnnkbneaaGreat
