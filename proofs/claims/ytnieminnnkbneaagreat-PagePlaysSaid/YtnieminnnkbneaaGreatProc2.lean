/- Walk of proc.instr. -/
import Derived.Test.YtnieminnnkbneaaGreatShapes
import Derived.RegionTactic
import Derived.ChangeAlike
import Derived.StillTailTactics
namespace Go.Proofs.YtnieminnnkbneaaGreat
open Go.RowKit

def Val.eqv (x y : Val) : Bool := x.kind == y.kind && (x.num == y.num && x.text.toList == y.text.toList)
def Ins.eqv (x y : Ins) : Bool := x.op == y.op && (x.a == y.a && (x.b == y.b && (x.c == y.c && (x.n == y.n && x.v.eqv y.v))))
theorem eqInVal (d : Nat) (x y : Val) (w : World) :
    (Op.equalIn (d + 2) 60 (.agg (valCells x)) (.agg (valCells y))).run Tryz.prog w = .ok (x.eqv y) w := by
  obtain ⟨x0, x1, x2⟩ := x
  obtain ⟨y0, y1, y2⟩ := y
  unfold valCells
  go_simp
  simp only [Val.eqv]
  by_cases h0 : x0 = y0 <;> by_cases h1 : x1 = y1 <;> by_cases h2 : x2.toList = y2.toList <;> simp [h0, h1, h2]
theorem eqInIns (d : Nat) (x y : Ins) (w : World) :
    (Op.equalIn (d + 3) 109 (.agg (insCells x)) (.agg (insCells y))).run Tryz.prog w = .ok (x.eqv y) w := by
  obtain ⟨x0, x1, x2, x3, x4, ⟨x5, x6, x7⟩⟩ := x
  obtain ⟨y0, y1, y2, y3, y4, ⟨y5, y6, y7⟩⟩ := y
  unfold insCells
  go_simp
  simp only [Ins.eqv, Val.eqv]
  by_cases h0 : x0 = y0
  · by_cases h1 : x1 = y1
    · by_cases h2 : x2 = y2
      · by_cases h3 : x3 = y3
        · by_cases h4 : x4 = y4
          · by_cases h5 : x5 = y5
            · by_cases h6 : x6 = y6
              · by_cases h7 : x7.toList = y7.toList <;> simp [h0, h1, h2, h3, h4, h5, h6, h7]
              · simp [h0, h1, h2, h3, h4, h5, h6]
            · simp [h0, h1, h2, h3, h4, h5]
          · simp [h0, h1, h2, h3, h4]
        · simp [h0, h1, h2, h3]
      · simp [h0, h1, h2]
    · simp [h0, h1]
  · simp [h0]

/-- The table of shapes at a block. -/
def Tab (w : World) (lb : Nat) : Prop := ∃ c B, Loc w lb c 184 ∧ Shp w B c [13, 12, 11, 10, 9, 8, 7, 6, 15, 5, 4, 14, 3, 2, 1]

theorem tab_at {w : World} {lb : Nat} (h : Tab w lb) (o : Nat) (h1 : 1 ≤ o) (h2 : o ≤ 16) :
    ∃ S, w.cell? ⟨lb, o * 2, none⟩ = some (.slice S (fieldsOf o).length (fieldsOf o).length) ∧ w.cell? ⟨lb, o * 2 + 1, none⟩ = some (.bool (hasVal o)) ∧
      (0 < (fieldsOf o).length → ∃ g, S = some ⟨g, 0, none⟩ ∧ Loc w g (shapeCells o) 192) := by
  obtain ⟨c, B, hL, hS⟩ := h
  rw [hL.cell, hL.cell, Nat.mul_comm o 2]
  by_cases h16 : o = 16
  · subst h16
    exact ⟨none, hS.2.2.1.1, hS.2.2.1.2, fun h => absurd h (by decide)⟩
  · obtain ⟨g, _, hg, k1, k2⟩ := hS.2.2.2 o (by simp; omega)
    exact ⟨some ⟨g, 0, none⟩, k1, k2, fun _ => ⟨g, rfl, hg⟩⟩

theorem shapeCells_get (op : Int) (j : Nat) (h : j < (fieldsOf op).length) (i : Nat) (hi : i < 3) : (shapeCells op)[j * 3 + i]? = ((fieldsOf op)[j]).cells[i]? := by
  unfold shapeCells
  generalize fieldsOf op = l at *
  rw [List.getElem?_toArray]
  induction l generalizing j with
  | nil => simp at h
  | cons f l ih =>
    rw [List.flatMap_cons]
    cases j with
    | zero => rw [List.getElem?_append_left (by simp [Fld.cells]; omega)]; simp
    | succ j =>
      rw [List.getElem?_append_right (by simp [Fld.cells]; omega)]
      have : (j + 1) * 3 + i - f.cells.toList.length = j * 3 + i := by simp [Fld.cells]; omega
      rw [this, ih j (by simpa using h)]
      simp

def procCells (name : ByteArray) (args : Int) (A : Option Addr) (len cap : Nat) : Array Value := #[.string name, .int .i64 args, .slice A len cap]

/-- The code behind an address. -/
def codeCells (l : List Ins) : List Value := l.flatMap fun x => (insCells x).toList

theorem codeCells_length (l : List Ins) : (codeCells l).length = l.length * 8 := by
  induction l with
  | nil => rfl
  | cons x l ih => simp only [codeCells, List.flatMap_cons, List.length_append] at *; rw [ih]; simp [insCells]; omega
theorem codeCells_get (l : List Ins) (k : Nat) (h : k < l.length) (j : Nat) (hj : j < 8) : (codeCells l)[k * 8 + j]? = (insCells l[k])[j]? := by
  induction l generalizing k with
  | nil => simp at h
  | cons x l ih =>
    have e : codeCells (x :: l) = (insCells x).toList ++ codeCells l := by simp [codeCells]
    rw [e]
    cases k with
    | zero => rw [List.getElem?_append_left (by simp [insCells]; omega)]; simp
    | succ k =>
      rw [List.getElem?_append_right (by simp [insCells]; omega)]
      have : (k + 1) * 8 + j - (insCells x).toList.length = k * 8 + j := by simp [insCells]; omega
      rw [this, ih k (by simpa using h)]
      simp

def i64R (n : Int) : Prop := -9223372036854775808 ≤ n ∧ n ≤ 9223372036854775807
/-- Numbers of the program. -/
def Ins.inR (x : Ins) : Prop := i64R x.op ∧ i64R x.a ∧ i64R x.b ∧ i64R x.c ∧ i64R x.n ∧ i64R x.v.kind ∧ i64R x.v.num
theorem Ins.inR.get {x : Ins} (h : x.inR) (f : Fld) : i64R (f.get x) := by
  obtain ⟨_, h1, h2, h3, h4, _⟩ := h
  cases f <;> assumption
theorem insCells_get (x : Ins) (f : Fld) : (insCells x)[f.idx]? = some (.int .i64 (f.get x)) := by cases f <;> rfl
theorem insCells_put (x : Ins) (f : Fld) (v : Int) : insCells (f.put x v) = (insCells x).setIfInBounds f.idx (.int .i64 v) := by cases f <;> rfl


theorem quiet_eq {P : Program} {f : FuncId} {args : Array Value} {w : World} {n : Nat} {v : Value} (h : Calls P f args (w.drewN n) fun e w' => e = .returned v ∧ w.drewN n = w') :
    Calls P f args (w.drewN n) fun e w'' => e = .returned v ∧ ∃ m, w'' = w.drewN m := h.mono fun _ _ ⟨he, hm⟩ => ⟨he, n, hm.symm⟩
theorem insCheck_rest {args len place : Int} {x : Ins} (h : (insRest x).isZero = false) : insCheck args len place x = 16 := by
  unfold insCheck
  by_cases h0 : x.op < 1 ∨ 16 < x.op
  · rw [if_pos h0]
  · rw [if_neg h0]
    by_cases h1 : (!(fieldsOf x.op).all (fun f => f.may args len place (f.get x))) = true
    · rw [if_pos h1]
    · rw [if_neg h1, if_pos (by rw [h]; rfl)]
theorem insCheck_yes {args len place : Int} {x : Ins} (h1 : 1 ≤ x.op) (h2 : x.op ≤ 16) (hall : ∀ f ∈ fieldsOf x.op, f.may args len place (f.get x) = true) (h : (insRest x).isZero = true) :
    insCheck args len place x = if hasVal x.op then datumCheck x.v else 0 := by
  unfold insCheck
  rw [if_neg (by omega), if_neg (by simp only [Bool.not_eq_true', Bool.not_eq_false, List.all_eq_true]; exact hall), if_neg (by rw [h]; simp)]
theorem fieldsOf_len (op : Int) : (fieldsOf op).length ≤ 4 := by
  unfold fieldsOf
  repeat' split
  all_goals simp
theorem toList_empty (s : ByteArray) : s = ByteArray.empty ↔ s.toList = [] := by
  rw [size_nil, ByteArray.size_eq_zero_iff]
theorem mem_take_or {α : Type} {l : List α} {j : Nat} (h : j < l.length) {f : α} (he : l[j] = f) : f ∈ l := he ▸ List.getElem_mem h
theorem insCheck_no {args len place : Int} {x : Ins} {f : Fld} (h : f ∈ fieldsOf x.op) (hm : f.may args len place (f.get x) = false) : insCheck args len place x = 16 := by
  unfold insCheck
  by_cases h0 : x.op < 1 ∨ 16 < x.op
  · rw [if_pos h0]
  · rw [if_neg h0, if_pos]
    simp only [Bool.not_eq_true', List.all_eq_false]
    exact ⟨f, h, by simp [hm]⟩
theorem clearF_snoc (r : Ins) (l : List Fld) (f : Fld) : clearF r (l ++ [f]) = f.put (clearF r l) 0 := by simp [clearF]

set_option maxRecDepth 100000 in
set_option maxHeartbeats 8000000 in
theorem instr_any (lb pb : Nat) (name : ByteArray) (args : Int) (A : Option Addr) (cap : Nat) (l : List Ins) (k : Nat) (hk : k < l.length) (w : World) (hT : Tab w lb) (hp : Loc w pb (procCells name args A l.length cap) 54)
    (hr : Row w A (codeCells l)) (hlen : l.length ≤ 140737488355328) (hin : l[k].inR) :
    Calls Tryz.prog 112 #[.pointer (some ⟨lb, 0, none⟩), .pointer (some ⟨pb, 0, none⟩), .int .i64 k] w fun e w' => e = .returned (.int .i64 (insCheck args l.length k l[k])) ∧ Below w.heap.size w w' := by
  obtain ⟨b, off, rfl, hbl, hc⟩ := hr.at (by rw [codeCells_length]; omega)
  have hx : ∀ j, j < 8 → w.cell? ⟨b, off + k * 8 + j, none⟩ = (insCells l[k])[j]? := fun j hj => by
    rw [Nat.add_assoc, hc _ (by rw [codeCells_length]; omega), codeCells_get l k hk j hj]
  generalize l[k] = x at *
  obtain ⟨op, xa, xb, xc, xn, xv⟩ := x
  have x0 := hx 0 (by decide); have x1 := hx 1 (by decide); have x2 := hx 2 (by decide); have x3 := hx 3 (by decide)
  have x4 := hx 4 (by decide); have x5 := hx 5 (by decide); have x6 := hx 6 (by decide); have x7 := hx 7 (by decide)
  simp [insCells] at x0 x1 x2 x3 x4 x5 x6 x7
  have p0 := hp.cell 0; have p1 := hp.cell 1; have p2 := hp.cell 2
  simp [procCells] at p0 p1 p2
  obtain ⟨R, hR⟩ : ∃ R, R = insCheck args l.length k ⟨op, xa, xb, xc, xn, xv⟩ := ⟨_, rfl⟩
  rw [← hR]
  have HR := Lib.hid hR
  have HX := Lib.hid hx
  have HIN := Lib.hid hin
  have HT := Lib.hid hT
  have HP := Lib.hid hp
  clear hR hx hc hT hp hin
  have hk' : (k : Int) < (l.length : Int) := by omega
  go_enter Tryz.func112, Tryz.ntmps112
  by_cases hrange : op < 1 ∨ 16 < op
  · have hr16 : R = 16 := by rw [HR.out]; unfold insCheck; rw [if_pos hrange]
    subst hr16
    clear HR
    rcases hrange with h | h
    all_goals
      go_wp2
      go_ret
      exact ⟨rfl, (Below.refl _ _).alloc (Nat.le_refl _) _⟩
  · have ho1 : 1 ≤ op := by omega
    have ho2 : op ≤ 16 := by omega
    clear hrange
    obtain ⟨o, rfl⟩ := Int.eq_ofNat_of_zero_le (show 0 ≤ op by omega)
    have hno1 : ¬ (o : Int) < 1 := by omega
    have hno2 : ¬ (16 : Int) < (o : Int) := by omega
    obtain ⟨S, y0, y1, hS⟩ := tab_at HT.out o (by omega) (by omega)
    obtain ⟨L, hL⟩ : ∃ L, L = (fieldsOf o).length := ⟨_, rfl⟩
    obtain ⟨v, hv⟩ : ∃ v, v = hasVal o := ⟨_, rfl⟩
    rw [← hL] at y0 hS
    rw [← hv] at y1
    have HS := Lib.hid hS
    have HL := Lib.hid hL
    have HV := Lib.hid hv
    have hlb : lb < w.heap.size := by
      obtain ⟨c, B, h, _⟩ := HT.out
      exact h.lt
    clear hS hL hv
    go_wp2
    go_region
    go_wp2
    go_loopw [38] (fun i wr => ∃ j : Nat, j ≤ L ∧ i = .int .i64 j ∧ Hid (∀ f ∈ (fieldsOf o).take j, f.may args l.length k (f.get ⟨o, xa, xb, xc, xn, xv⟩) = true) ∧ Loc wr w.heap.size (insCells ⟨o, xa, xb, xc, xn, xv⟩) 109 ∧
        Loc wr (w.heap.size + 1) #[.slice S L L, .bool v] 183 ∧ Loc wr (w.heap.size + 1 + 1) (insCells (clearF ⟨0, xa, xb, xc, xn, xv⟩ ((fieldsOf o).take j))) 109 ∧ Below w.heap.size w wr)
      (fun i _ => L - (intOf i).toNat)
    case atStart =>
      refine ⟨0, Nat.zero_le _, rfl, Lib.hid (by simp), ?_, ?_, ?_, ?_⟩
      · exact ((Loc.new w _ _).alloc _).alloc _
      · exact (Loc.new' (by simp)).alloc _
      · exact Loc.new' (by simp)
      · exact (Below.allocS (Nat.le_refl _) (Below.allocS (Nat.le_refl _) (Below.allocS (Nat.le_refl _) (Below.refl _ _)))).drew
    case round =>
      rename_i wr
      obtain ⟨j, hj, rfl, hmay, LX, LS, LR, bw⟩ := hrel
      by_cases hlt : j < L
      · obtain ⟨g, rfl, hg⟩ := HS.out (by omega)
        have hgl := hg.lt
        have hg' := hg.below bw hgl
        have hjl : j < (fieldsOf o).length := by rw [← HL.out]; exact hlt
        have c0 := hg'.cell (j * 3 + 0); have c1 := hg'.cell (j * 3 + 1); have c2 := hg'.cell (j * 3 + 2)
        rw [shapeCells_get _ _ hjl _ (by decide)] at c0 c1 c2
        have htake : (fieldsOf o).take (j + 1) = (fieldsOf o).take j ++ [(fieldsOf o)[j]] := List.take_succ_eq_append_getElem hjl
        have HTK := Lib.hid htake
        generalize hf : (fieldsOf o)[j] = f at *
        have HF := Lib.hid hf
        have hlt' : (j : Int) < (L : Int) := by omega
        have ci := LX.cell f.idx
        rw [insCells_get] at ci
        have hv := HIN.out.get f
        have hpl := HP.out.lt
        have LP := HP.out.below bw hpl
        have q0 := Lib.hid LP
        have hwr := bw.size
        have hL4 : L ≤ 4 := by rw [HL.out]; exact fieldsOf_len o
        have MEM := Lib.hid (mem_take_or hjl HF.out)
        clear htake hf hg hg' LP
        obtain ⟨z, hz⟩ : ∃ z, z = f.get ⟨o, xa, xb, xc, xn, xv⟩ := ⟨_, rfl⟩
        rw [← hz] at ci hv
        obtain ⟨m, hm⟩ : ∃ m, m = f.may args l.length k z := ⟨_, rfl⟩
        have HM := Lib.hid hm
        have hMay := fun W (h : Loc W pb (procCells name args (some ⟨b, off, none⟩) l.length cap) 54) => may_any f z pb k name args (some ⟨b, off, none⟩) l.length cap W h hv.1 hv.2 (by omega) (by omega) (by omega)
        rw [← hm] at hMay
        have HMay := Lib.hid hMay
        have hAt := fun W => at_any f w.heap.size W
        have HAt := Lib.hid hAt
        have hAt2 := fun W => at_any f (w.heap.size + 1 + 1) W
        have HAt2 := Lib.hid hAt2
        have HZ := Lib.hid hz
        obtain ⟨r, hr⟩ : ∃ r, r = clearF ⟨0, xa, xb, xc, xn, xv⟩ ((fieldsOf o).take j) := ⟨_, rfl⟩
        rw [← hr] at LR
        have HRR := Lib.hid hr
        have HPUT := Lib.hid (insCells_put r f 0).symm
        have LR0 := LR.cell f.idx
        have LRF := LR.free
        rw [insCells_get] at LR0
        have hwr2 := LR.lt
        have hwr0 := LX.lt
        clear hm hMay hAt hAt2 hz hr
        have hpl' : pb ≠ wr.heap.size := by omega
        have hne0 : w.heap.size ≠ wr.heap.size := by omega
        have hne2 : w.heap.size + 1 + 1 ≠ wr.heap.size := by omega
        cases m with
        | false =>
          have hr16 : R = 16 := by
            rw [HR.out]
            exact insCheck_no MEM.out (by rw [← HZ.out, ← HM.out])
          subst hr16
          clear HR
          cases f
          all_goals
            simp [Fld.cells, Fld.atFn, Fld.mayFn, Fld.one] at c0 c1 c2 ci
            go_wp2
            go_quiet ((first | exact quiet_eq (HAt.out _) | exact quiet_eq (HMay.out _ ((q0.out.alloc _).drewN _))))
            go_wp2
            go_ret
            exact ⟨rfl, below_drewN (Below.alloc' hwr _ bw) _⟩
        | true =>
          cases f
          all_goals
            simp [Fld.cells, Fld.atFn, Fld.mayFn, Fld.one] at c0 c1 c2 ci LR0
            go_wp2
            go_quiet ((first | exact quiet_eq (HAt.out _) | exact quiet_eq (HMay.out _ ((q0.out.alloc _).drewN _))))
            go_wp2_with (first | (refine (HAt2.out _).mono ?_; rintro e w' ⟨rfl, rfl⟩))
            go_roundw
            case rel =>
              refine ⟨j + 1, by omega, by go_num, Lib.hid (fun f hf => ?_), ?_, ?_, ?_, ?_⟩
              · rw [HTK.out] at hf
                rcases List.mem_append.1 hf with hf | hf
                · exact hmay.out f hf
                · rw [List.mem_singleton.1 hf, ← HZ.out, ← HM.out]
              · exact Loc.other' (by omega) ((LX.alloc _).drewN _)
              · exact Loc.other' (by omega) ((LS.alloc _).drewN _)
              · rw [HTK.out, clearF_snoc, ← HRR.out]
                exact Loc.set' ((LR.alloc _).drewN _) HPUT.out
              · exact Below.setCell' (Nat.le_succ_of_le (Nat.le_succ _)) _ (below_drewN (Below.alloc' hwr _ bw) _)
            case measure => simp [intOf]; omega
      · obtain rfl : j = L := by omega
        have hall : ∀ f ∈ fieldsOf o, f.may args l.length k (f.get ⟨o, xa, xb, xc, xn, xv⟩) = true := fun f hf => hmay.out f (by rw [HL.out, List.take_length]; exact hf)
        have HALL := Lib.hid hall
        rw [HL.out, List.take_length] at LR
        obtain ⟨r, hr⟩ : ∃ r, r = clearF ⟨0, xa, xb, xc, xn, xv⟩ (fieldsOf o) := ⟨_, rfl⟩
        rw [← hr] at LR
        have HRR := Lib.hid hr
        clear hall hr hmay
        have r0 := LR.cell 0; have r1 := LR.cell 1; have r2 := LR.cell 2; have r3 := LR.cell 3
        have r4 := LR.cell 4; have r5 := LR.cell 5; have r6 := LR.cell 6; have r7 := LR.cell 7
        simp [insCells] at r0 r1 r2 r3 r4 r5 r6 r7
        have s1 := LS.cell 1
        simp at s1
        have hwr2 := LR.lt
        have LRF := LR.free
        have l5 := LX.cell 5; have l6 := LX.cell 6; have l7 := LX.cell 7
        simp [insCells] at l5 l6 l7
        cases v with
        | false =>
          have hrest : insRest ⟨o, xa, xb, xc, xn, xv⟩ = r := by
            unfold insRest
            rw [← HV.out]
            exact HRR.out.symm
          have HREST := Lib.hid hrest
          clear hrest
          go_wp2
          all_goals
            go_ret
            refine ⟨ret_int ?_, bw⟩
            rw [HR.out]
            symm
            first
              | (rw [insCheck_yes ho1 ho2 HALL.out (by rw [HREST.out]; simp [Ins.isZero, toList_empty, *])]
                 exact if_neg (by rw [← HV.out]; simp))
              | (refine insCheck_rest ?_
                 rw [HREST.out]
                 simp [Ins.isZero, toList_empty, *])
        | true =>
          have hrest : insRest ⟨o, xa, xb, xc, xn, xv⟩ = { r with v := .zero } := by
            unfold insRest
            rw [← HV.out, if_pos rfl]
            rw [← HRR.out]
          have HREST := Lib.hid hrest
          obtain ⟨D, hD⟩ : ∃ D, D = datumCheck xv := ⟨_, rfl⟩
          have hdc := fun W => dcheck_any xv W
          rw [← hD] at hdc
          have HD := Lib.hid hD
          have HDC := Lib.hid hdc
          have he : emptyB = ByteArray.empty := rfl
          clear hrest hdc hD
          go_wp2_with (go_at_call 77; refine (HDC.out _).mono ?_; rintro e w' ⟨rfl, hb⟩)
          all_goals
            have bw3 := Below.setCell' (o := 7) (Nat.le_succ_of_le (Nat.le_succ _)) (.string ⟨#[]⟩) (Below.setCell' (o := 6) (Nat.le_succ_of_le (Nat.le_succ _)) (.int .i64 0) (Below.setCell' (o := 5) (Nat.le_succ_of_le (Nat.le_succ _)) (.int .i64 0) bw))
            go_ret
            refine ⟨ret_int ?_, by first | exact bw3 | exact below_then bw3 (by assumption) bw3.size⟩
            rw [HR.out]
            symm
            first
              | (rw [insCheck_yes ho1 ho2 HALL.out (by rw [HREST.out]; simp [Ins.isZero, Val.zero, *])]
                 rw [if_pos HV.out.symm, HD.out])
              | (refine insCheck_rest ?_
                 rw [HREST.out]
                 simp [Ins.isZero, toList_empty, *])
end Go.Proofs.YtnieminnnkbneaaGreat
