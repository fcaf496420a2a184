/- Walks of the document's own answer: an instruction's error, and Check. -/
import Derived.Test.YtnieminnnkbneaaGreatRef1
namespace Go.Proofs.YtnieminnnkbneaaGreat
open Go.RowKit

set_option maxHeartbeats 1000000 in
theorem refDCheck_any (v : Val) (w : World) :
    Calls Tryz.prog 96 #[.agg (valCells v)] w fun e w' => e = .returned (.int .i64 (datumCheck v)) ∧ Below w.heap.size w w' := by
  obtain ⟨k, n, s⟩ := v
  unfold valCells
  obtain ⟨r, hr⟩ : ∃ r, r = datumCheck ⟨k, n, s⟩ := ⟨_, rfl⟩
  rw [← hr]
  have HR := Lib.hid hr
  clear hr
  go_enter Tryz.func96, Tryz.ntmps96
  go_wp2
  all_goals
    go_ret
    refine ⟨ret_int ?_, (Below.refl _ _).alloc (Nat.le_refl _) _⟩
    have hr := HR.out
    simp only [datumCheck] at hr
    have hsz := size_nil s
    first
      | (simp_all; done)
      | (simp_all; omega)
      | (rw [hr]; simp_all; omega)
      | (obtain rfl : k = 0 := by omega
         simp_all)

/-- A register, if there is that field; else zero. -/
def refReg (l : Bs) (f : UInt8) (v : Int) : Bool := if hasB l f then decide (0 ≤ v) && decide (v < 16) else v == 0

theorem refReg_any (l : Bs) (f : UInt8) (v : Int) (w : World) (hl : l.length ≤ 9223372036854775807) :
    Calls Tryz.prog 139 #[.string (ofBs l), .int .u8 (f.toNat : Int), .int .i64 v] w fun e w' => e = .returned (.bool (refReg l f v)) ∧ w = w' := by
  obtain ⟨r, hr⟩ : ∃ r, r = refReg l f v := ⟨_, rfl⟩
  rw [← hr]
  have HR := Lib.hid hr
  have hh := fun W => refHas_any l f W hl
  obtain ⟨h, hhb⟩ : ∃ h, h = hasB l f := ⟨_, rfl⟩
  rw [← hhb] at hh
  have HH := Lib.hid hh
  have HHB := Lib.hid hhb
  clear hr hh hhb
  go_enter Tryz.func139, Tryz.ntmps139
  go_wp2_with fail
  refine (HH.out _).mono ?_; rintro e w1 ⟨rfl, rfl⟩
  cases h with
  | true =>
    go_wp2
    all_goals
      go_ret
      refine ⟨ret_bool ?_, rfl⟩
      rw [HR.out, refReg, ← HHB.out]
      simp_all
      try omega
  | false =>
    go_wp2
    all_goals
      go_ret
      refine ⟨ret_bool ?_, rfl⟩
      rw [HR.out, refReg, ← HHB.out]
      simp_all
      try omega

/-- Is N what the table says? -/
def refNum (args : Int) (op n : Int) : Bool :=
  if op = 2 then decide (0 ≤ n) && decide (n < args) else if op = 10 ∨ op = 11 then decide (1 ≤ n) && decide (n ≤ 6) else if op = 12 ∨ op = 13 then decide (1 ≤ n) && decide (n ≤ 64) else n == 0

set_option maxHeartbeats 1000000 in
theorem refNum_any (name : ByteArray) (args : Int) (A : Option Addr) (len cap : Nat) (x : Ins) (w : World) :
    Calls Tryz.prog 141 #[.agg (procCells name args A len cap), .agg (insCells x)] w fun e w' => e = .returned (.bool (refNum args x.op x.n)) ∧ Below w.heap.size w w' := by
  obtain ⟨r, hr⟩ : ∃ r, r = refNum args x.op x.n := ⟨_, rfl⟩
  rw [← hr]
  have HR := Lib.hid hr
  obtain ⟨op, xa, xb, xc, xn, xv⟩ := x
  clear hr
  unfold procCells insCells
  simp only at HR ⊢
  go_enter Tryz.func141, Tryz.ntmps141
  go_wp2
  all_goals
    go_ret
    refine ⟨ret_bool ?_, ((Below.refl _ _).alloc (Nat.le_refl _) _).alloc (by simp) _⟩
    rw [HR.out]
    simp_all [refNum]
    try omega

/-- The document's error of an instruction. -/
def refIns (args len place : Int) (x : Ins) : Int :=
  if fieldsS x.op = [63] then 16 else
  if (if hasB (fieldsS x.op) 97 then decide (1 ≤ x.a) && decide (x.a ≤ len - 1 - place) else refReg (fieldsS x.op) 65 x.a) && (refReg (fieldsS x.op) 66 x.b && (refReg (fieldsS x.op) 67 x.c && refNum args x.op x.n)) then
    (if hasB (fieldsS x.op) 86 then datumCheck x.v else if x.v.kind = 0 ∧ x.v.num = 0 ∧ x.v.text.size = 0 then 0 else 16)
  else 16

theorem refIns_eq (args len place : Int) (x : Ins) : refIns args len place x = insCheck args len place x := by
  have he0 : emptyB = ByteArray.empty := rfl
  by_cases h : 1 ≤ x.op ∧ x.op ≤ 16
  · obtain ⟨op, a, b, c, n, v⟩ := x
    simp only at h
    have ho : op = 1 ∨ op = 2 ∨ op = 3 ∨ op = 4 ∨ op = 5 ∨ op = 6 ∨ op = 7 ∨ op = 8 ∨ op = 9 ∨ op = 10 ∨ op = 11 ∨ op = 12 ∨ op = 13 ∨ op = 14 ∨ op = 15 ∨ op = 16 := by omega
    rcases ho with rfl | rfl | rfl | rfl | rfl | rfl | rfl | rfl | rfl | rfl | rfl | rfl | rfl | rfl | rfl | rfl
    all_goals
      unfold insCheck
      simp [fieldsOf, Fld.get]
      simp [refIns, fieldsS, hasB, refReg, refNum, fieldsOf, Fld.may, Fld.put, insRest, clearF, hasVal, Ins.isZero, Val.zero, he0]
      by_cases he : v.text = ByteArray.empty <;> (try simp only [he, not_true_eq_false, not_false_eq_true, and_true, and_false, if_false]) <;> repeat' split
      all_goals first | rfl | omega | (exfalso; simp_all; done) | (exfalso; simp_all; omega)
  · have h1 : x.op < 1 ∨ 16 < x.op := by omega
    have h2 : fieldsS x.op = [63] := by
      unfold fieldsS
      simp only [show ¬ x.op = 1 by omega, show ¬ x.op = 2 by omega, show ¬ x.op = 3 by omega, show ¬ x.op = 4 by omega, show ¬ x.op = 5 by omega, show ¬ x.op = 6 by omega, show ¬ x.op = 7 by omega, show ¬ x.op = 8 by omega, show ¬ x.op = 9 by omega, show ¬ x.op = 10 by omega, show ¬ x.op = 11 by omega, show ¬ x.op = 12 by omega, show ¬ x.op = 13 by omega, show ¬ x.op = 14 by omega, show ¬ x.op = 15 by omega, show ¬ x.op = 16 by omega, or_self, if_false]
    unfold refIns insCheck
    rw [if_pos h2, if_pos h1]

theorem fieldsS_le (op : Int) : (fieldsS op).length ≤ 4 := by
  unfold fieldsS
  repeat' split
  all_goals simp

set_option maxHeartbeats 4000000 in
theorem refInstr_any (name : ByteArray) (args : Int) (A : Option Addr) (cap : Nat) (l : List Ins) (k : Nat) (hk : k < l.length) (w : World) (hr : Row w A (codeCells l)) (hlen : l.length ≤ 140737488355328) :
    Calls Tryz.prog 117 #[.agg (procCells name args A l.length cap), .int .i64 k] w fun e w' => e = .returned (.int .i64 (insCheck args l.length k l[k])) ∧ Below w.heap.size w w' := by
  rw [← refIns_eq]
  obtain ⟨b, off, rfl, hc⟩ := hr.ins (by omega)
  have hx := hc k hk
  obtain ⟨L, hL⟩ : ∃ L, L = l.length := ⟨_, rfl⟩
  rw [← hL] at hlen hk ⊢
  generalize l[k] = x at *
  obtain ⟨r, hr1⟩ : ∃ r, r = refIns args L k x := ⟨_, rfl⟩
  rw [← hr1]
  have HR := Lib.hid hr1
  have hnum := fun W => refNum_any name args (some ⟨b, off, none⟩) L cap x W
  obtain ⟨op, xa, xb, xc, xn, xv⟩ := x
  have x0 := hx 0 (by decide); have x1 := hx 1 (by decide); have x2 := hx 2 (by decide); have x3 := hx 3 (by decide)
  have x4 := hx 4 (by decide); have x5 := hx 5 (by decide); have x6 := hx 6 (by decide); have x7 := hx 7 (by decide)
  simp only [insCells, List.getElem?_toArray, List.getElem?_cons_zero, List.getElem?_cons_succ, Nat.add_zero] at x0 x1 x2 x3 x4 x5 x6 x7
  have hbl : b < w.heap.size := World.block_lt_of_cell? w _ x0
  obtain ⟨fs, hfs⟩ : ∃ fs, fs = fieldsS op := ⟨_, rfl⟩
  have hfl : fs.length ≤ 9223372036854775807 := by rw [hfs]; have := fieldsS_le op; omega
  have hfields := fun W => refFields_any op W
  rw [← hfs] at hfields
  obtain ⟨ra, hra⟩ : ∃ ra, ra = refReg fs 65 xa := ⟨_, rfl⟩
  obtain ⟨rb, hrb⟩ : ∃ rb, rb = refReg fs 66 xb := ⟨_, rfl⟩
  obtain ⟨rc, hrc⟩ : ∃ rc, rc = refReg fs 67 xc := ⟨_, rfl⟩
  obtain ⟨rn, hrn⟩ : ∃ rn, rn = refNum args op xn := ⟨_, rfl⟩
  obtain ⟨ha, hha⟩ : ∃ ha, ha = hasB fs 97 := ⟨_, rfl⟩
  obtain ⟨hv, hhv⟩ : ∃ hv, hv = hasB fs 86 := ⟨_, rfl⟩
  have cra := fun W => refReg_any fs 65 xa W hfl
  have crb := fun W => refReg_any fs 66 xb W hfl
  have crc := fun W => refReg_any fs 67 xc W hfl
  have cha := fun W => refHas_any fs 97 W hfl
  have chv := fun W => refHas_any fs 86 W hfl
  have cdv := fun W => refDCheck_any xv W
  simp only at hnum
  rw [← hrn] at hnum
  rw [← hra, show ((65 : UInt8).toNat : Int) = 65 from by decide] at cra
  rw [← hrb, show ((66 : UInt8).toNat : Int) = 66 from by decide] at crb
  rw [← hrc, show ((67 : UInt8).toNat : Int) = 67 from by decide] at crc
  rw [← hha, show ((97 : UInt8).toNat : Int) = 97 from by decide] at cha
  rw [← hhv, show ((86 : UInt8).toNat : Int) = 86 from by decide] at chv
  have hres : r = if fs = [63] then 16 else if (if ha then decide (1 ≤ xa) && decide (xa ≤ (L : Int) - 1 - k) else ra) && (rb && (rc && rn)) then (if hv then datumCheck xv else if xv.kind = 0 ∧ xv.num = 0 ∧ xv.text.size = 0 then 0 else 16) else 16 := by
    rw [hr1, hra, hrb, hrc, hrn, hha, hhv, hfs]; rfl
  have HRES := Lib.hid hres
  have HF := Lib.hid hfields
  have CRA := Lib.hid cra; have CRB := Lib.hid crb; have CRC := Lib.hid crc
  have CHA := Lib.hid cha; have CHV := Lib.hid chv; have CDV := Lib.hid cdv; have CNUM := Lib.hid hnum
  clear hr hc hx hr1 HR hra hrb hrc hrn hha hhv cra crb crc cha chv cdv hnum hfields hres hfs
  have hk' : (k : Int) < (L : Int) := by omega
  clear hL
  unfold procCells valCells at *
  go_enter Tryz.func117, Tryz.ntmps117
  have b1 := ((Below.refl w.heap.size w).alloc (Nat.le_refl _) (.cells #[.string name, .int .i64 args, .slice (some ⟨b, off, none⟩) L cap] 54)).alloc (by simp) (.cells #[.int .i64 op, .int .i64 xa, .int .i64 xb, .int .i64 xc, .int .i64 xn, .int .i64 xv.kind, .int .i64 xv.num, .string xv.text] 109)
  go_wp2_with fail
  refine (HF.out _).mono ?_; rintro e w1 ⟨rfl, rfl⟩
  by_cases h63 : fs = [63]
  · have hS : ((ofBs fs).toList == [63]) = true := by rw [ByteArray.toList_eq, ofBs_data, h63]; rfl
    have H63 := Lib.hid h63
    clear h63
    go_wp2
    go_ret
    refine ⟨ret_int ?_, b1⟩
    rw [HRES.out, if_pos H63.out]
  · have hS : ((ofBs fs).toList == [63]) = false := by rw [ByteArray.toList_eq, ofBs_data]; simpa using h63
    have H63 := Lib.hid h63
    clear h63
    go_wp2_with fail
    refine (CRA.out _).mono ?_; rintro e w1 ⟨rfl, rfl⟩
    go_wp2_with fail
    refine (CHA.out _).mono ?_; rintro e w1 ⟨rfl, rfl⟩
    obtain ⟨ac, hac⟩ : ∃ ac, ac = if ha then decide (1 ≤ xa) && decide (xa ≤ (L : Int) - 1 - k) else ra := ⟨_, rfl⟩
    have hres := HRES.out
    rw [if_neg H63.out, ← hac] at hres
    have HRES2 := Lib.hid hres
    clear hres HRES
    have hcase : (ha = false ∧ ra = ac) ∨ (ha = true ∧ ((1 ≤ xa ∧ xa ≤ (L : Int) - 1 - k ∧ ac = true) ∨ (1 ≤ xa ∧ ¬ xa ≤ (L : Int) - 1 - k ∧ ac = false) ∨ (¬ 1 ≤ xa ∧ ac = false))) := by
      cases ha with
      | false => left; exact ⟨rfl, by rw [hac]; simp⟩
      | true =>
        right
        refine ⟨rfl, ?_⟩
        by_cases h1 : 1 ≤ xa <;> by_cases h2 : xa ≤ (L : Int) - 1 - k <;> simp [hac, h1, h2]
    clear hac
    rcases hcase with ⟨rfl, rfl⟩ | ⟨rfl, ⟨h1, h2, rfl⟩ | ⟨h1, h2, rfl⟩ | ⟨h1, rfl⟩⟩
    all_goals
      go_wp2_with fail
      refine (CRB.out _).mono ?_; rintro e w1 ⟨rfl, rfl⟩
      go_wp2_with fail
      refine (CRC.out _).mono ?_; rintro e w1 ⟨rfl, rfl⟩
      go_wp2_with fail
      refine (CNUM.out _).mono ?_; rintro e w1 ⟨rfl, hb⟩
      have b2 := below_then b1 hb b1.size
      have L1 := (Loc.new (w.alloc (.cells #[.string name, .int .i64 args, .slice (some ⟨b, off, none⟩) L cap] 54)) #[.int .i64 op, .int .i64 xa, .int .i64 xb, .int .i64 xc, .int .i64 xn, .int .i64 xv.kind, .int .i64 xv.num, .string xv.text] 109).below hb (by simp)
      simp only [World.size_alloc] at L1
      have z5 := L1.cell 5; have z6 := L1.cell 6; have z7 := L1.cell 7
      simp at z5 z6 z7
      clear L1 hb
      go_wp2_with fail
      all_goals first
        | (go_ret
           refine ⟨ret_int ?_, b2⟩
           rw [HRES2.out]
           simp_all
           done)
        | (refine (CHV.out _).mono ?_
           rintro e w2 ⟨rfl, rfl⟩
           cases hv with
           | true =>
             go_wp2_with fail
             refine (CDV.out _).mono ?_
             rintro e w3 ⟨rfl, hb⟩
             go_wp2
             go_ret
             refine ⟨ret_int ?_, below_then b2 hb b2.size⟩
             rw [HRES2.out]
             simp_all
           | false =>
             go_wp2
             all_goals
               go_ret
               refine ⟨ret_int ?_, b2⟩
               rw [HRES2.out]
               have hsz := size_nil xv.text
               first | (simp_all; done) | (simp_all; omega))
end Go.Proofs.YtnieminnnkbneaaGreat
