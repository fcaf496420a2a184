/- Walks of batch.Check: kinds, and what each kind says. -/
import Derived.Test.YtnmcdifkknphgaaBat
import Derived.Test.YtnmcdifkknphgaaProc3
namespace Go.Proofs.Ytnmcdifkknphgaa
open Go.RowKit

def valsCells (l : List Val) : List Value := l.flatMap fun v => (valCells v).toList

/-- A transaction and where its lists lie. -/
structure TxnC where
  t : Txn
  A : Option Addr
  c : Nat
  B : Option Addr
  d : Nat

namespace TxnC
def cells (x : TxnC) : Array Value := #[.int .i64 x.t.kind, .string x.t.proc.name, .int .i64 x.t.proc.args, .slice x.B x.t.proc.code.length x.d, .string x.t.name, .slice x.A x.t.args.length x.c]
structure ok (W : World) (x : TxnC) : Prop where
  a : Row W x.A (valsCells x.t.args)
  a0 : x.A = none → x.t.args.length = 0
  b : Row W x.B (codeCells x.t.proc.code)
  b0 : x.B = none → x.t.proc.code.length = 0
theorem ok.below {W V : World} {x : TxnC} (h : x.ok W) (hb : Below W.heap.size W V) : x.ok V := ⟨h.a.of_below hb (Nat.le_refl _), h.a0, h.b.of_below hb (Nat.le_refl _), h.b0⟩
end TxnC

/-- The interface of a transaction's kind. -/
def kindV (x : TxnC) : Value :=
  if x.t.kind = 1 then .iface 73 (.agg x.cells) else if x.t.kind = 2 then .iface 77 (.agg x.cells) else if x.t.kind = 3 then .iface 76 (.agg x.cells) else .nilIface

set_option maxHeartbeats 1000000 in
theorem kindOf_any (x : TxnC) (w : World) : Calls Try.prog 21 #[.agg x.cells] w fun e w' => e = .returned (kindV x) ∧ Below w.heap.size w w' := by
  obtain ⟨r, hr⟩ : ∃ r, r = kindV x := ⟨_, rfl⟩
  rw [← hr]
  have HR := Lib.hid hr
  clear hr
  obtain ⟨⟨k, ⟨pn, pa, pc⟩, nm, vs⟩, A, c, B, d⟩ := x
  unfold TxnC.cells
  simp only
  go_enter Try.func21, Try.ntmps21
  go_wp2
  all_goals
    go_ret
    refine ⟨?_, (Below.refl _ _).alloc (Nat.le_refl _) _⟩
    rw [HR.out]
    simp_all [kindV, TxnC.cells]

theorem bare_any (p : Prc) (B : Option Addr) (d : Nat) (w : World) : Calls Try.prog 121 #[.agg (procCells p.name p.args B p.code.length d)] w fun e w' => e = .returned (.bool (bareP p)) ∧ Below w.heap.size w w' := by
  obtain ⟨r, hr⟩ : ∃ r, r = bareP p := ⟨_, rfl⟩
  rw [← hr]
  have HR := Lib.hid hr
  clear hr
  obtain ⟨pn, pa, pc⟩ := p
  obtain ⟨L, hL⟩ : ∃ L, L = pc.length := ⟨_, rfl⟩
  have HL := Lib.hid hL
  simp only
  rw [← hL]
  clear hL
  have hsz := size_nil pn
  have HSZ := Lib.hid hsz
  clear hsz
  unfold procCells
  go_enter Try.func121, Try.ntmps121
  go_wp2
  all_goals
    go_ret
    refine ⟨?_, (Below.refl _ _).alloc (Nat.le_refl _) _⟩
    rw [HR.out]
    have hsz := HSZ.out
    have hL := HL.out
    first
      | (simp_all [bareP]; done)
      | (simp_all [bareP]; rw [Bool.eq_iff_iff]; simp)

theorem bisName_any (s : ByteArray) (w : World) : Calls Try.prog 122 #[.string s] w fun e w' => e = .returned (.bool (isName s)) ∧ Below w.heap.size w w' := by
  have hck := fun W => pcheck_any ⟨s, 0, []⟩ none 0 W (Row.nil _ _) (by simp) ⟨by unfold i64R; simp, fun x hx => by cases hx⟩
  obtain ⟨z1, z2, hz⟩ : ∃ z1 z2, procCheck ⟨s, 0, []⟩ = (z1, z2) := ⟨_, _, rfl⟩
  rw [hz] at hck
  have hb : (z2 != 5) = isName s := by
    have h1 : procCheck ⟨s, 0, []⟩ = if !isName s then (-1, 5) else (0, 0) := by
      unfold procCheck
      simp [codeCheck]
    rw [h1] at hz
    cases hn : isName s with
    | true => rw [hn] at hz; simp at hz; rw [← hz.2]; rfl
    | false => rw [hn] at hz; simp at hz; rw [← hz.2]; rfl
  have HB := Lib.hid hb
  unfold procCells at hck
  have HCK := Lib.hid hck
  clear hck hb hz
  go_enter Try.func122, Try.ntmps122
  go_wp2_with fail
  refine (HCK.out _).mono ?_; rintro e w1 ⟨rfl, hb⟩
  go_wp2
  go_ret
  rw [← HB.out]
  exact ⟨rfl, hb⟩

/-- What a definition says. -/
def defCheck (t : Txn) : Int := if t.name.size ≠ 0 ∨ 0 < t.args.length then 3 else (procCheck t.proc).2
def dropCheck (t : Txn) : Int := if 0 < t.args.length ∨ bareP t.proc = false then 3 else if isName t.name = false then 5 else 0
def callCheck (t : Txn) : Int := if bareP t.proc = false then 3 else if isName t.name = false then 5 else if 16 < t.args.length then 4 else 0

set_option maxHeartbeats 1000000 in
theorem defcheck_any (x : TxnC) (w : World) (h : x.ok w) (hin : x.t.proc.inR) (hl : x.t.proc.code.length ≤ 140737488355328) (ha : x.t.args.length ≤ 140737488355328) :
    Calls Try.prog 119 #[.agg x.cells] w fun e w' => e = .returned (.int .i64 (defCheck x.t)) ∧ Below w.heap.size w w' := by
  have hck := fun W (hb : Below w.heap.size w W) => pcheck_any x.t.proc x.B x.d W (h.b.of_below hb (Nat.le_refl _)) hl hin
  obtain ⟨r, hr⟩ : ∃ r, r = defCheck x.t := ⟨_, rfl⟩
  rw [← hr]
  have HR := Lib.hid hr
  obtain ⟨⟨k, p, nm, vs⟩, A, c, B, d⟩ := x
  obtain ⟨z1, z2, hz⟩ : ∃ z1 z2, procCheck p = (z1, z2) := ⟨_, _, rfl⟩
  have HSZ := Lib.hid (size_nil nm)
  obtain ⟨L, hL⟩ : ∃ L, L = vs.length := ⟨_, rfl⟩
  unfold TxnC.cells defCheck procCells at *
  simp only at hck HR ha ⊢
  rw [hz] at hck HR
  rw [← hL] at HR ha ⊢
  have HCK := Lib.hid hck
  clear hck hr hz h hin hL
  go_enter Try.func119, Try.ntmps119
  go_wp2_with (go_at_call 51; refine (HCK.out _ ((Below.refl _ _).alloc (Nat.le_refl _) _)).mono ?_; rintro e w1 ⟨rfl, hb⟩)
  all_goals
    go_ret
    refine ⟨ret_int ?_, ?_⟩
    · rw [HR.out]
      have hsz := HSZ.out
      simp_all
      try omega
    · first
        | exact (Below.refl _ _).alloc (Nat.le_refl _) _
        | exact below_then ((Below.refl _ _).alloc (Nat.le_refl _) _) hb (by simp)

set_option maxHeartbeats 1000000 in
theorem dropcheck_any (x : TxnC) (w : World) (ha : x.t.args.length ≤ 140737488355328) :
    Calls Try.prog 120 #[.agg x.cells] w fun e w' => e = .returned (.int .i64 (dropCheck x.t)) ∧ Below w.heap.size w w' := by
  have hba := fun W => bare_any x.t.proc x.B x.d W
  have hna := fun W => bisName_any x.t.name W
  obtain ⟨r, hr⟩ : ∃ r, r = dropCheck x.t := ⟨_, rfl⟩
  rw [← hr]
  obtain ⟨⟨k, p, nm, vs⟩, A, c, B, d⟩ := x
  obtain ⟨L, hL⟩ : ∃ L, L = vs.length := ⟨_, rfl⟩
  unfold TxnC.cells dropCheck procCells at *
  simp only at hba hna hr ha ⊢
  obtain ⟨bb, hbb⟩ : ∃ bb, bb = bareP p := ⟨_, rfl⟩
  obtain ⟨nn, hnn⟩ : ∃ nn, nn = isName nm := ⟨_, rfl⟩
  rw [← hbb] at hba hr
  rw [← hnn] at hna hr
  rw [← hL] at hr ha ⊢
  have HR := Lib.hid hr
  have HBA := Lib.hid hba
  have HNA := Lib.hid hna
  have b0 := (Below.refl w.heap.size w).alloc (Nat.le_refl _) (.cells #[.int .i64 k, .string p.name, .int .i64 p.args, .slice B p.code.length d, .string nm, .slice A L c] 76)
  have L0 := Loc.new w #[.int .i64 k, .string p.name, .int .i64 p.args, .slice B p.code.length d, .string nm, .slice A L c] 76
  clear hba hna hr hL hbb hnn
  by_cases hL0 : 0 < L
  · have hLI : (0 : Int) < (L : Int) := by omega
    go_enter Try.func120, Try.ntmps120
    go_wp2
    go_ret
    refine ⟨ret_int ?_, b0⟩
    rw [HR.out]
    first | (simp [*]; done) | (simp; omega)
  · have hLI : ¬ (0 : Int) < (L : Int) := by omega
    cases bb with
    | false =>
      go_enter Try.func120, Try.ntmps120
      go_wp2_with fail
      refine (HBA.out _).mono ?_; rintro e w1 ⟨rfl, hb⟩
      go_wp2
      go_ret
      refine ⟨ret_int ?_, below_then b0 hb b0.size⟩
      rw [HR.out]
      first | (simp [*]; done) | (simp; omega)
    | true =>
      go_enter Try.func120, Try.ntmps120
      go_wp2_with fail
      refine (HBA.out _).mono ?_; rintro e w1 ⟨rfl, hb⟩
      have L1 := L0.below hb L0.lt
      have b1 := below_then b0 hb b0.size
      have c4 := L1.cell 4
      simp at c4
      clear hb L0 b0
      go_wp2_with fail
      refine (HNA.out _).mono ?_; rintro e w2 ⟨rfl, hb⟩
      cases nn with
      | false =>
        go_wp2
        go_ret
        refine ⟨ret_int ?_, below_then b1 hb b1.size⟩
        rw [HR.out]
        first | (simp [*]; done) | (simp; omega)
      | true =>
        go_wp2
        go_ret
        refine ⟨ret_int ?_, below_then b1 hb b1.size⟩
        rw [HR.out]
        first | (simp [*]; done) | (simp; omega)

set_option maxHeartbeats 1000000 in
theorem callcheck_any (x : TxnC) (w : World) (ha : x.t.args.length ≤ 140737488355328) :
    Calls Try.prog 123 #[.agg x.cells] w fun e w' => e = .returned (.int .i64 (callCheck x.t)) ∧ Below w.heap.size w w' := by
  have hba := fun W => bare_any x.t.proc x.B x.d W
  have hna := fun W => bisName_any x.t.name W
  obtain ⟨r, hr⟩ : ∃ r, r = callCheck x.t := ⟨_, rfl⟩
  rw [← hr]
  obtain ⟨⟨k, p, nm, vs⟩, A, c, B, d⟩ := x
  obtain ⟨L, hL⟩ : ∃ L, L = vs.length := ⟨_, rfl⟩
  unfold TxnC.cells callCheck procCells at *
  simp only at hba hna hr ha ⊢
  obtain ⟨bb, hbb⟩ : ∃ bb, bb = bareP p := ⟨_, rfl⟩
  obtain ⟨nn, hnn⟩ : ∃ nn, nn = isName nm := ⟨_, rfl⟩
  rw [← hbb] at hba hr
  rw [← hnn] at hna hr
  rw [← hL] at hr ha ⊢
  have HR := Lib.hid hr
  have HBA := Lib.hid hba
  have HNA := Lib.hid hna
  have b0 := (Below.refl w.heap.size w).alloc (Nat.le_refl _) (.cells #[.int .i64 k, .string p.name, .int .i64 p.args, .slice B p.code.length d, .string nm, .slice A L c] 77)
  have L0 := Loc.new w #[.int .i64 k, .string p.name, .int .i64 p.args, .slice B p.code.length d, .string nm, .slice A L c] 77
  clear hba hna hr hL hbb hnn
  cases bb with
  | false =>
    go_enter Try.func123, Try.ntmps123
    go_wp2_with fail
    refine (HBA.out _).mono ?_; rintro e w1 ⟨rfl, hb⟩
    go_wp2
    go_ret
    refine ⟨ret_int ?_, below_then b0 hb b0.size⟩
    rw [HR.out]
    first | (simp [*]; done) | (simp; omega)
  | true =>
    go_enter Try.func123, Try.ntmps123
    go_wp2_with fail
    refine (HBA.out _).mono ?_; rintro e w1 ⟨rfl, hb⟩
    have L1 := L0.below hb L0.lt
    have b1 := below_then b0 hb b0.size
    have c4 := L1.cell 4
    simp at c4
    clear hb L0 b0
    go_wp2_with fail
    refine (HNA.out _).mono ?_; rintro e w2 ⟨rfl, hb⟩
    have L2 := L1.below hb L1.lt
    have b2 := below_then b1 hb b1.size
    have c5 := L2.cell 5
    simp at c5
    clear hb L1 b1 c4
    cases nn with
    | false =>
      go_wp2
      go_ret
      refine ⟨ret_int ?_, b2⟩
      rw [HR.out]
      first | (simp [*]; done) | (simp; omega)
    | true =>
      by_cases h16 : 16 < L
      · have hLI : (16 : Int) < (L : Int) := by omega
        go_wp2
        go_ret
        refine ⟨ret_int ?_, b2⟩
        rw [HR.out]
        first | (simp [*]; done) | (simp; omega)
      · have hLI : ¬ (16 : Int) < (L : Int) := by omega
        go_wp2
        go_ret
        refine ⟨ret_int ?_, b2⟩
        rw [HR.out]
        first | (simp [*]; done) | (simp; omega)
end Go.Proofs.Ytnmcdifkknphgaa
