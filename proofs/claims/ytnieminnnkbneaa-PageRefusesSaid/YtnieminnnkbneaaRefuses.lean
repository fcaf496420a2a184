/-
  PROVED: 'Rows.PageRefusesSaid': for every input the law PageRefuses returns true (a piece that may not come next is refused, and nothing has changed: beside a Writer that is never asked it), and each argument reads behind the call as it read before. CONDITIONS: none but the statement's own.
-/
import Derived.Test.YtnieminnnkbneaaFil
import Derived.Test.YtnieminnnkbneaaRdm
import Derived.Laws.MakeOwn
import Derived.Test.YtnieminnnkbneaaPbw
import Derived.Deep.CutRange
import Derived.Deep.RegionHeld3
import Derived.Test.YtnieminnnkbneaaRows
import Derived.Test.YtnieminnnkbneaaArg
import Derived.WalkKit
import Derived.ProofKit
import Derived.OpenShut
import Derived.ShutString
import Derived.ChangeOld
import Derived.Below
namespace Go.Proofs.Ytnieminnnkbneaa
open Go.RowKit

def keyK : ByteArray := ⟨#[107]⟩
def nameZ : ByteArray := ⟨#[122, 122, 122, 122, 122, 122, 122, 122, 122, 122, 122, 122, 122, 122, 122, 122, 122, 122, 122, 122, 122, 122, 122, 122, 122, 122, 122, 122, 122, 122, 122, 122]⟩
def badP (k : Nat) : List Prc := if k = 3 then [⟨⟨#[49]⟩, 0, []⟩] else []
def badE (k : Nat) : List Ent := if k = 1 then [⟨keyK, .zero⟩] else if k = 2 then [⟨emptyB, ⟨1, 0, emptyB⟩⟩] else if k = 4 then List.replicate 129 ⟨emptyB, .zero⟩ else []
def badW (k : Nat) : Int := if k = 0 then 1 else if k = 1 then 14 else if k = 2 then 5 else if k = 3 then 5 else 1

theorem chk1 : (procCheck ⟨⟨#[49]⟩, 0, []⟩).2 = 5 := by kernel_rfl
theorem chkZ : (procCheck ⟨nameZ, 0, []⟩).2 = 0 := by kernel_rfl

theorem bad_refused {x : PW} (hl : x.live = true) {k : Nat} (hk : k < 5) : pwPage x (badP k) (badE k) = (([], x), badW k) := by
  unfold pwPage
  rw [if_neg (by simp [hl])]
  have h5 : k = 0 ∨ k = 1 ∨ k = 2 ∨ k = 3 ∨ k = 4 := by omega
  rcases h5 with rfl | rfl | rfl | rfl | rfl
  · rfl
  · have hE : pwEntE (pwHead x).2 ⟨keyK, .zero⟩ = 14 := by
      unfold pwEntE
      rw [if_neg (by decide), if_neg (by decide), if_pos (by rfl)]
    simp [badP, badE, badW, pwProcs, pwEnts, hE]
  · have hE : pwEntE (pwHead x).2 ⟨emptyB, ⟨1, 0, emptyB⟩⟩ = 5 := by
      unfold pwEntE
      rw [if_pos (by decide)]
    simp [badP, badE, badW, pwProcs, pwEnts, hE]
  · have hE : pwProcE (pwHead x).2 ⟨⟨#[49]⟩, 0, []⟩ = 5 := by
      unfold pwProcE
      rw [chk1, if_pos (by decide)]
    simp [badP, badE, badW, pwProcs, hE]
  · rw [if_pos (by right; simp [badP, badE])]
    rfl

/-- 129 entries of nothing. -/
def zE : Array Value := madeCells #[.string ⟨#[]⟩, .int .i64 0, .int .i64 0, .string ⟨#[]⟩] 516
theorem zE_cells : zE.toList = entsCells (List.replicate 129 ⟨emptyB, .zero⟩) := by kernel_rfl
theorem run_mk129 (W : World) : (Instr.makeSlice 32 (.int .i64 129) (.int .i64 129)).run Try.prog W = .ok (.slice (some ⟨W.heap.size, 0, none⟩) 129 129) (W.alloc (.cells zE 53)) := by
  have hi := infoEntry
  cases h : Try.prog.info? 53 with
  | none => rw [h] at hi; cases hi
  | some i =>
    rw [h] at hi
    simp only [Option.map_some, Option.some.injEq, Prod.mk.injEq] at hi
    obtain ⟨h1, h2, h3⟩ := hi
    have hr := run_make (P := Try.prog) W 32 53 i _ Try.underlying32 h h1 .i64 .i64 129 129 (by decide) (by decide) (by rw [h3]; decide) (by decide)
    rw [hr, h2]
    rfl

/-- The same once more: out of order. -/
theorem again_proc {x : PW} {p : Prc} (hl : x.live = true) (hf : 0 < x.frames) (hc : (procCheck p).2 = 0) (hn : x.name = p.name) : pwPage x [p] [] = (([], x), 25) := by
  have hh : pwHead x = ([], x) := by unfold pwHead; rw [if_neg (by omega)]
  have hE : pwProcE x p = 25 := by
    unfold pwProcE
    rw [if_neg (by simp [hc])]
    by_cases h : 0 < x.entries
    · rw [if_pos h]
    · rw [if_neg h, hn, if_pos (leS_self _)]
  unfold pwPage
  simp [hl, hh, pwProcs, hE]
theorem again_ent {x : PW} {y : Ent} (hl : x.live = true) (hf : 0 < x.frames) (hk : isKey y.key = true) (hc : datumCheck y.v = 0) (hv : y.v.kind ≠ 0) (hn : x.key = y.key) : pwPage x [] [y] = (([], x), 25) := by
  have hh : pwHead x = ([], x) := by unfold pwHead; rw [if_neg (by omega)]
  have hE : pwEntE x y = 25 := by
    unfold pwEntE
    rw [if_neg (by simp [hk]), if_neg (by simp [hc]), if_neg hv, hn, if_pos (leS_self _)]
  unfold pwPage
  simp [hl, hh, pwProcs, pwEnts, hE]
theorem late_proc {x : PW} (hl : x.live = true) (hf : 0 < x.frames) (he : 0 < x.entries) : pwPage x [⟨nameZ, 0, []⟩] [] = (([], x), 25) := by
  have hh : pwHead x = ([], x) := by unfold pwHead; rw [if_neg (by omega)]
  have hE : pwProcE x ⟨nameZ, 0, []⟩ = 25 := by
    unfold pwProcE
    rw [chkZ, if_neg (by decide), if_pos he]
  unfold pwPage
  simp [hl, hh, pwProcs, hE]
/-- One procedure: what stands behind it. -/
theorem one_proc {x x' : PW} {p : Prc} {ys : Bs} (h : pwPage x [p] [] = ((ys, x'), 0)) : x'.name = p.name ∧ 0 < x'.frames ∧ x'.live = true ∧ (procCheck p).2 = 0 ∧ x'.entries = x.entries := by
  unfold pwPage at h
  by_cases hl : x.live = false
  · rw [if_pos hl] at h; exact absurd (congrArg Prod.snd h) (by simp)
  rw [if_neg hl, if_neg (by simp)] at h
  by_cases hE : pwProcE (pwHead x).2 p = 0
  · simp [pwProcs, pwEnts, hE] at h
    obtain ⟨_, rfl⟩ := h
    have hb := pwHead_b x
    refine ⟨rfl, by show 0 < _ + 1; omega, ?_, (pwProcE_zero hE).1, ?_⟩
    · show (pwHead x).2.live = true
      rw [hb.2.2.2.2.2.2]; simpa using hl
    · show (pwHead x).2.entries = _
      exact hb.2.2.1
  · simp [pwProcs, hE] at h
theorem one_ent {x x' : PW} {y : Ent} {ys : Bs} (h : pwPage x [] [y] = ((ys, x'), 0)) : x'.key = y.key ∧ 0 < x'.frames ∧ x'.live = true ∧ 0 < x'.entries ∧ isKey y.key = true ∧ datumCheck y.v = 0 ∧ y.v.kind ≠ 0 := by
  unfold pwPage at h
  by_cases hl : x.live = false
  · rw [if_pos hl] at h; exact absurd (congrArg Prod.snd h) (by simp)
  rw [if_neg hl, if_neg (by simp)] at h
  by_cases hE : pwEntE (pwHead x).2 y = 0
  · simp [pwProcs, pwEnts, hE] at h
    obtain ⟨_, rfl⟩ := h
    have hb := pwHead_b x
    obtain ⟨e1, e2, e3, _⟩ := pwEntE_zero hE
    refine ⟨rfl, by show 0 < _ + 1; omega, ?_, by show 0 < _ + 1; omega, e1, e2, e3⟩
    · show (pwHead x).2.live = true
      rw [hb.2.2.2.2.2.2]; simpa using hl
  · simp [pwProcs, pwEnts, hE] at h
end Go.Proofs.Ytnieminnnkbneaa

namespace Go.Proofs.Ytnieminnnkbneaa
open Go.RowKit
set_option linter.unusedVariables false

/-- The pieces that are refused, as they lie. -/
def badWorld (w3 : World) : World := (((((w3.alloc (.cells #[.string ⟨#[107]⟩, .int .i64 0, .int .i64 0, .string ⟨#[]⟩] 53)).alloc (.cells #[.string ⟨#[]⟩, .int .i64 1, .int .i64 0, .string ⟨#[]⟩] 53)).alloc (.cells #[.string ⟨#[49]⟩, .int .i64 0, .slice none 0 0] 56)).alloc (.cells zE 53)).alloc (.cells #[.slice none 0 0, .slice none 0 0, .bool false, .slice none 0 0, .slice (some ⟨w3.heap.size, 0, none⟩) 1 1, .bool false, .slice none 0 0, .slice (some ⟨w3.heap.size + 1, 0, none⟩) 1 1, .bool false, .slice (some ⟨w3.heap.size + 1 + 1, 0, none⟩) 1 1, .slice none 0 0, .bool false, .slice none 0 0, .slice (some ⟨w3.heap.size + 1 + 1 + 1, 0, none⟩) 129 129, .bool false] 34)).alloc (.cells #[.int .i64 1, .int .i64 14, .int .i64 5, .int .i64 5, .int .i64 1] 28)
theorem bad_lies (w3 : World) : Below w3.heap.size w3 (badWorld w3) ∧ (badWorld w3).heap.size = w3.heap.size + 6 ∧ ∀ k, k < 5 → ∃ A B, (badWorld w3).cell? ⟨w3.heap.size + 4, k * 3, none⟩ = some (.slice A (badP k).length (badP k).length) ∧ (badWorld w3).cell? ⟨w3.heap.size + 4, k * 3 + 1, none⟩ = some (.slice B (badE k).length (badE k).length) ∧
    Row (badWorld w3) A (prcsCells ((badP k).map fun p => ⟨p, none, 0⟩)) ∧ Row (badWorld w3) B (entsCells (badE k)) ∧ (badWorld w3).cell? ⟨w3.heap.size + 5, k, none⟩ = some (.int .i64 (badW k)) ∧ (∀ q, A = some q → w3.heap.size ≤ q.block) ∧ (∀ q, B = some q → w3.heap.size ≤ q.block) := by
  have bz : Below w3.heap.size w3 (badWorld w3) :=
    ((((((Below.refl w3.heap.size w3).alloc (Nat.le_refl _) _).alloc (by simp) _).alloc (by simp; omega) _).alloc (by simp; omega) _).alloc (by simp; omega) _).alloc (by simp; omega) _
  have hz1 : (badWorld w3).heap.size = w3.heap.size + 6 := by unfold badWorld; simp
  have M1 : Loc (badWorld w3) w3.heap.size #[.string ⟨#[107]⟩, .int .i64 0, .int .i64 0, .string ⟨#[]⟩] 53 := (((((Loc.new w3 _ _).alloc _).alloc _).alloc _).alloc _).alloc _
  have sz : ∀ (w : World) (o : Obj), (w.alloc o).heap.size = w.heap.size + 1 := fun w o => by simp
  have M2 : Loc (badWorld w3) (w3.heap.size + 1) #[.string ⟨#[]⟩, .int .i64 1, .int .i64 0, .string ⟨#[]⟩] 53 := by
    have h := ((((Loc.new (w3.alloc (.cells #[.string ⟨#[107]⟩, .int .i64 0, .int .i64 0, .string ⟨#[]⟩] 53)) #[.string ⟨#[]⟩, .int .i64 1, .int .i64 0, .string ⟨#[]⟩] 53).alloc (.cells #[.string ⟨#[49]⟩, .int .i64 0, .slice none 0 0] 56)).alloc (.cells zE 53)).alloc (.cells #[.slice none 0 0, .slice none 0 0, .bool false, .slice none 0 0, .slice (some ⟨w3.heap.size, 0, none⟩) 1 1, .bool false, .slice none 0 0, .slice (some ⟨w3.heap.size + 1, 0, none⟩) 1 1, .bool false, .slice (some ⟨w3.heap.size + 1 + 1, 0, none⟩) 1 1, .slice none 0 0, .bool false, .slice none 0 0, .slice (some ⟨w3.heap.size + 1 + 1 + 1, 0, none⟩) 129 129, .bool false] 34)).alloc (.cells #[.int .i64 1, .int .i64 14, .int .i64 5, .int .i64 5, .int .i64 1] 28)
    rw [sz] at h
    exact h
  have M3 : Loc (badWorld w3) (w3.heap.size + 2) #[.string ⟨#[49]⟩, .int .i64 0, .slice none 0 0] 56 := by
    have h := (((Loc.new ((w3.alloc (.cells #[.string ⟨#[107]⟩, .int .i64 0, .int .i64 0, .string ⟨#[]⟩] 53)).alloc (.cells #[.string ⟨#[]⟩, .int .i64 1, .int .i64 0, .string ⟨#[]⟩] 53)) #[.string ⟨#[49]⟩, .int .i64 0, .slice none 0 0] 56).alloc (.cells zE 53)).alloc (.cells #[.slice none 0 0, .slice none 0 0, .bool false, .slice none 0 0, .slice (some ⟨w3.heap.size, 0, none⟩) 1 1, .bool false, .slice none 0 0, .slice (some ⟨w3.heap.size + 1, 0, none⟩) 1 1, .bool false, .slice (some ⟨w3.heap.size + 1 + 1, 0, none⟩) 1 1, .slice none 0 0, .bool false, .slice none 0 0, .slice (some ⟨w3.heap.size + 1 + 1 + 1, 0, none⟩) 129 129, .bool false] 34)).alloc (.cells #[.int .i64 1, .int .i64 14, .int .i64 5, .int .i64 5, .int .i64 1] 28)
    rw [sz, sz] at h
    exact h
  have M4 : Loc (badWorld w3) (w3.heap.size + 3) zE 53 := by
    have h := ((Loc.new (((w3.alloc (.cells #[.string ⟨#[107]⟩, .int .i64 0, .int .i64 0, .string ⟨#[]⟩] 53)).alloc (.cells #[.string ⟨#[]⟩, .int .i64 1, .int .i64 0, .string ⟨#[]⟩] 53)).alloc (.cells #[.string ⟨#[49]⟩, .int .i64 0, .slice none 0 0] 56)) zE 53).alloc (.cells #[.slice none 0 0, .slice none 0 0, .bool false, .slice none 0 0, .slice (some ⟨w3.heap.size, 0, none⟩) 1 1, .bool false, .slice none 0 0, .slice (some ⟨w3.heap.size + 1, 0, none⟩) 1 1, .bool false, .slice (some ⟨w3.heap.size + 1 + 1, 0, none⟩) 1 1, .slice none 0 0, .bool false, .slice none 0 0, .slice (some ⟨w3.heap.size + 1 + 1 + 1, 0, none⟩) 129 129, .bool false] 34)).alloc (.cells #[.int .i64 1, .int .i64 14, .int .i64 5, .int .i64 5, .int .i64 1] 28)
    rw [sz, sz, sz] at h
    exact h
  have M5 : Loc (badWorld w3) (w3.heap.size + 4) #[.slice none 0 0, .slice none 0 0, .bool false, .slice none 0 0, .slice (some ⟨w3.heap.size, 0, none⟩) 1 1, .bool false, .slice none 0 0, .slice (some ⟨w3.heap.size + 1, 0, none⟩) 1 1, .bool false, .slice (some ⟨w3.heap.size + 1 + 1, 0, none⟩) 1 1, .slice none 0 0, .bool false, .slice none 0 0, .slice (some ⟨w3.heap.size + 1 + 1 + 1, 0, none⟩) 129 129, .bool false] 34 := by
    have h := (Loc.new ((((w3.alloc (.cells #[.string ⟨#[107]⟩, .int .i64 0, .int .i64 0, .string ⟨#[]⟩] 53)).alloc (.cells #[.string ⟨#[]⟩, .int .i64 1, .int .i64 0, .string ⟨#[]⟩] 53)).alloc (.cells #[.string ⟨#[49]⟩, .int .i64 0, .slice none 0 0] 56)).alloc (.cells zE 53)) #[.slice none 0 0, .slice none 0 0, .bool false, .slice none 0 0, .slice (some ⟨w3.heap.size, 0, none⟩) 1 1, .bool false, .slice none 0 0, .slice (some ⟨w3.heap.size + 1, 0, none⟩) 1 1, .bool false, .slice (some ⟨w3.heap.size + 1 + 1, 0, none⟩) 1 1, .slice none 0 0, .bool false, .slice none 0 0, .slice (some ⟨w3.heap.size + 1 + 1 + 1, 0, none⟩) 129 129, .bool false] 34).alloc (.cells #[.int .i64 1, .int .i64 14, .int .i64 5, .int .i64 5, .int .i64 1] 28)
    rw [sz, sz, sz, sz] at h
    exact h
  have M6 : Loc (badWorld w3) (w3.heap.size + 5) #[.int .i64 1, .int .i64 14, .int .i64 5, .int .i64 5, .int .i64 1] 28 := by
    have h := Loc.new (((((w3.alloc (.cells #[.string ⟨#[107]⟩, .int .i64 0, .int .i64 0, .string ⟨#[]⟩] 53)).alloc (.cells #[.string ⟨#[]⟩, .int .i64 1, .int .i64 0, .string ⟨#[]⟩] 53)).alloc (.cells #[.string ⟨#[49]⟩, .int .i64 0, .slice none 0 0] 56)).alloc (.cells zE 53)).alloc (.cells #[.slice none 0 0, .slice none 0 0, .bool false, .slice none 0 0, .slice (some ⟨w3.heap.size, 0, none⟩) 1 1, .bool false, .slice none 0 0, .slice (some ⟨w3.heap.size + 1, 0, none⟩) 1 1, .bool false, .slice (some ⟨w3.heap.size + 1 + 1, 0, none⟩) 1 1, .slice none 0 0, .bool false, .slice none 0 0, .slice (some ⟨w3.heap.size + 1 + 1 + 1, 0, none⟩) 129 129, .bool false] 34)) #[.int .i64 1, .int .i64 14, .int .i64 5, .int .i64 5, .int .i64 1] 28
    rw [sz, sz, sz, sz, sz] at h
    exact h
  refine ⟨bz, hz1, fun k hk => ?_⟩
  have h5 : k = 0 ∨ k = 1 ∨ k = 2 ∨ k = 3 ∨ k = 4 := by omega
  rcases h5 with rfl | rfl | rfl | rfl | rfl
  · exact ⟨none, none, M5.cell 0, M5.cell 1, Row.nil _ _, Row.nil _ _, M6.cell 0, fun _ h => (by cases h), fun _ h => (by cases h)⟩
  · exact ⟨none, _, M5.cell 3, M5.cell 4, Row.nil _ _, Row.of_loc M1, M6.cell 1, fun _ h => (by cases h), fun _ h => (by cases h; exact Nat.le_refl _)⟩
  · exact ⟨none, _, M5.cell 6, M5.cell 7, Row.nil _ _, Row.of_loc M2, M6.cell 2, fun _ h => (by cases h), fun _ h => (by cases h; exact Nat.le_add_right _ 1)⟩
  · exact ⟨_, none, M5.cell 9, M5.cell 10, Row.of_loc M3, Row.nil _ _, M6.cell 3, fun _ h => (by cases h; exact Nat.le_add_right _ 2), fun _ h => (by cases h)⟩
  · refine ⟨none, _, M5.cell 12, M5.cell 13, Row.nil _ _, ?_, M6.cell 4, fun _ h => (by cases h), fun _ h => (by cases h; exact Nat.le_add_right _ 3)⟩
    have h := Row.of_loc M4
    rw [zE_cells] at h
    exact h

theorem endq_len (x : PW) : ((pwHead x).1 ++ endFrame (pwHead x).2).length ≤ 1000 := by
  have h1 := (pwHead_b x).2.2.2.1
  have hb := (bodyF_le 4 (pwHead x).2.frames (encNumber (pwHead x).2.procs ++ encNumber (pwHead x).2.entries)).2
  have e3 := encNumber_le ((pwHead x).2.procs : Int)
  have e4 := encNumber_le ((pwHead x).2.entries : Int)
  rw [List.length_append] at hb
  unfold endFrame frameB
  simp only [List.length_append, headB_length]
  omega
theorem endq_live {x : PW} (h : x.live = true) : pwEndQ x = (((pwHead x).1 ++ endFrame (pwHead x).2, PW.zero), 0) := by
  unfold pwEndQ
  rw [if_neg (by simp [h])]

/-- What comes next. -/
structure Nx (wx : World) (a : List PrcC) (b : List Ent) (na j : Nat) (QA QB : Option Addr) (np ne : Nat) (ps1 : List PrcC) (es1 : List Ent) : Prop where
  hn : np = ps1.length
  he : ne = es1.length
  rp : Row wx QA (prcsCells ps1)
  re : Row wx QB (entsCells es1)
  dp : (a.map (·.p)).drop j = ps1.map (·.p) ++ (a.map (·.p)).drop (j + 1)
  de : b.drop (j - na) = es1 ++ b.drop (j + 1 - na)
  tp : (a.map (·.p)).take (j + 1) = (a.map (·.p)).take j ++ ps1.map (·.p)
  te : b.take (j + 1 - na) = b.take (j - na) ++ es1
  ok : ∀ y ∈ ps1, y ∈ a
  oe : ∀ y ∈ es1, y ∈ b
  one : (j < na ∧ (∃ y, ps1 = [y]) ∧ es1 = []) ∨ (na ≤ j ∧ ps1 = [] ∧ (∃ y, es1 = [y]) ∧ (a.map (·.p)).drop (j + 1) = [])
theorem Nx.proc {wx : World} {a : List PrcC} {b : List Ent} {na j c : Nat} {A : Option Addr} (h : Row wx A (prcsCells a)) (hna : na = a.length) (hc : na ≤ c) (hj : j < na) : ∃ ps1, Nx wx a b na j (subAddr A j c 3) none 1 0 ps1 [] := by
  have hj' : j < a.length := by omega
  refine ⟨[a[j]], ⟨rfl, rfl, ?_, Row.nil _ _, ?_, ?_, ?_, ?_, fun y hy => ?_, fun y hy => (by cases hy), .inl ⟨hj, ⟨_, rfl⟩, rfl⟩⟩⟩
  · have := h.subs 3 j (1 * 3) c (by rw [prcsCells_length]; omega) (by rw [prcsCells_length]; omega)
    rw [prcs_drop a j (by omega), prcs_take _ 1 (by rw [List.length_drop]; omega), List.drop_eq_getElem_cons hj'] at this
    exact this
  · rw [List.drop_eq_getElem_cons (by rw [List.length_map]; exact hj'), List.getElem_map]; rfl
  · rw [show j - na = j + 1 - na by omega]; rfl
  · rw [List.take_succ_eq_append_getElem (by rw [List.length_map]; exact hj'), List.getElem_map]; rfl
  · rw [show j - na = j + 1 - na by omega, List.append_nil]
  · rw [List.mem_singleton] at hy; subst hy; exact List.getElem_mem hj'
theorem Nx.ent {wx : World} {a : List PrcC} {b : List Ent} {na nb j J c : Nat} {B : Option Addr} (h : Row wx B (entsCells b)) (hna : na = a.length) (hnb : nb = b.length) (hc : nb ≤ c) (hJ : j = na + J) (hj : J < nb) : ∃ es1, Nx wx a b na j none (subAddr B J c 4) 0 1 [] es1 := by
  have hj' : J < b.length := by omega
  have e1 : j - na = J := by omega
  have e2 : j + 1 - na = J + 1 := by omega
  have hd : ∀ i, na ≤ i → (a.map (·.p)).drop i = [] := fun i hi => List.drop_of_length_le (by rw [List.length_map]; omega)
  refine ⟨[b[J]], ⟨rfl, rfl, Row.nil _ _, ?_, ?_, ?_, ?_, ?_, fun y hy => (by cases hy), fun y hy => ?_, .inr ⟨by omega, rfl, ⟨_, rfl⟩, hd _ (by omega)⟩⟩⟩
  · have := h.subs 4 J (1 * 4) c (by rw [entsCells_length]; omega) (by rw [entsCells_length]; omega)
    rw [ents_drop b J (by omega), ents_take _ 1 (by rw [List.length_drop]; omega), List.drop_eq_getElem_cons hj'] at this
    exact this
  · rw [hd _ (by omega), hd _ (by omega)]; rfl
  · rw [e1, e2]; exact List.drop_eq_getElem_cons hj'
  · rw [List.map_nil, List.append_nil, List.take_of_length_le (by rw [List.length_map]; omega), List.take_of_length_le (by rw [List.length_map]; omega)]
  · rw [e1, e2]; exact List.take_succ_eq_append_getElem hj'
  · rw [List.mem_singleton] at hy; subst hy; exact List.getElem_mem hj'
theorem Nx.below {w w' : World} {B : Nat} {a : List PrcC} {b : List Ent} {na j np ne : Nat} {QA QB : Option Addr} {ps1 : List PrcC} {es1 : List Ent} (h : Nx w a b na j QA QB np ne ps1 es1) (hA : Row w' QA (prcsCells ps1)) (hB : Row w' QB (entsCells es1)) : Nx w' a b na j QA QB np ne ps1 es1 :=
  { h with rp := hA, re := hB }

set_option maxRecDepth 100000 in
set_option maxHeartbeats 8000000 in
theorem prefuses_any (ps : List PrcC) (es : List Ent) (P E : Option Addr) (cp ce : Nat) (which : Int) (w : World) (hrp : Row w P (prcsCells ps)) (hre : Row w E (entsCells es))
    (hpl : ps.length ≤ 9223372036854775807) (hel : es.length ≤ 9223372036854775807) (hpo : ∀ y ∈ ps, y.came w) (heo : ∀ y ∈ es, y.inR) :
    Calls Try.prog 5 #[.slice P ps.length cp, .slice E es.length ce, .int .i64 which] w fun e w' => e = .returned (.bool true) ∧ Below w.heap.size w w' := by
  have HS := Lib.hid (sorted_any ps P cp es E ce w hrp hpo hpl hre heo hel)
  obtain ⟨NP, hNP⟩ : ∃ NP, NP = ps.length := ⟨_, rfl⟩
  obtain ⟨NE, hNE⟩ : ∃ NE, NE = es.length := ⟨_, rfl⟩
  rw [← hNP, ← hNE] at HS
  rw [← hNP, ← hNE]
  clear hNP hNE hrp hre hpl hel hpo heo
  have HN := fun W => pnew_any 3 4 (by decide) (by decide) (by decide) W
  go_enter Try.func5, Try.ntmps5
  go_upto_region 2 with (go_at_call 12; refine HS.out.mono ?_; rintro e w1 ⟨a, b, A, B, ca, cb, rfl, hSP, hla, hSE, hlb, oA, oB, b1⟩)
  have HN1 := Lib.hid HN
  have hmk := run_mk129
  have LA := (Loc.new w1 ((PW.new 3 4).cells nilS) 27).alloc (.cells ((PW.new 3 4).cells nilS) 27)
  have LB := Loc.new (w1.alloc (.cells ((PW.new 3 4).cells nilS) 27)) ((PW.new 3 4).cells nilS) 27
  have b3 := ((Below.refl w1.heap.size w1).alloc (Nat.le_refl _) (.cells ((PW.new 3 4).cells nilS) 27)).alloc (by simp) (.cells ((PW.new 3 4).cells nilS) 27)
  simp only [World.size_alloc] at LB
  have hca := owns_capA oA
  have hcb := owns_capA oB
  have hok1 : ∀ y ∈ a, y.ok w1 := fun y hy => (hSP.c y hy).below b1
  have hW : WOk (PW.new 3 4) (a.map (·.p)) b := hSP.wok hSE
  have hI0 : WI 3 4 [] [] (a.map (·.p)) b (PW.new 3 4) [] [] := .new hW
  obtain ⟨na, hna⟩ : ∃ na, na = a.length := ⟨_, rfl⟩
  obtain ⟨nb, hnb⟩ : ∃ nb, nb = b.length := ⟨_, rfl⟩
  rw [← hna] at hla hca ⊢
  rw [← hnb] at hlb hcb ⊢
  have HRA := Lib.hid (Row.of_owns oA)
  have HRB := Lib.hid (Row.of_owns oB)
  have HOK := Lib.hid hok1
  have HSE := Lib.hid hSE
  have HI0 := Lib.hid hI0
  have HNA := Lib.hid hna
  have HNB := Lib.hid hnb
  clear HN HS hSP hSE oA oB hok1 hW hI0 hna hnb
  go_upto_region 6 with (go_at_call 11; refine (HN1.out _).mono ?_; rintro e w' ⟨rfl, rfl⟩)
  obtain ⟨w3, hw3⟩ : ∃ w3, w3 = (w1.alloc (.cells ((PW.new 3 4).cells nilS) 27)).alloc (.cells ((PW.new 3 4).cells nilS) 27) := ⟨_, rfl⟩
  have hsz3 : w3.heap.size = w1.heap.size + 2 := by rw [hw3]; simp
  rw [← hw3] at LA LB b3
  rw [← hw3]
  have HSZ3 := Lib.hid hsz3
  clear hw3 HN1 hsz3
  go_upto_region 8 with (fail)
  obtain ⟨wz, hwz⟩ : ∃ wz, wz = badWorld w3 := ⟨_, rfl⟩
  obtain ⟨bz, hz1, hbad⟩ := bad_lies w3
  rw [← hwz] at bz hz1 hbad
  unfold badWorld at hwz
  rw [← hwz]
  have LAz := LA.below bz LA.lt
  have LBz := LB.below bz LB.lt
  have b1z := below_then b3 bz b3.size
  have HZ1 := Lib.hid hz1
  have HBAD := Lib.hid hbad
  have p0 : w3.heap.size + 1 + 1 + 1 + 1 = w3.heap.size + 4 := by omega
  have p1 : w3.heap.size + 1 + 1 + 1 + 1 + 1 = w3.heap.size + 5 := by omega
  rw [p1, p0]
  obtain ⟨pa, hpa⟩ : ∃ pa, pa = w1.heap.size := ⟨_, rfl⟩
  obtain ⟨pq, hpq⟩ : ∃ pq, pq = w1.heap.size + 1 := ⟨_, rfl⟩
  obtain ⟨pt, hpt⟩ : ∃ pt, pt = w3.heap.size + 4 := ⟨_, rfl⟩
  obtain ⟨pw, hpw⟩ : ∃ pw, pw = w3.heap.size + 5 := ⟨_, rfl⟩
  rw [← hpq] at LBz
  rw [← hpa] at LAz
  rw [← hpq, ← hpa, ← hpt, ← hpw]
  have HBS : Hid (w1.heap.size ≤ pa ∧ w1.heap.size ≤ pq ∧ pa ≠ pq ∧ pa < w3.heap.size ∧ pq < w3.heap.size ∧ pt = w3.heap.size + 4 ∧ pw = w3.heap.size + 5) := Lib.hid (by have := HSZ3.out; omega)
  have hbd2 := HBAD.out
  rw [← hpt, ← hpw] at hbd2
  have HBAD2 := Lib.hid hbd2
  clear hwz hz1 hbad hbd2 hmk p0 p1 hpa hpq hpt hpw LA LB bz b3 HBAD
  go_upto_block 0 with (fail)
  go_cut [15] from 16 to 214 (fun v wx => ∃ (j : Nat) (x : PW) (out : Bs) (ends : List Nat), v = .int .i64 (j : Nat) ∧ Loc wx pa (x.cells nilS) 27 ∧ Loc wx pq (x.cells nilS) 27 ∧ Below w1.heap.size w1 wx ∧
      Hid (WI 3 4 ((a.map (·.p)).take j) (b.take (j - na)) ((a.map (·.p)).drop j) (b.drop (j - na)) x out ends))
  case first =>
    go_wp2_with fail
    go_loopw [15] (fun i wr => ∃ (j : Nat) (x : PW) (out : Bs) (ends : List Nat), j ≤ na + nb ∧ j ≤ 60 ∧ i = .int .i64 (j : Nat) ∧ Loc wr pa (x.cells nilS) 27 ∧ Loc wr pq (x.cells nilS) 27 ∧ Below w1.heap.size w1 wr ∧ Keep wz.heap.size (fun k => k = pa ∨ k = pq) wz wr ∧
        Hid (WI 3 4 ((a.map (·.p)).take j) (b.take (j - na)) ((a.map (·.p)).drop j) (b.drop (j - na)) x out ends)) (fun i _ => na + nb + 1 - (intOf i).toNat)
    case atStart => exact ⟨0, PW.new 3 4, [], [], Nat.zero_le _, Nat.zero_le _, rfl, LAz, LBz, b1z, Keep.refl _ _ _, Lib.hid (by rw [Nat.zero_sub, List.take_zero, List.take_zero, List.drop_zero, List.drop_zero]; exact HI0.out)⟩
    case round =>
      obtain ⟨wi, rfl⟩ : ∃ wi, wi = wr := ⟨_, rfl⟩
      obtain ⟨j, x, out, ends, hj1, hj2, rfl, LAi, LBi, bi, kzi, HI⟩ := hrel
      have t1 : (j : Int) ≤ (na : Int) + (nb : Int) := by omega
      by_cases hj60 : j < 60
      · have t2 : (j : Int) < 60 := by omega
        obtain ⟨k, hk, hk5⟩ : ∃ k : Nat, Int.tmod (Int.tmod which 5 + 5 + (j : Int)) 5 = (k : Int) ∧ k < 5 := by
          have h1 : (Int.tmod which 5).natAbs < 5 := by
            rw [Int.natAbs_tmod]
            exact Nat.mod_lt _ (by decide)
          have h2 : 0 ≤ Int.tmod which 5 + 5 + (j : Int) := by omega
          have h3 := Int.tmod_nonneg 5 h2
          have h4 := Int.tmod_lt_of_pos (Int.tmod which 5 + 5 + (j : Int)) (b := 5) (by decide)
          exact ⟨(Int.tmod (Int.tmod which 5 + 5 + (j : Int)) 5).toNat, by omega, by omega⟩
        have hT : -5 < Int.tmod which 5 ∧ Int.tmod which 5 < 5 := by
          have h1 : (Int.tmod which 5).natAbs < 5 := by
            rw [Int.natAbs_tmod]
            exact Nat.mod_lt _ (by decide)
          omega
        have hw1 : IntKind.i64.wrap (Int.tmod which 5 + 5) = Int.tmod which 5 + 5 := by rw [IntKind.wrap_i64]; omega
        have hw2 : IntKind.i64.wrap (Int.tmod which 5 + 5 + (j : Int)) = Int.tmod which 5 + 5 + (j : Int) := by rw [IntKind.wrap_i64]; omega
        have hkI : (0 : Int) ≤ (k : Int) := by omega
        have hkI5 : (k : Int) < 5 := by omega
        clear hT
        go_upto_region 12 with (fail)
        obtain ⟨QA, QB, c0, c1, ra, rb, cw, ga, gb⟩ := HBAD2.out k hk5
        have hpt : pt < wz.heap.size ∧ pt ≠ pa ∧ pt ≠ pq ∧ pw < wz.heap.size ∧ pw ≠ pa ∧ pw ≠ pq := by have := HBS.out; have := HZ1.out; omega
        have hF : ¬ (pt = pa ∨ pt = pq) := by omega
        have hFw : ¬ (pw = pa ∨ pw = pq) := by omega
        have hlive := HI.out.ok.live
        have hff := HI.out.ff
        have hnum := HI.out.num
        have hmark := HI.out.mark
        have hpd : ((a.map (·.p)).take j).length + (b.take (j - na)).length ≤ 200 := by rw [List.length_take, List.length_take]; omega
        have hxpe : x.procs ≤ 200 ∧ x.entries ≤ 200 := by
          obtain ⟨bs, s, _, _, T, r1, r2, _⟩ := HI.out.run
          rw [← T.p, ← T.e, r1, r2]
          omega
        have hnp : (badP k).length ≤ 200 ∧ (badE k).length ≤ 200 := by
          have h5 : k = 0 ∨ k = 1 ∨ k = 2 ∨ k = 3 ∨ k = 4 := by omega
          rcases h5 with rfl | rfl | rfl | rfl | rfl <;> simp [badP, badE]
        have hpg : ∀ W, Loc W pa (x.cells nilS) 27 → Keep wz.heap.size (fun k => k = pa ∨ k = pq) wz W → Calls Try.prog 8 #[.pointer (some ⟨pa, 0, none⟩), .slice QA (badP k).length (badP k).length, .slice QB (badE k).length (badE k).length] W (PgPost W pa (([], x), badW k)) := fun W hL hK => by
          have hFa : ∀ q, QA = some q → ¬ (q.block = pa ∨ q.block = pq) := fun q hq => by have := ga q hq; have := HBS.out; omega
          have hFb : ∀ q, QB = some q → ¬ (q.block = pa ∨ q.block = pq) := fun q hq => by have := gb q hq; have := HBS.out; omega
          have h := ppage_any pa x ((badP k).map fun p => ⟨p, none, 0⟩) (badE k) QA QB (badP k).length (badE k).length W hL (ra.keep hK (Nat.le_refl _) hFa) (fun y hy => by
              have h5 : k = 0 ∨ k = 1 ∨ k = 2 ∨ k = 3 ∨ k = 4 := by omega
              rcases h5 with rfl | rfl | rfl | rfl | rfl <;> simp [badP] at hy
              subst hy
              exact ⟨Row.nil _ _, by decide, by unfold i64R; decide, fun _ h => by cases h⟩) (rb.keep hK (Nat.le_refl _) hFb) (fun y hy => by
              have h5 : k = 0 ∨ k = 1 ∨ k = 2 ∨ k = 3 ∨ k = 4 := by omega
              rcases h5 with rfl | rfl | rfl | rfl | rfl <;> simp [badE] at hy
              · subst hy; exact ⟨by unfold i64R; decide, by unfold i64R; decide⟩
              · subst hy; exact ⟨by unfold i64R; decide, by unfold i64R; decide⟩
              · subst hy; exact ⟨by unfold i64R; decide, by unfold i64R; decide⟩) (by rw [List.length_map]; omega) (by omega) (by omega) (by omega) (by omega) (by omega) (by omega)
          rw [List.length_map, List.map_map] at h
          have e : ((fun y : PrcC => y.p) ∘ fun p : Prc => (⟨p, none, 0⟩ : PrcC)) = id := rfl
          rw [e, List.map_id, bad_refused hlive hk5] at h
          exact h
        have k0 := (kzi.cell pt (k * 3) hpt.1 hF).trans c0
        have k1 := (kzi.cell pt (k * 3 + 1) hpt.1 hF).trans c1
        have kw := (kzi.cell pw k hpt.2.2.2.1 hFw).trans cw
        obtain ⟨np, hnp0⟩ : ∃ np, np = (badP k).length := ⟨_, rfl⟩
        obtain ⟨ne, hne0⟩ : ∃ ne, ne = (badE k).length := ⟨_, rfl⟩
        rw [← hnp0] at k0 hpg
        rw [← hne0] at k1 hpg
        obtain ⟨BW, hBW⟩ : ∃ BW, BW = badW k := ⟨_, rfl⟩
        rw [← hBW] at kw hpg
        have HPG := Lib.hid hpg
        have HPT := Lib.hid hpt
        have HFF := Lib.hid (⟨hlive, hff, hnum, hmark, hpd, hxpe⟩ : x.live = true ∧ _ ∧ _ ∧ _ ∧ _ ∧ _)
        have hkd : Keep wz.heap.size (fun k => k = pa ∨ k = pq) wz wi.drew := kzi.drew
        have HKD := Lib.hid hkd
        clear hpg hnp hnp0 hne0 hBW hpt hF hFw hlive hff hnum hmark hpd hxpe c0 c1 ra rb cw ga gb hkd
        have hstay : ∀ W, Keep wi.drew.heap.size (fun x => x = pa) wi.drew W → W.cell? ⟨pt, k * 3, none⟩ = some (.slice QA np np) ∧ W.cell? ⟨pt, k * 3 + 1, none⟩ = some (.slice QB ne ne) := fun W hW => by
          have h1 : pt < wi.drew.heap.size := Nat.lt_of_lt_of_le HPT.out.1 kzi.size
          exact ⟨(hW.cell pt (k * 3) h1 HPT.out.2.1).trans k0, (hW.cell pt (k * 3 + 1) h1 HPT.out.2.1).trans k1⟩
        go_region_held3 (fun W => W.cell? ⟨pt, k * 3, none⟩ = some (.slice QA np np) ∧ W.cell? ⟨pt, k * 3 + 1, none⟩ = some (.slice QB ne ne)) (first | exact ⟨k0, k1⟩ | exact z5) ((go_at_call 8; refine (HPG.out _ LAi.drew HKD.out).mono ?_; rintro e w5 ⟨A5, n5, c5, hn5, rfl, o5, L5, K5⟩; have HN5 := Lib.hid hn5; have z5 := hstay w5 K5; clear hn5))
        obtain rfl : n5 = 0 := HN5.out
        have hsz5 : wz.heap.size ≤ wi.drew.heap.size := kzi.size
        have kz5 := HKD.out.step K5 hsz5 (fun i _ h => .inl h)
        have LB5 := LBi.drew.keep K5 LBi.drew.lt (by have := HBS.out; omega)
        have b5 := below_keep (below_then bi (below_drewN (Below.refl _ _) 1) bi.size) K5 bi.size (fun k hk => by have := HBS.out; omega)
        have kw5 := (K5.cell pw k (Nat.lt_of_lt_of_le HPT.out.2.2.2.1 hsz5) HPT.out.2.2.2.2.1).trans kw
        clear k0 k1 kw hstay hw1 hw2 hk o5 HN5 HKD K5 LAi LBi bi kzi HPG
        by_cases hend : j = na + nb
        · have tE : (j : Int) = (na : Int) + (nb : Int) := by omega
          go_upto_region 15 with (fail)
          go_wp2
          go_meet
          case rel => exact ⟨j, x, out, ends, rfl, L5, LB5, b5, HI⟩
        · have tE : ¬ (j : Int) = (na : Int) + (nb : Int) := by omega
          have ra5 := HRA.out.of_below b5 (Nat.le_refl _)
          have rb5 := HRB.out.of_below b5 (Nat.le_refl _)
          have LN := Loc.new w5 #[.slice none 0 0, .slice none 0 0, .bool false] 34
          have n0 := LN.cell 0
          have n1 := LN.cell 1
          have f0 := LN.free 0
          have f1 := LN.free 1
          simp only [List.getElem?_toArray, List.getElem?_cons_zero, List.getElem?_cons_succ] at n0 n1
          go_upto_region 15 with (fail)
          go_upto_if 127 with (fail)
          go_cut [] from 72 to 214 (fun wx => ∃ (QA QB : Option Addr) (np ne c1 c2 : Nat) (ps1 : List PrcC) (es1 : List Ent), Hid (Nx w1 a b na j QA QB np ne ps1 es1) ∧ Loc wx w5.heap.size #[.slice QA np c1, .slice QB ne c2, .bool false] 34 ∧ Below w5.heap.size w5 wx)
          case first =>
            by_cases hja : j < na
            · have hjI : (j : Int) < (na : Int) := by omega
              have hs : ∀ W, (Instr.slice 31 (.slice A na ca) (some (.int .i64 (j : Int))) (some (.int .i64 ((j : Int) + 1))) none).run Try.prog W = .ok (.slice (subAddr A j ca 3) 1 (ca - j)) W := fun W => by
                have h := run_subs (P := Try.prog) 31 56 3 Try.underlying31 hszP A na ca j (j + 1) (by omega) (by omega) W
                rw [show j + 1 - j = 1 by omega] at h
                exact h
              obtain ⟨ps1, hnx⟩ := Nx.proc (b := b) HRA.out HNA.out hca hja
              have HNX := Lib.hid hnx
              clear hnx
              go_wp2
              go_meet
              case rel =>
                exact ⟨_, none, 1, 0, _, 0, ps1, [], HNX, Loc.new w5 _ _, (Below.refl w5.heap.size w5).alloc (Nat.le_refl _) _⟩
            · have hjI : ¬ (j : Int) < (na : Int) := by omega
              obtain ⟨J, hJ⟩ : ∃ J, j = na + J := ⟨j - na, by omega⟩
              have hJI : (j : Int) - (na : Int) = (J : Int) := by omega
              have hJb : J < nb := by omega
              have hs : ∀ W, (Instr.slice 32 (.slice B nb cb) (some (.int .i64 ((j : Int) - (na : Int)))) (some (.int .i64 ((j : Int) - (na : Int) + 1))) none).run Try.prog W = .ok (.slice (subAddr B J cb 4) 1 (cb - J)) W := fun W => by
                rw [hJI]
                have h := run_subs (P := Try.prog) 32 53 4 Try.underlying32 hszE B nb cb J (J + 1) (by omega) (by omega) W
                rw [show J + 1 - J = 1 by omega] at h
                exact h
              obtain ⟨es1, hnx⟩ := Nx.ent (a := a) HRB.out HNA.out HNB.out hcb hJ hJb
              have HNX := Lib.hid hnx
              clear hnx hJ hJI
              go_wp2
              go_meet
              case rel =>
                exact ⟨none, _, 0, 1, 0, _, [], es1, HNX, Loc.new w5 _ _, (Below.refl w5.heap.size w5).alloc (Nat.le_refl _) _⟩
          case rest =>
            obtain ⟨QA, QB, np, ne, c1, c2, ps1, es1, HNX, LX, bx⟩ := hcut
            clear n0 n1 f0 f1 LN ra5 rb5
            have bwx := below_then b5 bx b5.size
            have NX := HNX.out
            have hI : WI 3 4 ((a.map (·.p)).take j) (b.take (j - na)) (ps1.map (·.p) ++ (a.map (·.p)).drop (j + 1)) (es1 ++ b.drop (j + 1 - na)) x out ends := by rw [← NX.dp, ← NX.de]; exact HI.out
            have hlen1 : ps1.length + es1.length = 1 := by
              rcases NX.one with ⟨_, ⟨y, h1⟩, h2⟩ | ⟨_, h1, ⟨y, h2⟩, _⟩ <;> rw [h1, h2] <;> rfl
            have hord : es1 = [] ∨ (a.map (·.p)).drop (j + 1) = [] := by
              rcases NX.one with ⟨_, _, h2⟩ | ⟨_, _, _, h2⟩
              · exact .inl h2
              · exact .inr h2
            obtain ⟨hlive, hff, hnum, hmark, hpd, hxpe⟩ := HFF.out
            obtain ⟨ys, x', hpq, hI2⟩ := hI.page (by rw [List.length_map]; omega) (by rw [List.length_map]; omega) hord (by decide) (by decide) (by decide)
              (fun p hp i hi => by
                obtain ⟨y, hy, rfl⟩ := List.mem_map.1 hp
                exact i64v_of ((HOK.out y (NX.ok y hy)).i.2 i hi).2.2.2.2.2.2)
              (fun y hy => i64v_of (HSE.out.c y (NX.oe y hy)).2) (by omega)
            have hysl := pwPage_len hpq
            rw [List.length_map, hlen1, Nat.mul_one] at hysl
            have hPG : ∀ (q : Nat) (z : PW) W, Below w1.heap.size w1 W → Loc W q (z.cells nilS) 27 → z.number = 3 → z.mark = 4 → z.frames ≤ 100000 → z.procs ≤ 100000 → z.entries ≤ 100000 →
                Calls Try.prog 8 #[.pointer (some ⟨q, 0, none⟩), .slice QA np c1, .slice QB ne c2] W (PgPost W q (pwPage z (ps1.map (·.p)) es1)) := fun q z W hW hL h1 h2 h3 h4 h5 => by
              have h := ppage_any q z ps1 es1 QA QB c1 c2 W hL (NX.rp.of_below hW (Nat.le_refl _)) (fun y hy => (HOK.out y (NX.ok y hy)).below hW) (NX.re.of_below hW (Nat.le_refl _)) (fun y hy => HSE.out.c y (NX.oe y hy)) (by omega) (by omega) (by omega) (by omega) (by omega) (by omega) (by omega)
              rw [← NX.hn, ← NX.he] at h
              exact h
            have hff2 := hI2.ff
            have hnum2 := hI2.num
            have hmark2 := hI2.mark
            have hxpe2 : x'.procs ≤ 200 ∧ x'.entries ≤ 400 := by
              obtain ⟨bs, s, _, _, T, r1, r2, _⟩ := hI2.run
              have h1 := NX.tp
              have h2 := NX.te
              rw [← T.p, ← T.e, r1, r2, ← h1, ← h2, List.length_take, List.length_take, List.length_map]
              omega
            have hpd2 : ((a.map (·.p)).take j ++ ps1.map (·.p)).length + (b.take (j - na) ++ es1).length ≤ 300 := by
              rw [List.length_append, List.length_append, List.length_map]; omega
            have hag : pwPage x' (ps1.map (·.p)) es1 = (([], x'), 25) ∧ (na ≤ j → 0 < x'.entries) := by
              rcases NX.one with ⟨hj0, ⟨y, h1⟩, h2⟩ | ⟨_, h1, ⟨y, h2⟩, _⟩
              · rw [h1, h2, List.map_cons, List.map_nil] at hpq ⊢
                obtain ⟨e1, e2, e3, e4, _⟩ := one_proc hpq
                exact ⟨again_proc e3 e2 e4 e1, fun h => absurd h (by omega)⟩
              · rw [h1, h2, List.map_nil] at hpq ⊢
                obtain ⟨e1, e2, e3, e4, e5, e6, e7⟩ := one_ent hpq
                exact ⟨again_ent e3 e2 e5 e6 e7 e1, fun _ => e4⟩
            have hlive2 : x'.live = true ∧ 0 < x'.frames := by
              rcases NX.one with ⟨hj0, ⟨y, h1⟩, h2⟩ | ⟨_, h1, ⟨y, h2⟩, _⟩
              · rw [h1, h2, List.map_cons, List.map_nil] at hpq
                obtain ⟨e1, e2, e3, e4, _⟩ := one_proc hpq
                exact ⟨e3, e2⟩
              · rw [h1, h2, List.map_nil] at hpq
                obtain ⟨e1, e2, e3, e4, e5, e6, e7⟩ := one_ent hpq
                exact ⟨e3, e2⟩
            have hp1 := hPG pa x wc bwx (L5.below bx L5.lt) hnum hmark (by omega) (by omega) (by omega)
            have hp2 := fun W h1 h2 => hPG pq x W h1 h2 hnum hmark (by omega) (by omega) (by omega)
            rw [hpq] at hp1
            rw [hpq] at hp2
            have hp3 := fun W h1 h2 => hPG pa x' W h1 h2 hnum2 hmark2 (by omega) (by omega) (by omega)
            rw [hag.1] at hp3
            have HP1 := Lib.hid hp1
            have HP2 := Lib.hid hp2
            have HP3 := Lib.hid hp3
            have HI2 := Lib.hid hI2
            have HX2 := Lib.hid (⟨hlive2.1, hlive2.2, hag.2, hnum2, hmark2, (by omega : x'.frames ≤ 100000), hxpe2⟩ : x'.live = true ∧ 0 < x'.frames ∧ (na ≤ j → 0 < x'.entries) ∧ x'.number = 3 ∧ x'.mark = 4 ∧ x'.frames ≤ 100000 ∧ x'.procs ≤ 200 ∧ x'.entries ≤ 400)
            have LBx := LB5.below bx LB5.lt
            have hps : w5.heap.size < wc.heap.size := LX.lt
            have h5a : pa < w5.heap.size := L5.lt
            have h5q : pq < w5.heap.size := LB5.lt
            have HYL := Lib.hid hysl
            have x0 := LX.cell 0
            have x1 := LX.cell 1
            simp only [List.getElem?_toArray, List.getElem?_cons_zero, List.getElem?_cons_succ] at x0 x1
            clear hag hlive2 hpd2 hxpe2 hp1 hp2 hp3 hI2 hI hord hlen1 NX hlive hff hnum hmark hpd hxpe hPG hpq hff2 hnum2 hmark2 hysl
            go_upto_region 21 with (go_at_call 8; refine HP1.out.mono ?_; rintro e w6 ⟨A6, n6, c6, hn6, rfl, o6, L6, K6⟩; have HN6 := Lib.hid hn6; clear hn6)
            have hsw : w5.heap.size < wc.heap.size := hps
            have LB6 := LBx.keep K6 LBx.lt (by have := HBS.out; omega)
            have LX6 := LX.keep K6 LX.lt (by have := HBS.out; omega)
            have b6 := below_keep bwx K6 bwx.size (fun k hk => by have := HBS.out; omega)
            have y0 := LX6.cell 0
            have y1 := LX6.cell 1
            simp only [List.getElem?_toArray, List.getElem?_cons_zero, List.getElem?_cons_succ] at y0 y1
            have hp2 := HP2.out w6 b6 LB6
            have HP2' := Lib.hid hp2
            have HO6 := Lib.hid o6
            have HK6 := Lib.hid K6
            have h6s := K6.size
            clear hp2 HP2 HP1 o6 K6 x0 x1 LBx LX LB5
            go_upto_region 22 with (go_at_call 8; refine HP2'.out.mono ?_; rintro e w7 ⟨A7, n7, c7, hn7, rfl, o7, LB7, K7⟩; have HN7 := Lib.hid hn7; clear hn7)
            have L7 := L6.keep K7 L6.lt (by have := HBS.out; omega)
            have LX7 := LX6.keep K7 LX6.lt (by have := HBS.out; omega)
            have b7 := below_keep b6 K7 b6.size (fun k hk => by have := HBS.out; omega)
            have r6 : Row w7 A6 (cellsB ys) := (Row.of_owns HO6.out).keep K7 (Nat.le_refl _) (fun q hq => by
              have h1 : w6.cell? _ = _ := LB6.cell 0
              intro e
              exact owns_ne HO6.out LB6 (by decide) (by rw [hq]; simp [Value.ownBlock]; exact e))
            have r7 := Row.of_owns o7
            have hsm := same_any A6 A7 n6 n7 c6 c7 ys ys w7 r6 r7 HN6.out HN7.out (by have := HN6.out; have := HYL.out; omega) (by have := HN7.out; have := HYL.out; omega)
            rw [decide_eq_true rfl] at hsm
            have HSM := Lib.hid hsm
            have HK7 := Lib.hid K7
            have h7s := K7.size
            clear hsm r6 r7 o7 K7 HP2' y0 y1 LB6 LX6 L6 b6
            go_upto_region 24 with (go_at_call 16; refine HSM.out.mono ?_; rintro e w8 ⟨rfl, b8⟩)
            have L8 := L7.below b8 L7.lt
            have LB8 := LB7.below b8 LB7.lt
            have LX8 := LX7.below b8 LX7.lt
            have bb8 := below_then b7 b8 b7.size
            have y0 := LX8.cell 0
            have y1 := LX8.cell 1
            simp only [List.getElem?_toArray, List.getElem?_cons_zero, List.getElem?_cons_succ] at y0 y1
            have hp3 := HP3.out w8 bb8 L8
            have HP3' := Lib.hid hp3
            have HB8 := Lib.hid b8
            have h8s := b8.size
            clear hp3 HP3 HSM b8 L7 LB7 LX7 b7
            go_upto_region 27 with (go_at_call 8; refine HP3'.out.mono ?_; rintro e w9 ⟨A9, n9, c9, hn9, rfl, o9, L9, K9⟩; have HN9 := Lib.hid hn9; clear hn9; obtain rfl : n9 = 0 := HN9.out)
            have hpapq : pa ≠ pq ∧ pa < wz.heap.size ∧ pq < wz.heap.size := by have := HBS.out; have := HZ1.out; omega
            have h9s := K9.size
            have hkz9 : Keep wz.heap.size (fun k => k = pa ∨ k = pq) wz w9 := by
              have q1 := kz5.step (Keep.of_below bx (fun _ => False)) (by have := kz5.size; omega) (fun i _ h => h.elim)
              have q2 := q1.step HK6.out (by have := q1.size; omega) (fun i _ h => .inl h)
              have q3 := q2.step HK7.out (by have := q2.size; omega) (fun i _ h => .inr h)
              have q4 := q3.step (Keep.of_below HB8.out (fun _ => False)) (by have := q3.size; omega) (fun i _ h => h.elim)
              exact q4.step K9 (by have := q4.size; omega) (fun i _ h => .inl h)
            have LB9 := LB8.keep K9 LB8.lt (by omega)
            have b9 := below_keep bb8 K9 bb8.size (fun k hk => by have := HBS.out; omega)
            have HFIN : Hid (Hid (WI 3 4 ((a.map (·.p)).take (j + 1)) (b.take (j + 1 - na)) ((a.map (·.p)).drop (j + 1)) (b.drop (j + 1 - na)) x' (out ++ ys) (ends ++ [(out ++ ys).length]))) := Lib.hid (Lib.hid (by
              rw [HNX.out.tp, HNX.out.te]
              exact HI2.out))
            have HK9 := Lib.hid hkz9
            clear K9 LB8 L8 LX8 bb8 y0 y1 o9 HK6 HK7 HB8 HI2 HI hkz9 bx bwx kz5
            by_cases hlate : na ≤ j ∧ 0 < na
            · have e1 : (na : Int) ≤ (j : Int) := by omega
              have e2 : (0 : Int) < (na : Int) := by omega
              have LP := Loc.new w9 #[.string nameZ, .int .i64 0, .slice none 0 0] 56
              have bw := (Below.refl w9.heap.size w9).alloc (Nat.le_refl _) (.cells #[.string nameZ, .int .i64 0, .slice none 0 0] 56)
              have hp4 := ppage_any pa x' [⟨⟨nameZ, 0, []⟩, none, 0⟩] [] (some ⟨w9.heap.size, 0, none⟩) none 1 0 _ (L9.below bw L9.lt) (Row.of_loc LP) (fun y hy => by
                rw [List.mem_singleton] at hy
                subst hy
                exact ⟨Row.nil _ _, by decide, by unfold i64R; decide, fun _ h => by cases h⟩) (Row.nil _ _) (fun y hy => by cases hy) (by decide) (by decide) (by have := HX2.out; omega) (by have := HX2.out; omega) (by have := HX2.out; omega) (by have := HX2.out; omega) (by have := HX2.out; omega)
              rw [List.map_cons, List.map_nil, late_proc HX2.out.1 HX2.out.2.1 (HX2.out.2.2.1 hlate.1)] at hp4
              unfold nameZ at hp4 bw
              have HP4 := Lib.hid hp4
              clear hp4 LP hlate
              go_upto_region 29 with (go_at_call 8; refine HP4.out.mono ?_; rintro e w10 ⟨A10, n10, c10, hn10, rfl, o10, L10, K10⟩; have HN10 := Lib.hid hn10; clear hn10; obtain rfl : n10 = 0 := HN10.out)
              have LB10 := (LB9.below bw LB9.lt).keep K10 (LB9.below bw LB9.lt).lt (by omega)
              have hbw := bw.size
              have b10 := below_keep (below_then b9 bw b9.size) K10 (below_then b9 bw b9.size).size (fun k hk => by have := HBS.out; omega)
              have hkz10 : Keep wz.heap.size (fun k => k = pa ∨ k = pq) wz w10 := by
                have q1 := HK9.out.step (Keep.of_below bw (fun _ => False)) (by have := HK9.out.size; omega) (fun i _ h => h.elim)
                exact q1.step K10 (by have := q1.size; omega) (fun i _ h => .inl h)
              clear bw K10 LB9 b9 o10
              go_wp2
              go_roundw
              case rel => exact ⟨j + 1, x', _, _, by omega, by omega, by go_num, L10, LB10, b10, hkz10, HFIN.out⟩
              case measure => simp [intOf]; omega
            · skip
              have hlate' : ¬ ((na : Int) ≤ (j : Int)) ∨ ((na : Int) ≤ (j : Int)) ∧ ¬ ((0 : Int) < (na : Int)) := by omega
              rcases hlate' with e1 | ⟨e1, e2⟩
              · clear hlate
                go_wp2
                go_roundw
                case rel => exact ⟨j + 1, x', _, _, by omega, by omega, by go_num, L9, LB9, b9, HK9.out, HFIN.out⟩
                case measure => simp [intOf]; omega
              · clear hlate
                go_wp2
                go_roundw
                case rel => exact ⟨j + 1, x', _, _, by omega, by omega, by go_num, L9, LB9, b9, HK9.out, HFIN.out⟩
                case measure => simp [intOf]; omega
      · have t2 : ¬ (j : Int) < 60 := by omega
        go_wp2
        go_meet
        case rel => exact ⟨j, x, out, ends, rfl, LAi, LBi, bi, HI⟩
  case rest =>
    obtain ⟨j, x, out, ends, rfl, L1, LB1, b1c, HI⟩ := hcut
    have hpapq : pa ≠ pq ∧ w1.heap.size ≤ pa ∧ w1.heap.size ≤ pq := by have := HBS.out; omega
    have hlive := HI.out.ok.live
    have hnum := HI.out.num
    have hmark := HI.out.mark
    have hff := HI.out.ff
    have hpd : ((a.map (·.p)).take j).length + (b.take (j - na)).length ≤ 1000 := by
      have h1 := HNA.out
      have h2 := HNB.out
      rw [List.length_take, List.length_take, List.length_map]; omega
    have hxpe : x.procs ≤ 1000 ∧ x.entries ≤ 1000 := by
      obtain ⟨bs, s, _, _, T, r1, r2, _⟩ := HI.out.run
      rw [← T.p, ← T.e, r1, r2]
      omega
    have hE : ∀ q W, Loc W q (x.cells nilS) 27 → Calls Try.prog 9 #[.pointer (some ⟨q, 0, none⟩)] W (PgPost W q (((pwHead x).1 ++ endFrame (pwHead x).2, PW.zero), 0)) := fun q W hL => by
      rw [← endq_live hlive]
      exact pend_any q x W hL (by omega) (by omega) (by omega) (by omega) (by omega)
    have hyl := endq_len x
    obtain ⟨ys, hys⟩ : ∃ ys, ys = (pwHead x).1 ++ endFrame (pwHead x).2 := ⟨_, rfl⟩
    rw [← hys] at hE hyl
    have hZ : ∀ q W, Loc W q (PW.zero.cells nilS) 27 → Calls Try.prog 9 #[.pointer (some ⟨q, 0, none⟩)] W (PgPost W q (([], PW.zero), 25)) := fun q W hL =>
      pend_any q PW.zero W hL (by decide) (by decide) (by decide) (by decide) (by decide)
    have HE1 := Lib.hid (hE pa _ L1)
    have HE := Lib.hid hE
    have HZ := Lib.hid hZ
    have HYL := Lib.hid hyl
    clear hE hZ hys hlive hnum hmark hff hpd hxpe hyl HI
    go_upto_region 32 with (go_at_call 9; refine HE1.out.mono ?_; rintro e w2 ⟨A2, n2, c2, hn2, rfl, o2, L2, K2⟩; have HN2 := Lib.hid hn2; clear hn2)
    have LB2 := LB1.keep K2 LB1.lt (by omega)
    have b2 := below_keep b1c K2 b1c.size (fun k hk => by omega)
    have HE2 := Lib.hid (HE.out pq _ LB2)
    have HO2 := Lib.hid o2
    clear HE1 HE K2 LB1 L1 b1c o2
    go_upto_region 33 with (go_at_call 9; refine HE2.out.mono ?_; rintro e w4 ⟨A4, n4, c4, hn4, rfl, o4, L4, K4⟩; have HN4 := Lib.hid hn4; clear hn4)
    have L5 := L2.keep K4 L2.lt (by omega)
    have b4 := below_keep b2 K4 b2.size (fun k hk => by omega)
    have r2 : Row w4 A2 (cellsB ys) := (Row.of_owns HO2.out).keep K4 (Nat.le_refl _) (fun q hq => by
      intro e
      exact owns_ne HO2.out LB2 (by decide) (by rw [hq]; simp [Value.ownBlock]; exact e))
    have r4 := Row.of_owns o4
    have HZ1' := Lib.hid (HZ.out pa _ L5)
    have hne2 : ∀ q, A2 = some q → ¬ q.block = pa := fun q hq e => owns_ne HO2.out L2 (by decide) (by rw [hq]; simp [Value.ownBlock]; exact e)
    have hne4 : ∀ q, A4 = some q → ¬ q.block = pa := fun q hq e => owns_ne o4 L5 (by decide) (by rw [hq]; simp [Value.ownBlock]; exact e)
    have HR2 := Lib.hid r2
    have HR4 := Lib.hid r4
    have HNE := Lib.hid (And.intro hne2 hne4)
    clear HE2 HO2 r2 r4 K4 LB2 L2 L4 b2 o4 HZ hne2 hne4
    go_upto_region 34 with (go_at_call 9; refine HZ1'.out.mono ?_; rintro e w6 ⟨A6, n6, c6, hn6, rfl, o6, L6, K6⟩; have HN6 := Lib.hid hn6; clear hn6; obtain rfl : n6 = 0 := HN6.out)
    have b6 := below_keep b4 K6 b4.size (fun k hk => by omega)
    have r26 := HR2.out.keep K6 (Nat.le_refl _) HNE.out.1
    have r46 := HR4.out.keep K6 (Nat.le_refl _) HNE.out.2
    have LP := Loc.new w6 #[.string ⟨#[122, 122, 122]⟩, .int .i64 1, .int .i64 0, .string ⟨#[]⟩] 53
    have bw := (Below.refl w6.heap.size w6).alloc (Nat.le_refl _) (.cells #[.string ⟨#[122, 122, 122]⟩, .int .i64 1, .int .i64 0, .string ⟨#[]⟩] 53)
    have b6w := below_then b6 bw b6.size
    have r27 := r26.of_below bw (Nat.le_refl _)
    have r47 := r46.of_below bw (Nat.le_refl _)
    have hp4 := ppage_any pa PW.zero [] [⟨⟨#[122, 122, 122]⟩, ⟨1, 0, emptyB⟩⟩] none (some ⟨w6.heap.size, 0, none⟩) 0 1 _ (L6.below bw L6.lt) (Row.nil _ _) (fun y hy => by cases hy) (Row.of_loc LP) (fun y hy => by
      rw [List.mem_singleton] at hy
      subst hy
      exact ⟨by unfold i64R; decide, by unfold i64R; decide⟩) (by decide) (by decide) (by decide) (by decide) (by decide) (by decide) (by decide)
    have eZ : pwPage PW.zero (List.map (fun y : PrcC => y.p) []) [⟨⟨#[122, 122, 122]⟩, ⟨1, 0, emptyB⟩⟩] = (([], PW.zero), 25) := by unfold pwPage; rw [if_pos (show PW.zero.live = false from rfl)]
    rw [eZ] at hp4
    have HP4 := Lib.hid hp4
    obtain ⟨w7, hw7⟩ : ∃ w7, w7 = w6.alloc (.cells #[.string ⟨#[122, 122, 122]⟩, .int .i64 1, .int .i64 0, .string ⟨#[]⟩] 53) := ⟨_, rfl⟩
    rw [← hw7] at HP4 b6w r27 r47
    have HW7 := Lib.hid hw7
    have HR27 := Lib.hid r27
    have HR47 := Lib.hid r47
    clear hp4 eZ LP bw r26 r46 K6 L6 L5 b4 o6 b6 hw7 r27 r47 HR2 HR4
    go_upto_region 35 with (go_at_call 8; rw [← HW7.out]; refine HP4.out.mono ?_; rintro e w8 ⟨A8, n8, c8, hn8, rfl, o8, L8, K8⟩; have HN8 := Lib.hid hn8; clear hn8; obtain rfl : n8 = 0 := HN8.out)
    have b8 := below_keep b6w K8 b6w.size (fun k hk => by omega)
    have r28 := HR27.out.keep K8 (Nat.le_refl _) HNE.out.1
    have r48 := HR47.out.keep K8 (Nat.le_refl _) HNE.out.2
    have hsm := same_any A2 A4 n2 n4 c2 c4 ys ys w8 r28 r48 HN2.out HN4.out (by have := HN2.out; have := HYL.out; omega) (by have := HN4.out; have := HYL.out; omega)
    rw [decide_eq_true rfl] at hsm
    have HSM := Lib.hid hsm
    clear hsm r28 r48 K8 L8 o8 b6w
    go_wp2_with (first | (go_at_call 16; refine HSM.out.mono ?_; rintro e w9 ⟨rfl, b9⟩) | (go_at_call 10; refine (known_any _).mono ?_; rintro e w10 ⟨rfl, b10⟩))
    go_ret
    exact ⟨rfl, below_then b1 (below_then (below_then b8 b9 b8.size) b10 (below_then b8 b9 b8.size).size) b1.size⟩
end Go.Proofs.Ytnieminnnkbneaa

namespace Go.Proofs.Ytnieminnnkbneaa.pageRefuses
open Go.ChangeShapes Go.WideShapes Go.ChangeAt Go.RowKit
set_option linter.unusedVariables false

theorem own : ownKnob Try.prog.godebug = none := by kernel_rfl
theorem laidOut : laidOutB Try.prog = true := by kernel_rfl

set_option maxRecDepth 100000 in
theorem lifted (os : Os) (started : os.Started) (H : Type) (enc : TypeId × Value → H) :
    ReturnsInHanded {} Try.checked os 5 .any (Rows.pageRefusesSpec.pre6 enc Try.prog Try.f5 Rows.pageRefusesRow.domain false) (Rows.pageRefusesSpec.post enc Try.prog Try.f5 false true false false) := by
  refine returnsInHanded_of_change (C := Try.checked) own started (by kernel_rfl) Try.func5
    (ChangeSpec.witness6 (enc := enc) (C := Try.checked) false ⟨#[], #[.slice none 0 0, .slice none 0 0, .int .i64 0], []⟩ 8 (by kernel_rfl) (by kernel_rfl) (by kernel_rfl) (by kernel_rfl)) ?_
  intro W base args ds gs before hval0 hW hcnd _
  have hval : ∀ (j : Nat) t v, Try.f5.params[j]? = some t → args[j]? = some v → Value.okWide Try.prog W .any base t v := hval0
  have hW' := hW
  obtain ⟨p, q, hA0, hV, rfl, hfz, hnd⟩ := hW
  have hA : DataW.TrodAll enc Try.prog W 0 (fun _ => true) true Try.f5.params.toList args.toList ds p := hA0
  rw [Try.params5] at hA hval
  obtain ⟨v0, vs0, d0, ds0, p0, q0', hargs, rfl, rfl, h0, r0'⟩ := trodAll_cons hA
  obtain ⟨v1, vs1, d1, ds1, p1, q1', rfl, rfl, rfl, h1, r1'⟩ := trodAll_cons r0'
  obtain ⟨v2, vs2, d2, ds2, p2, q2', rfl, rfl, rfl, h2, r2'⟩ := trodAll_cons r1'
  obtain ⟨rfl, rfl, rfl⟩ := trodAll_nil r2'
  obtain rfl : args = #[v0, v1, v2] := by cases args; simp_all
  obtain ⟨rfl, rfl⟩ := trodVars_none hV
  have k0 := h0
  have lt0 : ∀ x ∈ p0, x.block < W.heap.size := by obtain ⟨m, hm⟩ := k0; exact DataW.trod_lt m _ _ _ hm
  obtain ⟨A0, c0, l0, rfl, r0, z0, u0, m0, i0⟩ := open_procs (hval 0 31 v0 rfl rfl) h0
  have k1 := h1
  have lt1 : ∀ x ∈ p1, x.block < W.heap.size := by obtain ⟨m, hm⟩ := k1; exact DataW.trod_lt m _ _ _ hm
  obtain ⟨A1, c1, l1, rfl, r1, z1, u1, m1, i1⟩ := open_ents (hval 1 32 v1 rfl rfl) h1
  obtain ⟨a2, rfl, rfl, rfl, w2⟩ := open_int Try.underlying3 (hval 2 3 v2 rfl rfl) h2
  clear hA0 hval0
  refine (prefuses_any l0 l1 A0 A1 c0 c1 a2 W r0 r1 (by unfold maxLen at m0; omega) (by unfold maxLen at m1; omega) i0 i1).mono fun e W' ⟨he, bel⟩ => ?_
  subst he
  exact ⟨_, rfl, _, _, _, [], _, [], hW', trodAll_mk1 (shut_bool Try.underlying4 _), (trodAll_cons_mk (Below.trod laidOut (by kernel_rfl) (of_decide_eq_true (by kernel_rfl)) k0 bel lt0) (trodAll_cons_mk (Below.trod laidOut (by kernel_rfl) (of_decide_eq_true (by kernel_rfl)) k1 bel lt1) (trodAll_cons_mk (shut_int Try.underlying3 w2) trodAll_mk0))), rfl, bel.frame _, fun h => by cases h⟩

theorem over : Rows.pageRefusesRow.holds Try.pinned (OpenSpec.ofChange Rows.pageRefusesSpec) :=
  OpenClaim.holds_of_wide 5 Try.f5 rfl rfl rfl rfl rfl rfl rfl ⟨rfl, rfl, rfl, rfl, rfl⟩ rfl rfl rfl rfl rfl (by kernel_rfl) Try.func5 (by kernel_rfl)
    (of_decide_eq_true (by kernel_rfl)) (by unfold Func.isWrapper; first | (rw [if_pos (by decide +kernel)]; kernel_rfl) | (rw [if_neg (by decide +kernel)]; exact ⟨rfl, rfl⟩))
    (fun os started H enc _ => lifted os started H enc)

/-- The statement. -/
theorem proved : Rows.PageRefusesSaid := over
#print axioms proved
end Go.Proofs.Ytnieminnnkbneaa.pageRefuses
