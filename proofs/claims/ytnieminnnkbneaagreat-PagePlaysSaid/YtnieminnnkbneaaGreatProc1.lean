/- Walks of package proc: names and fields. -/
import Derived.Test.YtnieminnnkbneaaGreatDat2
namespace Go.Proofs.YtnieminnnkbneaaGreat
open Go.RowKit

theorem ret_bool {a b : Bool} (h : a = b) : Ending.returned (.bool a) = .returned (.bool b) := by rw [h]

theorem letter_any (b : UInt8) (w : World) :
    Calls Tryz.prog 126 #[.int .u8 (b.toNat : Int)] w fun e w' => e = .returned (.bool (letterB b.toNat)) ∧ w = w' := by
  obtain ⟨r, hr⟩ : ∃ r, r = letterB b.toNat := ⟨_, rfl⟩
  rw [← hr]
  have HR := Lib.hid hr
  clear hr
  have hb := b.toNat_lt
  go_enter Tryz.func126, Tryz.ntmps126
  go_wp2
  all_goals
    go_ret
    refine ⟨ret_bool ?_, rfl⟩
    rw [HR.out, Bool.eq_iff_iff]
    simp [letterB]
    try omega

theorem name_false (n : Nat) (h : n < 48 ∨ 57 < n) (h1 : ¬ n = 95) (h2 : ¬ n = 45) (h3 : ¬ n = 46) : (false || decide (48 ≤ n) && decide (n ≤ 57) || n == 95 || n == 45 || n == 46) = false := by
  simp; omega
theorem name_true (n : Nat) (h : (48 ≤ n ∧ n ≤ 57) ∨ n = 95 ∨ n = 45 ∨ n = 46) : (false || decide (48 ≤ n) && decide (n ≤ 57) || n == 95 || n == 45 || n == 46) = true := by
  simp; omega
theorem bsize (s : ByteArray) : s.data.toList.length = s.size := by simp
theorem bget (s : ByteArray) (j : Nat) (h : j < s.size) : s.data.toList[j]? = some s[j] := by
  rw [List.getElem?_eq_getElem (by simpa using h)]; rfl

theorem isName_get (s : ByteArray) (h0 : 0 < s.size) (h1 : s.size ≤ 32) (h2 : letterB (s[0]).toNat = true) (h3 : ∀ j (h : j < s.size), nameB (s[j]).toNat = true) : isName s = true := by
  unfold isName isNameL
  have hl := bsize s
  have e0 : s.data.toList.headD 0 = s[0] := by
    have := bget s 0 h0
    cases hc : s.data.toList with
    | nil => rw [hc] at this; simp at this
    | cons a l => rw [hc] at this; simp at this; simp [this]
  rw [hl, e0, h2]
  simp only [Bool.and_eq_true, decide_eq_true_eq, List.all_eq_true]
  refine ⟨⟨⟨by omega, h1⟩, trivial⟩, fun x hx => ?_⟩
  obtain ⟨j, hj, rfl⟩ := List.getElem_of_mem hx
  have hj' : j < s.size := by rw [← hl]; exact hj
  have := bget s j hj'
  rw [List.getElem?_eq_getElem hj] at this
  cases this
  exact h3 j hj'
theorem isName_no (s : ByteArray) (j : Nat) (h : j < s.size) (h3 : nameB (s[j]).toNat = false) : isName s = false := by
  unfold isName isNameL
  rw [Bool.and_eq_false_iff]
  right
  rw [List.all_eq_false]
  refine ⟨s[j], ?_, by simp [h3]⟩
  exact List.mem_of_getElem? (bget s j h)
theorem isName_first (s : ByteArray) (h : 0 < s.size) (h2 : letterB (s[0]).toNat = false) : isName s = false := by
  unfold isName isNameL
  have e0 : s.data.toList.headD 0 = s[0] := by
    have := bget s 0 h
    cases hc : s.data.toList with
    | nil => rw [hc] at this; simp at this
    | cons a l => rw [hc] at this; simp at this; simp [this]
  rw [e0, h2]; simp
theorem isName_len (s : ByteArray) (h : s.size < 1 ∨ 32 < s.size) : isName s = false := by
  unfold isName isNameL
  rw [bsize]
  rcases h with h | h
  · have : decide (1 ≤ s.size) = false := decide_eq_false (by omega)
    rw [this]; simp
  · have : decide (s.size ≤ 32) = false := decide_eq_false (by omega)
    rw [this]; simp

set_option maxHeartbeats 1000000 in
theorem isName_any (s : ByteArray) (w : World) :
    Calls Tryz.prog 110 #[.string s] w fun e w' => e = .returned (.bool (isName s)) ∧ w = w' := by
  obtain ⟨r, hr⟩ : ∃ r, r = isName s := ⟨_, rfl⟩
  rw [← hr]
  have HR := Lib.hid hr
  clear hr
  by_cases hl : s.size < 1 ∨ 32 < s.size
  · have hr := HR.out
    rw [isName_len s hl] at hr
    subst hr
    go_enter Tryz.func110, Tryz.ntmps110
    rcases hl with hl | hl
    · go_wp2
      go_ret
      exact ⟨rfl, rfl⟩
    · go_wp2
      go_ret
      exact ⟨rfl, rfl⟩
  · have hl1 : ¬ s.size < 1 := by omega
    have hl2 : s.size ≤ 32 := by omega
    have hl3 : 0 < s.size := by omega
    clear hl
    by_cases hf : letterB (s[0]).toNat = true
    · have hF := fun W => (letter_any s[0] W).mono (R' := fun e w' => e = .returned (.bool true) ∧ W = w') (fun e w' h => ⟨by rw [h.1, hf], h.2⟩)
      have HF := Lib.hid hF
      clear hF
      go_enter Tryz.func110, Tryz.ntmps110
      go_wp2_with (go_at_call 126; refine (HF.out _).mono ?_; rintro e w' ⟨rfl, rfl⟩)
      go_loop [21] (fun i => ∃ k : Nat, k ≤ s.size ∧ i = .int .i64 k ∧ Hid (∀ j (h : j < s.size), j < k → nameB (s[j]).toNat = true)) (fun i => s.size - (intOf i).toNat)
      case atStart => exact ⟨0, Nat.zero_le _, rfl, Lib.hid (fun j _ h => by omega)⟩
      case round =>
        obtain ⟨k, hk, rfl, HN⟩ := hrel
        by_cases hlt : k < s.size
        · obtain ⟨c, hc⟩ : ∃ c, c = s[k] := ⟨_, rfl⟩
          have hG := fun W => letter_any c W
          obtain ⟨lb, hlb⟩ : ∃ lb, lb = letterB c.toNat := ⟨_, rfl⟩
          rw [← hlb] at hG
          have hc255 := c.toNat_lt
          have hnm : nameB c.toNat = (lb || (decide (48 ≤ c.toNat) && decide (c.toNat ≤ 57)) || c.toNat == 95 || c.toNat == 45 || c.toNat == 46) := by rw [hlb]; rfl
          have hix : s[k].toNat = c.toNat := by rw [hc]
          have HC := Lib.hid hc
          have HG := Lib.hid hG
          have HM := Lib.hid hnm
          clear hG hlb hnm hc
          cases lb with
          | true =>
            go_wp2_with (go_at_call 126; refine (HG.out _).mono ?_; rintro e w' ⟨rfl, rfl⟩)
            go_round
            case rel => 
              refine ⟨k + 1, by omega, by go_num, Lib.hid (fun j h hj => ?_)⟩
              rcases Nat.lt_or_ge j k with h' | h'
              · exact HN.out j h h'
              · obtain rfl : j = k := by omega
                rw [← HC.out, HM.out]; simp
            case measure => simp [intOf]; omega
          | false =>
            go_wp2_with (go_at_call 126; refine (HG.out _).mono ?_; rintro e w' ⟨rfl, rfl⟩)
            all_goals try simp only [bne_iff_ne, ne_eq, bne_eq_false_iff_eq] at *
            all_goals first
              | (go_ret
                 refine ⟨ret_bool ?_, rfl⟩
                 rw [HR.out]
                 refine (isName_no s k hlt ?_).symm
                 rw [← HC.out, HM.out]
                 exact name_false _ (by omega) (by omega) (by omega) (by omega))
              | (go_round
                 case rel =>
                   refine ⟨k + 1, by omega, by go_num, Lib.hid (fun j h hj => ?_)⟩
                   rcases Nat.lt_or_ge j k with h' | h'
                   · exact HN.out j h h'
                   · obtain rfl : j = k := by omega
                     rw [← HC.out, HM.out]
                     exact name_true _ (by omega)
                 case measure => simp [intOf]; omega)
        · go_wp2
          go_ret
          refine ⟨ret_bool ?_, rfl⟩
          rw [HR.out]
          exact (isName_get s hl3 hl2 hf (fun j h => HN.out j h (by omega))).symm
    · have hr := HR.out
      have hf' : letterB (s[0]).toNat = false := by simpa using hf
      rw [isName_first s hl3 hf'] at hr
      subst hr
      have hF := fun W => (letter_any s[0] W).mono (R' := fun e w' => e = .returned (.bool false) ∧ W = w') (fun e w' h => ⟨by rw [h.1, hf'], h.2⟩)
      have HF := Lib.hid hF
      clear hF hf hf'
      go_enter Tryz.func110, Tryz.ntmps110
      go_wp2_with (go_at_call 126; refine (HF.out _).mono ?_; rintro e w' ⟨rfl, rfl⟩)
      go_ret
      exact ⟨rfl, rfl⟩

/- Fields: where they stand, whether a number may stand there. -/
def insCells (x : Ins) : Array Value := #[.int .i64 x.op, .int .i64 x.a, .int .i64 x.b, .int .i64 x.c, .int .i64 x.n, .int .i64 x.v.kind, .int .i64 x.v.num, .string x.v.text]

def Fld.atFn : Fld → FuncId
  | .a | .skip => 127
  | .b => 129
  | .c => 130
  | .arg | .how | .many => 131
def Fld.mayFn : Fld → FuncId
  | .a | .b | .c => 128
  | .arg => 132
  | .how => 133
  | .many => 134
  | .skip => 135
def Fld.idx : Fld → Nat
  | .a | .skip => 1
  | .b => 2
  | .c => 3
  | .arg | .how | .many => 4
def Fld.cells (f : Fld) : Array Value := #[.func (.func f.atFn) #[] #[], .func (.func f.mayFn) #[] #[], .bool f.one]

theorem at_any (f : Fld) (b : Nat) (w : World) :
    Calls Tryz.prog f.atFn #[.pointer (some ⟨b, 0, none⟩)] w fun e w' => e = .returned (.pointer (some ⟨b, f.idx, none⟩)) ∧ w = w' := by
  cases f
  case a =>
    unfold Fld.atFn Fld.idx
    go_enter Tryz.func127, Tryz.ntmps127
    go_wp2
    go_ret
    exact ⟨rfl, rfl⟩
  case b =>
    unfold Fld.atFn Fld.idx
    go_enter Tryz.func129, Tryz.ntmps129
    go_wp2
    go_ret
    exact ⟨rfl, rfl⟩
  case c =>
    unfold Fld.atFn Fld.idx
    go_enter Tryz.func130, Tryz.ntmps130
    go_wp2
    go_ret
    exact ⟨rfl, rfl⟩
  case arg =>
    unfold Fld.atFn Fld.idx
    go_enter Tryz.func131, Tryz.ntmps131
    go_wp2
    go_ret
    exact ⟨rfl, rfl⟩
  case how =>
    unfold Fld.atFn Fld.idx
    go_enter Tryz.func131, Tryz.ntmps131
    go_wp2
    go_ret
    exact ⟨rfl, rfl⟩
  case many =>
    unfold Fld.atFn Fld.idx
    go_enter Tryz.func131, Tryz.ntmps131
    go_wp2
    go_ret
    exact ⟨rfl, rfl⟩
  case skip =>
    unfold Fld.atFn Fld.idx
    go_enter Tryz.func127, Tryz.ntmps127
    go_wp2
    go_ret
    exact ⟨rfl, rfl⟩

/-- p: the procedure's block: name, args, code. -/
theorem may_any (f : Fld) (v : Int) (p : Nat) (place : Int) (name : ByteArray) (args : Int) (A : Option Addr) (len cap : Nat) (w : World) (h : Loc w p #[.string name, .int .i64 args, .slice A len cap] 54)
    (hv0 : -9223372036854775808 ≤ v) (hv1 : v ≤ 9223372036854775807) (hp0 : 0 ≤ place) (hp1 : place ≤ 140737488355328) (hlen : len ≤ 140737488355328) :
    Calls Tryz.prog f.mayFn #[.int .i64 v, .pointer (some ⟨p, 0, none⟩), .int .i64 place] w fun e w' => e = .returned (.bool (f.may args len place v)) ∧ w = w' := by
  have c1 := h.cell 1
  have c2 := h.cell 2
  simp at c1 c2
  obtain ⟨r, hr⟩ : ∃ r, r = f.may args len place v := ⟨_, rfl⟩
  rw [← hr]
  have HR := Lib.hid hr
  clear hr
  cases f
  case a =>
    unfold Fld.mayFn
    go_enter Tryz.func128, Tryz.ntmps128
    go_wp2
    all_goals
      go_ret
      refine ⟨ret_bool ?_, rfl⟩
      rw [HR.out, Bool.eq_iff_iff]
      simp [Fld.may]
      try omega
  case b =>
    unfold Fld.mayFn
    go_enter Tryz.func128, Tryz.ntmps128
    go_wp2
    all_goals
      go_ret
      refine ⟨ret_bool ?_, rfl⟩
      rw [HR.out, Bool.eq_iff_iff]
      simp [Fld.may]
      try omega
  case c =>
    unfold Fld.mayFn
    go_enter Tryz.func128, Tryz.ntmps128
    go_wp2
    all_goals
      go_ret
      refine ⟨ret_bool ?_, rfl⟩
      rw [HR.out, Bool.eq_iff_iff]
      simp [Fld.may]
      try omega
  case arg =>
    unfold Fld.mayFn
    go_enter Tryz.func132, Tryz.ntmps132
    go_wp2
    all_goals
      go_ret
      refine ⟨ret_bool ?_, rfl⟩
      rw [HR.out, Bool.eq_iff_iff]
      simp [Fld.may]
      try omega
  case how =>
    unfold Fld.mayFn
    go_enter Tryz.func133, Tryz.ntmps133
    go_wp2
    all_goals
      go_ret
      refine ⟨ret_bool ?_, rfl⟩
      rw [HR.out, Bool.eq_iff_iff]
      simp [Fld.may]
      try omega
  case many =>
    unfold Fld.mayFn
    go_enter Tryz.func134, Tryz.ntmps134
    go_wp2
    all_goals
      go_ret
      refine ⟨ret_bool ?_, rfl⟩
      rw [HR.out, Bool.eq_iff_iff]
      simp [Fld.may]
      try omega
  case skip =>
    unfold Fld.mayFn
    go_enter Tryz.func135, Tryz.ntmps135
    go_wp2
    all_goals
      go_ret
      refine ⟨ret_bool ?_, rfl⟩
      rw [HR.out, Bool.eq_iff_iff]
      simp [Fld.may]
      try omega
end Go.Proofs.YtnieminnnkbneaaGreat
