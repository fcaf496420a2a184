/- Walks of the document's own answer, chapter 6: what may stand in an instruction; Check. -/
import Derived.Test.YtnieminnnkbneaaGreatGen
namespace Go.Proofs.YtnieminnnkbneaaGreat
open Go.RowKit

theorem refLetter_any (b : UInt8) (w : World) :
    Calls Tryz.prog 138 #[.int .u8 (b.toNat : Int)] w fun e w' => e = .returned (.bool (letterB b.toNat)) ∧ w = w' := by
  obtain ⟨r, hr⟩ : ∃ r, r = letterB b.toNat := ⟨_, rfl⟩
  rw [← hr]
  have HR := Lib.hid hr
  clear hr
  have hb := b.toNat_lt
  go_enter Tryz.func138, Tryz.ntmps138
  go_wp2
  all_goals
    go_ret
    refine ⟨ret_bool ?_, rfl⟩
    rw [HR.out, Bool.eq_iff_iff]
    simp [letterB]
    try omega

set_option maxHeartbeats 1000000 in
theorem refIsName_any (s : ByteArray) (w : World) :
    Calls Tryz.prog 116 #[.string s] w fun e w' => e = .returned (.bool (isName s)) ∧ w = w' := by
  obtain ⟨r, hr⟩ : ∃ r, r = isName s := ⟨_, rfl⟩
  rw [← hr]
  have HR := Lib.hid hr
  clear hr
  by_cases hl : s.size < 1 ∨ 32 < s.size
  · have hr := HR.out
    rw [isName_len s hl] at hr
    subst hr
    go_enter Tryz.func116, Tryz.ntmps116
    rcases hl with hl | hl
    · go_wp2
      go_ret
      exact ⟨rfl, rfl⟩
    · go_wp2
      go_ret
      exact ⟨rfl, rfl⟩
  · have hl1 : ¬ s.size < 1 := by omega
    have hl2 : s.size ≤ 32 := by omega
    have hl3 : 0 < s.size := by omega
    clear hl
    by_cases hf : letterB (s[0]).toNat = true
    · have hF := fun W => (refLetter_any s[0] W).mono (R' := fun e w' => e = .returned (.bool true) ∧ W = w') (fun e w' h => ⟨by rw [h.1, hf], h.2⟩)
      have HF := Lib.hid hF
      clear hF
      go_enter Tryz.func116, Tryz.ntmps116
      go_wp2_with (go_at_call 138; refine (HF.out _).mono ?_; rintro e w' ⟨rfl, rfl⟩)
      go_loop [3] (fun i => ∃ k : Nat, k ≤ s.size ∧ i = .int .i64 k ∧ Hid (∀ j (h : j < s.size), j < k → nameB (s[j]).toNat = true)) (fun i => s.size - (intOf i).toNat)
      case atStart => exact ⟨0, Nat.zero_le _, rfl, Lib.hid (fun j _ h => by omega)⟩
      case round =>
        obtain ⟨k, hk, rfl, HN⟩ := hrel
        by_cases hlt : k < s.size
        · obtain ⟨c, hc⟩ : ∃ c, c = s[k] := ⟨_, rfl⟩
          have hG := fun W => refLetter_any c W
          obtain ⟨lb, hlb⟩ : ∃ lb, lb = letterB c.toNat := ⟨_, rfl⟩
          rw [← hlb] at hG
          have hc255 := c.toNat_lt
          have hnm : nameB c.toNat = (lb || (decide (48 ≤ c.toNat) && decide (c.toNat ≤ 57)) || c.toNat == 95 || c.toNat == 45 || c.toNat == 46) := by rw [hlb]; rfl
          have hix : s[k].toNat = c.toNat := by rw [hc]
          have HC := Lib.hid hc
          have HG := Lib.hid hG
          have HM := Lib.hid hnm
          clear hG hlb hnm hc
          cases lb with
          | true =>
            go_wp2_with (go_at_call 138; refine (HG.out _).mono ?_; rintro e w' ⟨rfl, rfl⟩)
            go_round
            case rel => 
              refine ⟨k + 1, by omega, by go_num, Lib.hid (fun j h hj => ?_)⟩
              rcases Nat.lt_or_ge j k with h' | h'
              · exact HN.out j h h'
              · obtain rfl : j = k := by omega
                rw [← HC.out, HM.out]; simp
            case measure => simp [intOf]; omega
          | false =>
            go_wp2_with (go_at_call 138; refine (HG.out _).mono ?_; rintro e w' ⟨rfl, rfl⟩)
            all_goals try simp only [bne_iff_ne, ne_eq, bne_eq_false_iff_eq] at *
            all_goals first
              | (go_ret
                 refine ⟨ret_bool ?_, rfl⟩
                 rw [HR.out]
                 refine (isName_no s k hlt ?_).symm
                 rw [← HC.out, HM.out]
                 exact name_false _ (by omega) (by omega) (by omega) (by omega))
              | (go_round
                 case rel =>
                   refine ⟨k + 1, by omega, by go_num, Lib.hid (fun j h hj => ?_)⟩
                   rcases Nat.lt_or_ge j k with h' | h'
                   · exact HN.out j h h'
                   · obtain rfl : j = k := by omega
                     rw [← HC.out, HM.out]
                     exact name_true _ (by omega)
                 case measure => simp [intOf]; omega)
        · go_wp2
          go_ret
          refine ⟨ret_bool ?_, rfl⟩
          rw [HR.out]
          exact (isName_get s hl3 hl2 hf (fun j h => HN.out j h (by omega))).symm
    · have hr := HR.out
      have hf' : letterB (s[0]).toNat = false := by simpa using hf
      rw [isName_first s hl3 hf'] at hr
      subst hr
      have hF := fun W => (refLetter_any s[0] W).mono (R' := fun e w' => e = .returned (.bool false) ∧ W = w') (fun e w' h => ⟨by rw [h.1, hf'], h.2⟩)
      have HF := Lib.hid hF
      clear hF hf hf'
      go_enter Tryz.func116, Tryz.ntmps116
      go_wp2_with (go_at_call 138; refine (HF.out _).mono ?_; rintro e w' ⟨rfl, rfl⟩)
      go_ret
      exact ⟨rfl, rfl⟩

/-! ### fields -/
def fieldsS (op : Int) : Bs :=
  if op = 1 then [65, 86] else if op = 2 then [65, 78] else if op = 3 ∨ op = 14 ∨ op = 4 then [65, 66] else if op = 5 ∨ op = 15 then [65]
  else if op = 6 ∨ op = 7 ∨ op = 8 ∨ op = 9 then [65, 66, 67] else if op = 10 then [66, 67, 78] else if op = 11 then [97, 66, 67, 78]
  else if op = 12 ∨ op = 13 then [65, 66, 67, 78] else if op = 16 then [] else [63]

theorem ret_str {a b : ByteArray} (h : a = b) : Ending.returned (.string a) = .returned (.string b) := by rw [h]

set_option maxHeartbeats 1000000 in
theorem refFields_any (op : Int) (w : World) :
    Calls Tryz.prog 94 #[.int .i64 op] w fun e w' => e = .returned (.string (ofBs (fieldsS op))) ∧ w = w' := by
  obtain ⟨r, hr⟩ : ∃ r, r = ofBs (fieldsS op) := ⟨_, rfl⟩
  rw [← hr]
  have HR := Lib.hid hr
  clear hr
  go_enter Tryz.func94, Tryz.ntmps94
  go_wp2
  all_goals
    go_ret
    refine ⟨ret_str ?_, rfl⟩
    rw [HR.out]
    simp_all [fieldsS, ofBs]

def hasB (l : Bs) (c : UInt8) : Bool := l.contains c

theorem hasB_append (a : Bs) (x c : UInt8) : hasB (a ++ [x]) c = (hasB a c || c == x) := by
  induction a with
  | nil => simp only [hasB, List.nil_append, List.contains_cons, List.contains_nil, Bool.or_false, Bool.false_or]
  | cons y a ih =>
    simp only [hasB, List.cons_append, List.contains_cons] at ih ⊢
    rw [ih, Bool.or_assoc]

theorem hasB_take {l : Bs} {c : UInt8} {k : Nat} (hk : k < l.length) (h : hasB (l.take k) c = false) (hc : l[k] ≠ c) : hasB (l.take (k + 1)) c = false := by
  rw [List.take_succ_eq_append_getElem hk, hasB_append, h]
  simpa using fun e => hc e.symm

set_option maxHeartbeats 1000000 in
theorem refHas_any (l : Bs) (c : UInt8) (w : World) (hl : l.length ≤ 9223372036854775807) :
    Calls Tryz.prog 140 #[.string (ofBs l), .int .u8 (c.toNat : Int)] w fun e w' => e = .returned (.bool (hasB l c)) ∧ w = w' := by
  obtain ⟨r, hr⟩ : ∃ r, r = hasB l c := ⟨_, rfl⟩
  rw [← hr]
  have HR := Lib.hid hr
  obtain ⟨s, hs⟩ : ∃ s, s = ofBs l := ⟨_, rfl⟩
  have hsz : s.size = l.length := by rw [hs, ← size_data, ofBs_data]
  have hget : ∀ k (h : k < s.size) (h' : k < l.length), s[k] = l[k] := fun k h h' => by
    have h1 := bget s k h
    have hd : s.data.toList = l := by rw [hs, ofBs_data]
    rw [hd, List.getElem?_eq_getElem h'] at h1
    exact (Option.some.inj h1).symm
  rw [← hs]
  have HG := Lib.hid hget
  clear hr hs hget
  go_enter Tryz.func140, Tryz.ntmps140
  go_wp2
  go_loop [5] (fun i => ∃ k : Nat, k ≤ s.size ∧ i = .int .i64 k ∧ Hid (hasB (l.take k) c = false)) (fun i => s.size - (intOf i).toNat)
  case atStart => exact ⟨0, Nat.zero_le _, rfl, Lib.hid rfl⟩
  case round =>
    obtain ⟨k, hk, rfl, HN⟩ := hrel
    by_cases hlt : k < s.size
    · have hkl : k < l.length := by omega
      have hsk := HG.out k hlt hkl
      by_cases he : l[k] = c
      · have ht : ((s[k].toNat : Int) == (c.toNat : Int)) = true := by rw [hsk, he]; simp
        have HE := Lib.hid he
        clear he hsk
        go_wp2
        go_ret
        refine ⟨ret_bool ?_, rfl⟩
        rw [HR.out, hasB]
        symm
        rw [List.contains_iff_exists_mem_beq]
        exact ⟨l[k], List.getElem_mem hkl, by simp [HE.out]⟩
      · have ht : ((s[k].toNat : Int) == (c.toNat : Int)) = false := by
          rw [hsk]
          simp only [beq_eq_false_iff_ne, ne_eq, Int.natCast_inj]
          exact fun h => he (UInt8.toNat_inj.1 h)
        have HE := Lib.hid he
        clear he hsk
        go_wp2
        go_round
        case rel => exact ⟨k + 1, by omega, by go_num, Lib.hid (hasB_take hkl HN.out HE.out)⟩
        case measure => simp [intOf]; omega
    · go_wp2
      go_ret
      refine ⟨ret_bool ?_, rfl⟩
      have h := HN.out
      rw [List.take_of_length_le (by omega)] at h
      rw [HR.out, h]
end Go.Proofs.YtnieminnnkbneaaGreat
