/- How long what Page gives out may be. No program in sight. -/
import Derived.Test.YtnieminnnkbneaaGreatMm
namespace Go.Proofs.YtnieminnnkbneaaGreat
open Go.RowKit

theorem pwProcs_len : ∀ (l : List Prc) (x x' : PW) (ys ys' : Bs), pwProcs x ys l = ((ys', x'), 0) → ys'.length ≤ ys.length + 27000 * l.length
 | [], x, x', ys, ys', h => by
  simp only [pwProcs, Prod.mk.injEq, and_true] at h
  rw [h.1]; omega
 | p :: l, x, x', ys, ys', h => by
  rw [pwProcs] at h
  by_cases h0 : pwProcE x p = 0
  ·rw [if_neg (by simp [h0])] at h
   have h1 := pwProcs_len l _ _ _ _ h
   have h2 := procFrame_le h0
   rw [List.length_append] at h1
   rw [List.length_cons]; omega
  ·rw [if_pos h0] at h
   exact absurd (congrArg Prod.snd h) h0
theorem pwPage_len {x x' : PW} {ps : List Prc} {es : List Ent} {ys : Bs} (h : pwPage x ps es = ((ys, x'), 0)) : ys.length ≤ 28000 * (ps.length + es.length) := by
 unfold pwPage at h
 by_cases hl : x.live = false
 ·rw [if_pos hl] at h
  exact absurd (congrArg Prod.snd h) (by simp)
 rw [if_neg hl] at h
 by_cases hn : ps.length + es.length = 0 ∨ 128 < ps.length + es.length
 ·rw [if_pos hn] at h
  exact absurd (congrArg Prod.snd h) (by simp)
 rw [if_neg hn] at h
 simp only at h
 obtain ⟨⟨⟨qy, qx⟩, qe⟩, hq⟩ : ∃ q, q = pwProcs (pwHead x).2 (pwHead x).1 ps := ⟨_, rfl⟩
 rw [← hq] at h
 simp only at h
 by_cases he : qe ≠ 0
 ·rw [if_pos he] at h
  exact absurd (congrArg Prod.snd h) he
 rw [if_neg he] at h
 obtain rfl : qe = 0 := by simpa using he
 obtain ⟨⟨ux, ue⟩, hu⟩ : ∃ u, u = pwEnts qx es := ⟨_, rfl⟩
 rw [← hu] at h
 simp only at h
 by_cases he' : ue ≠ 0
 ·rw [if_pos he'] at h
  exact absurd (congrArg Prod.snd h) he'
 rw [if_neg he'] at h
 obtain rfl : ue = 0 := by simpa using he'
 have h1 := pwProcs_len _ _ _ _ _ hq.symm
 have h2 := (pwHead_b x).2.2.2.1
 by_cases hes : es = []
 ·rw [if_pos hes] at h
  simp only [Prod.mk.injEq, and_true] at h
  rw [← h.1]; omega
 ·rw [if_neg hes] at h
  simp only [Prod.mk.injEq, and_true] at h
  rw [← h.1, List.length_append]
  have hle := entsBytes_le (ents_fit es qx ux hu.symm)
  have hnl := encNumber_le (es.length : Int)
  have hbl := bodyF_le 3 ux.frames (entsBytes es)
  have hel : (entsBytes es).length ≤ 10 + 400 * es.length := by unfold entsBytes; rw [List.length_append]; omega
  have hfl : (entsFrame ux es).length = 8 + (bodyF 3 ux.frames (entsBytes es)).length := by unfold entsFrame frameB; rw [List.length_append, headB_length]
  omega
end Go.Proofs.YtnieminnnkbneaaGreat
