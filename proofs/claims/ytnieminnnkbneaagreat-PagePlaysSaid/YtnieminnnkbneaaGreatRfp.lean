/- The document's Read in its own order; it is the plain model. No program in sight. -/
import Derived.Test.YtnieminnnkbneaaGreatPg
import Derived.Test.YtnieminnnkbneaaGreatRound2
import Derived.Test.YtnieminnnkbneaaGreatRdm
namespace Go.Proofs.YtnieminnnkbneaaGreat
open Go.RowKit

/-- The document's writer where it reads. -/
def RS.pw (s : RS) (f : Nat) : PW := ⟨false, 0, 0, f, s.procs.length, s.entries.length, s.name, s.key⟩

/-- An entry, in the document's order: both texts stand, the value decodes, the entry may come next. -/
def rfEnt (all : Nat) (s : RS) (r : Rdr) : Option (RS × Rdr) :=
 if ((r.text all).2.text all).2.err ≠ 0 then none else
 if (datumDecode ((r.text all).2.text all).1).2 ≠ 0 then none else
 if pwEntE (s.pw 0) ⟨ofBs (r.text all).1, (datumDecode ((r.text all).2.text all).1).1⟩ ≠ 0 then none else
 some ({ s with key := ofBs (r.text all).1, entries := s.entries ++ [⟨ofBs (r.text all).1, (datumDecode ((r.text all).2.text all).1).1⟩] }, ((r.text all).2.text all).2)
def rfEnts (all : Nat) : Nat → RS → Rdr → Option (RS × Rdr)
 | 0, s, r => some (s, r)
 | n + 1, s, r => (rfEnt all s r).bind fun q => rfEnts all n q.1 q.2
def rfShut : Option (RS × Rdr) → Option RS
 | none => none
 | some q => if q.2.end_ = 0 then some q.1 else none
def rfPage (all : Nat) (s : RS) (r : Rdr) : Option RS :=
 if r.number.2.err ≠ 0 ∨ r.number.1 < 1 ∨ 128 < r.number.1 then none else rfShut (rfEnts all r.number.1.toNat s r.number.2)
def rfProc (all : Nat) (s : RS) (r : Rdr) : Option RS :=
 if (r.text all).2.end_ ≠ 0 then none else
 if (procDecode (r.text all).1).2 ≠ 0 then none else
 if pwProcE (s.pw 0) (procDecode (r.text all).1).1 ≠ 0 then none else
 some { s with name := (procDecode (r.text all).1).1.name, procs := s.procs ++ [(procDecode (r.text all).1).1] }
def rfHead (s : RS) (r : Rdr) : Option RS :=
 if r.number.2.number.2.end_ = 0 ∧ 1 ≤ r.number.1 ∧ r.number.1 ≤ maxNum ∧ r.number.2.number.1 ≤ maxNum then some { s with number := r.number.1, mark := r.number.2.number.1 } else none
def rfEnd (s : RS) (r : Rdr) : Option RS :=
 if r.number.2.number.2.end_ = 0 ∧ r.number.1 = s.procs.length ∧ r.number.2.number.1 = s.entries.length then some s else none
def rfKind (k all : Nat) (s : RS) (r : Rdr) : Option RS :=
 if k = 1 then rfHead s r else if k = 2 then rfProc all s r else if k = 3 then rfPage all s r else if k = 4 then rfEnd s r else none
/-- A frame's body in the document's order. -/
def rfFrame (s : RS) (body : Bs) : Option RS :=
 if (Rdr.new body).byte.2.number.2.err ≠ 0 ∨ (Rdr.new body).byte.2.number.1 ≠ s.frames ∨ ¬ ((Rdr.new body).byte.1 = 1 ↔ (Rdr.new body).byte.2.number.1 = 0) then none else
 (rfKind (Rdr.new body).byte.1 body.length s (Rdr.new body).byte.2.number.2).map fun s' => { s' with frames := s.frames + 1 }

theorem row_err {r : Rdr} {a b : Nat} (h : r.err ≠ 0) : (r.row a b).2 = r := by unfold Rdr.row; rw [if_pos h]
theorem number_err {r : Rdr} (h : r.err ≠ 0) : r.number.2 = r := row_err (a := 9) (b := 127) h
theorem text_err {r : Rdr} {m : Int} (h : r.err ≠ 0) : (r.text m).2 = r := by unfold Rdr.text; rw [if_pos h]
theorem end_err {r : Rdr} (h : r.err ≠ 0) : r.end_ ≠ 0 := fun e => h (end_ok e)

theorem pgEnt_err {all : Nat} {s s' : RS} {r r' : Rdr} (h : r.err ≠ 0) (e : pgEnt all s r = some (s', r')) : r' = r := by
 unfold pgEnt at e
 simp only at e
 split at e
 ·cases e
  rw [text_err (by rw [text_err h]; exact h), text_err h]
 ·cases e
theorem pgEnts_err {all : Nat} : ∀ (n : Nat) {s s' : RS} {r r' : Rdr}, r.err ≠ 0 → pgEnts all n s r = some (s', r') → r' = r
 | 0, s, s', r, r', _, e => by cases e; rfl
 | n + 1, s, s', r, r', h, e => by
  rw [pgEnts] at e
  cases hq : pgEnt all s r with
  | none => rw [hq] at e; cases e
  | some q =>
   obtain ⟨s1, r1⟩ := q
   rw [hq] at e
   obtain rfl := pgEnt_err h hq
   exact pgEnts_err n h e
theorem rfShut_err {all : Nat} {n : Nat} {s : RS} {r : Rdr} (h : r.err ≠ 0) : rfShut (pgEnts all n s r) = none := by
 cases hq : pgEnts all n s r with
 | none => rfl
 | some q =>
  obtain ⟨s1, r1⟩ := q
  obtain rfl := pgEnts_err n h hq
  show (if r1.end_ = 0 then some s1 else none) = none
  rw [if_neg (end_err h)]

theorem pwEntE_iff {x : PW} {y : Ent} (hc : datumCheck y.v = 0) : pwEntE x y = 0 ↔ isKey y.key = true ∧ leS y.key x.key = false ∧ y.v.kind ≠ 0 := by
 unfold pwEntE
 cases hk : isKey y.key with
 | false => simp
 | true =>
  rw [if_neg (by simp), if_neg (by simpa using hc)]
  by_cases hz : y.v.kind = 0
  ·rw [if_pos hz]; simp [hz]
  ·rw [if_neg hz]
   cases hl : leS y.key x.key with
   | true => simp
   | false => simp [hz]

theorem rfEnt_eq {all : Nat} {s : RS} {r : Rdr} (h : ((r.text all).2.text all).2.err = 0) : rfEnt all s r = pgEnt all s r := by
 unfold rfEnt pgEnt
 rw [if_neg (by simpa using h)]
 simp only
 by_cases h1 : (datumDecode ((r.text all).2.text all).1).2 = 0
 ·rw [if_neg (by simpa using h1)]
  obtain ⟨hc, _, _⟩ := datum_form (b := ((r.text all).2.text all).1) (v := (datumDecode ((r.text all).2.text all).1).1) (by rw [← h1])
  have hi := pwEntE_iff (x := s.pw 0) (y := ⟨ofBs (r.text all).1, (datumDecode ((r.text all).2.text all).1).1⟩) hc
  by_cases h2 : pwEntE (s.pw 0) ⟨ofBs (r.text all).1, (datumDecode ((r.text all).2.text all).1).1⟩ = 0
  ·rw [if_neg (by simpa using h2), if_pos ⟨h1, hi.1 h2⟩]
  ·rw [if_pos h2, if_neg (fun q => h2 (hi.2 q.2))]
 ·rw [if_pos h1, if_neg (fun h => h1 h.1)]

theorem rfEnts_eq (all : Nat) : ∀ (n : Nat) (s : RS) (r : Rdr), rfShut (rfEnts all n s r) = rfShut (pgEnts all n s r)
 | 0, _, _ => rfl
 | n + 1, s, r => by
  rw [rfEnts, pgEnts]
  by_cases h : ((r.text all).2.text all).2.err = 0
  ·rw [rfEnt_eq h]
   cases hq : pgEnt all s r with
   | none => rfl
   | some q => exact rfEnts_eq all n q.1 q.2
  ·have h1 : rfEnt all s r = none := by unfold rfEnt; rw [if_pos h]
   rw [h1]
   cases hq : pgEnt all s r with
   | none => rfl
   | some q =>
    obtain ⟨s1, r1⟩ := q
    have hr : r1 = ((r.text all).2.text all).2 := by
     unfold pgEnt at hq
     simp only at hq
     split at hq
     ·cases hq; rfl
     ·cases hq
    show none = rfShut (pgEnts all n s1 r1)
    rw [rfShut_err (by rw [hr]; exact h)]

theorem rfShut_no {s : RS} {r : Rdr} (h : r.end_ ≠ 0) : rfShut (some (s, r)) = none := by
 show (if r.end_ = 0 then some s else none) = none
 rw [if_neg h]
/-- What a frame's kind answers, its end looked at. -/
theorem pgShut_some {over : Bool} {q : Option (RS × Rdr)} {f : Nat} (hf : ∀ s' r', q = some (s', r') → s'.frames = f) : pgShut over q = (rfShut q).map fun s' => ({ s' with frames := f + 1 }, over) := by
 cases q with
 | none => rfl
 | some q =>
  obtain ⟨s1, r1⟩ := q
  unfold pgShut rfShut
  simp only
  by_cases h : r1.end_ = 0
  ·rw [if_pos h, if_pos h, hf s1 r1 rfl]; rfl
  ·rw [if_neg h, if_neg h]; rfl

theorem pgEnts_frames {all : Nat} : ∀ (n : Nat) {s s' : RS} {r r' : Rdr}, pgEnts all n s r = some (s', r') → s'.frames = s.frames
 | 0, s, s', r, r', e => by cases e; rfl
 | n + 1, s, s', r, r', e => by
  rw [pgEnts] at e
  cases hq : pgEnt all s r with
  | none => rw [hq] at e; cases e
  | some q =>
   obtain ⟨s1, r1⟩ := q
   rw [hq] at e
   have h1 := pgEnts_frames n e
   rw [h1]
   unfold pgEnt at hq
   simp only at hq
   split at hq
   ·cases hq; rfl
   ·cases hq
theorem pgKind_frames {k all : Nat} {s s' : RS} {r r' : Rdr} (h : pgKind k all s r = some (s', r')) : s'.frames = s.frames := by
 unfold pgKind at h
 split at h
 ·unfold pgHead at h
  split at h
  ·cases h; rfl
  ·cases h
 ·split at h
  ·unfold pgProc at h
   split at h
   ·cases h; rfl
   ·cases h
  ·split at h
   ·unfold pgPage at h
    split at h
    ·exact pgEnts_frames _ h
    ·cases h
   ·split at h
    ·unfold pgEnd at h
     split at h
     ·cases h; rfl
     ·cases h
    ·cases h

theorem rfHead_eq {s : RS} {r : Rdr} (h0 : s.frames = 0) : rfHead s r = rfShut (pgHead s r) := by
 unfold rfHead pgHead
 by_cases h : 1 ≤ r.number.1 ∧ r.number.1 ≤ maxNum ∧ r.number.2.number.1 ≤ maxNum
 ·rw [if_pos (⟨h0, h⟩ : s.frames = 0 ∧ _)]
  unfold rfShut
  simp only
  by_cases he : r.number.2.number.2.end_ = 0
  ·rw [if_pos ⟨he, h⟩, if_pos he]
  ·rw [if_neg (fun h => he h.1), if_neg he]
 ·rw [if_neg (fun q => h q.2), if_neg (fun q => h q.2)]; rfl
theorem rfEnd_eq {s : RS} {r : Rdr} (h0 : 0 < s.frames) : rfEnd s r = rfShut (pgEnd s r) := by
 unfold rfEnd pgEnd
 by_cases h : r.number.1 = s.procs.length ∧ r.number.2.number.1 = s.entries.length
 ·rw [if_pos (⟨h0, h⟩ : 0 < s.frames ∧ _)]
  unfold rfShut
  simp only
  by_cases he : r.number.2.number.2.end_ = 0
  ·rw [if_pos ⟨he, h⟩, if_pos he]
  ·rw [if_neg (fun h => he h.1), if_neg he]
 ·rw [if_neg (fun q => h q.2), if_neg (fun q => h q.2)]; rfl
theorem rfPage_eq {all : Nat} {s : RS} {r : Rdr} (h0 : 0 < s.frames) : rfPage all s r = rfShut (pgPage all s r) := by
 unfold rfPage pgPage
 by_cases h : 1 ≤ r.number.1 ∧ r.number.1 ≤ 128
 ·rw [if_pos (⟨h0, h⟩ : 0 < s.frames ∧ _)]
  by_cases he : r.number.2.err = 0
  ·rw [if_neg (by rintro (q | q | q) <;> omega), rfEnts_eq]
  ·rw [if_pos (.inl he), rfShut_err he]
 ·rw [if_pos (.inr (by omega)), if_neg (fun q => h q.2)]; rfl
theorem rfProc_eq {all : Nat} {s : RS} {r : Rdr} (h0 : 0 < s.frames) : rfProc all s r = rfShut (pgProc all s r) := by
 unfold rfProc pgProc
 obtain ⟨⟨p, e⟩, hd⟩ : ∃ q, q = procDecode (r.text all).1 := ⟨_, rfl⟩
 rw [← hd]
 simp only
 by_cases he : e = 0
 ·subst he
  obtain ⟨hc, _, _⟩ := proc_form hd.symm
  unfold pwProcE
  rw [if_neg (show ¬ (procCheck p).2 ≠ 0 by simpa using hc), show (s.pw 0).entries = s.entries.length from rfl, show (s.pw 0).name = s.name from rfl]
  by_cases hen : s.entries.length = 0
  ·rw [if_neg (show ¬ 0 < s.entries.length by omega)]
   cases hl : leS p.name s.name with
   | true =>
    rw [if_pos (show (true = true) from rfl), if_neg (show ¬ (0 < s.frames ∧ (0 : Int) = 0 ∧ s.entries.length = 0 ∧ (true : Bool) = false) from fun q => by simp at q)]
    by_cases hz : (r.text all).2.end_ = 0
    ·rw [if_neg (by simpa using hz), if_neg (by simp), if_pos (by decide)]; rfl
    ·rw [if_pos hz]; rfl
   | false =>
    rw [if_neg (show ¬ (false = true) by simp), if_pos (⟨h0, rfl, hen, rfl⟩ : 0 < s.frames ∧ (0 : Int) = 0 ∧ s.entries.length = 0 ∧ (false : Bool) = false)]
    unfold rfShut
    simp only
    by_cases hz : (r.text all).2.end_ = 0
    ·rw [if_neg (by simpa using hz), if_neg (by simp), if_neg (by simp), if_pos hz]
    ·rw [if_pos hz, if_neg hz]
  ·rw [if_pos (show 0 < s.entries.length by omega), if_neg (show ¬ (0 < s.frames ∧ (0 : Int) = 0 ∧ s.entries.length = 0 ∧ leS p.name s.name = false) from fun q => hen q.2.2.1)]
   by_cases hz : (r.text all).2.end_ = 0
   ·rw [if_neg (by simpa using hz), if_neg (by simp), if_pos (by decide)]; rfl
   ·rw [if_pos hz]; rfl
 ·rw [if_neg (show ¬ (0 < s.frames ∧ e = 0 ∧ s.entries.length = 0 ∧ leS p.name s.name = false) from fun q => he q.2.1), if_pos he]
  split <;> rfl

/-- A frame: the document answers as the model. -/
theorem rfFrame_eq (s : RS) (body : Bs) : pgFrame s body = (rfFrame s body).map fun s' => (s', decide ((Rdr.new body).byte.1 = 4)) := by
 unfold pgFrame rfFrame
 obtain ⟨k, r1⟩ := (Rdr.new body).byte
 obtain ⟨p, r2, hp⟩ : ∃ p r2, r1.number = (p, r2) := ⟨_, _, rfl⟩
 simp only [hp]
 by_cases hpf : p = s.frames
 ·rw [if_pos hpf, pgShut_some (f := s.frames) (fun _ _ h => pgKind_frames h)]
  by_cases he : r2.err = 0
  ·by_cases hk : k = 1 ↔ p = 0
   ·rw [if_neg (by rintro (q | q | q); exact q he; exact q hpf; exact q hk)]
    have hkk : rfShut (pgKind k body.length s r2) = rfKind k body.length s r2 := by
     unfold pgKind rfKind
     by_cases k1 : k = 1
     ·rw [if_pos k1, if_pos k1, rfHead_eq (by have := hk.1 k1; omega)]
     ·have hf : 0 < s.frames := by
       rcases Nat.eq_zero_or_pos s.frames with h | h
       ·exact absurd (hk.2 (by omega)) k1
       ·exact h
      rw [if_neg k1, if_neg k1]
      by_cases k2 : k = 2
      ·rw [if_pos k2, if_pos k2, rfProc_eq hf]
      ·rw [if_neg k2, if_neg k2]
       by_cases k3 : k = 3
       ·rw [if_pos k3, if_pos k3, rfPage_eq hf]
       ·rw [if_neg k3, if_neg k3]
        by_cases k4 : k = 4
        ·rw [if_pos k4, if_pos k4, rfEnd_eq hf]
        ·rw [if_neg k4, if_neg k4]; rfl
    rw [hkk]
    cases rfKind k body.length s r2 <;> rfl
   ·rw [if_pos (.inr (.inr hk))]
    have hno : pgKind k body.length s r2 = none := by
     unfold pgKind
     by_cases k1 : k = 1
     ·rw [if_pos k1]
      unfold pgHead
      rw [if_neg (fun q => hk ⟨fun _ => by omega, fun _ => k1⟩)]
     ·have hf : s.frames = 0 := by
       rcases Classical.em (p = 0) with h | h
       ·omega
       ·exact absurd ⟨fun h' => absurd h' k1, fun h' => absurd h' h⟩ hk
      rw [if_neg k1]
      unfold pgProc pgPage pgEnd
      rw [hf]
      simp
    rw [hno]
    rfl
  ·rw [if_pos (.inl he)]
   have hno : rfShut (pgKind k body.length s r2) = none := by
    unfold pgKind
    split
    ·unfold pgHead
     split
     ·refine rfShut_no ?_
      rw [number_err (by rw [number_err he]; exact he), number_err he]
      exact end_err he
     ·rfl
    ·split
     ·unfold pgProc
      split
      ·refine rfShut_no ?_
       rw [text_err he]
       exact end_err he
      ·rfl
     ·split
      ·unfold pgPage
       split
       ·rw [number_err he]
        exact rfShut_err he
       ·rfl
      ·split
       ·unfold pgEnd
        split
        ·refine rfShut_no ?_
         rw [number_err (by rw [number_err he]; exact he), number_err he]
         exact end_err he
        ·rfl
       ·rfl
   rw [hno]
   rfl
 ·rw [if_neg hpf, if_pos (.inr (.inl hpf))]
  rfl
end Go.Proofs.YtnieminnnkbneaaGreat
