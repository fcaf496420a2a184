/- A checkpoint's file: what a Writer gives out is read back; its parts. No program in sight. -/
import Derived.Test.YtnieminnnkbneaaGreatPgr
import Derived.Test.YtnieminnnkbneaaGreatPwp
namespace Go.Proofs.YtnieminnnkbneaaGreat
open Go.RowKit

def fr (b : Bs) : Bs := headB b ++ b
theorem fr_length (b : Bs) : (fr b).length = 8 + b.length := by unfold fr; rw [List.length_append, headB_length]

theorem loop_step {xs b rest : Bs} {p f : Nat} {s s' : RS} (h : xs.drop p = fr b ++ rest) (h1 : 1 ≤ b.length) (h2 : b.length ≤ 65536) (hf : pgFrame s b = some (s', false)) :
    pgLoop xs (f + 1) p s = pgLoop xs f (p + (fr b).length) s' ∧ xs.drop (p + (fr b).length) = rest := by
  obtain ⟨n0, n1, n2, n3, _⟩ := next_fwd (by rw [h, fr, List.append_assoc]) h1 h2
  rw [fr_length, ← Nat.add_assoc]
  refine ⟨?_, n3⟩
  rw [pgLoop, if_neg (by rw [n0]; decide), if_neg (by rw [n0]; decide), n2, hf, n1]
  rfl

theorem loop_last {xs b rest : Bs} {p f : Nat} {s s' : RS} (h : xs.drop p = fr b ++ rest) (h1 : 1 ≤ b.length) (h2 : b.length ≤ 65536) (hf : pgFrame s b = some (s', true)) :
    pgLoop xs (f + 1) p s = if rest = [] then (s', 0) else (.zero, 3) := by
  obtain ⟨n0, n1, n2, n3, n4⟩ := next_fwd (by rw [h, fr, List.append_assoc]) h1 h2
  rw [pgLoop, if_neg (by rw [n0]; decide), if_neg (by rw [n0]; decide), n2, hf, n1]
  simp only [if_true]
  have hl : xs.length - (p + 8 + b.length) = rest.length := by rw [← n3, List.length_drop]
  by_cases hr : rest = []
  · rw [if_pos hr, if_pos (by rw [hr] at hl; simp at hl; omega)]
  · have : 0 < rest.length := List.length_pos_iff.2 hr
    rw [if_neg hr, if_neg (by omega)]

/-- Bodies that are read one behind the other, none of them the end's. -/
inductive Runs : RS → RS → List Bs → Prop
  | nil (s : RS) : Runs s s []
  | cons {s s1 s' : RS} {b : Bs} {bs : List Bs} (h1 : 1 ≤ b.length) (h2 : b.length ≤ 65536) (hf : pgFrame s b = some (s1, false)) (h : Runs s1 s' bs) : Runs s s' (b :: bs)

theorem Runs.append {s s1 s' : RS} {cs bs : List Bs} (h : Runs s s1 cs) (k : Runs s1 s' bs) : Runs s s' (cs ++ bs) := by
  induction h with
  | nil => exact k
  | cons h1 h2 hf _ ih => exact .cons h1 h2 hf (ih k)
theorem Runs.one {s s' : RS} {b : Bs} (h1 : 1 ≤ b.length) (h2 : b.length ≤ 65536) (hf : pgFrame s b = some (s', false)) : Runs s s' [b] := .cons h1 h2 hf (.nil _)

theorem Runs.loop {xs rest : Bs} {s s' : RS} {bs : List Bs} (h : Runs s s' bs) : ∀ (p f : Nat), xs.drop p = bs.flatMap fr ++ rest →
    pgLoop xs (f + bs.length) p s = pgLoop xs f (p + (bs.flatMap fr).length) s' ∧ xs.drop (p + (bs.flatMap fr).length) = rest := by
  induction h with
  | nil s => intro p f h; exact ⟨rfl, h⟩
  | cons h1 h2 hf _ ih =>
    intro p f h
    rw [List.flatMap_cons, List.append_assoc] at h
    obtain ⟨e1, e2⟩ := loop_step (f := f + _) h h1 h2 hf
    obtain ⟨e3, e4⟩ := ih _ f e2
    rw [List.length_cons, ← Nat.add_assoc, e1, e3, List.flatMap_cons, List.length_append, ← Nat.add_assoc]
    exact ⟨rfl, e4⟩

/-- A part of a file: torn, or too short. -/
theorem Runs.cut {xs more : Bs} {s s' : RS} {bs : List Bs} (h : Runs s s' bs) : ∀ (p f k : Nat), xs.drop p = (bs.flatMap fr).take k → p ≤ xs.length → k < (bs.flatMap fr).length → bs.length < f →
    pgLoop xs f p s = (.zero, 2) ∨ pgLoop xs f p s = (.zero, 13) := by
  have _ := more
  induction h with
  | nil s => intro p f k _ _ hk _; simp at hk
  | @cons s s1 s' b bs h1 h2 hf _ ih =>
    intro p f k h hp hk hfl
    obtain ⟨f, rfl⟩ : ∃ g, f = g + 1 := ⟨f - 1, by simp at hfl; omega⟩
    by_cases h0 : k = 0
    · subst h0
      have hpl : p = xs.length := by
        have := congrArg List.length h
        simp at this
        omega
      exact .inl (by rw [pgLoop, if_pos (next_end hpl)])
    · by_cases hb : k < (fr b).length
      · have h13 : nextE xs p = 13 := by
          refine next_cut (b := b) (k := k) ?_ h2 (by omega) (by rw [fr_length] at hb; exact hb)
          rw [h, List.flatMap_cons, List.take_append_of_le_length (by omega)]
          rfl
        exact .inr (by rw [pgLoop, if_neg (by rw [h13]; decide), if_pos (by rw [h13]; decide)])
      · have e : xs.drop p = fr b ++ (bs.flatMap fr).take (k - (fr b).length) := by
          rw [h, List.flatMap_cons, List.take_append, List.take_of_length_le (by omega)]
        obtain ⟨e1, e2⟩ := loop_step (f := f) e h1 h2 hf
        rw [e1]
        have hpl : p + (fr b).length ≤ xs.length := by
          have := congrArg List.length e
          rw [List.length_drop, List.length_append] at this
          have := fr_length b
          omega
        exact ih _ f _ e2 hpl (by rw [List.flatMap_cons, List.length_append] at hk; omega) (by simp at hfl; omega)

/-- The reader's state tells the Writer's. -/
structure Tells (s : RS) (x : PW) : Prop where
  f : s.frames = x.frames
  p : s.procs.length = x.procs
  e : s.entries.length = x.entries
  n : s.name = x.name
  k : s.key = x.key
  h : 0 < x.frames → s.number = x.number ∧ s.mark = x.mark

theorem procBytes_le {p : Prc} (h : (procCheck p).2 = 0) : (procBytes p).length ≤ 26000 := by
  obtain ⟨h1, _, h3, h4⟩ := procCheck_zero h
  have hn := isName_le h1
  have e1 := encText_le p.name.data.toList
  have e2 := encNumber_le p.args
  have e3 := encNumber_le (p.code.length : Int)
  have e4 := codeBytes_le (l := p.code) (fun x hx => by
    obtain ⟨j, hj, rfl⟩ := List.getElem_of_mem hx
    exact (insCheck_zero (h4 j hj)).2.2)
  have e5 : p.name.data.toList.length = p.name.size := size_data p.name
  unfold procBytes
  simp only [List.length_append]
  omega

theorem bodyF_le (k : UInt8) (f : Nat) (extra : Bs) : 1 ≤ (bodyF k f extra).length ∧ (bodyF k f extra).length ≤ 11 + extra.length := by
  have := encNumber_le (f : Int)
  unfold bodyF
  simp only [List.cons_append, List.length_cons, List.length_append]
  omega

theorem pwProcE_zero {x : PW} {p : Prc} (h : pwProcE x p = 0) : (procCheck p).2 = 0 ∧ x.entries = 0 ∧ leS p.name x.name = false := by
  unfold pwProcE at h
  by_cases h1 : (procCheck p).2 ≠ 0
  · rw [if_pos h1] at h; exact absurd h h1
  rw [if_neg h1] at h
  by_cases h2 : 0 < x.entries
  · rw [if_pos h2] at h; cases h
  rw [if_neg h2] at h
  by_cases h3 : leS p.name x.name = true
  · rw [if_pos h3] at h; cases h
  exact ⟨by simpa using h1, by omega, by simpa using h3⟩

theorem runs_procs : ∀ (l : List Prc) (s : RS) (x x' : PW) (ys ys' : Bs), pwProcs x ys l = ((ys', x'), 0) → Tells s x → 0 < x.frames → x.frames + l.length ≤ 9223372036854775807 → (∀ p ∈ l, ∀ i ∈ p.code, i64v i.v) →
    ∃ bs s', ys' = ys ++ bs.flatMap fr ∧ Runs s s' bs ∧ Tells s' x' ∧ s'.procs = s.procs ++ l ∧ s'.entries = s.entries ∧ x'.frames = x.frames + l.length ∧ x'.live = x.live ∧ x'.number = x.number ∧ x'.mark = x.mark ∧ x'.key = x.key
  | [], s, x, x', ys, ys', h, T, _, _, _ => by
    simp only [pwProcs, Prod.mk.injEq, and_true] at h
    obtain ⟨rfl, rfl⟩ := h
    exact ⟨[], s, by simp, .nil s, T, by simp, rfl, rfl, rfl, rfl, rfl, rfl⟩
  | p :: l, s, x, x', ys, ys', h, T, h0, hf, hv => by
    have hp : pwProcE x p = 0 := by
      by_cases hp : pwProcE x p = 0
      · exact hp
      · rw [pwProcs, if_pos hp] at h
        exact absurd (congrArg Prod.snd h) hp
    rw [pwProcs, if_neg (by simpa using hp)] at h
    obtain ⟨g1, g2, g3⟩ := pwProcE_zero hp
    have hbl := procBytes_le g1
    have hb := bodyF_le 2 s.frames (encText (procBytes p))
    have he := encText_le (procBytes p)
    rw [List.length_cons] at hf
    have hs0 : s.entries = [] := List.eq_nil_of_length_eq_zero (by rw [T.e, g2])
    have hF := fwd_proc s p (by rw [T.f]; omega) (by rw [T.f]; exact h0) hs0 g1 (hv p (by simp)) (by rw [T.n]; exact g3) (by omega)
    have T1 : Tells { s with frames := s.frames + 1, name := p.name, procs := s.procs ++ [p] } (pwProc x p) :=
      ⟨by show s.frames + 1 = x.frames + 1; rw [T.f], by show (s.procs ++ [p]).length = x.procs + 1; simp [T.p], T.e, rfl, T.k, fun _ => T.h h0⟩
    obtain ⟨bs, s', e1, R, T', e2, e3, e4, e5, e6, e7, e8⟩ := runs_procs l _ (pwProc x p) x' _ ys' h T1 (by show 0 < x.frames + 1; omega) (by show x.frames + 1 + l.length ≤ _; omega) (fun q hq => hv q (by simp [hq]))
    refine ⟨bodyF 2 s.frames (encText (procBytes p)) :: bs, s', ?_, .cons hb.1 (by omega) hF R, T', ?_, e3, ?_, e5, e6, e7, e8⟩
    · rw [e1, List.flatMap_cons, List.append_assoc, T.f]
      rfl
    · rw [e2]; simp
    · rw [e4, List.length_cons]
      show x.frames + 1 + l.length = _
      omega

theorem tells_ents : ∀ (l : List Ent) (x x' : PW), pwEnts x l = (x', 0) → x' = { x with key := x'.key, entries := x.entries + l.length }
  | [], x, x', h => by
    simp only [pwEnts, Prod.mk.injEq, and_true] at h
    subst h
    rfl
  | y :: l, x, x', h => by
    have hy : pwEntE x y = 0 := by
      by_cases hy : pwEntE x y = 0
      · exact hy
      · rw [pwEnts, if_pos hy] at h
        exact absurd (congrArg Prod.snd h) hy
    rw [pwEnts, if_neg (by simpa using hy)] at h
    have e := tells_ents l _ x' h
    rw [e]
    show PW.mk _ _ _ _ _ _ _ _ = PW.mk _ _ _ _ _ _ _ _
    simp only [pwEnt, List.length_cons]
    congr 1
    omega

theorem pwEntE_zero {x : PW} {y : Ent} (h : pwEntE x y = 0) : isKey y.key = true ∧ datumCheck y.v = 0 ∧ y.v.kind ≠ 0 ∧ leS y.key x.key = false := by
  unfold pwEntE at h
  by_cases hK : isKey y.key = false
  · rw [if_pos hK] at h; cases h
  rw [if_neg hK] at h
  by_cases hC : datumCheck y.v ≠ 0
  · rw [if_pos hC] at h; exact absurd h hC
  rw [if_neg hC] at h
  by_cases hZ : y.v.kind = 0
  · rw [if_pos hZ] at h; cases h
  rw [if_neg hZ] at h
  by_cases hO : leS y.key x.key = true
  · rw [if_pos hO] at h; cases h
  exact ⟨by simpa using hK, by simpa using hC, hZ, by simpa using hO⟩

theorem ents_fit : ∀ (l : List Ent) (x x' : PW), pwEnts x l = (x', 0) → ∀ y ∈ l, datumCheck y.v = 0 ∧ y.key.size ≤ 64
  | [], _, _, _, y, hy => by cases hy
  | z :: l, x, x', h, y, hy => by
    have hz : pwEntE x z = 0 := by
      by_cases hz : pwEntE x z = 0
      · exact hz
      · rw [pwEnts, if_pos hz] at h
        exact absurd (congrArg Prod.snd h) hz
    rw [pwEnts, if_neg (by simpa using hz)] at h
    rcases List.mem_cons.1 hy with rfl | hy
    · obtain ⟨g1, g2, _⟩ := pwEntE_zero hz
      refine ⟨g2, ?_⟩
      unfold isKey at g1
      simp at g1
      omega
    · exact ents_fit l _ x' h y hy

theorem runs_head (s : RS) (x : PW) (T : Tells s x) (h1 : 1 ≤ x.number) (h2 : x.number ≤ 281474976710655) (h3 : x.mark ≤ 281474976710655) :
    ∃ bs s', (pwHead x).1 = bs.flatMap fr ∧ Runs s s' bs ∧ Tells s' (pwHead x).2 ∧ s'.procs = s.procs ∧ s'.entries = s.entries ∧ 0 < (pwHead x).2.frames ∧ (pwHead x).2.frames ≤ x.frames + 1 ∧ (pwHead x).2.live = x.live ∧ (pwHead x).2.number = x.number ∧ (pwHead x).2.mark = x.mark := by
  unfold pwHead
  by_cases h0 : x.frames = 0
  · rw [if_pos h0]
    have hF := fwd_head s x.number x.mark (by rw [T.f, h0]) h1 h2 h3
    have hb := bodyF_le 1 0 (encNumber x.number ++ encNumber x.mark)
    have e1 := encNumber_le (x.number : Int)
    have e2 := encNumber_le (x.mark : Int)
    rw [List.length_append] at hb
    refine ⟨[bodyF 1 0 (encNumber x.number ++ encNumber x.mark)], _, ?_, .one hb.1 (by omega) hF, ⟨rfl, T.p, T.e, T.n, T.k, fun _ => ⟨rfl, rfl⟩⟩, rfl, rfl, ?_, ?_, rfl, rfl, rfl⟩
    · simp [headFrame, frameB, fr]
    · show 0 < 1; decide
    · show 1 ≤ _; omega
  · rw [if_neg h0]
    exact ⟨[], s, rfl, .nil s, T, rfl, rfl, by show 0 < x.frames; omega, by show x.frames ≤ _; omega, rfl, rfl, rfl⟩

/-- A piece: the frames that it gives out, and what is read of them. -/
theorem runs_page {s : RS} {x x' : PW} {ps : List Prc} {es : List Ent} {ys : Bs} (h : pwPage x ps es = ((ys, x'), 0)) (T : Tells s x) (h1 : 1 ≤ x.number) (h2 : x.number ≤ 281474976710655) (h3 : x.mark ≤ 281474976710655)
    (hf : x.frames ≤ 281474976710655) (hvp : ∀ p ∈ ps, ∀ i ∈ p.code, i64v i.v) (hve : ∀ y ∈ es, i64v y.v) :
    ∃ bs s', ys = bs.flatMap fr ∧ Runs s s' bs ∧ Tells s' x' ∧ s'.procs = s.procs ++ ps ∧ s'.entries = s.entries ++ es ∧ x'.frames ≤ x.frames + 130 ∧ 0 < x'.frames ∧ x'.live = true ∧ x'.number = x.number ∧ x'.mark = x.mark := by
  unfold pwPage at h
  by_cases hl : x.live = false
  · rw [if_pos hl] at h
    exact absurd (congrArg Prod.snd h) (by simp)
  rw [if_neg hl] at h
  by_cases hn : ps.length + es.length = 0 ∨ 128 < ps.length + es.length
  · rw [if_pos hn] at h
    exact absurd (congrArg Prod.snd h) (by simp)
  rw [if_neg hn] at h
  simp only at h
  obtain ⟨⟨⟨qy, qx⟩, qe⟩, hq⟩ : ∃ q, q = pwProcs (pwHead x).2 (pwHead x).1 ps := ⟨_, rfl⟩
  rw [← hq] at h
  simp only at h
  by_cases he : qe ≠ 0
  · rw [if_pos he] at h
    exact absurd (congrArg Prod.snd h) he
  rw [if_neg he] at h
  obtain rfl : qe = 0 := by simpa using he
  obtain ⟨⟨ux, ue⟩, hu⟩ : ∃ u, u = pwEnts qx es := ⟨_, rfl⟩
  rw [← hu] at h
  simp only at h
  by_cases he' : ue ≠ 0
  · rw [if_pos he'] at h
    exact absurd (congrArg Prod.snd h) he'
  rw [if_neg he'] at h
  obtain rfl : ue = 0 := by simpa using he'
  obtain ⟨b1, s1, e1, R1, T1, p1, n1, f1, f1', l1, u1, m1⟩ := runs_head s x T h1 h2 h3
  obtain ⟨b2, s2, e2, R2, T2, p2, n2, f2, l2, u2, m2, k2⟩ := runs_procs ps s1 _ qx _ qy hq.symm T1 f1 (by omega) hvp
  have hux := tells_ents es qx ux hu.symm
  by_cases hes : es = []
  · rw [if_pos hes] at h
    simp only [Prod.mk.injEq, and_true] at h
    obtain ⟨rfl, rfl⟩ := h
    subst hes
    obtain rfl : qx = ux := by
      simp only [pwEnts, Prod.mk.injEq, and_true] at hu
      exact hu.symm
    exact ⟨b1 ++ b2, s2, by rw [e2, e1, List.flatMap_append], R1.append R2, T2, by rw [p2, p1], by rw [n2, n1, List.append_nil], by omega, by omega, by rw [l2, l1]; simpa using hl, by rw [u2, u1], by rw [m2, m1]⟩
  · rw [if_neg hes] at h
    simp only [Prod.mk.injEq, and_true] at h
    obtain ⟨rfl, rfl⟩ := h
    have hpos : 0 < es.length := List.length_pos_iff.2 hes
    have hle := entsBytes_le (ents_fit es qx ux hu.symm)
    have hnl := encNumber_le (es.length : Int)
    have hbl := bodyF_le 3 s2.frames (entsBytes es)
    have hel : (entsBytes es).length ≤ 10 + 400 * es.length := by unfold entsBytes; rw [List.length_append]; omega
    have hF := fwd_ents s2 qx ux es (by rw [T2.f]; omega) (by rw [T2.f]; omega) hpos (by omega) hu.symm T2.k.symm hve (by omega)
    have hfu : ux.frames = qx.frames := by rw [hux]
    refine ⟨(b1 ++ b2) ++ [bodyF 3 s2.frames (entsBytes es)], _, ?_, (R1.append R2).append (.one hbl.1 (by omega) hF), ⟨?_, ?_, ?_, ?_, rfl, ?_⟩, ?_, ?_, ?_, ?_, ?_, ?_, ?_⟩
    · rw [e2, e1, List.flatMap_append, List.flatMap_append, T2.f, ← hfu]
      simp [entsFrame, frameB, fr]
    · show s2.frames + 1 = ux.frames + 1; rw [T2.f, hfu]
    · show s2.procs.length = ux.procs; rw [T2.p, hux]
    · show (s2.entries ++ es).length = ux.entries; rw [List.length_append, T2.e, hux]
    · show s2.name = ux.name; rw [T2.n, hux]
    · intro _; show s2.number = ux.number ∧ s2.mark = ux.mark; rw [hux]; exact T2.h (by omega)
    · show s2.procs = _; rw [p2, p1]
    · show s2.entries ++ es = _; rw [n2, n1]
    · show ux.frames + 1 ≤ _; rw [hfu]; omega
    · show 0 < ux.frames + 1; omega
    · show ux.live = true; rw [hux]; show qx.live = true; rw [l2, l1]; simpa using hl
    · show ux.number = _; rw [hux]; show qx.number = _; rw [u2, u1]
    · show ux.mark = _; rw [hux]; show qx.mark = _; rw [m2, m1]
end Go.Proofs.YtnieminnnkbneaaGreat
