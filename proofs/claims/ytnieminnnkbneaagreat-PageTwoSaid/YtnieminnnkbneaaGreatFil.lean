/- Rising names and keys; a checkpoint's file, as a Writer gives it out; what lies behind each piece. No program in sight. -/
import Derived.Test.YtnieminnnkbneaaGreatPgf
import Derived.Test.YtnieminnnkbneaaGreatPwd
namespace Go.Proofs.YtnieminnnkbneaaGreat
open Go.RowKit


theorem bl_irrefl : ∀ a : Bs, Op.bytesLess a a = false
  | [] => rfl
  | x :: a => by simp [Op.bytesLess, bl_irrefl a]
theorem bl_trans : ∀ {a b c : Bs}, Op.bytesLess a b = true → Op.bytesLess b c = true → Op.bytesLess a c = true
  | _, [], _, h, _ => by cases ‹Bs› <;> simp [Op.bytesLess] at h
  | _, _ :: _, [], _, h => by simp [Op.bytesLess] at h
  | [], _ :: _, _ :: _, _, _ => by simp [Op.bytesLess]
  | x :: a, y :: b, z :: c, h, k => by
    simp only [Op.bytesLess, Bool.or_eq_true, Bool.and_eq_true, decide_eq_true_eq, beq_iff_eq, UInt8.lt_iff_toNat_lt] at h k ⊢
    rcases h with h | ⟨rfl, h⟩
    · rcases k with k | ⟨rfl, k⟩
      · exact .inl (by omega)
      · exact .inl h
    · rcases k with k | ⟨rfl, k⟩
      · exact .inl k
      · exact .inr ⟨rfl, bl_trans h k⟩
theorem bl_total : ∀ {a b : Bs}, Op.bytesLess a b = false → a ≠ b → Op.bytesLess b a = true
  | [], [], _, h => absurd rfl h
  | [], _ :: _, h, _ => by simp [Op.bytesLess] at h
  | _ :: _, [], _, _ => by simp [Op.bytesLess]
  | x :: a, y :: b, h, k => by
    simp only [Op.bytesLess, Bool.or_eq_true, Bool.and_eq_true, decide_eq_true_eq, beq_iff_eq, UInt8.lt_iff_toNat_lt, Bool.or_eq_false_iff, decide_eq_false_iff_not, Bool.and_eq_false_iff, beq_eq_false_iff_ne] at h ⊢
    obtain ⟨h1, h2⟩ := h
    by_cases hxy : x = y
    · subst hxy
      refine .inr ⟨rfl, bl_total ?_ (fun e => k (by rw [e]))⟩
      rcases h2 with h2 | h2
      · exact absurd rfl h2
      · exact h2
    · have : x.toNat ≠ y.toNat := fun e => hxy (UInt8.toNat_inj.1 e)
      exact .inl (by omega)
def ltS (a b : ByteArray) : Bool := Op.bytesLess a.toList b.toList
theorem ltS_trans {a b c : ByteArray} (h : ltS a b = true) (k : ltS b c = true) : ltS a c = true := bl_trans h k
theorem ltS_irrefl (a : ByteArray) : ltS a a = false := bl_irrefl _
theorem ltS_total {a b : ByteArray} (h : ltS a b = false) (k : a ≠ b) : ltS b a = true := bl_total h (fun e => k (ba_eq.1 e))
theorem leS_of {a b : ByteArray} (h : ltS b a = true) : leS a b = false := by
  unfold leS
  cases h1 : Op.bytesLess a.toList b.toList with
  | true => have := bl_trans h1 h; rw [bl_irrefl] at this; cases this
  | false =>
    by_cases h2 : a.toList = b.toList
    · unfold ltS at h; rw [h2, bl_irrefl] at h; cases h
    · simp [h2]
theorem leS_self (a : ByteArray) : leS a a = true := by simp [leS]
theorem ltS_empty {a : ByteArray} (h : 0 < a.size) : ltS emptyB a = true := by
  unfold ltS
  have h1 : a.toList.length = a.size := by rw [ByteArray.toList_eq]; simp
  have h2 : emptyB.toList = [] := by kernel_rfl
  rw [h2]
  cases h3 : a.toList with
  | nil => rw [h3] at h1; simp at h1; omega
  | cons => rfl

/-- Rising by f. -/
def Rise {α : Type} (f : α → ByteArray) (l : List α) : Prop := l.Pairwise (fun a b => ltS (f a) (f b) = true)
theorem Rise.nil {α : Type} (f : α → ByteArray) : Rise f [] := List.Pairwise.nil
/-- One thing put behind the first k. -/
def putAt {α : Type} (l : List α) (k : Nat) (x : α) : List α := l.take k ++ x :: l.drop k
theorem putAt_length {α : Type} (l : List α) (k : Nat) (x : α) : (putAt l k x).length = l.length + 1 := by
  simp only [putAt, List.length_append, List.length_take, List.length_cons, List.length_drop]; omega
theorem putAt_end {α : Type} (l : List α) (x : α) : putAt l l.length x = l ++ [x] := by simp [putAt]
theorem putAt_at {α : Type} {l : List α} {k : Nat} (x : α) (hk : k ≤ l.length) : (putAt l k x)[k]? = some x := by
  unfold putAt
  rw [List.getElem?_append_right (by simp; omega)]
  simp [Nat.min_eq_left hk]
theorem putAt_below {α : Type} {l : List α} {k j : Nat} (x : α) (hk : k ≤ l.length) (hj : j < k) : (putAt l k x)[j]? = l[j]? := by
  unfold putAt
  rw [List.getElem?_append_left (by simp; omega), List.getElem?_take_of_lt hj]
theorem putAt_swap {α : Type} {l : List α} {k : Nat} (x : α) (hk : k < l.length) : ((putAt l (k + 1) x).set (k + 1) l[k]).set k x = putAt l k x := by
  have h1 : l.take (k + 1) = l.take k ++ [l[k]] := List.take_succ_eq_append_getElem hk
  have h2 : l.drop k = l[k] :: l.drop (k + 1) := List.drop_eq_getElem_cons hk
  have h3 : (l.take k).length = k := by simp; omega
  unfold putAt
  rw [h1, h2]
  generalize l[k] = y
  generalize l.take k = p at h3
  generalize l.drop (k + 1) = q
  subst h3
  rw [List.append_assoc]
  rw [List.set_append_right _ _ (by omega), List.set_append_right _ _ (by omega)]
  simp [List.set_cons_succ]
theorem putAt_rise {α : Type} {f : α → ByteArray} {l : List α} {k : Nat} {x : α} (h : Rise f l) (hn : ∀ y ∈ l, f y ≠ f x) (hk : k ≤ l.length) (hb : ∀ y ∈ l.drop k, ltS (f x) (f y) = true)
    (he : ∀ j (hj : j < l.length), j + 1 = k → ltS (f x) (f l[j]) = false) : Rise f (putAt l k x) := by
  have h0 : (l.take k ++ l.drop k).Pairwise (fun a b => ltS (f a) (f b) = true) := by rw [List.take_append_drop]; exact h
  rw [List.pairwise_append] at h0
  obtain ⟨h1, h2, h3⟩ := h0
  unfold Rise putAt
  rw [List.pairwise_append]
  refine ⟨h1, List.pairwise_cons.2 ⟨hb, h2⟩, ?_⟩
  have key : ∀ a ∈ l.take k, ltS (f a) (f x) = true := by
    intro a ha
    cases k with
    | zero => simp at ha
    | succ j =>
      have hj : j < l.length := by omega
      have e := he j hj rfl
      have e1 := ltS_total e (fun q => hn l[j] (List.getElem_mem hj) q.symm)
      rw [List.take_succ_eq_append_getElem hj] at ha h1
      rcases List.mem_append.1 ha with ha | ha
      · rw [List.pairwise_append] at h1
        exact ltS_trans (h1.2.2 a ha l[j] (by simp)) e1
      · simp at ha; subst ha; exact e1
  intro a ha b hb'
  rcases List.mem_cons.1 hb' with rfl | hb'
  · exact key a ha
  · exact h3 a ha b hb'
theorem putAt_mem {α : Type} {l : List α} {k : Nat} {x y : α} (h : y ∈ putAt l k x) : y = x ∨ y ∈ l := by
  unfold putAt at h
  rcases List.mem_append.1 h with h | h
  · exact .inr (List.mem_of_mem_take h)
  · rcases List.mem_cons.1 h with h | h
    · exact .inl h
    · exact .inr (List.mem_of_mem_drop h)

/-- What may come next. -/
structure WOk (x : PW) (a : List Prc) (b : List Ent) : Prop where
  live : x.live = true
  pv : ∀ p ∈ a, (procCheck p).2 = 0
  pr : Rise Prc.name a
  pn : ∀ p ∈ a, ltS x.name p.name = true
  ev : ∀ y ∈ b, isKey y.key = true ∧ datumCheck y.v = 0 ∧ y.v.kind ≠ 0
  er : Rise Ent.key b
  ek : ∀ y ∈ b, ltS x.key y.key = true
  ent : x.entries = 0 ∨ a = []

theorem procs_ok : ∀ (l a : List Prc) (b : List Ent) (x : PW) (ys : Bs), WOk x (l ++ a) b → ∃ ys' x', pwProcs x ys l = ((ys', x'), 0) ∧ WOk x' a b
  | [], a, b, x, ys, h => ⟨ys, x, rfl, h⟩
  | p :: l, a, b, x, ys, h => by
    have hE : pwProcE x p = 0 := by
      have h1 := h.pv p (by simp)
      have h2 := h.ent.resolve_right (by simp)
      have h3 := leS_of (h.pn p (by simp))
      simp [pwProcE, h1, h2, h3]
    have hw : WOk (pwProc x p) (l ++ a) b :=
      ⟨h.live, fun q hq => h.pv q (by simp at hq ⊢; exact .inr hq), (List.pairwise_cons.1 h.pr).2, fun q hq => (List.pairwise_cons.1 h.pr).1 q hq, h.ev, h.er, h.ek, .inl (h.ent.resolve_right (by simp))⟩
    obtain ⟨ys', x', e, k⟩ := procs_ok l a b (pwProc x p) (ys ++ procFrame x p) hw
    exact ⟨ys', x', by rw [pwProcs, if_neg (by simp [hE])]; exact e, k⟩
theorem ents_ok : ∀ (l b : List Ent) (a : List Prc) (x : PW), WOk x a (l ++ b) → (l = [] ∨ a = []) → ∃ x', pwEnts x l = (x', 0) ∧ WOk x' a b
  | [], b, a, x, h, _ => ⟨x, rfl, h⟩
  | y :: l, b, a, x, h, ha => by
    have ha := ha.resolve_left (by simp)
    subst ha
    have hE : pwEntE x y = 0 := by
      obtain ⟨h1, h2, h3⟩ := h.ev y (by simp)
      have h4 := leS_of (h.ek y (by simp))
      simp [pwEntE, h1, h2, h3, h4]
    have hw : WOk (pwEnt x y) [] (l ++ b) :=
      ⟨h.live, fun q hq => (by simp at hq), Rise.nil _, fun q hq => (by simp at hq), fun q hq => h.ev q (by simp at hq ⊢; exact .inr hq), (List.pairwise_cons.1 h.er).2, fun q hq => (List.pairwise_cons.1 h.er).1 q hq, .inr rfl⟩
    obtain ⟨x', e, k⟩ := ents_ok l b [] (pwEnt x y) hw (.inr rfl)
    exact ⟨x', by rw [pwEnts, if_neg (by simp [hE])]; exact e, k⟩
theorem WOk.head {x : PW} {a : List Prc} {b : List Ent} (h : WOk x a b) : WOk (pwHead x).2 a b := by
  unfold pwHead
  by_cases h0 : x.frames = 0
  · rw [if_pos h0]; exact ⟨h.live, h.pv, h.pr, h.pn, h.ev, h.er, h.ek, h.ent⟩
  · rw [if_neg h0]; exact h
theorem WOk.page {x : PW} {ps a : List Prc} {es b : List Ent} (h : WOk x (ps ++ a) (es ++ b)) (h1 : 1 ≤ ps.length + es.length) (h2 : ps.length + es.length ≤ 128) (ha : es = [] ∨ a = []) :
    ∃ ys x', pwPage x ps es = ((ys, x'), 0) ∧ WOk x' a b := by
  obtain ⟨ys, x1, e1, k1⟩ := procs_ok ps a (es ++ b) (pwHead x).2 (pwHead x).1 h.head
  obtain ⟨x2, e2, k2⟩ := ents_ok es b a x1 k1 ha
  unfold pwPage
  rw [if_neg (by simp [h.live]), if_neg (by omega), e1]
  simp only [e2, ne_eq, not_true_eq_false, if_false]
  by_cases he : es = []
  · rw [if_pos he]; exact ⟨_, _, rfl, k2⟩
  · rw [if_neg he]; exact ⟨_, _, rfl, ⟨k2.live, k2.pv, k2.pr, k2.pn, k2.ev, k2.er, k2.ek, k2.ent⟩⟩


/-- A file of frames; where its pieces end. -/
def File (n m : Int) (ps : List Prc) (es : List Ent) (xs : Bs) (ends : List Nat) : Prop :=
  ∃ (bs : List Bs) (s s2 : RS) (last : Bs), xs = bs.flatMap fr ++ fr last ∧ Runs .zero s bs ∧ 1 ≤ last.length ∧ last.length ≤ 65536 ∧ pgFrame s last = some (s2, true) ∧
    s2.number = n ∧ s2.mark = m ∧ s2.procs = ps ∧ s2.entries = es ∧ (∀ e ∈ ends, ∃ b1 b2, bs = b1 ++ b2 ∧ e = (b1.flatMap fr).length)

theorem frames_le (bs : List Bs) : bs.length ≤ (bs.flatMap fr).length := by
  induction bs with
  | nil => simp
  | cons b bs ih => rw [List.flatMap_cons, List.length_append, fr_length, List.length_cons]; omega

theorem file_read {n m : Int} {ps : List Prc} {es : List Ent} {xs : Bs} {ends : List Nat} (h : File n m ps es xs ends) : ∃ s : RS, pageRead xs = (s, 0) ∧ s.number = n ∧ s.mark = m ∧ s.procs = ps ∧ s.entries = es := by
  obtain ⟨bs, s, s2, last, rfl, R, l1, l2, hf, r1, r2, r3, r4, _⟩ := h
  refine ⟨s2, ?_, r1, r2, r3, r4⟩
  unfold pageRead
  obtain ⟨f, hfu⟩ : ∃ f, (bs.flatMap fr ++ fr last).length + 1 = f + 1 + bs.length := ⟨(bs.flatMap fr ++ fr last).length - bs.length, by rw [List.length_append]; have := frames_le bs; omega⟩
  rw [hfu]
  obtain ⟨e1, e2⟩ := R.loop (xs := bs.flatMap fr ++ fr last) (rest := fr last) 0 (f + 1) (by simp)
  rw [e1, Nat.zero_add, loop_last (rest := []) (by rw [← Nat.zero_add (bs.flatMap fr).length, e2, List.append_nil]) l1 l2 hf, if_pos rfl]

theorem file_more {n m : Int} {ps : List Prc} {es : List Ent} {xs : Bs} {ends : List Nat} (h : File n m ps es xs ends) (ys : Bs) (hy : ys ≠ []) : pageRead (xs ++ ys) = (.zero, 3) := by
  obtain ⟨bs, s, s2, last, rfl, R, l1, l2, hf, r1, r2, r3, r4, _⟩ := h
  unfold pageRead
  obtain ⟨f, hfu⟩ : ∃ f, (bs.flatMap fr ++ fr last ++ ys).length + 1 = f + 1 + bs.length := ⟨(bs.flatMap fr ++ fr last ++ ys).length - bs.length, by simp only [List.length_append]; have := frames_le bs; omega⟩
  rw [hfu]
  obtain ⟨e1, e2⟩ := R.loop (xs := bs.flatMap fr ++ fr last ++ ys) (rest := fr last ++ ys) 0 (f + 1) (by simp)
  rw [e1, Nat.zero_add, loop_last (rest := ys) (by rw [← Nat.zero_add (bs.flatMap fr).length, e2]) l1 l2 hf, if_neg hy]

theorem runs_part {b2 : List Bs} {s : RS} : ∀ (b1 : List Bs) {z : RS}, Runs z s (b1 ++ b2) → ∃ s1, Runs z s1 b1
  | [], z, _ => ⟨z, .nil z⟩
  | b :: b1, z, R => by
    cases R with
    | cons h1 h2 hf' R' =>
      obtain ⟨s1, k⟩ := runs_part b1 R'
      exact ⟨s1, .cons h1 h2 hf' k⟩

theorem file_ends {n m : Int} {ps : List Prc} {es : List Ent} {xs : Bs} {ends : List Nat} (h : File n m ps es xs ends) (e : Nat) (he : e ∈ ends) : e ≤ xs.length ∧ pageRead (xs.take e) = (.zero, 2) := by
  obtain ⟨bs, s, s2, last, rfl, R, l1, l2, hf, r1, r2, r3, r4, hE⟩ := h
  obtain ⟨b1, b2, rfl, rfl⟩ := hE e he
  refine ⟨by simp only [List.flatMap_append, List.length_append]; omega, ?_⟩
  have hx : ((b1 ++ b2).flatMap fr ++ fr last).take (b1.flatMap fr).length = b1.flatMap fr := by
    rw [List.flatMap_append, List.append_assoc, List.take_left']
    rfl
  rw [hx]
  unfold pageRead
  obtain ⟨s1, R1⟩ : ∃ s1, Runs .zero s1 b1 := by
    clear hf hE hx r1 r2 r3 r4
    exact runs_part b1 R
  obtain ⟨f, hfu⟩ : ∃ f, (b1.flatMap fr).length + 1 = f + 1 + b1.length := ⟨(b1.flatMap fr).length - b1.length, by have := frames_le b1; omega⟩
  rw [hfu]
  obtain ⟨e1, e2⟩ := R1.loop (xs := b1.flatMap fr) (rest := []) 0 (f + 1) (by simp)
  rw [e1, Nat.zero_add, pgLoop, if_pos (next_end rfl)]

/-- As Runs.cut: rounds for all the bytes. -/
theorem Runs.cutb {xs : Bs} {s s' : RS} {bs : List Bs} (h : Runs s s' bs) : ∀ (p f k : Nat), xs.drop p = (bs.flatMap fr).take k → p ≤ xs.length → k < (bs.flatMap fr).length → k < f →
    pgLoop xs f p s = (.zero, 2) ∨ pgLoop xs f p s = (.zero, 13) := by
  induction h with
  | nil s => intro p f k _ _ hk _; simp at hk
  | @cons s s1 s' b bs h1 h2 hf _ ih =>
    intro p f k h hp hk hfl
    obtain ⟨f, rfl⟩ : ∃ g, f = g + 1 := ⟨f - 1, by omega⟩
    by_cases h0 : k = 0
    · subst h0
      have hpl : p = xs.length := by
        have := congrArg List.length h
        simp at this
        omega
      exact .inl (by rw [pgLoop, if_pos (next_end hpl)])
    · by_cases hb : k < (fr b).length
      · have h13 : nextE xs p = 13 := by
          refine next_cut (b := b) (k := k) ?_ h2 (by omega) (by rw [fr_length] at hb; exact hb)
          rw [h, List.flatMap_cons, List.take_append_of_le_length (by omega)]
          rfl
        exact .inr (by rw [pgLoop, if_neg (by rw [h13]; decide), if_pos (by rw [h13]; decide)])
      · have e : xs.drop p = fr b ++ (bs.flatMap fr).take (k - (fr b).length) := by
          rw [h, List.flatMap_cons, List.take_append, List.take_of_length_le (by omega)]
        obtain ⟨e1, e2⟩ := loop_step (f := f) e h1 h2 hf
        rw [e1]
        have hfl8 := fr_length b
        have hpl : p + (fr b).length ≤ xs.length := by
          have := congrArg List.length e
          rw [List.length_drop, List.length_append] at this
          omega
        exact ih _ f _ e2 hpl (by rw [List.flatMap_cons, List.length_append] at hk; omega) (by omega)

theorem file_cut {n m : Int} {ps : List Prc} {es : List Ent} {xs : Bs} {ends : List Nat} (h : File n m ps es xs ends) (k : Nat) (hk : k < xs.length) : pageRead (xs.take k) = (.zero, 2) ∨ pageRead (xs.take k) = (.zero, 13) := by
  obtain ⟨bs, s, s2, last, rfl, R, l1, l2, hf, r1, r2, r3, r4, hE⟩ := h
  unfold pageRead
  have hlen : ((bs.flatMap fr ++ fr last).take k).length = k := by rw [List.length_take]; omega
  rw [hlen]
  by_cases hb : k < (bs.flatMap fr).length
  · refine R.cutb 0 (k + 1) k ?_ (Nat.zero_le _) hb (by omega)
    rw [List.drop_zero, List.take_append_of_le_length (by omega)]
  · obtain ⟨f, hfu⟩ : ∃ f, k + 1 = f + 1 + bs.length := ⟨k - bs.length, by have := frames_le bs; omega⟩
    rw [hfu]
    obtain ⟨e1, e2⟩ := R.loop (xs := (bs.flatMap fr ++ fr last).take k) (rest := (fr last).take (k - (bs.flatMap fr).length)) 0 (f + 1) (by rw [List.drop_zero, List.take_append, List.take_of_length_le (by omega)])
    rw [e1, Nat.zero_add, pgLoop]
    rw [Nat.zero_add] at e2
    rw [List.length_append] at hk
    by_cases h0 : k = (bs.flatMap fr).length
    · exact .inl (by rw [if_pos (next_end (by rw [hlen]; exact h0.symm))])
    · have h13 : nextE ((bs.flatMap fr ++ fr last).take k) (bs.flatMap fr).length = 13 :=
        next_cut (b := last) (k := k - (bs.flatMap fr).length) e2 l2 (by omega) (by rw [fr_length] at hk; omega)
      exact .inr (by rw [if_neg (by rw [h13]; decide), if_pos (by rw [h13]; decide)])
theorem file_pos {n m : Int} {ps : List Prc} {es : List Ent} {xs : Bs} {ends : List Nat} (h : File n m ps es xs ends) : 0 < xs.length := by
  obtain ⟨bs, s, s2, last, rfl, R, l1, l2, hf, _⟩ := h
  rw [List.length_append, fr_length]
  omega


theorem pwProcs_len : ∀ (l : List Prc) (x x' : PW) (ys ys' : Bs), pwProcs x ys l = ((ys', x'), 0) → ys'.length ≤ ys.length + 27000 * l.length
  | [], x, x', ys, ys', h => by
    simp only [pwProcs, Prod.mk.injEq, and_true] at h
    rw [h.1]; omega
  | p :: l, x, x', ys, ys', h => by
    rw [pwProcs] at h
    by_cases h0 : pwProcE x p = 0
    · rw [if_neg (by simp [h0])] at h
      have h1 := pwProcs_len l _ _ _ _ h
      have h2 := procFrame_le h0
      rw [List.length_append] at h1
      rw [List.length_cons]; omega
    · rw [if_pos h0] at h
      exact absurd (congrArg Prod.snd h) h0
theorem pwPage_len {x x' : PW} {ps : List Prc} {es : List Ent} {ys : Bs} (h : pwPage x ps es = ((ys, x'), 0)) : ys.length ≤ 28000 * (ps.length + es.length) := by
  unfold pwPage at h
  by_cases hl : x.live = false
  · rw [if_pos hl] at h
    exact absurd (congrArg Prod.snd h) (by simp)
  rw [if_neg hl] at h
  by_cases hn : ps.length + es.length = 0 ∨ 128 < ps.length + es.length
  · rw [if_pos hn] at h
    exact absurd (congrArg Prod.snd h) (by simp)
  rw [if_neg hn] at h
  simp only at h
  obtain ⟨⟨⟨qy, qx⟩, qe⟩, hq⟩ : ∃ q, q = pwProcs (pwHead x).2 (pwHead x).1 ps := ⟨_, rfl⟩
  rw [← hq] at h
  simp only at h
  by_cases he : qe ≠ 0
  · rw [if_pos he] at h
    exact absurd (congrArg Prod.snd h) he
  rw [if_neg he] at h
  obtain rfl : qe = 0 := by simpa using he
  obtain ⟨⟨ux, ue⟩, hu⟩ : ∃ u, u = pwEnts qx es := ⟨_, rfl⟩
  rw [← hu] at h
  simp only at h
  by_cases he' : ue ≠ 0
  · rw [if_pos he'] at h
    exact absurd (congrArg Prod.snd h) he'
  rw [if_neg he'] at h
  obtain rfl : ue = 0 := by simpa using he'
  have h1 := pwProcs_len _ _ _ _ _ hq.symm
  have h2 := (pwHead_b x).2.2.2.1
  by_cases hes : es = []
  · rw [if_pos hes] at h
    simp only [Prod.mk.injEq, and_true] at h
    rw [← h.1]; omega
  · rw [if_neg hes] at h
    simp only [Prod.mk.injEq, and_true] at h
    rw [← h.1, List.length_append]
    have hle := entsBytes_le (ents_fit es qx ux hu.symm)
    have hnl := encNumber_le (es.length : Int)
    have hbl := bodyF_le 3 ux.frames (entsBytes es)
    have hel : (entsBytes es).length ≤ 10 + 400 * es.length := by unfold entsBytes; rw [List.length_append]; omega
    have hfl : (entsFrame ux es).length = 8 + (bodyF 3 ux.frames (entsBytes es)).length := by unfold entsFrame frameB; rw [List.length_append, headB_length]
    omega

structure WI (n m : Nat) (pd : List Prc) (ed : List Ent) (al : List Prc) (bl : List Ent) (x : PW) (out : Bs) (ends : List Nat) : Prop where
  ok : WOk x al bl
  num : x.number = n
  mark : x.mark = m
  ff : x.frames ≤ 130 * (pd.length + ed.length)
  len : out.length ≤ 28000 * (pd.length + ed.length)
  run : ∃ bs s, out = bs.flatMap fr ∧ Runs .zero s bs ∧ Tells s x ∧ s.procs = pd ∧ s.entries = ed ∧ ∀ e ∈ ends, ∃ b1 b2, bs = b1 ++ b2 ∧ e = (b1.flatMap fr).length

theorem WOk.new {n m : Nat} {a : List Prc} {b : List Ent} (pv : ∀ p ∈ a, (procCheck p).2 = 0) (pr : Rise Prc.name a) (ev : ∀ y ∈ b, isKey y.key = true ∧ datumCheck y.v = 0 ∧ y.v.kind ≠ 0) (er : Rise Ent.key b) : WOk (PW.new n m) a b := by
  refine ⟨rfl, pv, pr, fun p hp => ltS_empty ?_, ev, er, fun y hy => ltS_empty ?_, .inl rfl⟩
  · obtain ⟨h1, _⟩ := procCheck_zero (pv p hp)
    rcases Nat.lt_or_ge p.name.size 1 with h2 | h2
    · rw [isName_len _ (.inl h2)] at h1; cases h1
    · exact h2
  · have := (ev y hy).1
    unfold isKey at this
    simp at this
    omega
theorem WI.new {n m : Nat} {a : List Prc} {b : List Ent} (h : WOk (PW.new n m) a b) : WI n m [] [] a b (PW.new n m) [] [] :=
  ⟨h, rfl, rfl, Nat.le_refl _, Nat.le_refl _, [], .zero, rfl, .nil _, ⟨rfl, rfl, rfl, rfl, rfl, fun h => absurd h (by simp [PW.new])⟩, rfl, rfl, fun e he => by cases he⟩

theorem WI.page {n m : Nat} {pd ps al : List Prc} {ed es bl : List Ent} {x : PW} {out : Bs} {ends : List Nat} (h : WI n m pd ed (ps ++ al) (es ++ bl) x out ends) (h1 : 1 ≤ ps.length + es.length) (h2 : ps.length + es.length ≤ 128) (ha : es = [] ∨ al = [])
    (hn : 1 ≤ n) (hn2 : n ≤ 281474976710655) (hm : m ≤ 281474976710655) (hvp : ∀ p ∈ ps, ∀ i ∈ p.code, i64v i.v) (hve : ∀ y ∈ es, i64v y.v) (hb : pd.length + ed.length ≤ 1000) :
    ∃ ys x', pwPage x ps es = ((ys, x'), 0) ∧ WI n m (pd ++ ps) (ed ++ es) al bl x' (out ++ ys) (ends ++ [(out ++ ys).length]) := by
  obtain ⟨ys, x', e, k⟩ := h.ok.page h1 h2 ha
  obtain ⟨bs, s, rfl, R, T, r1, r2, hE⟩ := h.run
  have hf := h.ff
  have hnum := h.num
  have hmark := h.mark
  obtain ⟨cs, s', rfl, R', T', r1', r2', f', _, _, u1, u2⟩ := runs_page e T (by omega) (by omega) (by omega) (by omega) hvp hve
  refine ⟨_, x', e, k, by rw [u1]; exact hnum, by rw [u2]; exact hmark, ?_, ?_, bs ++ cs, s', by rw [List.flatMap_append], R.append R', T', by rw [r1', r1], by rw [r2', r2], fun q hq => ?_⟩
  · simp only [List.length_append]; omega
  · have := pwPage_len e
    have := h.len
    simp only [List.length_append] at *
    omega
  · rcases List.mem_append.1 hq with hq | hq
    · obtain ⟨b1, b2, e1, e2⟩ := hE q hq
      exact ⟨b1, b2 ++ cs, by rw [e1, List.append_assoc], e2⟩
    · rw [List.mem_singleton] at hq
      exact ⟨bs ++ cs, [], by simp, by rw [hq, List.flatMap_append]⟩

theorem WI.fin {n m : Nat} {pd : List Prc} {ed : List Ent} {x : PW} {out : Bs} {ends : List Nat} (h : WI n m pd ed [] [] x out ends) (hn : 1 ≤ n) (hn2 : n ≤ 281474976710655) (hm : m ≤ 281474976710655) (hb : pd.length + ed.length ≤ 1000) :
    pwEndQ x = (((pwHead x).1 ++ endFrame (pwHead x).2, PW.zero), 0) ∧ File n m pd ed (out ++ ((pwHead x).1 ++ endFrame (pwHead x).2)) ends ∧ (out ++ ((pwHead x).1 ++ endFrame (pwHead x).2)).length ≤ 28001000 := by
  obtain ⟨bs, s, rfl, R, T, r1, r2, hE⟩ := h.run
  have hf := h.ff
  have hnum := h.num
  have hmark := h.mark
  obtain ⟨cs, s', e1, R', T', p1, n1, f1, f1', l1, u1, m1⟩ := runs_head s x T (by omega) (by omega) (by omega)
  have hF := fwd_end s' (by rw [T'.f]; omega) (by rw [T'.f]; exact f1) (by rw [p1, r1]; omega) (by rw [n1, r2]; omega)
  have hbl := bodyF_le 4 s'.frames (encNumber s'.procs.length ++ encNumber s'.entries.length)
  have e3 := encNumber_le (s'.procs.length : Int)
  have e4 := encNumber_le (s'.entries.length : Int)
  rw [List.length_append] at hbl
  have hEF : endFrame (pwHead x).2 = fr (bodyF 4 s'.frames (encNumber s'.procs.length ++ encNumber s'.entries.length)) := by
    unfold endFrame frameB fr
    rw [T'.f, T'.p, T'.e]
  refine ⟨?_, ⟨bs ++ cs, s', _, _, ?_, R.append R', hbl.1, by omega, hF, ?_, ?_, ?_, ?_, fun q hq => ?_⟩, ?_⟩
  · unfold pwEndQ
    rw [if_neg (by simp [h.ok.live])]
  · rw [hEF, e1, List.flatMap_append, List.append_assoc]
  · show (s'.number : Int) = n
    rw [(T'.h f1).1, u1, hnum]
  · show (s'.mark : Int) = m
    rw [(T'.h f1).2, m1, hmark]
  · show s'.procs = pd
    rw [p1, r1]
  · show s'.entries = ed
    rw [n1, r2]
  · obtain ⟨b1, b2, e1, e2⟩ := hE q hq
    exact ⟨b1, b2 ++ cs, by rw [e1, List.append_assoc], e2⟩
  · have h1 := h.len
    have h2 := (pwHead_b x).2.2.2.1
    simp only [List.length_append] at h1 h2 ⊢
    rw [hEF, fr_length]
    omega
end Go.Proofs.YtnieminnnkbneaaGreat
