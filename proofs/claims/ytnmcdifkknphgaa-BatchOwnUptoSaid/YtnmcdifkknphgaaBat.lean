/- The plain model of chapter 12: transactions as bytes, and the round trips. No program in sight. -/
import Derived.Test.YtnmcdifkknphgaaRound2
namespace Go.Proofs.Ytnmcdifkknphgaa

structure Txn where
  kind : Int
  proc : Prc
  name : ByteArray
  args : List Val

structure Bat where
  first : Int
  txns : List Txn

def bareP (p : Prc) : Bool := p.name.size == 0 && (p.args == 0 && p.code.length == 0)

def valsCheck : List Val → Int
  | [] => 0
  | v :: l => if datumCheck v ≠ 0 then datumCheck v else valsCheck l

def txnCheck (t : Txn) : Int :=
  if t.kind = 1 then (if t.name.size ≠ 0 ∨ 0 < t.args.length then 3 else (procCheck t.proc).2)
  else if t.kind = 2 then (if bareP t.proc = false then 3 else if isName t.name = false then 5 else if 16 < t.args.length then 4 else valsCheck t.args)
  else if t.kind = 3 then (if 0 < t.args.length ∨ bareP t.proc = false then 3 else if isName t.name = false then 5 else 0)
  else 1

def txnsCheck : List Txn → Int
  | [] => 0
  | t :: l => if txnCheck t ≠ 0 then txnCheck t else txnsCheck l

def maxNumber : Int := 281474976710655

def batCheck (b : Bat) : Int :=
  if b.first < 1 ∨ maxNumber < b.first ∨ b.txns.length = 0 ∨ 64 < b.txns.length then 1
  else if maxNumber < b.first + b.txns.length - 1 then 23 else txnsCheck b.txns

def valBytes (v : Val) : Bs := encText (datumBytes v)

def txnBytes (t : Txn) : Bs :=
  UInt8.ofNat t.kind.toNat :: (if t.kind = 1 then encText (procBytes t.proc) else if t.kind = 3 then encText t.name.data.toList
    else encText t.name.data.toList ++ encNumber t.args.length ++ t.args.flatMap valBytes)

def batBytes (b : Bat) : Bs := encNumber b.first ++ encNumber b.txns.length ++ b.txns.flatMap txnBytes

def batEncode (b : Bat) : Bs × Int := if batCheck b ≠ 0 then ([], batCheck b) else if 65536 < (batBytes b).length then ([], 4) else (batBytes b, 0)

def readVals (all : Nat) : Nat → Rdr → List Val → (List Val × Rdr) × Int
  | 0, r, l => ((l, r), 0)
  | k + 1, r, l =>
    let (s, r) := r.text all
    if r.err ≠ 0 then ((l, r), r.err) else
    let (v, e) := datumDecode s
    if e ≠ 0 then ((l, r), e) else readVals all k r (l ++ [v])

def zeroTxn (k : Int) : Txn := ⟨k, .zero, emptyB, []⟩

def readTxn (all : Nat) (r : Rdr) : (Txn × Rdr) × Int :=
  let (k, r) := r.byte
  if r.err ≠ 0 then ((zeroTxn k, r), r.err) else
  if (k : Int) = 1 then
    let (s, r) := r.text all
    if r.err ≠ 0 then ((zeroTxn k, r), r.err) else
    let (p, e) := procDecode s
    if e ≠ 0 then ((zeroTxn k, r), e) else ((⟨k, p, emptyB, []⟩, r), 0)
  else if (k : Int) = 3 then
    let (s, r) := r.text 32
    if r.err ≠ 0 then ((zeroTxn k, r), r.err) else ((⟨k, .zero, ofBs s, []⟩, r), 0)
  else if (k : Int) = 2 then
    let (s, r) := r.text 32
    let (n, r) := r.number
    if r.err ≠ 0 then ((zeroTxn k, r), r.err) else
    if 16 < n then ((zeroTxn k, r), 4) else
    let ((l, r), e) := readVals all n.toNat r []
    if e ≠ 0 then ((zeroTxn k, r), e) else ((⟨k, .zero, ofBs s, l⟩, r), 0)
  else ((zeroTxn k, r), 1)

def readTxns (all : Nat) : Nat → Rdr → List Txn → (List Txn × Rdr) × Int
  | 0, r, l => ((l, r), 0)
  | k + 1, r, l =>
    let ((t, r), e) := readTxn all r
    if e ≠ 0 then ((l, r), e) else readTxns all k r (l ++ [t])

def Bat.zero : Bat := ⟨0, []⟩

def batDecode (b : Bs) : Bat × Int :=
  if 65536 < b.length then (.zero, 4) else
  let (f, r) := (Rdr.new b).number
  let (n, r) := r.number
  if r.err ≠ 0 then (.zero, r.err) else
  if 64 < n then (.zero, 1) else
  let ((l, r), e) := readTxns b.length n.toNat r []
  if e ≠ 0 then (.zero, e) else
  if r.end_ ≠ 0 then (.zero, r.end_) else
  if batCheck ⟨f, l⟩ ≠ 0 then (.zero, batCheck ⟨f, l⟩) else (⟨f, l⟩, 0)

/-! ### the values -/
theorem valsCheck_zero {l : List Val} (h : valsCheck l = 0) : ∀ v ∈ l, datumCheck v = 0 := by
  induction l with
  | nil => intro v hv; cases hv
  | cons x l ih =>
    rw [valsCheck] at h
    intro v hv
    by_cases hx : datumCheck x ≠ 0
    · rw [if_pos hx] at h; exact absurd h hx
    · rw [if_neg hx] at h
      rcases List.mem_cons.1 hv with rfl | hv
      · simpa using hx
      · exact ih h v hv

theorem txnsCheck_zero {l : List Txn} (h : txnsCheck l = 0) : ∀ t ∈ l, txnCheck t = 0 := by
  induction l with
  | nil => intro v hv; cases hv
  | cons x l ih =>
    rw [txnsCheck] at h
    intro v hv
    by_cases hx : txnCheck x ≠ 0
    · rw [if_pos hx] at h; exact absurd h hx
    · rw [if_neg hx] at h
      rcases List.mem_cons.1 hv with rfl | hv
      · simpa using hx
      · exact ih h v hv

theorem encText_len (s : Bs) : s.length ≤ (encText s).length := by simp [encText]

theorem text_all {r : Rdr} {s ys : Bs} {all : Nat} (hall : r.xs.length ≤ all) (h : Rem r (encText s ++ ys)) : (s.length : Int) ≤ all := by
  have h1 := h.len
  have h2 := encText_len s
  simp only [List.length_append] at h1
  omega

theorem readVals_fwd {all : Nat} (hbig : all ≤ 9223372036854775807) (ys : Bs) : ∀ (l : List Val) (r : Rdr) (done : List Val), (∀ v ∈ l, datumCheck v = 0 ∧ i64v v) → r.err = 0 → r.xs.length ≤ all → Rem r (l.flatMap valBytes ++ ys) →
    ∃ r', readVals all l.length r done = ((done ++ l, r'), 0) ∧ Rem r' ys ∧ r'.err = 0 ∧ r'.xs = r.xs := by
  intro l
  induction l with
  | nil => intro r done _ he _ h; exact ⟨r, by simp [readVals], by simpa using h, he, rfl⟩
  | cons v l ih =>
    intro r done hv he hall h
    rw [List.flatMap_cons, List.append_assoc] at h
    unfold valBytes at h
    have hs := text_all hall h
    obtain ⟨r1, h1, hr1, he1, hx1⟩ := text_fwd (most := (all : Int)) he hs (by omega) h
    obtain ⟨r2, h2, hr2, he2, hx2⟩ := ih r1 (done ++ [v]) (fun x hx => hv x (by simp [hx])) he1 (by rw [hx1]; exact hall) hr1
    have hd := hv v (by simp)
    refine ⟨r2, ?_, hr2, he2, hx2.trans hx1⟩
    rw [List.length_cons, readVals, h1]
    simp only
    rw [if_neg (by simp [he1]), datum_back hd.1 hd.2]
    simp only
    rw [if_neg (by simp), h2]
    simp

theorem readVals_inv {all : Nat} : ∀ (k : Nat) (r r' : Rdr) (done l : List Val) (zs : Bs), Rem r zs → r.err = 0 → readVals all k r done = ((l, r'), 0) →
    ∃ m ys, l = done ++ m ∧ m.length = k ∧ (∀ v ∈ m, datumCheck v = 0 ∧ i64v v) ∧ zs = m.flatMap valBytes ++ ys ∧ Rem r' ys ∧ r'.err = 0 ∧ r'.xs = r.xs := by
  intro k
  induction k with
  | zero =>
    intro r r' done l zs h he hr
    rw [readVals] at hr
    obtain ⟨h1, _⟩ := Prod.mk.inj hr
    obtain ⟨h1, h2⟩ := Prod.mk.inj h1
    subst h1 h2
    exact ⟨[], zs, by simp, rfl, by simp, by simp, h, he, rfl⟩
  | succ k ih =>
    intro r r' done l zs h he hr
    rw [readVals] at hr
    rcases ht : r.text all with ⟨s, r1⟩
    rw [ht] at hr
    simp only at hr
    by_cases h3 : r1.err ≠ 0
    · rw [if_pos h3] at hr; exact absurd (congrArg Prod.snd hr) h3
    rw [if_neg h3] at hr
    have he1 : r1.err = 0 := by simpa using h3
    obtain ⟨_, _, _, ys1, hz1, hr1, hx1⟩ := text_inv h ht he1
    rcases hd : datumDecode s with ⟨v, e⟩
    rw [hd] at hr
    simp only at hr
    by_cases h4 : e ≠ 0
    · rw [if_pos h4] at hr; exact absurd (congrArg Prod.snd hr) h4
    rw [if_neg h4] at hr
    have he0 : e = 0 := by simpa using h4
    subst he0
    obtain ⟨hd1, hd2, hd3⟩ := datum_form hd
    obtain ⟨m, ys, hl, hm, hfits, hz, hrem, he', hx'⟩ := ih r1 r' _ l ys1 hr1 he1 hr
    exact ⟨v :: m, ys, by rw [hl]; simp, by simp [hm], fun y hy => by
      rcases List.mem_cons.1 hy with rfl | hy
      · exact ⟨hd1, hd2⟩
      · exact hfits y hy, by rw [hz1, hz, List.flatMap_cons, valBytes, hd3]; simp, hrem, he', hx'.trans hx1⟩

/-! ### a transaction -/
/-- Numbers of the program. -/
def Txn.num (t : Txn) : Prop := (∀ x ∈ t.proc.code, i64v x.v) ∧ ∀ v ∈ t.args, i64v v

theorem bare_zero {p : Prc} (h : bareP p = true) : p = .zero := by
  simp only [bareP, Bool.and_eq_true, beq_iff_eq] at h
  obtain ⟨h1, h2, h3⟩ := h
  obtain ⟨n, a, c⟩ := p
  simp only at h1 h2 h3
  rw [size_zero h1, h2, List.eq_nil_of_length_eq_zero h3]
  rfl

theorem isName_len32 {s : ByteArray} (h : isName s = true) : s.data.toList.length ≤ 32 := isNameL_len h

theorem readTxn_fwd {all : Nat} (hbig : all ≤ 9223372036854775807) {t : Txn} (hc : txnCheck t = 0) (hn : t.num) {r : Rdr} {ys : Bs} (he : r.err = 0) (hall : r.xs.length ≤ all) (h : Rem r (txnBytes t ++ ys)) :
    ∃ r', readTxn all r = ((t, r'), 0) ∧ Rem r' ys ∧ r'.err = 0 ∧ r'.xs = r.xs := by
  obtain ⟨kind, proc, name, args⟩ := t
  unfold txnBytes at h
  simp only at h
  rw [List.cons_append] at h
  obtain ⟨r1, h1, hr1, he1, hx1⟩ := byte_fwd he h
  unfold txnCheck at hc
  simp only at hc
  unfold readTxn
  rw [h1]
  simp only
  rw [if_neg (by simp [he1])]
  by_cases k1 : kind = 1
  · subst k1
    rw [if_pos rfl] at hc hr1
    have hk : (((UInt8.ofNat (1 : Int).toNat).toNat : Nat) : Int) = 1 := rfl
    rw [if_pos hk]
    by_cases hx : name.size ≠ 0 ∨ 0 < args.length
    · rw [if_pos hx] at hc; cases hc
    rw [if_neg hx] at hc
    have hs := text_all (all := all) (by rw [hx1]; exact hall) hr1
    obtain ⟨r2, h2, hr2, he2, hx2⟩ := text_fwd (most := (all : Int)) he1 hs (by omega) hr1
    rw [h2]
    simp only
    have hb := proc_back hc hn.1 []
    rw [List.append_nil, if_pos rfl] at hb
    rw [if_neg (by simp [he2]), hb]
    simp only
    rw [if_neg (by simp)]
    refine ⟨r2, ?_, hr2, he2, hx2.trans hx1⟩
    have hname : name = emptyB := size_zero (by omega)
    have hargs : args = [] := List.eq_nil_of_length_eq_zero (by omega)
    rw [hname, hargs, hk]
  · rw [if_neg k1] at hc hr1
    by_cases k2 : kind = 2
    · subst k2
      rw [if_pos rfl] at hc
      rw [if_neg (by decide)] at hr1
      have hk : (((UInt8.ofNat (2 : Int).toNat).toNat : Nat) : Int) = 2 := rfl
      rw [hk, if_neg (by decide), if_neg (by decide), if_pos rfl]
      cases hb : bareP proc with
      | false => rw [hb] at hc; simp at hc
      | true =>
        rw [hb, if_neg (by simp)] at hc
        cases hin : isName name with
        | false => rw [hin] at hc; simp at hc
        | true =>
          rw [hin, if_neg (by simp)] at hc
          by_cases ha : 16 < args.length
          · rw [if_pos ha] at hc; cases hc
          rw [if_neg ha] at hc
          have hv := valsCheck_zero hc
          have hl := isName_len32 hin
          rw [List.append_assoc, List.append_assoc] at hr1
          obtain ⟨r2, h2, hr2, he2, hx2⟩ := text_fwd (most := 32) he1 (by omega) (by omega) hr1
          obtain ⟨r3, h3, hr3, he3, hx3⟩ := number_fwd he2 (by omega) (by omega) hr2
          obtain ⟨r4, h4, hr4, he4, hx4⟩ := readVals_fwd (all := all) hbig ys args r3 [] (fun v hv' => ⟨hv v hv', hn.2 v hv'⟩) he3 (by rw [hx3, hx2, hx1]; exact hall) hr3
          rw [h2]
          simp only
          rw [h3]
          simp only
          rw [if_neg (by simp [he3]), if_neg (by omega), Int.toNat_natCast, h4]
          simp only [List.nil_append]
          rw [if_neg (by simp), ofBs_back, bare_zero hb]
          exact ⟨r4, rfl, hr4, he4, hx4.trans (hx3.trans (hx2.trans hx1))⟩
    · rw [if_neg k2] at hc
      by_cases k3 : kind = 3
      · subst k3
        rw [if_pos rfl] at hc hr1
        have hk : (((UInt8.ofNat (3 : Int).toNat).toNat : Nat) : Int) = 3 := rfl
        rw [hk, if_neg (by decide), if_pos rfl]
        by_cases hx : 0 < args.length ∨ bareP proc = false
        · rw [if_pos hx] at hc; cases hc
        rw [if_neg hx] at hc
        cases hin : isName name with
        | false => rw [hin] at hc; simp at hc
        | true =>
          have hl := isName_len32 hin
          obtain ⟨r2, h2, hr2, he2, hx2⟩ := text_fwd (most := 32) he1 (by omega) (by omega) hr1
          rw [h2]
          simp only
          rw [if_neg (by simp [he2]), ofBs_back]
          have hb : bareP proc = true := by
            cases h : bareP proc with
            | true => rfl
            | false => exact absurd (Or.inr h) hx
          have hargs : args = [] := List.eq_nil_of_length_eq_zero (by omega)
          rw [bare_zero hb, hargs]
          exact ⟨r2, rfl, hr2, he2, hx2.trans hx1⟩
      · rw [if_neg k3] at hc; cases hc

/-- What is read of a transaction. -/
def Txn.shape (t : Txn) : Prop :=
  (t.kind = 1 ∧ t.name = emptyB ∧ t.args = [] ∧ (procCheck t.proc).2 = 0 ∧ ∀ x ∈ t.proc.code, x.fits) ∨
  (t.kind = 3 ∧ t.proc = .zero ∧ t.args = []) ∨
  (t.kind = 2 ∧ t.proc = .zero ∧ t.args.length ≤ 16 ∧ ∀ v ∈ t.args, datumCheck v = 0 ∧ i64v v)

theorem readTxn_inv {all : Nat} {r r' : Rdr} {t : Txn} {zs : Bs} (h : Rem r zs) (hr : readTxn all r = ((t, r'), 0)) :
    t.shape ∧ ∃ ys, zs = txnBytes t ++ ys ∧ Rem r' ys ∧ r'.err = 0 ∧ r'.xs = r.xs := by
  unfold readTxn at hr
  rcases hb : r.byte with ⟨k, r1⟩
  rw [hb] at hr
  simp only at hr
  by_cases h0 : r1.err ≠ 0
  · rw [if_pos h0] at hr; exact absurd (congrArg Prod.snd hr) h0
  rw [if_neg h0] at hr
  have he1 : r1.err = 0 := by simpa using h0
  obtain ⟨_, c, ys1, hz1, hkc, hr1, hx1⟩ := byte_inv h hb he1
  have hcb : UInt8.ofNat ((k : Int).toNat) = c := by rw [Int.toNat_natCast, hkc, u8_back]
  by_cases k1 : (k : Int) = 1
  · rw [if_pos k1] at hr
    rcases ht : r1.text all with ⟨s, r2⟩
    rw [ht] at hr
    simp only at hr
    by_cases h2 : r2.err ≠ 0
    · rw [if_pos h2] at hr; exact absurd (congrArg Prod.snd hr) h2
    rw [if_neg h2] at hr
    have he2 : r2.err = 0 := by simpa using h2
    obtain ⟨_, _, _, ys2, hz2, hr2, hx2⟩ := text_inv hr1 ht he2
    rcases hd : procDecode s with ⟨p, e⟩
    rw [hd] at hr
    simp only at hr
    by_cases h3 : e ≠ 0
    · rw [if_pos h3] at hr; exact absurd (congrArg Prod.snd hr) h3
    rw [if_neg h3] at hr
    have he0 : e = 0 := by simpa using h3
    subst he0
    obtain ⟨p1, p2, p3⟩ := proc_form hd
    obtain ⟨h5, _⟩ := Prod.mk.inj hr
    obtain ⟨h5, h6⟩ := Prod.mk.inj h5
    subst h5 h6
    refine ⟨.inl ⟨k1, rfl, rfl, p1, p3⟩, ys2, ?_, hr2, he2, hx2.trans hx1⟩
    unfold txnBytes
    simp only
    rw [if_pos k1, hcb, p2, hz1, hz2]
    simp
  rw [if_neg k1] at hr
  by_cases k3 : (k : Int) = 3
  · rw [if_pos k3] at hr
    rcases ht : r1.text 32 with ⟨s, r2⟩
    rw [ht] at hr
    simp only at hr
    by_cases h2 : r2.err ≠ 0
    · rw [if_pos h2] at hr; exact absurd (congrArg Prod.snd hr) h2
    rw [if_neg h2] at hr
    have he2 : r2.err = 0 := by simpa using h2
    obtain ⟨_, _, _, ys2, hz2, hr2, hx2⟩ := text_inv hr1 ht he2
    obtain ⟨h5, _⟩ := Prod.mk.inj hr
    obtain ⟨h5, h6⟩ := Prod.mk.inj h5
    subst h5 h6
    refine ⟨.inr (.inl ⟨k3, rfl, rfl⟩), ys2, ?_, hr2, he2, hx2.trans hx1⟩
    unfold txnBytes
    simp only
    rw [if_neg k1, if_pos k3, hcb, ofBs_data, hz1, hz2]
    simp
  rw [if_neg k3] at hr
  by_cases k2 : (k : Int) = 2
  · rw [if_pos k2] at hr
    rcases ht : r1.text 32 with ⟨s, r2⟩
    rw [ht] at hr
    simp only at hr
    rcases hn : r2.number with ⟨n, r3⟩
    rw [hn] at hr
    simp only at hr
    by_cases h2 : r3.err ≠ 0
    · rw [if_pos h2] at hr; exact absurd (congrArg Prod.snd hr) h2
    rw [if_neg h2] at hr
    have he3 : r3.err = 0 := by simpa using h2
    have hs2 : r2.err = 0 := by
      rcases Classical.em (r2.err = 0) with h | h
      · exact h
      · unfold Rdr.number Rdr.row at hn
        rw [if_pos h] at hn
        have := (Prod.mk.inj hn).2
        rw [← this] at he3; exact he3
    obtain ⟨_, _, _, ys2, hz2, hr2, hx2⟩ := text_inv hr1 ht hs2
    obtain ⟨_, hn0, _, ys3, hz3, hr3, hx3⟩ := number_inv hr2 hn he3
    by_cases h16 : 16 < n
    · rw [if_pos h16] at hr; have := congrArg Prod.snd hr; simp at this
    rw [if_neg h16] at hr
    rcases hv : readVals all n.toNat r3 [] with ⟨⟨l, r4⟩, e⟩
    rw [hv] at hr
    simp only at hr
    by_cases h3 : e ≠ 0
    · rw [if_pos h3] at hr; exact absurd (congrArg Prod.snd hr) h3
    rw [if_neg h3] at hr
    have he0 : e = 0 := by simpa using h3
    subst he0
    obtain ⟨m, ys4, hl, hm, hfit, hz4, hr4, he4, hx4⟩ := readVals_inv n.toNat r3 r4 [] l ys3 hr3 he3 hv
    rw [List.nil_append] at hl
    subst hl
    obtain ⟨h5, _⟩ := Prod.mk.inj hr
    obtain ⟨h5, h6⟩ := Prod.mk.inj h5
    subst h5 h6
    have hnn : (l.length : Int) = n := by omega
    refine ⟨.inr (.inr ⟨k2, rfl, by show l.length ≤ 16; omega, hfit⟩), ys4, ?_, hr4, he4, hx4.trans (hx3.trans (hx2.trans hx1))⟩
    unfold txnBytes
    simp only
    rw [if_neg k1, if_neg k3, hcb, ofBs_data, hnn, hz1, hz2, hz3, hz4]
    simp
  · rw [if_neg k2] at hr; have := congrArg Prod.snd hr; simp at this

/-! ### the transactions -/
theorem readTxns_fwd {all : Nat} (hbig : all ≤ 9223372036854775807) (ys : Bs) : ∀ (l : List Txn) (r : Rdr) (done : List Txn), (∀ t ∈ l, txnCheck t = 0 ∧ t.num) → r.err = 0 → r.xs.length ≤ all → Rem r (l.flatMap txnBytes ++ ys) →
    ∃ r', readTxns all l.length r done = ((done ++ l, r'), 0) ∧ Rem r' ys ∧ r'.err = 0 ∧ r'.xs = r.xs := by
  intro l
  induction l with
  | nil => intro r done _ he _ h; exact ⟨r, by simp [readTxns], by simpa using h, he, rfl⟩
  | cons v l ih =>
    intro r done hv he hall h
    rw [List.flatMap_cons, List.append_assoc] at h
    have hd := hv v (by simp)
    obtain ⟨r1, h1, hr1, he1, hx1⟩ := readTxn_fwd hbig hd.1 hd.2 he hall h
    obtain ⟨r2, h2, hr2, he2, hx2⟩ := ih r1 (done ++ [v]) (fun x hx => hv x (by simp [hx])) he1 (by rw [hx1]; exact hall) hr1
    refine ⟨r2, ?_, hr2, he2, hx2.trans hx1⟩
    rw [List.length_cons, readTxns, h1]
    simp only
    rw [if_neg (by simp), h2]
    simp

theorem readTxns_inv {all : Nat} : ∀ (k : Nat) (r r' : Rdr) (done l : List Txn) (zs : Bs), Rem r zs → r.err = 0 → readTxns all k r done = ((l, r'), 0) →
    ∃ m ys, l = done ++ m ∧ m.length = k ∧ (∀ t ∈ m, t.shape) ∧ zs = m.flatMap txnBytes ++ ys ∧ Rem r' ys ∧ r'.err = 0 ∧ r'.xs = r.xs := by
  intro k
  induction k with
  | zero =>
    intro r r' done l zs h he hr
    rw [readTxns] at hr
    obtain ⟨h1, _⟩ := Prod.mk.inj hr
    obtain ⟨h1, h2⟩ := Prod.mk.inj h1
    subst h1 h2
    exact ⟨[], zs, by simp, rfl, by simp, by simp, h, he, rfl⟩
  | succ k ih =>
    intro r r' done l zs h he hr
    rw [readTxns] at hr
    rcases hg : readTxn all r with ⟨⟨x, r1⟩, e⟩
    rw [hg] at hr
    simp only at hr
    by_cases h0 : e ≠ 0
    · rw [if_pos h0] at hr; exact absurd (congrArg Prod.snd hr) h0
    rw [if_neg h0] at hr
    have h0 : e = 0 := by simpa using h0
    subst h0
    obtain ⟨hsh, ys, hz, hrem, he1, hx1⟩ := readTxn_inv h hg
    obtain ⟨m, ys', hl, hm, hfits, hz', hrem', he', hx'⟩ := ih r1 r' _ l ys hrem he1 hr
    exact ⟨x :: m, ys', by rw [hl]; simp, by simp [hm], fun y hy => by
      rcases List.mem_cons.1 hy with rfl | hy
      · exact hsh
      · exact hfits y hy, by rw [hz, hz']; simp, hrem', he', hx'.trans hx1⟩

/-! ### the batch -/
def Bat.num (b : Bat) : Prop := ∀ t ∈ b.txns, t.num

theorem Txn.shape.num {t : Txn} (h : t.shape) : t.num := by
  rcases h with ⟨_, _, ha, _, hf⟩ | ⟨_, hp, ha⟩ | ⟨_, hp, _, hv⟩
  · exact ⟨fun x hx => (hf x hx).2.2.2, by rw [ha]; intro v hv; cases hv⟩
  · exact ⟨by rw [hp]; intro x hx; simp [Prc.zero] at hx, by rw [ha]; intro v hv; cases hv⟩
  · exact ⟨by rw [hp]; intro x hx; simp [Prc.zero] at hx, fun v h => (hv v h).2⟩

theorem batCheck_zero {b : Bat} (h : batCheck b = 0) : (1 ≤ b.first ∧ b.first ≤ 281474976710655) ∧ (1 ≤ b.txns.length ∧ b.txns.length ≤ 64) ∧ ∀ t ∈ b.txns, txnCheck t = 0 := by
  unfold batCheck maxNumber at h
  by_cases h1 : b.first < 1 ∨ 281474976710655 < b.first ∨ b.txns.length = 0 ∨ 64 < b.txns.length
  · rw [if_pos h1] at h; cases h
  rw [if_neg h1] at h
  by_cases h2 : 281474976710655 < b.first + b.txns.length - 1
  · rw [if_pos h2] at h; cases h
  rw [if_neg h2] at h
  exact ⟨by omega, by omega, txnsCheck_zero h⟩

theorem bat_back {b : Bat} (h : batCheck b = 0) (hn : b.num) (rest : Bs) (hl : (batBytes b ++ rest).length ≤ 65536) : batDecode (batBytes b ++ rest) = if rest = [] then (b, 0) else (.zero, 3) := by
  obtain ⟨hf, ht, hc⟩ := batCheck_zero h
  unfold batDecode
  rw [if_neg (by omega)]
  have h0 : Rem (Rdr.new (batBytes b ++ rest)) (encNumber b.first ++ (encNumber b.txns.length ++ (b.txns.flatMap txnBytes ++ rest))) := by
    have := Rem.new (batBytes b ++ rest)
    simpa only [batBytes, List.append_assoc] using this
  have he0 : (Rdr.new (batBytes b ++ rest)).err = 0 := rfl
  have hxs : (Rdr.new (batBytes b ++ rest)).xs.length = (batBytes b ++ rest).length := rfl
  generalize Rdr.new (batBytes b ++ rest) = r0 at *
  generalize (batBytes b ++ rest).length = all at *
  obtain ⟨r1, h1, hr1, he1, hx1⟩ := number_fwd he0 (by omega) (by omega) h0
  obtain ⟨r2, h2, hr2, he2, hx2⟩ := number_fwd he1 (by omega) (by omega) hr1
  rw [h1]; simp only; rw [h2]; simp only
  rw [if_neg (by simp [he2]), if_neg (by omega)]
  obtain ⟨r4, h4, hr4, he4, _⟩ := readTxns_fwd (all := all) (by omega) rest b.txns r2 [] (fun t ht => ⟨hc t ht, hn t ht⟩) he2 (by rw [hx2, hx1]; omega) hr2
  rw [Int.toNat_natCast, h4]
  simp only [List.nil_append]
  rw [if_neg (by simp), end_zero hr4 he4]
  by_cases hr : rest = []
  · rw [if_pos hr, if_pos hr, if_neg (by simp)]
    simp only [show (⟨b.first, b.txns⟩ : Bat) = b from rfl]
    rw [if_neg (by simp [h])]
  · rw [if_neg hr, if_neg hr, if_pos (by simp)]

theorem bat_form {b : Bs} {x : Bat} (h : batDecode b = (x, 0)) : batCheck x = 0 ∧ batBytes x = b ∧ b.length ≤ 65536 ∧ ∀ t ∈ x.txns, t.shape := by
  unfold batDecode at h
  by_cases hb : 65536 < b.length
  · rw [if_pos hb] at h; have := congrArg Prod.snd h; simp at this
  rw [if_neg hb] at h
  rcases h2 : (Rdr.new b).number with ⟨f, r2⟩
  rw [h2] at h
  simp only at h
  rcases h3 : r2.number with ⟨n, r3⟩
  rw [h3] at h
  simp only at h
  by_cases c1 : r3.err ≠ 0
  · rw [if_pos c1] at h; exact absurd (congrArg Prod.snd h) c1
  rw [if_neg c1] at h
  have he3 : r3.err = 0 := by simpa using c1
  by_cases c2 : 64 < n
  · rw [if_pos c2] at h; have := congrArg Prod.snd h; simp at this
  rw [if_neg c2] at h
  rcases h4 : readTxns b.length n.toNat r3 [] with ⟨⟨l, r4⟩, e⟩
  rw [h4] at h
  simp only at h
  by_cases c3 : e ≠ 0
  · rw [if_pos c3] at h; exact absurd (congrArg Prod.snd h) c3
  rw [if_neg c3] at h
  have he : e = 0 := by simpa using c3
  subst he
  by_cases c4 : r4.end_ ≠ 0
  · rw [if_pos c4] at h; exact absurd (congrArg Prod.snd h) c4
  rw [if_neg c4] at h
  have hend : r4.end_ = 0 := by simpa using c4
  by_cases c5 : batCheck ⟨f, l⟩ ≠ 0
  · rw [if_pos c5] at h; exact absurd (congrArg Prod.snd h) c5
  rw [if_neg c5] at h
  have hp := (Prod.mk.inj h).1
  subst hp
  have hs2 : r2.err = 0 := by
    rcases Classical.em (r2.err = 0) with h | h
    · exact h
    · unfold Rdr.number Rdr.row at h3
      rw [if_pos h] at h3
      have := (Prod.mk.inj h3).2
      rw [← this] at he3; exact he3
  obtain ⟨_, _, _, z2, hz2, hr2, _⟩ := number_inv (Rem.new b) h2 hs2
  obtain ⟨_, hn0, _, z3, hz3, hr3, _⟩ := number_inv hr2 h3 he3
  obtain ⟨m, z4, hl, hm, hfit, hz4, hr4, _, _⟩ := readTxns_inv n.toNat r3 r4 [] l z3 hr3 he3 h4
  have hz5 := end_nil hr4 hend
  rw [List.nil_append] at hl
  subst hl hz5
  refine ⟨by simpa using c5, ?_, by omega, hfit⟩
  have hn : (l.length : Int) = n := by omega
  rw [batBytes]
  simp only
  rw [hn, hz2, hz3, hz4]
  simp

theorem batDecode_err {b : Bs} {x : Bat} {e : Int} (h : batDecode b = (x, e)) (he : e ≠ 0) : x = .zero := by
  unfold batDecode at h
  split at h
  · exact (Prod.mk.inj h).1.symm
  · rcases h2 : (Rdr.new b).number with ⟨f, r2⟩
    rw [h2] at h
    simp only at h
    rcases h3 : r2.number with ⟨n, r3⟩
    rw [h3] at h
    simp only at h
    split at h
    · exact (Prod.mk.inj h).1.symm
    · split at h
      · exact (Prod.mk.inj h).1.symm
      · rcases h4 : readTxns b.length n.toNat r3 [] with ⟨⟨l, r4⟩, e4⟩
        rw [h4] at h
        simp only at h
        split at h
        · exact (Prod.mk.inj h).1.symm
        · split at h
          · exact (Prod.mk.inj h).1.symm
          · split at h
            · exact (Prod.mk.inj h).1.symm
            · exact absurd (Prod.mk.inj h).2.symm he

theorem bform_more {b rest : Bs} {x : Bat} (h : batDecode b = (x, 0)) (hr : rest ≠ []) : batDecode (b ++ rest) = (.zero, if 65536 < (b ++ rest).length then 4 else 3) := by
  obtain ⟨h1, h2, h3, h4⟩ := bat_form h
  by_cases hl : 65536 < (b ++ rest).length
  · rw [if_pos hl]
    unfold batDecode
    rw [if_pos hl]
  · rw [if_neg hl]
    have hb := bat_back h1 (fun t ht => (h4 t ht).num) rest (by rw [h2]; omega)
    rw [h2, if_neg hr] at hb
    exact hb

theorem bform_cut {b : Bs} {x : Bat} (h : batDecode b = (x, 0)) {k : Nat} (hk : k < b.length) : (batDecode (b.take k)).2 ≠ 0 := by
  intro h0
  obtain ⟨y, e, hy⟩ : ∃ y e, batDecode (b.take k) = (y, e) := ⟨_, _, rfl⟩
  rw [hy] at h0
  simp only at h0
  subst h0
  have hd : b.drop k ≠ [] := by
    intro hn
    have := congrArg List.length hn
    simp at this
    omega
  have hm := bform_more hy hd
  rw [List.take_append_drop] at hm
  rw [hm] at h
  have := congrArg Prod.snd h
  simp only at this
  split at this <;> cases this

theorem bform_pos {b : Bs} {x : Bat} (h : batDecode b = (x, 0)) : 0 < b.length := by
  rcases Nat.eq_zero_or_pos b.length with h0 | h0
  · rw [List.eq_nil_of_length_eq_zero h0] at h
    have h1 : (batDecode []).2 ≠ 0 := by decide +kernel
    rw [h] at h1
    exact absurd rfl h1
  · exact h0
end Go.Proofs.Ytnmcdifkknphgaa
