/- The round trips of chapter 6 (procedures), in plain Lean. No program in sight. -/
import Derived.Test.YtnieminnnkbneaaGreatRound
namespace Go.Proofs.YtnieminnnkbneaaGreat

theorem insCheck_zero {args len place : Int} {x : Ins} (h : insCheck args len place x = 0) :
  (1 ≤ x.op ∧ x.op ≤ 16) ∧ (∀ f ∈ fieldsOf x.op, f.may args len place (f.get x) = true) ∧ (hasVal x.op = true → datumCheck x.v = 0) := by
 unfold insCheck at h
 by_cases h0 : x.op < 1 ∨ 16 < x.op
 ·rw [if_pos h0] at h; simp at h
 ·rw [if_neg h0] at h
  by_cases h1 : (!(fieldsOf x.op).all (fun f => f.may args len place (f.get x))) = true
  ·rw [if_pos h1] at h; simp at h
  ·rw [if_neg h1] at h
   by_cases h2 : (!(insRest x).isZero) = true
   ·rw [if_pos h2] at h; simp at h
   ·rw [if_neg h2] at h
    refine ⟨by omega, ?_, fun hv => ?_⟩
    ·simp only [Bool.not_eq_true', Bool.not_eq_false, List.all_eq_true] at h1; exact h1
    ·rw [if_pos hv] at h; exact h
theorem Fld.may_pos {args len place v : Int} {f : Fld} (h : f.may args len place v = true) : 0 ≤ v ∧ (f.one = true → v < 16) := by
 cases f <;> simp [Fld.may, Fld.one] at * <;> omega

theorem codeCheck_all {args len : Int} {i : Nat} {l : List Ins} (h : (codeCheck args len i l).2 = 0) : ∀ j (hj : j < l.length), insCheck args len (i + j : Nat) l[j] = 0 := by
 induction l generalizing i with
 | nil => intro j hj; simp at hj
 | cons x l ih =>
  rw [codeCheck] at h
  by_cases h0 : insCheck args len i x ≠ 0
  ·rw [if_pos h0] at h; exact absurd h h0
  ·rw [if_neg h0] at h
   intro j hj
   cases j with
   | zero => simpa using h0
   | succ j =>
    have := ih h j (by simpa using hj)
    rw [show (i + (j + 1) : Nat) = i + 1 + j by omega]
    simpa using this

theorem procCheck_zero {p : Prc} (h : (procCheck p).2 = 0) : isName p.name = true ∧ (0 ≤ p.args ∧ p.args ≤ 16) ∧ p.code.length ≤ 64 ∧ ∀ j (hj : j < p.code.length), insCheck p.args p.code.length j p.code[j] = 0 := by
 unfold procCheck at h
 by_cases h0 : (!isName p.name) = true
 ·rw [if_pos h0] at h; simp at h
 ·rw [if_neg h0] at h
  by_cases h1 : p.args < 0 ∨ 16 < p.args
  ·rw [if_pos h1] at h; simp at h
  ·rw [if_neg h1] at h
   by_cases h2 : 64 < p.code.length
   ·rw [if_pos h2] at h; simp at h
   ·rw [if_neg h2] at h
    have := codeCheck_all h
    simp only [Nat.zero_add] at this
    exact ⟨by simpa using h0, by omega, by omega, this⟩

/-! ### fields -/
def Fld.slot : Fld → Nat
 | .a | .skip => 0
 | .b => 1
 | .c => 2
 | .arg | .how | .many => 3

theorem Fld.get_put (x : Ins) (f : Fld) (v : Int) : f.get (f.put x v) = v := by cases f <;> rfl
theorem Fld.get_other {f g : Fld} (h : g.slot ≠ f.slot) (x : Ins) (v : Int) : g.get (f.put x v) = g.get x := by
 cases f <;> cases g <;> first | rfl | exact absurd rfl h
theorem Fld.get_slot {f g : Fld} (h : g.slot = f.slot) (x : Ins) : g.get x = f.get x := by
 cases f <;> cases g <;> first | rfl | exact absurd h (by decide)
theorem Fld.put_op (x : Ins) (f : Fld) (v : Int) : (f.put x v).op = x.op := by cases f <;> rfl
theorem Fld.put_v (x : Ins) (f : Fld) (v : Int) : (f.put x v).v = x.v := by cases f <;> rfl

theorem fieldsOf_slots (op : Int) : ((fieldsOf op).map Fld.slot).Nodup := by
 unfold fieldsOf
 repeat' split
 all_goals decide

abbrev big : Int := 9223372036854775807

theorem readFld_inv {r r' : Rdr} {x y : Ins} {f : Fld} {zs : Bs} (h : Rem r zs) (hr : readFld r x f = (y, r')) (he : r'.err = 0) :
  ∃ v ys, y = f.put x v ∧ 0 ≤ v ∧ v ≤ big ∧ zs = (if f.one then [UInt8.ofNat v.toNat] else encNumber v) ++ ys ∧ Rem r' ys ∧ r'.xs = r.xs := by
 unfold readFld at hr
 rcases Bool.eq_false_or_eq_true f.one with ho | ho
 ·rw [if_pos ho] at hr; simp only [ho, if_true]
  rcases hg : r.byte with ⟨b, q⟩
  rw [hg] at hr
  obtain ⟨h1, h2⟩ := Prod.mk.inj hr
  subst h1 h2
  obtain ⟨_, c, ys, hz, hk, h3⟩ := byte_inv h hg he
  have hc := c.toNat_lt
  exact ⟨b, ys, rfl, by omega, by simp only [big]; omega, by rw [hz, hk]; simp, h3⟩
 ·rw [if_neg (by simp [ho])] at hr; simp only [ho, Bool.false_eq_true, if_false]
  rcases hg : r.number with ⟨b, q⟩
  rw [hg] at hr
  obtain ⟨h1, h2⟩ := Prod.mk.inj hr
  subst h1 h2
  obtain ⟨_, h0, h1, ys, h3⟩ := number_inv h hg he
  exact ⟨b, ys, rfl, h0, h1, h3⟩

theorem readFlds_inv (y : Ins) : ∀ l r r' x zs, (l.map Fld.slot).Nodup → r.err = 0 → Rem r zs → readFlds r x l = ((y, r'), 0) →
  ∃ ys, zs = l.flatMap (fldBytes y) ++ ys ∧ Rem r' ys ∧ r'.err = 0 ∧ r'.xs = r.xs ∧ y.op = x.op ∧ y.v = x.v ∧ (∀ f : Fld, f.slot ∉ l.map Fld.slot → f.get y = f.get x) ∧ (∀ f ∈ l, 0 ≤ f.get y ∧ f.get y ≤ big) := by
 intro l
 induction l with
 | nil =>
  intro r r' x zs _ he h hr
  rw [readFlds] at hr
  obtain ⟨h1, _⟩ := Prod.mk.inj hr
  obtain ⟨h1, h2⟩ := Prod.mk.inj h1
  subst h1 h2
  exact ⟨zs, by simp, h, he, rfl, rfl, rfl, fun _ _ => rfl, by simp⟩
 | cons f l ih =>
  intro r r' x zs hnd he h hr
  rw [List.map_cons, List.nodup_cons] at hnd
  rw [readFlds] at hr
  rcases hg : readFld r x f with ⟨x1, r1⟩
  rw [hg] at hr
  simp only at hr
  by_cases h0 : r1.err ≠ 0
  ·rw [if_pos h0] at hr; exact absurd (congrArg Prod.snd hr) h0
  ·rw [if_neg h0] at hr
   have h0 : r1.err = 0 := by simpa using h0
   obtain ⟨v, ys, hx1, hv0, hv1, hz, hrem, hxs⟩ := readFld_inv h hg h0
   subst hx1
   obtain ⟨zs', hz', hrem', he', hxs', ho, hv, hother, hin⟩ := ih r1 r' _ ys hnd.2 h0 hrem hr
   have hfy : f.get y = v := by rw [hother f hnd.1, Fld.get_put]
   refine ⟨zs', ?_, hrem', he', hxs'.trans hxs, by rw [ho, Fld.put_op], by rw [hv, Fld.put_v], fun g hg => ?_, fun g hg => ?_⟩
   ·rw [hz, hz', List.flatMap_cons, List.append_assoc, fldBytes, hfy]
   ·simp only [List.map_cons, List.mem_cons, not_or] at hg
    rw [hother g hg.2, Fld.get_other hg.1]
   ·rcases List.mem_cons.1 hg with rfl | hg
    ·rw [hfy]; exact ⟨hv0, hv1⟩
    ·exact hin g hg

/-! ### an instruction -/
/-- What may stand in an instruction that was read. -/
def Ins.fits (x : Ins) : Prop := (1 ≤ x.op ∧ x.op ≤ 16) ∧ (∀ f : Fld, 0 ≤ f.get x ∧ f.get x ≤ big) ∧ (0 ≤ x.v.kind ∧ x.v.kind ≤ 2) ∧ i64v x.v

theorem zeroIns_get (op : Int) (f : Fld) : f.get (zeroIns op) = 0 := by cases f <;> rfl

theorem insBytes_v (y : Ins) (v : Val) : insBytes { y with v := v } = UInt8.ofNat y.op.toNat :: ((fieldsOf y.op).flatMap (fldBytes y) ++ (if hasVal y.op then encText (datumBytes v) else [])) := by
 have : fldBytes { y with v := v } = fldBytes y := by funext f; cases f <;> rfl
 unfold insBytes
 rw [this]

theorem readIns_inv {all : Nat} {r r' : Rdr} {x : Ins} {zs : Bs} (h : Rem r zs) (hr : readIns all r = ((x, r'), 0)) :
  r.err = 0 ∧ r'.err = 0 ∧ r'.xs = r.xs ∧ x.fits ∧ ∃ ys, zs = insBytes x ++ ys ∧ Rem r' ys := by
 unfold readIns at hr
 rcases hb : r.byte with ⟨o, r1⟩
 rw [hb] at hr
 simp only at hr
 by_cases h0 : r1.err ≠ 0
 ·rw [if_pos h0] at hr; exact absurd (congrArg Prod.snd hr) h0
 rw [if_neg h0] at hr
 have he1 : r1.err = 0 := by simpa using h0
 by_cases h1 : (o : Int) < 1 ∨ 16 < (o : Int)
 ·rw [if_pos h1] at hr; have := congrArg Prod.snd hr; simp at this
 rw [if_neg h1] at hr
 obtain ⟨he, c, ys, hz, hk, hrem, hx⟩ := byte_inv h hb he1
 rcases hf : readFlds r1 (zeroIns o) (fieldsOf o) with ⟨⟨y, r2⟩, e⟩
 rw [hf] at hr
 simp only at hr
 by_cases h2 : e ≠ 0
 ·rw [if_pos h2] at hr; exact absurd (congrArg Prod.snd hr) h2
 rw [if_neg h2] at hr
 have he0 : e = 0 := by simpa using h2
 subst he0
 obtain ⟨ys2, hz2, hrem2, he2, hx2, ho, hv, hother, hin⟩ := readFlds_inv y (fieldsOf o) r1 r2 (zeroIns o) ys (fieldsOf_slots _) he1 hrem hf
 have hoy : y.op = o := ho
 have hall : ∀ f : Fld, 0 ≤ f.get y ∧ f.get y ≤ big := fun f => by
  by_cases hs : f.slot ∈ (fieldsOf o).map Fld.slot
  ·obtain ⟨g, hg, hgs⟩ := List.mem_map.1 hs
   rw [Fld.get_slot hgs.symm]; exact hin g hg
  ·rw [hother f hs, zeroIns_get]; simp [big]
 have hcb : c = UInt8.ofNat o := by rw [hk, u8_back]
 by_cases hh : hasVal o = true
 ·rw [if_pos hh] at hr
  rcases ht : r2.text all with ⟨s, r3⟩
  rw [ht] at hr
  simp only at hr
  by_cases h3 : r3.err ≠ 0
  ·rw [if_pos h3] at hr; exact absurd (congrArg Prod.snd hr) h3
  rw [if_neg h3] at hr
  have he3 : r3.err = 0 := by simpa using h3
  obtain ⟨_, _, _, ys3, hz3, hrem3, hx3⟩ := text_inv hrem2 ht he3
  rcases hd : datumDecode s with ⟨v, e⟩
  rw [hd] at hr
  simp only at hr
  by_cases h4 : e ≠ 0
  ·rw [if_pos h4] at hr; exact absurd (congrArg Prod.snd hr) h4
  rw [if_neg h4] at hr
  have he0 : e = 0 := by simpa using h4
  subst he0
  obtain ⟨hd1, hd2, hd3⟩ := datum_form hd
  obtain ⟨h5, _⟩ := Prod.mk.inj hr
  obtain ⟨h5, h6⟩ := Prod.mk.inj h5
  subst h5 h6
  have hget : ∀ f : Fld, f.get { y with v := v } = f.get y := fun f => by cases f <;> rfl
  refine ⟨he, he3, hx3.trans (hx2.trans hx), ⟨by simp only [hoy]; omega, fun f => by rw [hget]; exact hall f, ?_, hd2⟩, ys3, ?_, hrem3⟩
  ·have := datumCheck_zero hd1
   show 0 ≤ v.kind ∧ v.kind ≤ 2
   omega
  ·rw [insBytes_v, hoy, if_pos hh, hd3, hz, hz2, hz3, hcb]
   simp
 ·rw [if_neg hh] at hr
  obtain ⟨h5, _⟩ := Prod.mk.inj hr
  obtain ⟨h5, h6⟩ := Prod.mk.inj h5
  subst h5 h6
  have hvz : y.v = .zero := hv
  refine ⟨he, he2, hx2.trans hx, ⟨by rw [hoy]; omega, hall, by rw [hvz]; simp [Val.zero], by rw [hvz]; simp [i64v, Val.zero]⟩, ys2, ?_, hrem2⟩
  unfold insBytes
  rw [hoy, if_neg hh, hz, hz2, hcb]
  simp

/-! ### the code -/
theorem readCode_inv {all : Nat} : ∀ (k : Nat) (r r' : Rdr) (done l : List Ins) (zs : Bs), Rem r zs → r.err = 0 → readCode all k r done = ((l, r'), 0) →
  ∃ m ys, l = done ++ m ∧ m.length = k ∧ (∀ x ∈ m, x.fits) ∧ zs = m.flatMap insBytes ++ ys ∧ Rem r' ys ∧ r'.err = 0 ∧ r'.xs = r.xs := by
 intro k
 induction k with
 | zero =>
  intro r r' done l zs h he hr
  rw [readCode] at hr
  obtain ⟨h1, _⟩ := Prod.mk.inj hr
  obtain ⟨h1, h2⟩ := Prod.mk.inj h1
  subst h1 h2
  exact ⟨[], zs, by simp, rfl, by simp, by simp, h, he, rfl⟩
 | succ k ih =>
  intro r r' done l zs h he hr
  rw [readCode] at hr
  rcases hg : readIns all r with ⟨⟨x, r1⟩, e⟩
  rw [hg] at hr
  simp only at hr
  by_cases h0 : e ≠ 0
  ·rw [if_pos h0] at hr; exact absurd (congrArg Prod.snd hr) h0
  rw [if_neg h0] at hr
  have h0 : e = 0 := by simpa using h0
  subst h0
  obtain ⟨_, he1, hx1, hfit, ys, hz, hrem⟩ := readIns_inv h hg
  obtain ⟨m, ys', hl, hm, hfits, hz', hrem', he', hx'⟩ := ih r1 r' _ l ys hrem he1 hr
  exact ⟨x :: m, ys', by rw [hl]; simp, by simp [hm], fun y hy => by
   rcases List.mem_cons.1 hy with rfl | hy
   ·exact hfit
   ·exact hfits y hy, by rw [hz, hz']; simp, hrem', he', hx'.trans hx1⟩

/-! ### the procedure -/
/-- What is decoded is encoded to the same bytes. -/
theorem proc_form {b : Bs} {p : Prc} (h : procDecode b = (p, 0)) : (procCheck p).2 = 0 ∧ procBytes p = b ∧ ∀ x ∈ p.code, x.fits := by
 unfold procDecode at h
 rcases h1 : (Rdr.new b).text 32 with ⟨s, r1⟩
 rw [h1] at h
 simp only at h
 rcases h2 : r1.number with ⟨a, r2⟩
 rw [h2] at h
 simp only at h
 rcases h3 : r2.number with ⟨n, r3⟩
 rw [h3] at h
 simp only at h
 by_cases c1 : r3.err ≠ 0
 ·rw [if_pos c1] at h; exact absurd (congrArg Prod.snd h) c1
 rw [if_neg c1] at h
 have he3 : r3.err = 0 := by simpa using c1
 by_cases c2 : 64 < n
 ·rw [if_pos c2] at h; have := congrArg Prod.snd h; simp at this
 rw [if_neg c2] at h
 rcases h4 : readCode b.length n.toNat r3 [] with ⟨⟨l, r4⟩, e⟩
 rw [h4] at h
 simp only at h
 by_cases c3 : e ≠ 0
 ·rw [if_pos c3] at h; exact absurd (congrArg Prod.snd h) c3
 rw [if_neg c3] at h
 have he : e = 0 := by simpa using c3
 subst he
 by_cases c4 : r4.end_ ≠ 0
 ·rw [if_pos c4] at h; exact absurd (congrArg Prod.snd h) c4
 rw [if_neg c4] at h
 have hend : r4.end_ = 0 := by simpa using c4
 by_cases c5 : (procCheck ⟨ofBs s, a, l⟩).2 ≠ 0
 ·rw [if_pos c5] at h; exact absurd (congrArg Prod.snd h) c5
 rw [if_neg c5] at h
 have hp := (Prod.mk.inj h).1
 subst hp
 -- back through the reader
 have hs2 : r2.err = 0 := by
  rcases Classical.em (r2.err = 0) with h | h
  ·exact h
  ·unfold Rdr.number Rdr.row at h3
   rw [if_pos h] at h3
   have := (Prod.mk.inj h3).2
   rw [← this] at he3; exact he3
 have hs1 : r1.err = 0 := by
  rcases Classical.em (r1.err = 0) with h | h
  ·exact h
  ·unfold Rdr.number Rdr.row at h2
   rw [if_pos h] at h2
   have := (Prod.mk.inj h2).2
   rw [← this] at hs2; exact hs2
 obtain ⟨_, _, _, z1, hz1, hr1, _⟩ := text_inv (Rem.new b) h1 hs1
 obtain ⟨_, _, _, z2, hz2, hr2, _⟩ := number_inv hr1 h2 hs2
 obtain ⟨_, hn0, _, z3, hz3, hr3, _⟩ := number_inv hr2 h3 he3
 obtain ⟨m, z4, hl, hm, hfit, hz4, hr4, _, _⟩ := readCode_inv n.toNat r3 r4 [] l z3 hr3 he3 h4
 have hz5 := end_nil hr4 hend
 rw [List.nil_append] at hl
 subst hl hz5
 refine ⟨by simpa using c5, ?_, hfit⟩
 have hn : (l.length : Int) = n := by omega
 rw [procBytes, ofBs_data, hn, hz1, hz2, hz3, hz4]
 simp

end Go.Proofs.YtnieminnnkbneaaGreat
