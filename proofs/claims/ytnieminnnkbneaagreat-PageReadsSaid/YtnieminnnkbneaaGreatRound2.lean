/- The round trips of chapter 6 (procedures), in plain Lean. No program in sight. -/
import Derived.Test.YtnieminnnkbneaaGreatRound
namespace Go.Proofs.YtnieminnnkbneaaGreat

theorem insCheck_zero {args len place : Int} {x : Ins} (h : insCheck args len place x = 0) :
    (1 ≤ x.op ∧ x.op ≤ 16) ∧ (∀ f ∈ fieldsOf x.op, f.may args len place (f.get x) = true) ∧ (hasVal x.op = true → datumCheck x.v = 0) := by
  unfold insCheck at h
  by_cases h0 : x.op < 1 ∨ 16 < x.op
  · rw [if_pos h0] at h; simp at h
  · rw [if_neg h0] at h
    by_cases h1 : (!(fieldsOf x.op).all (fun f => f.may args len place (f.get x))) = true
    · rw [if_pos h1] at h; simp at h
    · rw [if_neg h1] at h
      by_cases h2 : (!(insRest x).isZero) = true
      · rw [if_pos h2] at h; simp at h
      · rw [if_neg h2] at h
        refine ⟨by omega, ?_, fun hv => ?_⟩
        · simp only [Bool.not_eq_true', Bool.not_eq_false, List.all_eq_true] at h1; exact h1
        · rw [if_pos hv] at h; exact h
theorem insCheck_rest0 {args len place : Int} {x : Ins} (h : insCheck args len place x = 0) : (insRest x).isZero = true := by
  unfold insCheck at h
  by_cases h0 : x.op < 1 ∨ 16 < x.op
  · rw [if_pos h0] at h; simp at h
  · rw [if_neg h0] at h
    by_cases h1 : (!(fieldsOf x.op).all (fun f => f.may args len place (f.get x))) = true
    · rw [if_pos h1] at h; simp at h
    · rw [if_neg h1] at h
      by_cases h2 : (!(insRest x).isZero) = true
      · rw [if_pos h2] at h; simp at h
      · simpa using h2

theorem Fld.may_pos {args len place v : Int} {f : Fld} (h : f.may args len place v = true) : 0 ≤ v ∧ (f.one = true → v < 16) := by
  cases f <;> simp [Fld.may, Fld.one] at * <;> omega

theorem codeCheck_all {args len : Int} {i : Nat} {l : List Ins} (h : (codeCheck args len i l).2 = 0) : ∀ j (hj : j < l.length), insCheck args len (i + j : Nat) l[j] = 0 := by
  induction l generalizing i with
  | nil => intro j hj; simp at hj
  | cons x l ih =>
    rw [codeCheck] at h
    by_cases h0 : insCheck args len i x ≠ 0
    · rw [if_pos h0] at h; exact absurd h h0
    · rw [if_neg h0] at h
      intro j hj
      cases j with
      | zero => simpa using h0
      | succ j =>
        have := ih h j (by simpa using hj)
        rw [show (i + (j + 1) : Nat) = i + 1 + j by omega]
        simpa using this

theorem procCheck_zero {p : Prc} (h : (procCheck p).2 = 0) : isName p.name = true ∧ (0 ≤ p.args ∧ p.args ≤ 16) ∧ p.code.length ≤ 64 ∧ ∀ j (hj : j < p.code.length), insCheck p.args p.code.length j p.code[j] = 0 := by
  unfold procCheck at h
  by_cases h0 : (!isName p.name) = true
  · rw [if_pos h0] at h; simp at h
  · rw [if_neg h0] at h
    by_cases h1 : p.args < 0 ∨ 16 < p.args
    · rw [if_pos h1] at h; simp at h
    · rw [if_neg h1] at h
      by_cases h2 : 64 < p.code.length
      · rw [if_pos h2] at h; simp at h
      · rw [if_neg h2] at h
        have := codeCheck_all h
        simp only [Nat.zero_add] at this
        exact ⟨by simpa using h0, by omega, by omega, this⟩

/-! ### fields -/
def Fld.slot : Fld → Nat
  | .a | .skip => 0
  | .b => 1
  | .c => 2
  | .arg | .how | .many => 3

theorem Fld.get_put (x : Ins) (f : Fld) (v : Int) : f.get (f.put x v) = v := by cases f <;> rfl
theorem Fld.get_other {f g : Fld} (h : g.slot ≠ f.slot) (x : Ins) (v : Int) : g.get (f.put x v) = g.get x := by
  cases f <;> cases g <;> first | rfl | exact absurd rfl h
theorem Fld.get_slot {f g : Fld} (h : g.slot = f.slot) (x : Ins) : g.get x = f.get x := by
  cases f <;> cases g <;> first | rfl | exact absurd h (by decide)
theorem Fld.put_op (x : Ins) (f : Fld) (v : Int) : (f.put x v).op = x.op := by cases f <;> rfl
theorem Fld.put_v (x : Ins) (f : Fld) (v : Int) : (f.put x v).v = x.v := by cases f <;> rfl

theorem fieldsOf_slots (op : Int) : ((fieldsOf op).map Fld.slot).Nodup := by
  unfold fieldsOf
  repeat' split
  all_goals decide

theorem Ins.eq_of {x y : Ins} (ho : x.op = y.op) (hf : ∀ f : Fld, f.get x = f.get y) (hv : x.v = y.v) : x = y := by
  have ha := hf .a
  have hb := hf .b
  have hc := hf .c
  have hn := hf .arg
  cases x; cases y
  simp only [Fld.get] at *
  subst ho ha hb hc hn hv
  rfl

theorem clearF_get (r : Ins) (l : List Fld) (f : Fld) : f.get (clearF r l) = if f.slot ∈ l.map Fld.slot then 0 else f.get r := by
  unfold clearF
  induction l generalizing r with
  | nil => simp
  | cons g l ih =>
    rw [List.foldl_cons, ih]
    by_cases h1 : f.slot ∈ l.map Fld.slot
    · rw [if_pos h1, if_pos (by simp only [List.map_cons, List.mem_cons]; exact .inr h1)]
    · rw [if_neg h1]
      by_cases h2 : f.slot = g.slot
      · rw [if_pos (by simp [h2]), Fld.get_slot h2, Fld.get_put]
      · rw [if_neg (by simp only [List.map_cons, List.mem_cons, not_or]; exact ⟨h2, h1⟩), Fld.get_other h2]

theorem clearF_v (r : Ins) (l : List Fld) : (clearF r l).v = r.v := by
  unfold clearF
  induction l generalizing r with
  | nil => rfl
  | cons g l ih => rw [List.foldl_cons, ih, Fld.put_v]

theorem Ins.isZero_all {x : Ins} (h : x.isZero = true) : (∀ f : Fld, f.get x = 0) ∧ x.v.kind = 0 ∧ x.v.num = 0 ∧ x.v.text.size = 0 := by
  simp only [Ins.isZero, Bool.and_eq_true, beq_iff_eq] at h
  obtain ⟨_, h1, h2, h3, h4, h5, h6, h7⟩ := h
  exact ⟨fun f => by cases f <;> assumption, h5, h6, h7⟩

/-- What the table does not name is zero. -/
theorem insRest_zero {x : Ins} (h : (insRest x).isZero = true) : (∀ f : Fld, f.slot ∉ (fieldsOf x.op).map Fld.slot → f.get x = 0) ∧ (hasVal x.op = false → x.v = .zero) := by
  have hz : ∀ r : Ins, ∀ v, ∀ f : Fld, f.get { r with v := v } = f.get r := fun r v f => by cases f <;> rfl
  have hz2 : ∀ r : Ins, ∀ v, ∀ f : Fld, f.get { r with op := v } = f.get r := fun r v f => by cases f <;> rfl
  unfold insRest at h
  have h1 := Ins.isZero_all h
  constructor
  · intro f hf
    have h2 := h1.1 f
    by_cases hv : hasVal x.op = true
    · rw [if_pos hv, hz, clearF_get, if_neg hf, hz2] at h2; exact h2
    · rw [if_neg hv, clearF_get, if_neg hf, hz2] at h2; exact h2
  · intro hv
    rw [if_neg (by simp [hv]), clearF_v] at h1
    obtain ⟨_, h2, h3, h4⟩ := h1
    simp only at h2 h3 h4
    have h5 := size_zero h4
    cases hx : x.v
    rw [hx] at h2 h3 h5
    simp only at h2 h3 h5
    subst h2 h3 h5
    rfl

abbrev big : Int := 9223372036854775807

theorem readFld_fwd {r : Rdr} {x : Ins} {f : Fld} {v : Int} {ys : Bs} (he : r.err = 0) (h0 : 0 ≤ v) (h1 : v ≤ big) (h2 : f.one = true → v < 16) (h : Rem r ((if f.one then [UInt8.ofNat v.toNat] else encNumber v) ++ ys)) :
    ∃ r', readFld r x f = (f.put x v, r') ∧ Rem r' ys ∧ r'.err = 0 ∧ r'.xs = r.xs := by
  unfold readFld
  by_cases ho : f.one = true
  · rw [if_pos ho] at h ⊢
    have := h2 ho
    obtain ⟨r', hr, h3⟩ := byte_fwd he h
    refine ⟨r', ?_, h3⟩
    rw [hr, u8_small (by omega)]
    simp only
    rw [show ((v.toNat : Nat) : Int) = v by omega]
  · rw [if_neg ho] at h ⊢
    obtain ⟨r', hr, h3⟩ := number_fwd he h0 h1 h
    exact ⟨r', by rw [hr], h3⟩

theorem readFld_inv {r r' : Rdr} {x y : Ins} {f : Fld} {zs : Bs} (h : Rem r zs) (hr : readFld r x f = (y, r')) (he : r'.err = 0) :
    ∃ v ys, y = f.put x v ∧ 0 ≤ v ∧ v ≤ big ∧ zs = (if f.one then [UInt8.ofNat v.toNat] else encNumber v) ++ ys ∧ Rem r' ys ∧ r'.xs = r.xs := by
  unfold readFld at hr
  rcases Bool.eq_false_or_eq_true f.one with ho | ho
  · rw [if_pos ho] at hr; simp only [ho, if_true]
    rcases hg : r.byte with ⟨b, q⟩
    rw [hg] at hr
    obtain ⟨h1, h2⟩ := Prod.mk.inj hr
    subst h1 h2
    obtain ⟨_, c, ys, hz, hk, h3⟩ := byte_inv h hg he
    have hc := c.toNat_lt
    exact ⟨b, ys, rfl, by omega, by simp only [big]; omega, by rw [hz, hk]; simp, h3⟩
  · rw [if_neg (by simp [ho])] at hr; simp only [ho, Bool.false_eq_true, if_false]
    rcases hg : r.number with ⟨b, q⟩
    rw [hg] at hr
    obtain ⟨h1, h2⟩ := Prod.mk.inj hr
    subst h1 h2
    obtain ⟨_, h0, h1, ys, h3⟩ := number_inv h hg he
    exact ⟨b, ys, rfl, h0, h1, h3⟩

theorem readFlds_fwd (y : Ins) (V : Val) (ys : Bs) : ∀ l r x, (l.map Fld.slot).Nodup → r.err = 0 → (∀ f ∈ l, (0 ≤ f.get y ∧ f.get y ≤ big) ∧ (f.one = true → f.get y < 16)) → (∀ f : Fld, f.slot ∉ l.map Fld.slot → f.get x = f.get y) → x.op = y.op → x.v = V →
    Rem r (l.flatMap (fldBytes y) ++ ys) → ∃ r', readFlds r x l = (({ y with v := V }, r'), 0) ∧ Rem r' ys ∧ r'.err = 0 ∧ r'.xs = r.xs := by
  intro l
  induction l with
  | nil =>
    intro r x _ he _ hx ho hv h
    refine ⟨r, ?_, by simpa using h, he, rfl⟩
    have : x = { y with v := V } := Ins.eq_of ho (fun f => (hx f (by simp)).trans (by cases f <;> rfl)) hv
    rw [readFlds, this]
  | cons f l ih =>
    intro r x hnd he hl hx ho hv h
    rw [List.map_cons, List.nodup_cons] at hnd
    obtain ⟨⟨hf0, hf1⟩, hf2⟩ := hl f (by simp)
    rw [List.flatMap_cons, List.append_assoc] at h
    obtain ⟨r1, h1, h2, h3, h4⟩ := readFld_fwd (x := x) he hf0 hf1 hf2 (by rw [fldBytes] at h; exact h)
    obtain ⟨r2, h5, h6, h7, h8⟩ := ih r1 (f.put x (f.get y)) hnd.2 h3 (fun g hg => hl g (by simp [hg])) (fun g hg => by
      by_cases hs : g.slot = f.slot
      · rw [Fld.get_slot hs, Fld.get_put, ← Fld.get_slot hs y]
      · rw [Fld.get_other hs]; exact hx g (by simp only [List.map_cons, List.mem_cons, not_or]; exact ⟨hs, hg⟩)) (by rw [Fld.put_op, ho]) (by rw [Fld.put_v, hv]) h2
    refine ⟨r2, ?_, h6, h7, h8.trans h4⟩
    rw [readFlds, h1]
    simp only
    rw [if_neg (by simp [h3]), h5]

theorem readFlds_inv (y : Ins) : ∀ l r r' x zs, (l.map Fld.slot).Nodup → r.err = 0 → Rem r zs → readFlds r x l = ((y, r'), 0) →
    ∃ ys, zs = l.flatMap (fldBytes y) ++ ys ∧ Rem r' ys ∧ r'.err = 0 ∧ r'.xs = r.xs ∧ y.op = x.op ∧ y.v = x.v ∧ (∀ f : Fld, f.slot ∉ l.map Fld.slot → f.get y = f.get x) ∧ (∀ f ∈ l, 0 ≤ f.get y ∧ f.get y ≤ big) := by
  intro l
  induction l with
  | nil =>
    intro r r' x zs _ he h hr
    rw [readFlds] at hr
    obtain ⟨h1, _⟩ := Prod.mk.inj hr
    obtain ⟨h1, h2⟩ := Prod.mk.inj h1
    subst h1 h2
    exact ⟨zs, by simp, h, he, rfl, rfl, rfl, fun _ _ => rfl, by simp⟩
  | cons f l ih =>
    intro r r' x zs hnd he h hr
    rw [List.map_cons, List.nodup_cons] at hnd
    rw [readFlds] at hr
    rcases hg : readFld r x f with ⟨x1, r1⟩
    rw [hg] at hr
    simp only at hr
    by_cases h0 : r1.err ≠ 0
    · rw [if_pos h0] at hr; exact absurd (congrArg Prod.snd hr) h0
    · rw [if_neg h0] at hr
      have h0 : r1.err = 0 := by simpa using h0
      obtain ⟨v, ys, hx1, hv0, hv1, hz, hrem, hxs⟩ := readFld_inv h hg h0
      subst hx1
      obtain ⟨zs', hz', hrem', he', hxs', ho, hv, hother, hin⟩ := ih r1 r' _ ys hnd.2 h0 hrem hr
      have hfy : f.get y = v := by rw [hother f hnd.1, Fld.get_put]
      refine ⟨zs', ?_, hrem', he', hxs'.trans hxs, by rw [ho, Fld.put_op], by rw [hv, Fld.put_v], fun g hg => ?_, fun g hg => ?_⟩
      · rw [hz, hz', List.flatMap_cons, List.append_assoc, fldBytes, hfy]
      · simp only [List.map_cons, List.mem_cons, not_or] at hg
        rw [hother g hg.2, Fld.get_other hg.1]
      · rcases List.mem_cons.1 hg with rfl | hg
        · rw [hfy]; exact ⟨hv0, hv1⟩
        · exact hin g hg

/-! ### an instruction -/
theorem readIns_fwd {args len place : Int} {x : Ins} (hc : insCheck args len place x = 0) (hargs : args ≤ 16) (hlen : len ≤ 64) (hp : 0 ≤ place) (hv : i64v x.v) {all : Nat} {r : Rdr} {ys : Bs} (he : r.err = 0) (hall : r.xs.length ≤ all) (h : Rem r (insBytes x ++ ys)) :
    ∃ r', readIns all r = ((x, r'), 0) ∧ Rem r' ys ∧ r'.err = 0 ∧ r'.xs = r.xs := by
  obtain ⟨⟨ho1, ho2⟩, hmay, hval⟩ := insCheck_zero hc
  obtain ⟨hz1, hz2⟩ := insRest_zero (insCheck_rest0 hc)
  unfold insBytes at h
  rw [List.cons_append, List.append_assoc] at h
  obtain ⟨r1, hb, hrem1, he1, hx1⟩ := byte_fwd he h
  rw [u8_small (by omega)] at hb
  unfold readIns
  rw [hb]
  simp only
  have ho : ((x.op.toNat : Nat) : Int) = x.op := by omega
  rw [ho, if_neg (by simp [he1]), if_neg (by omega)]
  obtain ⟨r2, hf, hrem2, he2, hx2⟩ := readFlds_fwd x .zero _ (fieldsOf x.op) r1 (zeroIns x.op) (fieldsOf_slots _) he1 (fun f hf => by
    have hm := hmay f hf
    have hm2 := Fld.may_pos hm
    refine ⟨⟨hm2.1, ?_⟩, hm2.2⟩
    cases f <;> simp [Fld.may] at hm <;> simp only [big] <;> omega) (fun f hf => by rw [hz1 f hf]; cases f <;> rfl) rfl rfl hrem1
  rw [hf]
  simp only
  rw [if_neg (by simp)]
  by_cases hh : hasVal x.op = true
  · rw [if_pos hh] at hrem2 ⊢
    have hl2 := hrem2.len
    simp only [encText, List.length_append] at hl2
    rw [hx2, hx1] at hl2
    have hle : (datumBytes x.v).length ≤ all := by omega
    have hbig : (datumBytes x.v).length ≤ 9223372036854775807 := by
      have hk := datumCheck_zero (hval hh)
      have hsev : ∀ u, (sevens u).length ≤ 10 := by
        intro u
        have : ∀ f u, (sevF f u).length ≤ f := by
          intro f
          induction f with
          | zero => intro u; simp [sevF]
          | succ f ih =>
            intro u
            rw [sevF]
            split
            · simp
            · have := ih (u / 128); simp only [List.length_cons]; omega
        exact this 10 u
      unfold datumBytes
      rcases hk with ⟨h, _⟩ | ⟨h, _⟩ | ⟨h, _, h2⟩
      · simp [h]
      · have := hsev (zig x.v.num)
        rw [if_pos h]; simp only [encInt, List.length_cons]; omega
      · have := hsev x.v.text.data.toList.length
        have h3 := size_data x.v.text
        rw [if_neg (by omega), if_pos h]; simp only [encText, List.length_cons, List.length_append]; omega
    obtain ⟨r3, ht, hrem3, he3, hx3⟩ := text_fwd (most := all) he2 (by omega) hbig hrem2
    rw [ht]
    simp only
    rw [if_neg (by simp [he3]), datum_back (hval hh) hv]
    simp only
    rw [if_neg (by simp)]
    exact ⟨r3, rfl, hrem3, he3, hx3.trans (hx2.trans hx1)⟩
  · rw [if_neg hh] at hrem2 ⊢
    refine ⟨r2, ?_, by simpa using hrem2, he2, hx2.trans hx1⟩
    have := hz2 (by simpa using hh)
    rw [← this]

/-- What may stand in an instruction that was read. -/
def Ins.fits (x : Ins) : Prop := (1 ≤ x.op ∧ x.op ≤ 16) ∧ (∀ f : Fld, 0 ≤ f.get x ∧ f.get x ≤ big) ∧ (0 ≤ x.v.kind ∧ x.v.kind ≤ 2) ∧ i64v x.v

theorem zeroIns_get (op : Int) (f : Fld) : f.get (zeroIns op) = 0 := by cases f <;> rfl

theorem insBytes_v (y : Ins) (v : Val) : insBytes { y with v := v } = UInt8.ofNat y.op.toNat :: ((fieldsOf y.op).flatMap (fldBytes y) ++ (if hasVal y.op then encText (datumBytes v) else [])) := by
  have : fldBytes { y with v := v } = fldBytes y := by funext f; cases f <;> rfl
  unfold insBytes
  rw [this]

theorem readIns_inv {all : Nat} {r r' : Rdr} {x : Ins} {zs : Bs} (h : Rem r zs) (hr : readIns all r = ((x, r'), 0)) :
    r.err = 0 ∧ r'.err = 0 ∧ r'.xs = r.xs ∧ x.fits ∧ ∃ ys, zs = insBytes x ++ ys ∧ Rem r' ys := by
  unfold readIns at hr
  rcases hb : r.byte with ⟨o, r1⟩
  rw [hb] at hr
  simp only at hr
  by_cases h0 : r1.err ≠ 0
  · rw [if_pos h0] at hr; exact absurd (congrArg Prod.snd hr) h0
  rw [if_neg h0] at hr
  have he1 : r1.err = 0 := by simpa using h0
  by_cases h1 : (o : Int) < 1 ∨ 16 < (o : Int)
  · rw [if_pos h1] at hr; have := congrArg Prod.snd hr; simp at this
  rw [if_neg h1] at hr
  obtain ⟨he, c, ys, hz, hk, hrem, hx⟩ := byte_inv h hb he1
  rcases hf : readFlds r1 (zeroIns o) (fieldsOf o) with ⟨⟨y, r2⟩, e⟩
  rw [hf] at hr
  simp only at hr
  by_cases h2 : e ≠ 0
  · rw [if_pos h2] at hr; exact absurd (congrArg Prod.snd hr) h2
  rw [if_neg h2] at hr
  have he0 : e = 0 := by simpa using h2
  subst he0
  obtain ⟨ys2, hz2, hrem2, he2, hx2, ho, hv, hother, hin⟩ := readFlds_inv y (fieldsOf o) r1 r2 (zeroIns o) ys (fieldsOf_slots _) he1 hrem hf
  have hoy : y.op = o := ho
  have hall : ∀ f : Fld, 0 ≤ f.get y ∧ f.get y ≤ big := fun f => by
    by_cases hs : f.slot ∈ (fieldsOf o).map Fld.slot
    · obtain ⟨g, hg, hgs⟩ := List.mem_map.1 hs
      rw [Fld.get_slot hgs.symm]; exact hin g hg
    · rw [hother f hs, zeroIns_get]; simp [big]
  have hcb : c = UInt8.ofNat o := by rw [hk, u8_back]
  by_cases hh : hasVal o = true
  · rw [if_pos hh] at hr
    rcases ht : r2.text all with ⟨s, r3⟩
    rw [ht] at hr
    simp only at hr
    by_cases h3 : r3.err ≠ 0
    · rw [if_pos h3] at hr; exact absurd (congrArg Prod.snd hr) h3
    rw [if_neg h3] at hr
    have he3 : r3.err = 0 := by simpa using h3
    obtain ⟨_, _, _, ys3, hz3, hrem3, hx3⟩ := text_inv hrem2 ht he3
    rcases hd : datumDecode s with ⟨v, e⟩
    rw [hd] at hr
    simp only at hr
    by_cases h4 : e ≠ 0
    · rw [if_pos h4] at hr; exact absurd (congrArg Prod.snd hr) h4
    rw [if_neg h4] at hr
    have he0 : e = 0 := by simpa using h4
    subst he0
    obtain ⟨hd1, hd2, hd3⟩ := datum_form hd
    obtain ⟨h5, _⟩ := Prod.mk.inj hr
    obtain ⟨h5, h6⟩ := Prod.mk.inj h5
    subst h5 h6
    have hget : ∀ f : Fld, f.get { y with v := v } = f.get y := fun f => by cases f <;> rfl
    refine ⟨he, he3, hx3.trans (hx2.trans hx), ⟨by simp only [hoy]; omega, fun f => by rw [hget]; exact hall f, ?_, hd2⟩, ys3, ?_, hrem3⟩
    · have := datumCheck_zero hd1
      show 0 ≤ v.kind ∧ v.kind ≤ 2
      omega
    · rw [insBytes_v, hoy, if_pos hh, hd3, hz, hz2, hz3, hcb]
      simp
  · rw [if_neg hh] at hr
    obtain ⟨h5, _⟩ := Prod.mk.inj hr
    obtain ⟨h5, h6⟩ := Prod.mk.inj h5
    subst h5 h6
    have hvz : y.v = .zero := hv
    refine ⟨he, he2, hx2.trans hx, ⟨by rw [hoy]; omega, hall, by rw [hvz]; simp [Val.zero], by rw [hvz]; simp [i64v, Val.zero]⟩, ys2, ?_, hrem2⟩
    unfold insBytes
    rw [hoy, if_neg hh, hz, hz2, hcb]
    simp

/-! ### the code -/
theorem readCode_fwd {args len : Int} (hargs : args ≤ 16) (hlen : len ≤ 64) {all : Nat} (ys : Bs) : ∀ (l : List Ins) (i : Nat) (r : Rdr) (done : List Ins), (∀ j (hj : j < l.length), insCheck args len (i + j : Nat) l[j] = 0 ∧ i64v l[j].v) → r.err = 0 → r.xs.length ≤ all → Rem r (l.flatMap insBytes ++ ys) →
    ∃ r', readCode all l.length r done = ((done ++ l, r'), 0) ∧ Rem r' ys ∧ r'.err = 0 ∧ r'.xs = r.xs := by
  intro l
  induction l with
  | nil => intro i r done _ he _ h; exact ⟨r, by simp [readCode], by simpa using h, he, rfl⟩
  | cons x l ih =>
    intro i r done hc he hall h
    rw [List.flatMap_cons, List.append_assoc] at h
    have hx := hc 0 (by simp)
    obtain ⟨r1, h1, h2, h3, h4⟩ := readIns_fwd hx.1 hargs hlen (by omega) hx.2 he hall h
    obtain ⟨r2, h5, h6, h7, h8⟩ := ih (i + 1) r1 (done ++ [x]) (fun j hj => by
      have := hc (j + 1) (by simpa using hj)
      rw [show (i + (j + 1) : Nat) = i + 1 + j by omega] at this
      simpa using this) h3 (by rw [h4]; exact hall) h2
    refine ⟨r2, ?_, h6, h7, h8.trans h4⟩
    rw [List.length_cons, readCode, h1]
    simp only [List.getElem_cons_zero]
    rw [if_neg (by simp), h5]
    simp

theorem readCode_inv {all : Nat} : ∀ (k : Nat) (r r' : Rdr) (done l : List Ins) (zs : Bs), Rem r zs → r.err = 0 → readCode all k r done = ((l, r'), 0) →
    ∃ m ys, l = done ++ m ∧ m.length = k ∧ (∀ x ∈ m, x.fits) ∧ zs = m.flatMap insBytes ++ ys ∧ Rem r' ys ∧ r'.err = 0 ∧ r'.xs = r.xs := by
  intro k
  induction k with
  | zero =>
    intro r r' done l zs h he hr
    rw [readCode] at hr
    obtain ⟨h1, _⟩ := Prod.mk.inj hr
    obtain ⟨h1, h2⟩ := Prod.mk.inj h1
    subst h1 h2
    exact ⟨[], zs, by simp, rfl, by simp, by simp, h, he, rfl⟩
  | succ k ih =>
    intro r r' done l zs h he hr
    rw [readCode] at hr
    rcases hg : readIns all r with ⟨⟨x, r1⟩, e⟩
    rw [hg] at hr
    simp only at hr
    by_cases h0 : e ≠ 0
    · rw [if_pos h0] at hr; exact absurd (congrArg Prod.snd hr) h0
    rw [if_neg h0] at hr
    have h0 : e = 0 := by simpa using h0
    subst h0
    obtain ⟨_, he1, hx1, hfit, ys, hz, hrem⟩ := readIns_inv h hg
    obtain ⟨m, ys', hl, hm, hfits, hz', hrem', he', hx'⟩ := ih r1 r' _ l ys hrem he1 hr
    exact ⟨x :: m, ys', by rw [hl]; simp, by simp [hm], fun y hy => by
      rcases List.mem_cons.1 hy with rfl | hy
      · exact hfit
      · exact hfits y hy, by rw [hz, hz']; simp, hrem', he', hx'.trans hx1⟩

/-! ### the procedure -/
theorem isNameL_len {s : Bs} (h : isNameL s = true) : s.length ≤ 32 := by
  simp only [isNameL, Bool.and_eq_true, decide_eq_true_eq] at h
  omega

/-- What is encoded is decoded to the same; with something behind it is refused. -/
theorem proc_back {p : Prc} (h : (procCheck p).2 = 0) (hv : ∀ x ∈ p.code, i64v x.v) (rest : Bs) : procDecode (procBytes p ++ rest) = if rest = [] then (p, 0) else (.zero, 3) := by
  obtain ⟨hn, ha, hl, hc⟩ := procCheck_zero h
  have hnl : p.name.data.toList.length ≤ 32 := isNameL_len hn
  unfold procDecode
  have h0 : Rem (Rdr.new (procBytes p ++ rest)) (encText p.name.data.toList ++ (encNumber p.args ++ (encNumber p.code.length ++ (p.code.flatMap insBytes ++ rest)))) := by
    have := Rem.new (procBytes p ++ rest)
    simpa only [procBytes, List.append_assoc] using this
  have he0 : (Rdr.new (procBytes p ++ rest)).err = 0 := rfl
  have hxs : (Rdr.new (procBytes p ++ rest)).xs.length = (procBytes p ++ rest).length := rfl
  generalize Rdr.new (procBytes p ++ rest) = r0 at *
  generalize (procBytes p ++ rest).length = all at *
  obtain ⟨r1, h1, hr1, he1, hx1⟩ := text_fwd (most := 32) he0 (by omega) (by omega) h0
  obtain ⟨r2, h2, hr2, he2, hx2⟩ := number_fwd he1 ha.1 (by omega) hr1
  obtain ⟨r3, h3, hr3, he3, hx3⟩ := number_fwd he2 (by omega) (by omega) hr2
  rw [h1]; simp only; rw [h2]; simp only; rw [h3]; simp only
  rw [if_neg (by simp [he3]), if_neg (by omega)]
  obtain ⟨r4, h4, hr4, he4, _⟩ := readCode_fwd (all := all) ha.2 (by omega : (p.code.length : Int) ≤ 64) rest p.code 0 r3 [] (fun j hj => ⟨by rw [Nat.zero_add]; exact hc j hj, hv _ (List.getElem_mem hj)⟩) he3 (by rw [hx3, hx2, hx1]; omega) hr3
  rw [Int.toNat_natCast, h4]
  simp only [List.nil_append]
  rw [if_neg (by simp), end_zero hr4 he4, ofBs_back]
  by_cases hr : rest = []
  · rw [if_pos hr, if_pos hr, if_neg (by simp)]
    simp only [show (⟨p.name, p.args, p.code⟩ : Prc) = p from rfl]
    rw [if_neg (by simp [h])]
  · rw [if_neg hr, if_neg hr, if_pos (by simp)]

/-- What is decoded is encoded to the same bytes. -/
theorem proc_form {b : Bs} {p : Prc} (h : procDecode b = (p, 0)) : (procCheck p).2 = 0 ∧ procBytes p = b ∧ ∀ x ∈ p.code, x.fits := by
  unfold procDecode at h
  rcases h1 : (Rdr.new b).text 32 with ⟨s, r1⟩
  rw [h1] at h
  simp only at h
  rcases h2 : r1.number with ⟨a, r2⟩
  rw [h2] at h
  simp only at h
  rcases h3 : r2.number with ⟨n, r3⟩
  rw [h3] at h
  simp only at h
  by_cases c1 : r3.err ≠ 0
  · rw [if_pos c1] at h; exact absurd (congrArg Prod.snd h) c1
  rw [if_neg c1] at h
  have he3 : r3.err = 0 := by simpa using c1
  by_cases c2 : 64 < n
  · rw [if_pos c2] at h; have := congrArg Prod.snd h; simp at this
  rw [if_neg c2] at h
  rcases h4 : readCode b.length n.toNat r3 [] with ⟨⟨l, r4⟩, e⟩
  rw [h4] at h
  simp only at h
  by_cases c3 : e ≠ 0
  · rw [if_pos c3] at h; exact absurd (congrArg Prod.snd h) c3
  rw [if_neg c3] at h
  have he : e = 0 := by simpa using c3
  subst he
  by_cases c4 : r4.end_ ≠ 0
  · rw [if_pos c4] at h; exact absurd (congrArg Prod.snd h) c4
  rw [if_neg c4] at h
  have hend : r4.end_ = 0 := by simpa using c4
  by_cases c5 : (procCheck ⟨ofBs s, a, l⟩).2 ≠ 0
  · rw [if_pos c5] at h; exact absurd (congrArg Prod.snd h) c5
  rw [if_neg c5] at h
  have hp := (Prod.mk.inj h).1
  subst hp
  -- back through the reader
  have hs2 : r2.err = 0 := by
    rcases Classical.em (r2.err = 0) with h | h
    · exact h
    · unfold Rdr.number Rdr.row at h3
      rw [if_pos h] at h3
      have := (Prod.mk.inj h3).2
      rw [← this] at he3; exact he3
  have hs1 : r1.err = 0 := by
    rcases Classical.em (r1.err = 0) with h | h
    · exact h
    · unfold Rdr.number Rdr.row at h2
      rw [if_pos h] at h2
      have := (Prod.mk.inj h2).2
      rw [← this] at hs2; exact hs2
  obtain ⟨_, _, _, z1, hz1, hr1, _⟩ := text_inv (Rem.new b) h1 hs1
  obtain ⟨_, _, _, z2, hz2, hr2, _⟩ := number_inv hr1 h2 hs2
  obtain ⟨_, hn0, _, z3, hz3, hr3, _⟩ := number_inv hr2 h3 he3
  obtain ⟨m, z4, hl, hm, hfit, hz4, hr4, _, _⟩ := readCode_inv n.toNat r3 r4 [] l z3 hr3 he3 h4
  have hz5 := end_nil hr4 hend
  rw [List.nil_append] at hl
  subst hl hz5
  refine ⟨by simpa using c5, ?_, hfit⟩
  have hn : (l.length : Int) = n := by omega
  rw [procBytes, ofBs_data, hn, hz1, hz2, hz3, hz4]
  simp

end Go.Proofs.YtnieminnnkbneaaGreat
