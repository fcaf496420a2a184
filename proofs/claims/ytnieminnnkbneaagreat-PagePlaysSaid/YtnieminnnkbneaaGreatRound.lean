/- The round trips of chapters 1, 5 and 6, in plain Lean. No program in sight. -/
import Derived.Test.YtnieminnnkbneaaGreatPure
namespace Go.Proofs.YtnieminnnkbneaaGreat

/-! ### rows of sevens -/
theorem sevF_fuel (g : Nat) : ∀ v, v < 128 ^ g → 1 ≤ g → ∀ g', g ≤ g' → sevF g' v = sevF g v := by
 induction g with
 | zero => intro v _ h; omega
 | succ g ih =>
  intro v hv _ g' hg
  obtain ⟨g', rfl⟩ : ∃ k, g' = k + 1 := ⟨g' - 1, by omega⟩
  rw [sevF, sevF]
  by_cases hs : v < 128
  ·rw [if_pos hs, if_pos hs]
  ·rw [if_neg hs, if_neg hs]
   have h1 : v / 128 < 128 ^ g := by rw [Nat.pow_succ] at hv; omega
   have h2 : 1 ≤ g := by
    rcases Nat.eq_zero_or_pos g with h | h
    ·subst h; simp at hv; omega
    ·exact h
   rw [ih _ h1 h2 g' (by omega)]

theorem u8_back (b : UInt8) : UInt8.ofNat b.toNat = b := by simp

theorem drop_of_get {xs : Bs} {k : Nat} {b : UInt8} (h : xs[k]? = some b) : xs.drop k = b :: xs.drop (k + 1) := by
 obtain ⟨hk, h⟩ := List.getElem?_eq_some_iff.1 h
 rw [List.drop_eq_getElem_cons hk, h]

theorem rowGo_inv (xs : Bs) (pos most last : Nat) (hl : last ≤ 127) : ∀ f i u u' n, f + i = most → Rdr.rowGo xs pos most last f i u = (0, u', n) →
  ∃ v, u' = u + v * 128 ^ i ∧ (0 < i → 0 < v) ∧ v < (last + 1) * 128 ^ (f - 1) ∧ 1 ≤ f ∧ n = i + (sevF f v).length ∧ ∃ post, xs.drop (pos + i) = sevF f v ++ post := by
 intro f
 induction f with
 | zero => intro i u u' n _ h; simp [Rdr.rowGo] at h
 | succ f ih =>
  intro i u u' n hm h
  rw [Rdr.rowGo] at h
  cases hx : xs[pos + i]? with
  | none => simp [hx] at h
  | some b =>
   simp only [hx] at h
   by_cases h1 : i + 1 = most ∧ last < b.toNat
   ·rw [if_pos h1] at h; simp at h
   ·rw [if_neg h1] at h
    by_cases h2 : b.toNat < 128
    ·rw [if_pos h2] at h
     by_cases h3 : 0 < i ∧ b.toNat = 0
     ·rw [if_pos h3] at h; simp at h
     ·rw [if_neg h3] at h
      simp only [Prod.mk.injEq, true_and] at h
      obtain ⟨rfl, rfl⟩ := h
      refine ⟨b.toNat, by rw [Nat.mod_eq_of_lt h2], by omega, ?_, by omega, by rw [sevF, if_pos h2]; rfl, xs.drop (pos + i + 1), ?_⟩
      ·simp only [Nat.add_sub_cancel]
       rcases Nat.eq_zero_or_pos f with hf | hf
       ·subst hf; simp; omega
       ·have : 128 ≤ 128 ^ f := by
         calc 128 = 128 ^ 1 := by simp
          _ ≤ 128 ^ f := Nat.pow_le_pow_right (by omega) hf
        have : 1 * 128 ^ f ≤ (last + 1) * 128 ^ f := Nat.mul_le_mul_right _ (by omega)
        omega
      ·rw [drop_of_get hx, sevF, if_pos h2]; simp
    ·rw [if_neg h2] at h
     obtain ⟨v, hu, hp, hv, hf, hn, post, hd⟩ := ih _ _ _ _ (by omega) h
     have hv0 := hp (by omega)
     have hb : b.toNat < 256 := b.toNat_lt
     have hbig : ¬ (b.toNat % 128 + 128 * v < 128) := by omega
     have hdiv : (b.toNat % 128 + 128 * v) / 128 = v := by omega
     have hmod : (b.toNat % 128 + 128 * v) % 128 + 128 = b.toNat := by omega
     refine ⟨b.toNat % 128 + 128 * v, ?_, by omega, ?_, by omega, ?_, post, ?_⟩
     ·rw [hu, Nat.pow_succ, Nat.add_mul]
      have : v * (128 ^ i * 128) = 128 * v * 128 ^ i := by rw [Nat.mul_comm (128 ^ i), ← Nat.mul_assoc, Nat.mul_comm v]
      rw [this]; omega
     ·obtain ⟨f, rfl⟩ : ∃ k, f = k + 1 := ⟨f - 1, by omega⟩
      simp only [Nat.add_sub_cancel] at hv ⊢
      rw [Nat.pow_succ, ← Nat.mul_assoc]
      omega
     ·rw [sevF, if_neg hbig, hdiv, List.length_cons, hn]; omega
     ·rw [drop_of_get hx, sevF, if_neg hbig, hdiv, hmod, u8_back, Nat.add_assoc, hd]; rfl

/-! ### the reader: what is still to be read -/
def Rem (r : Rdr) (zs : Bs) : Prop := r.pos ≤ r.xs.length ∧ r.xs.drop r.pos = zs

theorem Rem.new (xs : Bs) : Rem (Rdr.new xs) xs := ⟨Nat.zero_le _, rfl⟩
theorem Rem.adv {r : Rdr} {ys zs : Bs} (h : Rem r (ys ++ zs)) : Rem { r with pos := r.pos + ys.length } zs := by
 obtain ⟨h1, h2⟩ := h
 have hl : (r.xs.drop r.pos).length = (ys ++ zs).length := by rw [h2]
 rw [List.length_drop, List.length_append] at hl
 refine ⟨by show r.pos + ys.length ≤ r.xs.length; omega, ?_⟩
 show r.xs.drop (r.pos + ys.length) = zs
 rw [← List.drop_drop, h2, List.drop_left]
theorem Rem.len {r : Rdr} {zs : Bs} (h : Rem r zs) : r.xs.length = r.pos + zs.length := by
 obtain ⟨h1, h2⟩ := h
 have hl : (r.xs.drop r.pos).length = zs.length := by rw [h2]
 rw [List.length_drop] at hl; omega

theorem byte_inv {r r' : Rdr} {k : Nat} {zs : Bs} (h : Rem r zs) (hb : r.byte = (k, r')) (he : r'.err = 0) : r.err = 0 ∧ ∃ b ys, zs = b :: ys ∧ k = b.toNat ∧ Rem r' ys ∧ r'.xs = r.xs := by
 unfold Rdr.byte at hb
 by_cases h0 : r.err ≠ 0
 ·rw [if_pos h0] at hb; cases hb; exact absurd he h0
 ·rw [if_neg h0] at hb
  cases hx : r.xs[r.pos]? with
  | none => rw [hx] at hb; cases hb; simp [Rdr.fail] at he
  | some b =>
   rw [hx] at hb
   cases hb
   have hz : zs = b :: r.xs.drop (r.pos + 1) := by rw [← h.2, drop_of_get hx]
   subst hz
   exact ⟨by simpa using h0, b, _, rfl, rfl, Rem.adv (ys := [b]) h, rfl⟩

theorem row_inv {r r' : Rdr} {most last v : Nat} {zs : Bs} (hl : last ≤ 127) (hm2 : most ≤ 10) (h : Rem r zs) (hr : r.row most last = (v, r')) (he : r'.err = 0) :
  r.err = 0 ∧ v < (last + 1) * 128 ^ (most - 1) ∧ ∃ ys, zs = sevens v ++ ys ∧ Rem r' ys ∧ r'.xs = r.xs := by
 unfold Rdr.row at hr
 by_cases h0 : r.err ≠ 0
 ·rw [if_pos h0] at hr; cases hr; exact absurd he h0
 ·rw [if_neg h0] at hr
  rcases hg : Rdr.rowGo r.xs r.pos most last most 0 0 with ⟨e, u, n⟩
  rw [hg] at hr
  simp only at hr
  by_cases h1 : e = 0
  ·rw [if_pos h1] at hr
   obtain ⟨hr1, hr2⟩ := Prod.mk.inj hr
   subst hr1 hr2 h1
   obtain ⟨v', hu, _, hv, hm, hn, post, hd⟩ := rowGo_inv r.xs r.pos most last hl most 0 0 _ n (by omega) hg
   simp only [Nat.zero_add, Nat.pow_zero, Nat.mul_one, Nat.add_zero] at hu hn hd
   subst hu
   have hvm : u < 128 ^ most := by
    obtain ⟨m, rfl⟩ : ∃ m, most = m + 1 := ⟨most - 1, by omega⟩
    simp only [Nat.add_sub_cancel] at hv
    have : (last + 1) * 128 ^ m ≤ 128 * 128 ^ m := Nat.mul_le_mul_right _ (by omega)
    rw [Nat.pow_succ, Nat.mul_comm]; omega
   have hs : sevens u = sevF most u := sevF_fuel most u hvm hm 10 hm2
   rw [← hs] at hn hd
   have hz : zs = sevens u ++ post := by rw [← h.2, hd]
   subst hz
   rw [hn]
   exact ⟨by simpa using h0, hv, post, rfl, h.adv, rfl⟩
  ·rw [if_neg h1] at hr; cases hr; exact absurd he h1

theorem number_inv {r r' : Rdr} {v : Int} {zs : Bs} (h : Rem r zs) (hr : r.number = (v, r')) (he : r'.err = 0) : r.err = 0 ∧ 0 ≤ v ∧ v ≤ 9223372036854775807 ∧ ∃ ys, zs = encNumber v ++ ys ∧ Rem r' ys ∧ r'.xs = r.xs := by
 unfold Rdr.number at hr
 rcases hg : r.row 9 127 with ⟨u, r1⟩
 rw [hg] at hr
 cases hr
 obtain ⟨h1, h2, ys, h3⟩ := row_inv (by omega) (by omega) h hg he
 simp only [Nat.reduceAdd, Nat.reduceSub, Nat.reducePow, Nat.reduceMul] at h2
 exact ⟨h1, by omega, by omega, ys, by simpa [encNumber] using h3⟩

theorem zig_zag (u : Nat) : zig (zag u) = u := by
 unfold zag zig
 by_cases h : u % 2 = 0
 ·rw [if_pos h, if_pos (by omega)]; omega
 ·rw [if_neg h, if_neg (by omega)]; omega

theorem int_inv {r r' : Rdr} {v : Int} {zs : Bs} (h : Rem r zs) (hr : r.int = (v, r')) (he : r'.err = 0) : r.err = 0 ∧ -9223372036854775808 ≤ v ∧ v ≤ 9223372036854775807 ∧ ∃ ys, zs = encInt v ++ ys ∧ Rem r' ys ∧ r'.xs = r.xs := by
 unfold Rdr.int at hr
 rcases hg : r.row 10 1 with ⟨u, r1⟩
 rw [hg] at hr
 cases hr
 obtain ⟨h1, h2, ys, h3⟩ := row_inv (by omega) (by omega) h hg he
 simp only [Nat.reduceAdd, Nat.reduceSub, Nat.reducePow, Nat.reduceMul] at h2
 refine ⟨h1, ?_, ?_, ys, by simpa [encInt, zig_zag] using h3⟩
 ·unfold zag; split <;> omega
 ·unfold zag; split <;> omega

theorem text_inv {r r' : Rdr} {s zs : Bs} {most : Int} (h : Rem r zs) (hr : r.text most = (s, r')) (he : r'.err = 0) : r.err = 0 ∧ ((s.length : Int) ≤ most ∨ s = []) ∧ s.length ≤ 9223372036854775807 ∧ ∃ ys, zs = encText s ++ ys ∧ Rem r' ys ∧ r'.xs = r.xs := by
 unfold Rdr.text at hr
 by_cases h0 : r.err ≠ 0
 ·rw [if_pos h0] at hr; cases hr; exact absurd he h0
 ·rw [if_neg h0] at hr
  rcases hg : r.number with ⟨n, q⟩
  rw [hg] at hr
  simp only at hr
  by_cases h1 : q.err ≠ 0
  ·rw [if_pos h1] at hr; cases hr; exact absurd he h1
  ·rw [if_neg h1] at hr
   by_cases h2 : max most 0 < n
   ·rw [if_pos h2] at hr; cases hr; simp [Rdr.fail] at he
   ·rw [if_neg h2] at hr
    by_cases h3 : ((q.xs.length : Int) - q.pos) < n
    ·rw [if_pos h3] at hr; cases hr; simp [Rdr.fail] at he
    ·rw [if_neg h3] at hr
     obtain ⟨e0, hn0, hn1, ys, hz, hrem, hxs⟩ := number_inv h hg (by simpa using h1)
     cases hr
     have hlen := hrem.len
     have hd := hrem.2
     have htl : (ys.take n.toNat).length = n.toNat := by rw [List.length_take]; omega
     rw [hd]
     have hrem2 : Rem q (ys.take n.toNat ++ ys.drop n.toNat) := by rw [List.take_append_drop]; exact hrem
     have h5 := hrem2.adv
     rw [htl] at h5
     refine ⟨e0, ?_, by rw [htl]; omega, ys.drop n.toNat, ?_, h5, hxs⟩
     ·by_cases hm : 0 ≤ most
      ·left; rw [htl]; omega
      ·right
       have : n.toNat = 0 := by omega
       rw [this]; rfl
     ·rw [hz, encText, htl, List.append_assoc, List.take_append_drop]; rfl

theorem end_zero {r : Rdr} {zs : Bs} (h : Rem r zs) (he : r.err = 0) : r.end_ = if zs = [] then 0 else 3 := by
 have := h.len
 unfold Rdr.end_
 by_cases hz : zs = []
 ·subst hz; rw [if_pos rfl, if_neg (by simp at this; omega), he]
 ·have : 0 < zs.length := List.length_pos_iff.2 hz
  rw [if_neg hz, if_pos ⟨he, by omega⟩]

/-! ### values -/
theorem ofBs_back (s : ByteArray) : ofBs s.data.toList = s := by cases s; simp [ofBs]
theorem ofBs_data (s : Bs) : (ofBs s).data.toList = s := by simp [ofBs]
theorem size_data (s : ByteArray) : s.data.toList.length = s.size := by simp
theorem size_zero {s : ByteArray} (h : s.size = 0) : s = emptyB := by
 have : s.data.toList = [] := List.eq_nil_of_length_eq_zero (by rw [size_data, h])
 rw [← ofBs_back s, this]; rfl

def i64v (v : Val) : Prop := -9223372036854775808 ≤ v.num ∧ v.num ≤ 9223372036854775807

theorem datumCheck_zero {v : Val} (h : datumCheck v = 0) : (v.kind = 0 ∧ v.num = 0 ∧ v.text = emptyB) ∨ (v.kind = 1 ∧ v.text = emptyB) ∨ (v.kind = 2 ∧ v.num = 0 ∧ v.text.size ≤ 256) := by
 unfold datumCheck at h
 by_cases h1 : ¬ (v.kind = 0 ∨ v.kind = 1 ∨ v.kind = 2)
 ·rw [if_pos h1] at h; simp at h
 ·rw [if_neg h1] at h
  by_cases h2 : (v.kind ≠ 1 ∧ v.num ≠ 0) ∨ (v.kind ≠ 2 ∧ v.text.size ≠ 0)
  ·rw [if_pos h2] at h; simp at h
  ·rw [if_neg h2] at h
   by_cases h3 : 256 < v.text.size
   ·rw [if_pos h3] at h; simp at h
   ·have h4 : v.kind ≠ 2 → v.text = emptyB := fun hk => size_zero (by omega)
    rcases (show v.kind = 0 ∨ v.kind = 1 ∨ v.kind = 2 by omega) with hk | hk | hk
    ·exact .inl ⟨hk, by omega, h4 (by omega)⟩
    ·exact .inr (.inl ⟨hk, h4 (by omega)⟩)
    ·exact .inr (.inr ⟨hk, by omega, by omega⟩)

theorem end_ok {r : Rdr} (h : r.end_ = 0) : r.err = 0 := by
 unfold Rdr.end_ at h
 by_cases hc : r.err = 0 ∧ r.pos < r.xs.length
 ·exact hc.1
 ·rw [if_neg hc] at h; exact h
theorem end_nil {r : Rdr} {zs : Bs} (h : Rem r zs) (he : r.end_ = 0) : zs = [] := by
 have := end_zero h (end_ok he)
 rcases Classical.em (zs = []) with hz | hz
 ·exact hz
 ·rw [if_neg hz] at this; rw [this] at he; simp at he

theorem emptyB_size : emptyB.size = 0 := rfl

theorem datum_form {b : Bs} {v : Val} (h : datumDecode b = (v, 0)) : datumCheck v = 0 ∧ i64v v ∧ datumBytes v = b := by
 unfold datumDecode at h
 rcases hb : (Rdr.new b).byte with ⟨k, r1⟩
 rw [hb] at h
 simp only at h
 by_cases h1 : r1.err ≠ 0
 ·rw [if_pos h1] at h; exact absurd (congrArg Prod.snd h) h1
 ·rw [if_neg h1] at h
  have he1 : r1.err = 0 := by simpa using h1
  obtain ⟨_, c, ys, hz, hk, hrem, _⟩ := byte_inv (Rem.new b) hb he1
  by_cases h2 : ¬ (k = 0 ∨ k = 1 ∨ k = 2)
  ·rw [if_pos h2] at h; simp at h
  ·rw [if_neg h2] at h
   have hc : c = UInt8.ofNat k := by rw [hk, u8_back]
   clear hk
   rcases (show k = 0 ∨ k = 1 ∨ k = 2 by omega) with rfl | rfl | rfl
   ·simp only [Nat.zero_ne_one, if_false, show ¬ (0 : Nat) = 2 by omega] at h
    by_cases h3 : r1.end_ ≠ 0
    ·rw [if_pos h3] at h; exact absurd (congrArg Prod.snd h) h3
    ·rw [if_neg h3] at h
     have hy := end_nil hrem (by simpa using h3)
     cases h
     subst hy
     exact ⟨by simp [datumCheck, emptyB_size], by simp [i64v], by simp [datumBytes, hz, hc]⟩
   ·simp only [if_true] at h
    rcases hi : r1.int with ⟨n, r2⟩
    rw [hi] at h
    simp only at h
    by_cases h3 : r2.end_ ≠ 0
    ·rw [if_pos h3] at h; exact absurd (congrArg Prod.snd h) h3
    ·rw [if_neg h3] at h
     have he2 : r2.err = 0 := end_ok (by simpa using h3)
     obtain ⟨_, hn0, hn1, zs, hz2, hrem2, _⟩ := int_inv hrem hi he2
     have hzs := end_nil hrem2 (by simpa using h3)
     cases h
     subst hzs
     exact ⟨by simp [datumCheck, emptyB_size], ⟨hn0, hn1⟩, by simp [datumBytes, hz, hc, hz2]⟩
   ·simp only [show ¬ (2 : Nat) = 1 by omega, if_false, if_true] at h
    rcases hi : r1.text 256 with ⟨s, r2⟩
    rw [hi] at h
    simp only at h
    by_cases h3 : r2.end_ ≠ 0
    ·rw [if_pos h3] at h; exact absurd (congrArg Prod.snd h) h3
    ·rw [if_neg h3] at h
     have he2 : r2.err = 0 := end_ok (by simpa using h3)
     obtain ⟨_, hn0, hn1, zs, hz2, hrem2, _⟩ := text_inv hrem hi he2
     have hzs := end_nil hrem2 (by simpa using h3)
     cases h
     subst hzs
     have hsl : (ofBs s).size ≤ 256 := by
      rw [← size_data, ofBs_data]
      rcases hn0 with h | h
      ·omega
      ·subst h; simp
     refine ⟨by simp [datumCheck]; omega, by simp [i64v], ?_⟩
     simp [datumBytes, hz, hc, hz2, ofBs_data]

end Go.Proofs.YtnieminnnkbneaaGreat
