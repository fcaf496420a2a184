/- Walk of treadleref12.Decode. -/
import Derived.Test.YtnmcdifkknphgaaBy
namespace Go.Proofs.Ytnmcdifkknphgaa
open Go.RowKit

theorem loc_two {w : World} {b : Nat} {v0 v1 : Value} {t : TypeId} (h : Loc w b #[v0, v1] t) : w.cell? ⟨b, 0, none⟩ = some v0 ∧ w.cell? ⟨b, 1, none⟩ = some v1 ∧ w.frozen? ⟨b, 0, none⟩ = false ∧ w.frozen? ⟨b, 1, none⟩ = false :=
  ⟨h.cell 0, h.cell 1, h.free 0, h.free 1⟩
/-- Two cells stored. -/
def put2 (w : World) (b : Nat) (u0 u1 : Value) : World := (w.setCell ⟨b, 0, none⟩ u0).setCell ⟨b, 1, none⟩ u1
theorem loc_put2 {w0 w : World} {b : Nat} {v0 v1 : Value} {t : TypeId} (h : Loc w b #[v0, v1] t) (hb : Below w0.heap.size w0 w) (hw : w0.heap.size ≤ b) (u0 u1 : Value) :
    Loc (put2 w b u0 u1) b #[u0, u1] t ∧ Below w0.heap.size w0 (put2 w b u0 u1) := by
  have g : Loc (put2 w b u0 u1) b #[u0, u1] t := (h.set 0 u0).set 1 u1
  exact ⟨g, (hb.setCell (p := ⟨b, 0, none⟩) hw _).setCell (p := ⟨b, 1, none⟩) hw _⟩

theorem two_numbers {xs : Bs} {r1 r2 : Rdr} {f n : Int} (h1 : (Rdr.new xs).number = (f, r1)) (h2 : r1.number = (n, r2)) (he : r2.err = 0) : i64R f ∧ ∃ zs, Rem r2 zs ∧ r2.xs = xs := by
  have hs1 : r1.err = 0 := by
    rcases Classical.em (r1.err = 0) with h | h
    · exact h
    · unfold Rdr.number Rdr.row at h2
      rw [if_pos h] at h2
      have := (Prod.mk.inj h2).2
      rw [← this] at he; exact he
  obtain ⟨_, ha0, ha1, z2, _, hr2, hx2⟩ := number_inv (Rem.new xs) h1 hs1
  obtain ⟨_, _, _, z3, _, hr3, hx3⟩ := number_inv hr2 h2 he
  exact ⟨by unfold i64R; omega, z3, hr3, by rw [hx3, hx2]; rfl⟩

theorem bdecTail_err {f e : Int} {l : List Txn} {r : Rdr} (h : e ≠ 0) : bdecTail f ((l, r), e) = (.zero, e) := by
  unfold bdecTail
  rw [if_pos h]

/-- The blocks of Decode: the result, the reader, the batch, its list. -/
structure CSb (w W : World) (rb pb : Nat) (c0 c1 c2 c3 p0 p1 V : Value) (n : Nat) (cs : List Value) : Prop where
  z : Loc W w.heap.size #[.int .i64 0, .slice none 0 0] 24
  r : Loc W rb #[c0, c1, c2, c3] 95
  p : Loc W pb #[p0, p1] 24
  o : W.ownsRow w.heap.size 30 6 V n cs
  b : Below w.heap.size w W
  lr : w.heap.size < rb
  lp : rb < pb

namespace CSb
variable {w W X : World} {rb pb : Nat} {c0 c1 c2 c3 p0 p1 V : Value} {n : Nat} {cs : List Value}
theorem below (h : CSb w W rb pb c0 c1 c2 c3 p0 p1 V n cs) (hb : Below W.heap.size W X) : CSb w X rb pb c0 c1 c2 c3 p0 p1 V n cs :=
  ⟨h.z.below hb h.z.lt, h.r.below hb h.r.lt, h.p.below hb h.p.lt, owns_mono' h.o hb, below_then h.b hb h.b.size, h.lr, h.lp⟩
theorem alloc (h : CSb w W rb pb c0 c1 c2 c3 p0 p1 V n cs) (o : Obj) : CSb w (W.alloc o) rb pb c0 c1 c2 c3 p0 p1 V n cs := h.below ((Below.refl _ _).alloc (Nat.le_refl _) o)
theorem putR (h : CSb w W rb pb c0 c1 c2 c3 p0 p1 V n cs) (u0 u1 u2 u3 : Value) : CSb w (put4 W rb u0 u1 u2 u3) rb pb u0 u1 u2 u3 p0 p1 V n cs := by
  obtain ⟨_, _, _, _, r, b⟩ := h.r.put4 h.b (Nat.le_of_lt h.lr) u0 u1 u2 u3
  have lr := h.lr
  have lp := h.lp
  exact ⟨loc_put4o h.z (by omega) _ _ _ _, r, loc_put4o h.p (by omega) _ _ _ _, owns_put4 h.o h.r (by decide) u0 u1 u2 u3, b, lr, lp⟩
theorem set0 (h : CSb w W rb pb c0 c1 c2 c3 p0 p1 V n cs) (v : Value) : CSb w (W.setCell ⟨pb, 0, none⟩ v) rb pb c0 c1 c2 c3 v p1 V n cs := by
  have lr := h.lr
  have lp := h.lp
  exact ⟨h.z.other (a := ⟨pb, 0, none⟩) (show w.heap.size ≠ pb by omega) v, h.r.other (a := ⟨pb, 0, none⟩) (show rb ≠ pb by omega) v, h.p.set 0 v, owns_setCell (a := ⟨pb, 0, none⟩) h.o (owns_ne h.o h.p (by decide)) v,
    h.b.setCell (p := ⟨pb, 0, none⟩) (show w.heap.size ≤ pb by omega) v, lr, lp⟩
theorem set1 (h : CSb w W rb pb c0 c1 c2 c3 p0 p1 V n cs) (v : Value) : CSb w (W.setCell ⟨pb, 1, none⟩ v) rb pb c0 c1 c2 c3 p0 v V n cs := by
  have lr := h.lr
  have lp := h.lp
  exact ⟨h.z.other (a := ⟨pb, 1, none⟩) (show w.heap.size ≠ pb by omega) v, h.r.other (a := ⟨pb, 1, none⟩) (show rb ≠ pb by omega) v, h.p.set 1 v, owns_setCell (a := ⟨pb, 1, none⟩) h.o (owns_ne h.o h.p (by decide)) v,
    h.b.setCell (p := ⟨pb, 1, none⟩) (show w.heap.size ≤ pb by omega) v, lr, lp⟩
theorem grown (h : CSb w W rb pb c0 c1 c2 c3 p0 p1 V n cs) {V1 : Value} {m : Nat} {ds : List Value} (hown : X.ownsRow 0 30 6 V1 m ds) (hg : W.grownBy X V.ownBlock) (hb : ∀ k, V1.ownBlock = some k → V.ownBlock = some k ∨ k = W.heap.size) :
    CSb w X rb pb c0 c1 c2 c3 p0 p1 V1 m ds := by
  obtain ⟨o, b⟩ := own_next0 h.o hown hg hb h.b.size h.b
  exact ⟨h.z.grown hg (owns_ne h.o h.z (by decide)), h.r.grown hg (owns_ne h.o h.r (by decide)), h.p.grown hg (owns_ne h.o h.p (by decide)), o, b, h.lr, h.lp⟩
end CSb


set_option maxRecDepth 100000 in
set_option maxHeartbeats 8000000 in
theorem rbdecode_any (A : Option Addr) (c : Nat) (xs : Bs) (w : World) (hr : Row w A (cellsB xs)) (hl : xs.length ≤ 140737488355328) (hz : A = none → xs.length = 0) (hcap : xs.length ≤ c) :
    Calls Try.prog 19 #[.slice A xs.length c] w (BDPost xs w) := by
  by_cases hbig : 65536 < xs.length
  · have hd : batDecode xs = (.zero, 4) := by
      unfold batDecode
      rw [if_pos hbig]
    have hbig' : (65536 : Int) < (xs.length : Int) := by omega
    obtain ⟨N, hN⟩ : ∃ N, N = xs.length := ⟨_, rfl⟩
    rw [← hN] at hbig' hl ⊢
    have HD := Lib.hid hd
    have b1 := (Below.refl w.heap.size w).alloc (Nat.le_refl _) (.cells #[.int .i64 0, .slice none 0 0] 24)
    obtain ⟨y0, y1, _⟩ := loc_two (Loc.new w #[.int .i64 0, .slice none 0 0] 24)
    clear hr hz hcap hd hbig hN
    go_enter Try.func19, Try.ntmps19
    go_wp2
    exact bodyPost_ret (v := .tuple #[.agg #[.int .i64 0, .slice none 0 0], .int .i64 4]) (by simp [results, Try.results19, go_sem, y0, y1]) rfl (BDPost.none HD.out b1)
  obtain ⟨f, r1, h1⟩ : ∃ f r1, (Rdr.new xs).number = (f, r1) := ⟨_, _, rfl⟩
  obtain ⟨n, r2, h2⟩ : ∃ n r2, r1.number = (n, r2) := ⟨_, _, rfl⟩
  have hpd := batDecode_eq hbig h1 h2
  have x1 := number_xs (Rdr.new xs)
  have p1 := number_pos (s := Rdr.new xs) (Nat.zero_le _)
  rw [h1] at x1 p1
  simp only [show (Rdr.new xs).xs = xs from rfl] at x1 p1
  have x2 := number_xs r1
  have p2 := number_pos (s := r1) (by rw [x1]; exact p1)
  have hn := number_nonneg r1
  rw [h2, x1] at x2 p2
  rw [h2] at hn
  simp only at x2 p2 hn
  have c1 := fun W (h : Below w.heap.size w W) => number_N A xs.length c (Rdr.new xs) 0 rfl W (hr.of_below h (Nat.le_refl _)) (Nat.zero_le _) hl hz
  have c2 := fun st W (h : Below w.heap.size w W) => number_N A xs.length c r1 st (by rw [x1]) W (by rw [x1]; exact hr.of_below h (Nat.le_refl _)) p1 hl hz
  have ct := fun (q : Rdr) st W (hx : q.xs = xs) (hq : q.pos ≤ xs.length) (h : Below w.heap.size w W) => btaken_any A c q st W (by rw [hx]; exact hr.of_below h (Nat.le_refl _)) (by rw [hx]; exact hq) (by rw [hx]; exact hl) (by rw [hx]; exact hz) (by rw [hx]; exact hcap)
  have ce := fun (q : Rdr) st W (hx : q.xs = xs) (hq : q.pos ≤ xs.length) => end_N A xs.length c q st (by rw [hx]) W hq hl
  rw [h1] at c1
  rw [h2] at c2
  have hct : ∀ (q : Rdr) st W (_ : q.xs = xs) (_ : q.pos ≤ xs.length) (_ : Below w.heap.size w W), Calls Try.prog 42 #[.agg (rvC A xs.length c q.pos q.err st)] W (RTx A xs.length c (readTxn xs.length q) W) := fun q st W hx hq h => by
    have := ct q st W hx hq h
    rw [hx] at this
    exact this
  clear ct
  obtain ⟨N, hN⟩ : ∃ N, N = xs.length := ⟨_, rfl⟩
  simp only [show (Rdr.new xs).pos = 0 from rfl, show (Rdr.new xs).err = 0 from rfl, show ((0 : Nat) : Int) = 0 from rfl] at c1
  rw [← hN] at c1 c2 hct ce p1 p2 hl hcap hbig hpd
  rw [show (.slice A xs.length c : Value) = .slice A N c by rw [hN]]
  have crd := fun W => rtread_any A N c W
  have HPD := Lib.hid hpd
  have HN := Lib.hid hN
  have C1 := Lib.hid c1
  have C2 := Lib.hid c2
  have CT := Lib.hid hct
  have CE := Lib.hid ce
  have CRD := Lib.hid crd
  have H1 := Lib.hid h1
  have H2 := Lib.hid h2
  have hbig' : ¬ (65536 : Int) < (N : Int) := by omega
  clear hr hz h1 h2 hpd x1 x2 c1 c2 hct ce crd hN p1 p2 hbig
  unfold rvC at C1 C2 CRD CE CT
  go_enter Try.func19, Try.ntmps19
  have Z1 := Loc.new w #[.int .i64 0, .slice none 0 0] 24
  have b1 := (Below.refl w.heap.size w).alloc (Nat.le_refl _) (.cells #[.int .i64 0, .slice none 0 0] 24)
  go_wp2_with fail
  refine (CRD.out _).mono ?_; rintro e w1 ⟨rfl, hb⟩
  have C0 : CSb w ((w1.alloc (.cells #[.slice A N c, .int .i64 0, .int .i64 0, .int .i64 0] 95)).alloc (.cells #[.int .i64 0, .slice none 0 0] 24)) w1.heap.size (w1.heap.size + 1) (.slice A N c) (.int .i64 0) (.int .i64 0) (.int .i64 0) (.int .i64 0) (.slice none 0 0) (.slice none 0 0) 0 [] := by
    have Z2 := Z1.below hb Z1.lt
    have b2 := below_then b1 hb b1.size
    have pn := Loc.new (w1.alloc (.cells #[.slice A N c, .int .i64 0, .int .i64 0, .int .i64 0] 95)) #[.int .i64 0, .slice none 0 0] 24
    simp only [World.size_alloc] at pn
    exact ⟨(Z2.alloc _).alloc _, (Loc.new w1 _ _).alloc _, pn, World.ownsRow_nil _ _ _ _, (b2.alloc b2.size _).alloc (by have := b2.size; simp; omega) _, Z2.lt, by omega⟩
  clear Z1 b1 hb CRD
  generalize hpb : w1.heap.size + 1 = pb at C0
  have hpb1 : w1.heap.size < pb := by omega
  have HPB := Lib.hid hpb
  go_wp2_with fail
  refine (C1.out _ C0.b).mono ?_; rintro e w2 ⟨st1, rfl, hb⟩
  unfold rvC
  have D1 := C0.below hb
  have hne1 : ¬ w1.heap.size = pb := by omega
  have hne2 : ¬ pb = w1.heap.size := by omega
  clear C0 hb C1 hpb
  obtain ⟨r0, r1', r2', r3', rf0, rf1, rf2, rf3⟩ := D1.r.four
  obtain ⟨q0, q1, qf0, qf1⟩ := loc_two D1.p
  have D2 := (D1.set0 (.int .i64 f)).putR (.slice A N c) (.int .i64 r1.pos) (.int .i64 r1.err) (.int .i64 st1)
  unfold put4 at D2
  clear D1
  go_wp2_with fail
  refine (C2.out st1 _ D2.b).mono ?_; rintro e w3 ⟨st2, rfl, hb⟩
  unfold rvC
  have D3 := D2.below hb
  clear D2 hb C2 r0 r1' r2' r3' rf0 rf1 rf2 rf3 q0 q1 qf0 qf1
  obtain ⟨r0, r1', r2', r3', rf0, rf1, rf2, rf3⟩ := D3.r.four
  obtain ⟨q0, q1, qf0, qf1⟩ := loc_two D3.p
  have D4 := D3.putR (.slice A N c) (.int .i64 r2.pos) (.int .i64 r2.err) (.int .i64 st2)
  unfold put4 at D4
  have hne3 : ¬ w.heap.size = w1.heap.size := by have := D3.lr; omega
  have hne4 : ¬ w1.heap.size = w.heap.size := by have := D3.lr; omega
  by_cases he : r2.err = 0
  · have hpd := HPD.out
    rw [if_neg (by simpa using he)] at hpd
    have HPD1 := Lib.hid hpd
    have HE := Lib.hid he
    have htn := two_numbers H1.out H2.out he
    have HTN := Lib.hid htn
    have ht : (r2.err != 0) = false := by simp [he]
    clear hpd HPD he htn
    go_upto_if 31 with (fail)
    obtain ⟨w4, hw4⟩ : ∃ w4, w4 = (((w3.setCell ⟨w1.heap.size, 0, none⟩ (.slice A N c)).setCell ⟨w1.heap.size, 1, none⟩ (.int .i64 r2.pos)).setCell ⟨w1.heap.size, 2, none⟩ (.int .i64 r2.err)).setCell ⟨w1.heap.size, 3, none⟩ (.int .i64 st2) := ⟨_, rfl⟩
    rw [← hw4] at D4 ⊢
    clear hw4 D3 r0 r1' r2' r3' rf0 rf1 rf2 rf3 q0 q1 qf0 qf1
    by_cases hn64 : 64 < n
    · have hd : batDecode xs = (.zero, 1) := by rw [HPD1.out, if_pos hn64]
      obtain ⟨z0, z1, zf0, zf1⟩ := loc_two D4.z
      obtain ⟨yz, be⟩ := loc_put2 D4.z D4.b (Nat.le_refl _) (.int .i64 0) (.slice none 0 0)
      unfold put2 at yz be
      obtain ⟨y0, y1, _⟩ := loc_two yz
      have HY := Lib.hid (And.intro y0 y1)
      have HB := Lib.hid be
      have HD := Lib.hid hd
      clear y0 y1 yz be
      go_wp2
      obtain ⟨y0, y1⟩ := HY.out
      exact bodyPost_ret (v := .tuple #[.agg #[.int .i64 0, .slice none 0 0], .int .i64 1]) (by simp [results, Try.results19, go_sem, y0, y1]) rfl (BDPost.none HD.out HB.out)
    · obtain ⟨m, rfl⟩ := Int.eq_ofNat_of_zero_le hn.1
      have hpd := HPD1.out
      rw [if_neg hn64, Int.toNat_natCast] at hpd
      have HPD2 := Lib.hid hpd
      have hm64 : m ≤ 64 := by omega
      clear hpd HPD1 hn
      go_wp2
      clear hn64
      go_loopw [7] (fun i wr => ∃ (k : Nat) (l : List TxnC) (q : Rdr) (B : Option Addr) (d : Nat) (st4 : Int), k ≤ m ∧ i = .int .i64 k ∧ Hid (l.length = k) ∧ Hid (∃ zs, Rem q zs ∧ q.err = 0 ∧ q.xs = xs) ∧ Hid (readTxns N m r2 [] = readTxns N (m - k) q (l.map (·.t))) ∧ Hid (∀ x ∈ l, x.own wr w.heap.size) ∧ Hid (∀ x ∈ l, x.t.shape) ∧
          CSb w wr w1.heap.size pb (.slice A N c) (.int .i64 q.pos) (.int .i64 q.err) (.int .i64 st4) (.int .i64 f) (.slice B k d) (.slice B k d) k (txnsCells l)) (fun i _ => m - (intOf i).toNat)
      case atStart => exact ⟨0, [], r2, none, 0, st2, Nat.zero_le _, rfl, Lib.hid rfl, Lib.hid (by obtain ⟨_, zs, h, hx⟩ := HTN.out; exact ⟨zs, h, HE.out, hx⟩), Lib.hid rfl, Lib.hid (fun x hx => by cases hx), Lib.hid (fun x hx => by cases hx), D4⟩
      case round =>
        obtain ⟨wo, rfl⟩ : ∃ wo, wo = wr := ⟨_, rfl⟩
        obtain ⟨k, l, q, B, d, st4, hk, rfl, HL, HR, HS, HO, HSH, D5⟩ := hrel
        clear D4
        by_cases hkm : k < m
        · have hkm' : (k : Int) < (m : Int) := by omega
          obtain ⟨g, hg⟩ : ∃ g, m - k = g + 1 := ⟨m - k - 1, by omega⟩
          have hg' : g = m - (k + 1) := by omega
          obtain ⟨X, q2, ee, hX⟩ : ∃ X q2 ee, readTxn N q = ((X, q2), ee) := ⟨_, _, _, rfl⟩
          have hs := HS.out
          rw [hg, readTxns_step, hX] at hs
          simp only at hs
          obtain ⟨zs, hrem, hqe, hqx⟩ := HR.out
          have ctk := fun W h => CT.out q st4 W hqx (by have := hrem.1; rw [hqx, ← HN.out] at this; exact this) h
          rw [hX] at ctk
          have HTK := Lib.hid ctk
          have HS2 := Lib.hid hs
          have HREM := Lib.hid hrem
          have HQX := Lib.hid hqx
          have HXX := Lib.hid hX
          have HG := Lib.hid hg'
          clear hs ctk hrem hqe hqx hX hg hg' HS
          obtain ⟨r0, r1', r2', r3', rf0, rf1, rf2, rf3⟩ := D5.r.four
          obtain ⟨q0, q1, qf0, qf1⟩ := loc_two D5.p
          go_wp2_with fail
          refine (HTK.out _ D5.b).mono ?_; rintro e w7 ⟨T, R, st5, rfl, hb, hyes⟩
          have D6 := D5.below hb
          have hxo6 := fun x hx => TxnC.own.below (HO.out x hx) hb
          have HYES := Lib.hid hyes
          obtain ⟨⟨tk, ⟨pn, pa, pc⟩, nm, vs⟩, TA, Tc, TB, Td⟩ := T
          unfold TxnC.cells rvC
          clear hyes r0 r1' r2' r3' rf0 rf1 rf2 rf3 q0 q1 qf0 qf1
          by_cases hee : ee = 0
          · subst hee
            obtain ⟨hT, hTo, rfl⟩ := HYES.out rfl
            simp only at hT hTo
            have hs := HS2.out
            rw [if_neg (by simp)] at hs
            obtain ⟨hsh, zs2, _, hrem2, hre2, hrx2⟩ := readTxn_inv HREM.out HXX.out
            have HS3 := Lib.hid hs
            have HR2 : Hid (∃ zs, Rem R zs ∧ R.err = 0 ∧ R.xs = xs) := Lib.hid ⟨zs2, hrem2, hre2, by rw [hrx2, HQX.out]⟩
            have HT := Lib.hid hT
            have hTo2 := TxnC.own.mono hTo D5.b.size
            have hshx : X.shape := hsh
            have HSX := Lib.hid hshx
            have hxa : ∀ x ∈ l ++ [⟨⟨tk, ⟨pn, pa, pc⟩, nm, vs⟩, TA, Tc, TB, Td⟩], x.own w7 w.heap.size := fun x hx => by
              rcases List.mem_append.1 hx with hx | hx
              · exact hxo6 x hx
              · rw [List.mem_singleton.1 hx]; exact hTo2
            have D7 := D6.putR (.slice A N c) (.int .i64 R.pos) (.int .i64 R.err) (.int .i64 st5)
            have hxa7 := fun x hx => TxnC.own.put4 (hxa x hx) D6.r (.slice A N c) (.int .i64 R.pos) (.int .i64 R.err) (.int .i64 st5)
            unfold put4 at D7 hxa7
            have D8 := D7.alloc (.cells #[.int .i64 tk, .string pn, .int .i64 pa, .slice TB pc.length Td, .string nm, .slice TA vs.length Tc] 30)
            have D9 := D8.alloc (.cells #[.slice A N c, .int .i64 R.pos, .int .i64 R.err, .int .i64 st5] 95)
            have D10 := D9.alloc (.cells #[.int .i64 tk, .string pn, .int .i64 pa, .slice TB pc.length Td, .string nm, .slice TA vs.length Tc] 30)
            have bn := fun (W : World) => (((Below.refl W.heap.size W).alloc (Nat.le_refl _) (.cells #[.int .i64 tk, .string pn, .int .i64 pa, .slice TB pc.length Td, .string nm, .slice TA vs.length Tc] 30)).alloc (by simp) (.cells #[.slice A N c, .int .i64 R.pos, .int .i64 R.err, .int .i64 st5] 95)).alloc (by simp; omega) (.cells #[.int .i64 tk, .string pn, .int .i64 pa, .slice TB pc.length Td, .string nm, .slice TA vs.length Tc] 30)
            have hxa10 := fun x hx => TxnC.own.below (hxa7 x hx) (bn _)
            have lz := D6.z.lt
            have lr := D6.r.lt
            have lpp := D6.p.lt
            have hsrc := fun (W : World) => Row.src (P := Try.prog) (c := 1) (size := 6) (n := 1) (tx := 22) (Row.of_loc (Loc.new W #[.int .i64 tk, .string pn, .int .i64 pa, .slice TB pc.length Td, .string nm, .slice TA vs.length Tc] 30)) Try.underlying22 rfl (by simp [Value.oneCell']) (fun h => by simp at h)
            have hs10 := hsrc ((((((w7.setCell ⟨w1.heap.size, 0, none⟩ (.slice A N c)).setCell ⟨w1.heap.size, 1, none⟩ (.int .i64 R.pos)).setCell ⟨w1.heap.size, 2, none⟩ (.int .i64 R.err)).setCell ⟨w1.heap.size, 3, none⟩ (.int .i64 st5)).alloc (.cells #[.int .i64 tk, .string pn, .int .i64 pa, .slice TB pc.length Td, .string nm, .slice TA vs.length Tc] 30)).alloc (.cells #[.slice A N c, .int .i64 R.pos, .int .i64 R.err, .int .i64 st5] 95))
            simp only [World.size_alloc, World.size_setCell] at hs10
            have HSRC := Lib.hid hs10
            have HXA := Lib.hid hxa10
            have l10 := D10.b.size
            obtain ⟨r0, r1', r2', r3', rf0, rf1, rf2, rf3⟩ := D6.r.four
            obtain ⟨q0, q1, qf0, qf1⟩ := loc_two D6.p
            clear hsrc hs10 bn hxa hxa7 hxa10 hxo6 hT hTo hTo2 hs hsh hshx hrem2 hre2 hrx2 HYES HTK HS2 D7 D8 D9 D5
            go_wp2_with (at_builtin; refine wpList_append_mine _ rfl _ _ 22 22 rfl 30 (.agg #[.int .i64 0, .string ⟨#[]⟩, .int .i64 0, .slice none 0 0, .string ⟨#[]⟩, .slice none 0 0]) 6 96 Try.underlying22 infoTxn rfl (by decide) (.slice B k d) k (txnsCells l) rfl (owns_base (base' := 0) D10.o (fun _ _ => Nat.zero_le _)) _ 1 _ rfl HSRC.out (by unfold maxLen; omega) (by omega) ?_; intro A3 c3 w11 hown hgr hbl hx; have D11 := D10.grown hown hgr hbl; have hxa11 := fun x hx => TxnC.own.grown (HXA.out x hx) D10.o hgr; clear hown hgr hbl hx r0 r1' r2' r3' rf0 rf1 rf2 rf3 q0 q1 qf0 qf1 D10; obtain ⟨q0, q1, qf0, qf1⟩ := loc_two D11.p)
            have D12 := D11.set1 (.slice A3 (k + 1) c3)
            have hxa12 := fun x hx => TxnC.own.set (hxa11 x hx) D11.p (by decide) (by decide) 1 (.slice A3 (k + 1) c3)
            go_roundw
            case rel =>
              have htc : txnsCells (l ++ [⟨⟨tk, ⟨pn, pa, pc⟩, nm, vs⟩, TA, Tc, TB, Td⟩]) = txnsCells l ++ (#[.int .i64 tk, .string pn, .int .i64 pa, .slice TB pc.length Td, .string nm, .slice TA vs.length Tc] : Array Value).toList := by simp [txnsCells, TxnC.cells]
              refine ⟨k + 1, l ++ [⟨⟨tk, ⟨pn, pa, pc⟩, nm, vs⟩, TA, Tc, TB, Td⟩], R, A3, c3, st5, by omega, by go_num, Lib.hid (by simp [HL.out]), HR2, Lib.hid ?_, Lib.hid hxa12, Lib.hid (fun x hx => ?_), ?_⟩
              · rw [List.map_append, ← HG.out]
                have := HS3.out
                rw [← HT.out] at this
                exact this
              · rcases List.mem_append.1 hx with hx | hx
                · exact HSH.out x hx
                · rw [List.mem_singleton.1 hx]
                  have := HSX.out
                  rw [← HT.out] at this
                  exact this
              · rw [htc]
                exact D12
            case measure => simp [intOf]; omega
          · have hs := HS2.out
            rw [if_pos hee] at hs
            have hd : batDecode xs = (.zero, ee) := by rw [HPD2.out, hs]; exact bdecTail_err hee
            have htee : (ee != 0) = true := by simpa using hee
            have lz := D6.z.lt
            clear hs HS2 hee
            obtain ⟨z0, z1, zf0, zf1⟩ := loc_two D6.z
            obtain ⟨yz, be⟩ := loc_put2 D6.z D6.b (Nat.le_refl _) (.int .i64 0) (.slice none 0 0)
            unfold put2 at yz be
            have yz := (yz.alloc (.cells #[.int .i64 tk, .string pn, .int .i64 pa, .slice TB pc.length Td, .string nm, .slice TA vs.length Tc] 30)).alloc (.cells #[.slice A N c, .int .i64 R.pos, .int .i64 R.err, .int .i64 st5] 95)
            have be := (be.alloc be.size (.cells #[.int .i64 tk, .string pn, .int .i64 pa, .slice TB pc.length Td, .string nm, .slice TA vs.length Tc] 30)).alloc (by have := be.size; simp only [World.size_alloc]; omega) (.cells #[.slice A N c, .int .i64 R.pos, .int .i64 R.err, .int .i64 st5] 95)
            obtain ⟨y0, y1, _⟩ := loc_two yz
            have HY := Lib.hid (And.intro y0 y1)
            have HB := Lib.hid be
            have HD := Lib.hid hd
            clear y0 y1 yz be
            go_wp2
            obtain ⟨y0, y1⟩ := HY.out
            exact bodyPost_ret (v := .tuple #[.agg #[.int .i64 0, .slice none 0 0], .int .i64 ee]) (by simp [results, Try.results19, go_sem, y0, y1]) rfl (BDPost.none HD.out HB.out)
        · obtain rfl : k = m := by omega
          have hs := HS.out
          rw [Nat.sub_self, readTxns] at hs
          have hpd := HPD2.out
          rw [hs] at hpd
          unfold bdecTail at hpd
          simp only at hpd
          rw [if_neg (by simp)] at hpd
          have HPD3 := Lib.hid hpd
          obtain ⟨zs, hrem, hqe, hqx⟩ := HR.out
          have hce := fun W => CE.out q st4 W hqx (by have := hrem.1; rw [hqx, ← HN.out] at this; exact this)
          have HCE := Lib.hid hce
          have HFI := Lib.hid HTN.out.1
          clear hs hpd HS HPD2 hrem hqe hqx hce
          obtain ⟨r0, r1', r2', r3', rf0, rf1, rf2, rf3⟩ := D5.r.four
          obtain ⟨q0, q1, qf0, qf1⟩ := loc_two D5.p
          go_wp2_with fail
          refine (HCE.out _).mono ?_; rintro e w7 ⟨rfl, hb⟩
          have D6 := D5.below hb
          have hxo6 := fun x hx => TxnC.own.below (HO.out x hx) hb
          obtain ⟨E, hEE⟩ : ∃ E, E = q.end_ := ⟨_, rfl⟩
          rw [← hEE]
          have hpd := HPD3.out
          rw [← hEE] at hpd
          have HPD4 := Lib.hid hpd
          clear hpd hEE HPD3 D5 hb r0 r1' r2' r3' rf0 rf1 rf2 rf3 q0 q1 qf0 qf1
          obtain ⟨r0, r1', r2', r3', rf0, rf1, rf2, rf3⟩ := D6.r.four
          obtain ⟨q0, q1, qf0, qf1⟩ := loc_two D6.p
          by_cases hE0 : E = 0
          · subst hE0
            have hpd := HPD4.out
            rw [if_neg (by simp)] at hpd
            obtain ⟨z, hz⟩ : ∃ z, z = batCheck ⟨f, l.map (·.t)⟩ := ⟨_, rfl⟩
            rw [← hz] at hpd
            have hck := fun W (h1 : Row W B (txnsCells l)) (h2 : ∀ x ∈ l, x.ok W) => rbcheck_any f l B d W h1 h2 (fun x hx => shape_fit (HSH.out x hx)) (by rw [HL.out]; omega)
            rw [← hz, HL.out] at hck
            have HCK := Lib.hid hck
            have HPD5 := Lib.hid hpd
            clear hpd hck hz HPD4
            go_wp2_with fail
            refine (HCK.out _ (Row.of_owns D6.o) (fun x hx => (hxo6 x hx).ok)).mono ?_; rintro e w8 ⟨rfl, hb⟩
            have D7 := D6.below hb
            have hxo7 := fun x hx => TxnC.own.below (hxo6 x hx) hb
            clear D6 hxo6 hb HCK r0 r1' r2' r3' rf0 rf1 rf2 rf3 q0 q1 qf0 qf1
            by_cases hz0 : z = 0
            · subst hz0
              have hd : batDecode xs = (⟨f, l.map (·.t)⟩, 0) := by rw [HPD5.out, if_neg (by simp)]
              obtain ⟨r0, r1', r2', r3', rf0, rf1, rf2, rf3⟩ := D7.r.four
              obtain ⟨q0, q1, qf0, qf1⟩ := loc_two D7.p
              obtain ⟨z0, z1, zf0, zf1⟩ := loc_two D7.z
              obtain ⟨yz, be⟩ := loc_put2 D7.z D7.b (Nat.le_refl _) (.int .i64 f) (.slice B k d)
              have o1 := owns_setCell (a := ⟨w.heap.size, 0, none⟩) D7.o (owns_ne D7.o D7.z (by decide)) (.int .i64 f)
              have o2 := owns_setCell (a := ⟨w.heap.size, 1, none⟩) o1 (owns_ne o1 (D7.z.set 0 (.int .i64 f)) (by decide)) (.slice B k d)
              have x1 := fun x hx => (TxnC.own.set (hxo7 x hx) D7.z (by decide) (by decide) 0 (.int .i64 f)).set (D7.z.set 0 (.int .i64 f)) (by decide) (by decide) 1 (.slice B k d)
              unfold put2 at yz be
              obtain ⟨y0, y1, _⟩ := loc_two yz
              have HY := Lib.hid (And.intro y0 y1)
              have HB := Lib.hid be
              have HD := Lib.hid hd
              have HO1 := Lib.hid o2
              have HX1 := Lib.hid x1
              clear y0 y1 yz be o1 o2 x1 hd HPD5 hxo7
              go_wp2
              obtain ⟨y0, y1⟩ := HY.out
              refine bodyPost_ret (v := .tuple #[.agg #[.int .i64 f, .slice B k d], .int .i64 0]) (by simp [results, Try.results19, go_sem, y0, y1]) rfl ⟨l, B, d, ?_, ?_, ?_, HX1.out, HB.out⟩
              · rw [HD.out]
              · rw [HD.out, HL.out]
              · rw [HL.out]; exact HO1.out
            · have hd : batDecode xs = (.zero, z) := by rw [HPD5.out, if_pos hz0]
              have htz : (z != 0) = true := by simpa using hz0
              clear hz0 HPD5
              obtain ⟨z0, z1, zf0, zf1⟩ := loc_two D7.z
              obtain ⟨yz, be⟩ := loc_put2 D7.z D7.b (Nat.le_refl _) (.int .i64 0) (.slice none 0 0)
              unfold put2 at yz be
              obtain ⟨y0, y1, _⟩ := loc_two yz
              have HY := Lib.hid (And.intro y0 y1)
              have HB := Lib.hid be
              have HD := Lib.hid hd
              clear y0 y1 yz be
              go_wp2
              obtain ⟨y0, y1⟩ := HY.out
              exact bodyPost_ret (v := .tuple #[.agg #[.int .i64 0, .slice none 0 0], .int .i64 z]) (by simp [results, Try.results19, go_sem, y0, y1]) rfl (BDPost.none HD.out HB.out)
          · have hd : batDecode xs = (.zero, E) := by rw [HPD4.out, if_pos hE0]
            have htz : (E != 0) = true := by simpa using hE0
            clear hE0 HPD4
            obtain ⟨z0, z1, zf0, zf1⟩ := loc_two D6.z
            obtain ⟨yz, be⟩ := loc_put2 D6.z D6.b (Nat.le_refl _) (.int .i64 0) (.slice none 0 0)
            unfold put2 at yz be
            obtain ⟨y0, y1, _⟩ := loc_two yz
            have HY := Lib.hid (And.intro y0 y1)
            have HB := Lib.hid be
            have HD := Lib.hid hd
            clear y0 y1 yz be
            go_wp2
            obtain ⟨y0, y1⟩ := HY.out
            exact bodyPost_ret (v := .tuple #[.agg #[.int .i64 0, .slice none 0 0], .int .i64 E]) (by simp [results, Try.results19, go_sem, y0, y1]) rfl (BDPost.none HD.out HB.out)
  · have hd : batDecode xs = (.zero, r2.err) := by rw [HPD.out, if_pos (by simpa using he)]
    have ht : (r2.err != 0) = true := by simpa using he
    clear he HPD
    go_upto_if 31 with (fail)
    obtain ⟨w4, hw4⟩ : ∃ w4, w4 = (((w3.setCell ⟨w1.heap.size, 0, none⟩ (.slice A N c)).setCell ⟨w1.heap.size, 1, none⟩ (.int .i64 r2.pos)).setCell ⟨w1.heap.size, 2, none⟩ (.int .i64 r2.err)).setCell ⟨w1.heap.size, 3, none⟩ (.int .i64 st2) := ⟨_, rfl⟩
    rw [← hw4] at D4 ⊢
    clear hw4 D3 r0 r1' r2' r3' rf0 rf1 rf2 rf3 q0 q1 qf0 qf1
    obtain ⟨r0, r1', r2', r3', rf0, rf1, rf2, rf3⟩ := D4.r.four
    obtain ⟨q0, q1, qf0, qf1⟩ := loc_two D4.p
    obtain ⟨z0, z1, zf0, zf1⟩ := loc_two D4.z
    obtain ⟨yz, be⟩ := loc_put2 D4.z D4.b (Nat.le_refl _) (.int .i64 0) (.slice none 0 0)
    unfold put2 at yz be
    obtain ⟨y0, y1, _⟩ := loc_two yz
    have HY := Lib.hid (And.intro y0 y1)
    have HB := Lib.hid be
    have HD := Lib.hid hd
    clear y0 y1 yz be
    go_wp2
    go_region
    all_goals
      go_wp2
      obtain ⟨y0, y1⟩ := HY.out
      exact bodyPost_ret (v := .tuple #[.agg #[.int .i64 0, .slice none 0 0], .int .i64 r2.err]) (by simp [results, Try.results19, go_sem, y0, y1]) rfl (BDPost.none HD.out HB.out.drew)
end Go.Proofs.Ytnmcdifkknphgaa
