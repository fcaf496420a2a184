/- Walk of treadleref6.Decode. -/
import Derived.Test.YtnmcdifkknphgaaRefP
import Derived.Test.YtnmcdifkknphgaaOrd
import Derived.Test.YtnmcdifkknphgaaGen
namespace Go.Proofs.Ytnmcdifkknphgaa
open Go.RowKit

theorem taken_any (A : Option Addr) (c : Nat) (s : Rdr) (st : Int) (x : Ins) (u : UInt8) (hu : u = 65 ∨ u = 66 ∨ u = 67 ∨ u = 97 ∨ u = 78 ∨ u = 86) (w : World) (hr : Row w A (cellsB s.xs)) (hp : s.pos ≤ s.xs.length) (hl : s.xs.length ≤ 140737488355328) (hz : A = none → s.xs.length = 0) (hcap : s.xs.length ≤ c) :
    Calls Try.prog 97 #[.agg (rvC A s.xs.length c s.pos s.err st), .agg (insCells x), .int .u8 (u.toNat : Int)] w (RTaken A s.xs.length c (takenM s x u) w) := by
  rcases hu with rfl | rfl | rfl | rfl | rfl | rfl
  · exact taken_65 A c s st x w hr hp hl hz
  · exact taken_66 A c s st x w hr hp hl hz
  · exact taken_67 A c s st x w hr hp hl hz
  · exact taken_97 A c s st x w hr hp hl hz
  · exact taken_78 A c s st x w hr hp hl hz
  · exact taken_86 A c s st x w hr hp hl hz hcap

theorem takenM_xs (r : Rdr) (x : Ins) (c : UInt8) : (takenM r x c).1.1.xs = r.xs := by
  unfold takenM
  repeat' split
  all_goals first
    | exact byte_xs r
    | exact number_xs r
    | exact text_xs r _
theorem takenM_pos {r : Rdr} (x : Ins) (c : UInt8) (h : r.pos ≤ r.xs.length) : (takenM r x c).1.1.pos ≤ r.xs.length := by
  unfold takenM
  repeat' split
  all_goals first
    | exact byte_pos h
    | exact number_pos h
    | exact text_pos _ h
theorem takenM_err {r : Rdr} {x : Ins} {c : UInt8} : (takenM r x c).2 = 0 → (takenM r x c).1.1.err = 0 := by
  unfold takenM
  repeat' split
  all_goals first
    | exact fun h => h
    | (intro _; assumption)

theorem let_letter {op : Int} (h1 : 1 ≤ op) (h2 : op ≤ 16) : ∀ c ∈ fieldsS op, c = 65 ∨ c = 66 ∨ c = 67 ∨ c = 97 ∨ c = 78 ∨ c = 86 := by
  have h : op = 1 ∨ op = 2 ∨ op = 3 ∨ op = 4 ∨ op = 5 ∨ op = 6 ∨ op = 7 ∨ op = 8 ∨ op = 9 ∨ op = 10 ∨ op = 11 ∨ op = 12 ∨ op = 13 ∨ op = 14 ∨ op = 15 ∨ op = 16 := by omega
  rcases h with rfl | rfl | rfl | rfl | rfl | rfl | rfl | rfl | rfl | rfl | rfl | rfl | rfl | rfl | rfl | rfl <;> decide

/-- The blocks of Decode: the result, the reader, the procedure, its code. -/
structure CSt (w W : World) (rb pb : Nat) (c0 c1 c2 c3 p0 p1 p2 V : Value) (n : Nat) (cs : List Value) : Prop where
  z : Loc W w.heap.size #[.string ⟨#[]⟩, .int .i64 0, .slice none 0 0] 27
  r : Loc W rb #[c0, c1, c2, c3] 95
  p : Loc W pb #[p0, p1, p2] 27
  o : W.ownsRow w.heap.size 59 8 V n cs
  b : Below w.heap.size w W
  lr : w.heap.size < rb
  lp : rb < pb

namespace CSt
variable {w W X : World} {rb pb : Nat} {c0 c1 c2 c3 p0 p1 p2 V : Value} {n : Nat} {cs : List Value}
theorem below (h : CSt w W rb pb c0 c1 c2 c3 p0 p1 p2 V n cs) (hb : Below W.heap.size W X) : CSt w X rb pb c0 c1 c2 c3 p0 p1 p2 V n cs :=
  ⟨h.z.below hb h.z.lt, h.r.below hb h.r.lt, h.p.below hb h.p.lt, owns_mono' h.o hb, below_then h.b hb h.b.size, h.lr, h.lp⟩
theorem putR (h : CSt w W rb pb c0 c1 c2 c3 p0 p1 p2 V n cs) (u0 u1 u2 u3 : Value) : CSt w (put4 W rb u0 u1 u2 u3) rb pb u0 u1 u2 u3 p0 p1 p2 V n cs := by
  obtain ⟨_, _, _, _, r, b⟩ := h.r.put4 h.b (Nat.le_of_lt h.lr) u0 u1 u2 u3
  have l0 := h.r.set 0 u0
  have l1 := l0.set 1 u1
  have l2 := l1.set 2 u2
  have o0 := owns_setCell (a := ⟨rb, 0, none⟩) h.o (owns_ne h.o h.r (by decide)) u0
  have o1 := owns_setCell (a := ⟨rb, 1, none⟩) o0 (owns_ne o0 l0 (by decide)) u1
  have o2 := owns_setCell (a := ⟨rb, 2, none⟩) o1 (owns_ne o1 l1 (by decide)) u2
  have o3 := owns_setCell (a := ⟨rb, 3, none⟩) o2 (owns_ne o2 l2 (by decide)) u3
  have lr := h.lr
  have lp := h.lp
  exact ⟨loc_put4o h.z (by omega) _ _ _ _, r, loc_put4o h.p (by omega) _ _ _ _, o3, b, lr, lp⟩
theorem set0 (h : CSt w W rb pb c0 c1 c2 c3 p0 p1 p2 V n cs) (v : Value) : CSt w (W.setCell ⟨pb, 0, none⟩ v) rb pb c0 c1 c2 c3 v p1 p2 V n cs := by
  have lr := h.lr
  have lp := h.lp
  exact ⟨h.z.other (a := ⟨pb, 0, none⟩) (show w.heap.size ≠ pb by omega) v, h.r.other (a := ⟨pb, 0, none⟩) (show rb ≠ pb by omega) v, h.p.set 0 v, owns_setCell (a := ⟨pb, 0, none⟩) h.o (owns_ne h.o h.p (by decide)) v,
    h.b.setCell (p := ⟨pb, 0, none⟩) (show w.heap.size ≤ pb by omega) v, lr, lp⟩
theorem set1 (h : CSt w W rb pb c0 c1 c2 c3 p0 p1 p2 V n cs) (v : Value) : CSt w (W.setCell ⟨pb, 1, none⟩ v) rb pb c0 c1 c2 c3 p0 v p2 V n cs := by
  have lr := h.lr
  have lp := h.lp
  exact ⟨h.z.other (a := ⟨pb, 1, none⟩) (show w.heap.size ≠ pb by omega) v, h.r.other (a := ⟨pb, 1, none⟩) (show rb ≠ pb by omega) v, h.p.set 1 v, owns_setCell (a := ⟨pb, 1, none⟩) h.o (owns_ne h.o h.p (by decide)) v,
    h.b.setCell (p := ⟨pb, 1, none⟩) (show w.heap.size ≤ pb by omega) v, lr, lp⟩
theorem set2 (h : CSt w W rb pb c0 c1 c2 c3 p0 p1 p2 V n cs) (v : Value) : CSt w (W.setCell ⟨pb, 2, none⟩ v) rb pb c0 c1 c2 c3 p0 p1 v V n cs := by
  have lr := h.lr
  have lp := h.lp
  exact ⟨h.z.other (a := ⟨pb, 2, none⟩) (show w.heap.size ≠ pb by omega) v, h.r.other (a := ⟨pb, 2, none⟩) (show rb ≠ pb by omega) v, h.p.set 2 v, owns_setCell (a := ⟨pb, 2, none⟩) h.o (owns_ne h.o h.p (by decide)) v,
    h.b.setCell (p := ⟨pb, 2, none⟩) (show w.heap.size ≤ pb by omega) v, lr, lp⟩
theorem putXb (h : CSt w W rb pb c0 c1 c2 c3 p0 p1 p2 V n cs) {xb : Nat} (hx : pb < xb) (ho : ∀ k, V.ownBlock = some k → k < xb) (x : Ins) : CSt w (putX W xb x) rb pb c0 c1 c2 c3 p0 p1 p2 V n cs := by
  have lr := h.lr
  have lp := h.lp
  have hne : ∀ i : Nat, V.ownBlock ≠ some (⟨xb, i, none⟩ : Addr).block := fun i e => by have := ho xb e; omega
  exact ⟨putX_other h.z (by omega) x, putX_other h.r (by omega) x, putX_other h.p (by omega) x,
    owns_setCell (owns_setCell (owns_setCell (owns_setCell (owns_setCell (owns_setCell (owns_setCell (owns_setCell h.o (hne 0) _) (hne 1) _) (hne 2) _) (hne 3) _) (hne 4) _) (hne 5) _) (hne 6) _) (hne 7) _,
    putX_below h.b (by omega) x, lr, lp⟩
theorem grown (h : CSt w W rb pb c0 c1 c2 c3 p0 p1 p2 V n cs) {V1 : Value} {m : Nat} {ds : List Value} (hown : X.ownsRow 0 59 8 V1 m ds) (hg : W.grownBy X V.ownBlock) (hb : ∀ k, V1.ownBlock = some k → V.ownBlock = some k ∨ k = W.heap.size) :
    CSt w X rb pb c0 c1 c2 c3 p0 p1 p2 V1 m ds := by
  obtain ⟨o, b⟩ := own_next0 h.o hown hg hb h.b.size h.b
  exact ⟨h.z.grown hg (owns_ne h.o h.z (by decide)), h.r.grown hg (owns_ne h.o h.r (by decide)), h.p.grown hg (owns_ne h.o h.p (by decide)), o, b, h.lr, h.lp⟩
theorem drew (h : CSt w W rb pb c0 c1 c2 c3 p0 p1 p2 V n cs) : CSt w W.drew rb pb c0 c1 c2 c3 p0 p1 p2 V n cs := ⟨h.z, h.r, h.p, h.o, h.b.drew, h.lr, h.lp⟩
end CSt

theorem dpost0 {xs : Bs} {w W : World} {E : Int} (hb : Below w.heap.size w W) (hd : procDecode xs = (.zero, E)) : DPost xs w (.returned (.tuple #[.agg #[.string ⟨#[]⟩, .int .i64 0, .slice none 0 0], .int .i64 E])) W := by
  unfold DPost
  rw [hd]
  exact ⟨none, 0, rfl, World.ownsRow_nil _ _ _ _, hb⟩

theorem decTail_err {s : Bs} {a e : Int} {l : List Ins} {r : Rdr} (h : e ≠ 0) : decTail s a ((l, r), e) = (.zero, e) := by
  unfold decTail
  rw [if_pos h]

theorem readCode_stop {xs : Bs} {f : Nat} {q : Rdr} {l : List Ins} {s : Bs} {a e : Int} (hx : q.xs = xs) (h : (rIns q).2 = e) (he : e ≠ 0) : decTail s a (readCode xs.length (f + 1) q l) = (.zero, e) := by
  subst hx
  have k := (rIns_eq q).1
  rw [h] at k
  rw [readCode_step, k, if_pos he]
  exact decTail_err he

theorem readCode_go {xs : Bs} {f : Nat} {q q2 : Rdr} {x : Ins} {l : List Ins} (hx : q.xs = xs) (h : rIns q = ((q2, x), 0)) : readCode xs.length (f + 1) q l = readCode xs.length f q2 (l ++ [x]) := by
  subst hx
  have k := rIns_eq q
  rw [h] at k
  rw [readCode_step, k.1, if_neg (by simp), k.2 rfl]


set_option maxRecDepth 100000 in
set_option maxHeartbeats 3000000 in
theorem refDecode_any (A : Option Addr) (c : Nat) (xs : Bs) (w : World) (hr : Row w A (cellsB xs)) (hl : xs.length ≤ 140737488355328) (hz : A = none → xs.length = 0) (hcap : xs.length ≤ c) :
    Calls Try.prog 75 #[.slice A xs.length c] w (DPost xs w) := by
  obtain ⟨s, r1, h1⟩ : ∃ s r1, (Rdr.new xs).text 32 = (s, r1) := ⟨_, _, rfl⟩
  obtain ⟨a, r2, h2⟩ : ∃ a r2, r1.number = (a, r2) := ⟨_, _, rfl⟩
  obtain ⟨n, r3, h3⟩ : ∃ n r3, r2.number = (n, r3) := ⟨_, _, rfl⟩
  have hpd := procDecode_eq h1 h2 h3
  have x1 := text_xs (Rdr.new xs) 32
  have p1 := text_pos (s := Rdr.new xs) 32 (Nat.zero_le _)
  rw [h1] at x1 p1
  simp only [show (Rdr.new xs).xs = xs from rfl] at x1 p1
  have x2 := number_xs r1
  have p2 := number_pos (s := r1) (by rw [x1]; exact p1)
  rw [h2, x1] at x2 p2
  simp only at x2 p2
  have x3 := number_xs r2
  have p3 := number_pos (s := r2) (by rw [x2]; exact p2)
  have hn := number_nonneg r2
  rw [h3, x2] at x3 p3
  rw [h3] at hn
  simp only at x3 p3 hn
  have c1 := fun W (h : Below w.heap.size w W) => rttext_any A c (Rdr.new xs) 0 32 (by decide) (by decide) W (hr.of_below h (Nat.le_refl _)) (Nat.zero_le _) hl hz hcap
  have c2 := fun st W (h : Below w.heap.size w W) => rtnumber_any A c r1 st W (by rw [x1]; exact hr.of_below h (Nat.le_refl _)) (by rw [x1]; exact p1) (by rw [x1]; exact hl) (by rw [x1]; exact hz)
  have c3 := fun st W (h : Below w.heap.size w W) => rtnumber_any A c r2 st W (by rw [x2]; exact hr.of_below h (Nat.le_refl _)) (by rw [x2]; exact p2) (by rw [x2]; exact hl) (by rw [x2]; exact hz)
  have cb := fun (q : Rdr) st W (hx : q.xs = xs) (hq : q.pos ≤ xs.length) (h : Below w.heap.size w W) => rtbyte_any A c q st W (by rw [hx]; exact hr.of_below h (Nat.le_refl _)) (by rw [hx]; exact hq) (by rw [hx]; exact hl)
  have ct := fun (q : Rdr) st x u hu W (hx : q.xs = xs) (hq : q.pos ≤ xs.length) (h : Below w.heap.size w W) => taken_any A c q st x u hu W (by rw [hx]; exact hr.of_below h (Nat.le_refl _)) (by rw [hx]; exact hq) (by rw [hx]; exact hl) (by rw [hx]; exact hz) (by rw [hx]; exact hcap)
  have ce := fun (q : Rdr) st W (hx : q.xs = xs) (hq : q.pos ≤ xs.length) => rtend_any A c q st W (by rw [hx]; exact hq) (by rw [hx]; exact hl)
  rw [h1] at c1
  rw [h2, x1] at c2
  rw [h3, x2] at c3
  obtain ⟨N, hN⟩ : ∃ N, N = xs.length := ⟨_, rfl⟩
  simp only [show (Rdr.new xs).xs = xs from rfl, show (Rdr.new xs).pos = 0 from rfl, show (Rdr.new xs).err = 0 from rfl, show ((0 : Nat) : Int) = 0 from rfl] at c1 c2 c3
  rw [← hN] at c1 c2 c3 p1 p2 p3 hl hcap
  rw [show (.slice A xs.length c : Value) = .slice A N c by rw [hN]]
  have crd := fun W => rtread_any A N c W
  have HPD := Lib.hid hpd
  have HN := Lib.hid hN
  have C1 := Lib.hid c1
  have C2 := Lib.hid c2
  have C3 := Lib.hid c3
  have CB := Lib.hid cb
  have CT := Lib.hid ct
  have CE := Lib.hid ce
  have CRD := Lib.hid crd
  have HX3 := Lib.hid x3
  clear hr hz h1 h2 h3 hpd x1 x2 x3 c1 c2 c3 cb ct ce crd hN
  unfold rvC at C1 C2 C3 CRD
  go_enter Try.func75, Try.ntmps75
  have Z1 := Loc.new w #[.string ⟨#[]⟩, .int .i64 0, .slice none 0 0] 27
  have b1 := (Below.refl w.heap.size w).alloc (Nat.le_refl _) (.cells #[.string ⟨#[]⟩, .int .i64 0, .slice none 0 0] 27)
  go_wp2_with fail
  refine (CRD.out _).mono ?_; rintro e w1 ⟨rfl, hb⟩
  have C0 : CSt w ((w1.alloc (.cells #[.slice A N c, .int .i64 0, .int .i64 0, .int .i64 0] 95)).alloc (.cells #[.string ⟨#[]⟩, .int .i64 0, .slice none 0 0] 27)) w1.heap.size (w1.heap.size + 1) (.slice A N c) (.int .i64 0) (.int .i64 0) (.int .i64 0) (.string ⟨#[]⟩) (.int .i64 0) (.slice none 0 0) (.slice none 0 0) 0 [] := by
    have Z2 := Z1.below hb Z1.lt
    have b2 := below_then b1 hb b1.size
    have pn := Loc.new (w1.alloc (.cells #[.slice A N c, .int .i64 0, .int .i64 0, .int .i64 0] 95)) #[.string ⟨#[]⟩, .int .i64 0, .slice none 0 0] 27
    simp only [World.size_alloc] at pn
    exact ⟨(Z2.alloc _).alloc _, (Loc.new w1 _ _).alloc _, pn, World.ownsRow_nil _ _ _ _, (b2.alloc b2.size _).alloc (by have := b2.size; simp; omega) _, Z2.lt, by omega⟩
  clear Z1 b1 hb CRD
  generalize hpb : w1.heap.size + 1 = pb at C0
  have hpb1 : w1.heap.size < pb := by omega
  have HPB := Lib.hid hpb
  go_wp2_with fail
  refine (C1.out _ C0.b).mono ?_; rintro e w2 ⟨st1, rfl, hb⟩
  unfold rvC
  have D1 := C0.below hb
  clear C0 hb C1 hpb

  obtain ⟨r0, r1', r2', r3', rf0, rf1, rf2, rf3⟩ := D1.r.four
  obtain ⟨q0, q1, q2, qf0, qf1, qf2⟩ := loc_three D1.p
  have D2 := (D1.set0 (.string (ofBs s))).putR (.slice A N c) (.int .i64 r1.pos) (.int .i64 r1.err) (.int .i64 st1)
  unfold put4 at D2
  have hne1 : ¬ w1.heap.size = pb := by omega
  have hne2 : ¬ pb = w1.heap.size := by omega
  clear D1
  go_wp2_with fail
  refine (C2.out st1 _ D2.b).mono ?_; rintro e w3 ⟨st2, rfl, hb⟩
  unfold rvC
  have D3 := D2.below hb
  clear D2 hb C2
  clear r0 r1' r2' r3' rf0 rf1 rf2 rf3 q0 q1 q2 qf0 qf1 qf2
  obtain ⟨r0, r1', r2', r3', rf0, rf1, rf2, rf3⟩ := D3.r.four
  obtain ⟨q0, q1, q2, qf0, qf1, qf2⟩ := loc_three D3.p
  have D4 := (D3.set1 (.int .i64 a)).putR (.slice A N c) (.int .i64 r2.pos) (.int .i64 r2.err) (.int .i64 st2)
  unfold put4 at D4
  clear D3
  go_wp2_with fail
  refine (C3.out st2 _ D4.b).mono ?_; rintro e w4 ⟨st3, rfl, hb⟩
  unfold rvC
  have D5 := D4.below hb
  clear D4 hb C3
  clear r0 r1' r2' r3' rf0 rf1 rf2 rf3 q0 q1 q2 qf0 qf1 qf2
  obtain ⟨r0, r1', r2', r3', rf0, rf1, rf2, rf3⟩ := D5.r.four
  obtain ⟨q0, q1, q2, qf0, qf1, qf2⟩ := loc_three D5.p
  have D6 := D5.putR (.slice A N c) (.int .i64 r3.pos) (.int .i64 r3.err) (.int .i64 st3)
  unfold put4 at D6
  obtain ⟨z0, z1, z2, zf0, zf1, zf2⟩ := loc_three D5.z
  have hne3 : ¬ w.heap.size = w1.heap.size := by have := D5.lr; omega
  have hne4 : ¬ w1.heap.size = w.heap.size := by have := D5.lr; omega
  clear D5
  by_cases he3 : r3.err = 0
  · have he3' : (r3.err != 0) = false := by simp [he3]
    by_cases hn64 : 64 < n
    · have hd : procDecode xs = (.zero, 4) := by rw [HPD.out, if_neg (by simpa using he3), if_pos hn64]
      clear he3
      obtain ⟨y0, y1, y2, _, be⟩ := loc_put3 D6.z D6.b (Nat.le_refl _) (.string ⟨#[]⟩) (.int .i64 0) (.slice none 0 0)
      unfold put3 at y0 y1 y2 be
      have HY := Lib.hid (And.intro y0 (And.intro y1 y2))
      have HB := Lib.hid be
      have HD := Lib.hid hd
      clear y0 y1 y2 be
      go_wp2
      obtain ⟨y0, y1, y2⟩ := HY.out
      exact bodyPost_ret (v := .tuple #[.agg #[.string ⟨#[]⟩, .int .i64 0, .slice none 0 0], .int .i64 4]) (by simp [results, Try.results75, go_sem, y0, y1, y2]) rfl (dpost0 HB.out HD.out)
    · obtain ⟨m, rfl⟩ := Int.eq_ofNat_of_zero_le hn.1
      have hd0 : procDecode xs = decTail s a (readCode xs.length m r3 []) := by rw [HPD.out, if_neg (by simpa using he3), if_neg hn64, Int.toNat_natCast]
      have HD0 := Lib.hid hd0
      have hm : m ≤ 64 := by omega
      rw [he3] at D6 ⊢
      clear hd0 HPD
      go_wp2
      go_loopw [7] (fun i wr => ∃ (k : Nat) (q : Rdr) (st : Int) (l : List Ins) (B : Option Addr) (d : Nat), k ≤ m ∧ i = .int .i64 k ∧ Hid (l.length = k) ∧ Hid (q.xs = xs) ∧ Hid (q.err = 0) ∧ q.pos ≤ N ∧ Hid (procDecode xs = decTail s a (readCode xs.length (m - k) q l)) ∧ CSt w wr w1.heap.size pb (.slice A N c) (.int .i64 q.pos) (.int .i64 0) (.int .i64 st) (.string (ofBs s)) (.int .i64 a) (.slice B k d) (.slice B k d) k (codeCells l)) (fun i _ => m - (intOf i).toNat)
      case atStart => exact ⟨0, r3, st3, [], none, 0, Nat.zero_le _, rfl, Lib.hid rfl, HX3, Lib.hid he3, p3, HD0, D6⟩
      case round =>
        clear D6 r0 r1' r2' r3' rf0 rf1 rf2 rf3 q0 q1 q2 qf0 qf1 qf2 z0 z1 z2 zf0 zf1 zf2 he3' HD0
        obtain ⟨wi, rfl⟩ : ∃ wi, wi = wr := ⟨_, rfl⟩
        obtain ⟨k, q, st, l, B, d, hk, rfl, HLK, HQX, HQE, hqp, HREL, D⟩ := hrel
        by_cases hkm : k < m
        · obtain ⟨f, hf⟩ : ∃ f, m - k = f + 1 := ⟨m - k - 1, by omega⟩
          have hrel := HREL.out
          rw [hf] at hrel
          have HREL2 := Lib.hid hrel
          have hf' : f = m - (k + 1) := by omega
          have HF := Lib.hid hf'
          have cby := CB.out q st wi HQX.out (by rw [← HN.out]; exact hqp) D.b
          have ho := rbyte_lt q
          have hx1 := byte_xs q
          have hp1 := byte_pos (s := q) (by rw [HQX.out, ← HN.out]; exact hqp)
          have hri : rIns q = if q.byte.2.err ≠ 0 then ((q.byte.2, zeroIns 0), q.byte.2.err) else if fieldsS q.byte.1 = [63] then ((q.byte.2, zeroIns 0), 16) else takeAll q.byte.2 (zeroIns q.byte.1) (fieldsS q.byte.1) := rfl
          rw [HQX.out, ← HN.out, HQE.out] at cby
          rw [HQX.out] at hx1 hp1
          rw [← HN.out] at hp1
          obtain ⟨oN, q1, hq1⟩ : ∃ oN q1, q.byte = (oN, q1) := ⟨_, _, rfl⟩
          rw [hq1] at cby ho hx1 hp1 hri
          simp only at ho hx1 hp1 hri
          obtain ⟨o, hoo⟩ : ∃ o : Int, o = (oN : Int) := ⟨_, rfl⟩
          rw [← hoo] at cby hri
          have ho0 : 0 ≤ o := by omega
          have ho1 : o < 256 := by omega
          unfold rvC at cby
          have CBY := Lib.hid cby
          have HX1 := Lib.hid hx1
          have HRI := Lib.hid hri
          have hkm' : (k : Int) < (m : Int) := by omega
          have hlr := D.lr
          obtain ⟨g0, g1, g2, g3, _⟩ := D.r.four
          have hlp := D.lp
          clear hrel hf hf' HREL cby hx1 hq1 hri hoo ho
          go_wp2_with fail
          refine CBY.out.mono ?_; rintro e w5 ⟨st5, rfl, hb⟩
          unfold rvC
          have E1 := D.below hb
          have hsz5 := hb.size
          clear D hb CBY g0 g1 g2 g3
          obtain ⟨r0, r1', r2', r3', rf0, rf1, rf2, rf3⟩ := E1.r.four
          obtain ⟨z0, z1, z2, zf0, zf1, zf2⟩ := loc_three E1.z
          have E2 := E1.putR (.slice A N c) (.int .i64 q1.pos) (.int .i64 q1.err) (.int .i64 st5)
          unfold put4 at E2
          have hrb5 := E1.r.lt
          have hpb5 := E1.p.lt
          have hob := owns_lt E1.o
          have hz5 : w.heap.size < w5.heap.size := by omega
          have HOB := Lib.hid hob
          clear E1 hob
          by_cases he1 : q1.err = 0
          · have he1' : (q1.err != 0) = false := by simp [he1]
            have hri : rIns q = if fieldsS o = [63] then ((q1, zeroIns 0), 16) else takeAll q1 (zeroIns o) (fieldsS o) := by rw [HRI.out, if_neg (by simpa using he1)]
            rw [he1] at E2 ⊢
            have HE1 := Lib.hid he1
            have hfi := fun W => refFields_any o W
            obtain ⟨fs, hfs⟩ : ∃ fs, fs = fieldsS o := ⟨_, rfl⟩
            rw [← hfs] at hri hfi
            have HRI2 := Lib.hid hri
            have HFI := Lib.hid hfi
            have HFS := Lib.hid hfs
            have hsz6 : ((((w5.setCell ⟨w1.heap.size, 0, none⟩ (.slice A N c)).setCell ⟨w1.heap.size, 1, none⟩ (.int .i64 q1.pos)).setCell ⟨w1.heap.size, 2, none⟩ (.int .i64 0)).setCell ⟨w1.heap.size, 3, none⟩ (.int .i64 st5)).heap.size = w5.heap.size := by simp
            have X3 := Loc.new ((((w5.setCell ⟨w1.heap.size, 0, none⟩ (.slice A N c)).setCell ⟨w1.heap.size, 1, none⟩ (.int .i64 q1.pos)).setCell ⟨w1.heap.size, 2, none⟩ (.int .i64 0)).setCell ⟨w1.heap.size, 3, none⟩ (.int .i64 st5)) #[.int .i64 o, .int .i64 0, .int .i64 0, .int .i64 0, .int .i64 0, .int .i64 0, .int .i64 0, .string ⟨#[]⟩] 59
            rw [hsz6] at X3
            have E3 := E2.below ((Below.refl _ _).alloc (Nat.le_refl _) (.cells #[.int .i64 o, .int .i64 0, .int .i64 0, .int .i64 0, .int .i64 0, .int .i64 0, .int .i64 0, .string ⟨#[]⟩] 59))
            clear he1 hri HRI hfi hfs hsz6
            go_wp2_with fail
            refine (HFI.out _).mono ?_; rintro e w6 ⟨rfl, rfl⟩
            by_cases h63 : fs = [63]
            · have hS : ((ofBs fs).toList == [63]) = true := by rw [ByteArray.toList_eq, ofBs_data, h63]; rfl
              have hd : procDecode xs = (.zero, 16) := by rw [HREL2.out]; exact readCode_stop HQX.out (by rw [HRI2.out, if_pos h63]) (by decide)
              have ZZ := And.intro z0 (And.intro z1 (And.intro z2 (And.intro zf0 (And.intro zf1 zf2))))
              clear h63 E3 X3
              obtain ⟨z0, z1, z2, zf0, zf1, zf2⟩ := ZZ
              obtain ⟨_, _, _, Zp, be0⟩ := loc_put3 E2.z E2.b (Nat.le_refl _) (.string ⟨#[]⟩) (.int .i64 0) (.slice none 0 0)
              unfold put3 at Zp be0
              obtain ⟨y0, y1, y2, _⟩ := loc_three (Zp.alloc (.cells #[.int .i64 o, .int .i64 0, .int .i64 0, .int .i64 0, .int .i64 0, .int .i64 0, .int .i64 0, .string ⟨#[]⟩] 59))
              have be := be0.alloc be0.size (.cells #[.int .i64 o, .int .i64 0, .int .i64 0, .int .i64 0, .int .i64 0, .int .i64 0, .int .i64 0, .string ⟨#[]⟩] 59)
              have HY := Lib.hid (And.intro y0 (And.intro y1 y2))
              have HB := Lib.hid be
              have HD := Lib.hid hd
              clear y0 y1 y2 be Zp be0
              go_wp2
              obtain ⟨y0, y1, y2⟩ := HY.out
              exact bodyPost_ret (v := .tuple #[.agg #[.string ⟨#[]⟩, .int .i64 0, .slice none 0 0], .int .i64 16]) (by simp [results, Try.results75, go_sem, y0, y1, y2]) rfl (dpost0 HB.out HD.out)
            · have hS : ((ofBs fs).toList == [63]) = false := by rw [ByteArray.toList_eq, ofBs_data]; simpa using h63
              have hrt : rIns q = takeAll q1 (zeroIns o) fs := by rw [HRI2.out, if_neg h63]
              have hoR : 1 ≤ o ∧ o ≤ 16 := by
                rcases Classical.em (1 ≤ o ∧ o ≤ 16) with h | h
                · exact h
                · exact absurd (HFS.out.trans (fieldsS_none (by omega))) h63
              have hlet : ∀ u ∈ fs, u = 65 ∨ u = 66 ∨ u = 67 ∨ u = 97 ∨ u = 78 ∨ u = 86 := by rw [HFS.out]; exact let_letter hoR.1 hoR.2
              have HLET := Lib.hid hlet
              have hfl : fs.length ≤ 4 := by rw [HFS.out]; exact fieldsS_le _
              obtain ⟨sf, hsf⟩ : ∃ sf, sf = ofBs fs := ⟨_, rfl⟩
              have hsz : sf.size = fs.length := by rw [hsf, ← size_data, ofBs_data]
              have hget : ∀ k (h : k < sf.size) (h' : k < fs.length), sf[k] = fs[k] := fun k h h' => by
                have h1 := bget sf k h
                have hd : sf.data.toList = fs := by rw [hsf, ofBs_data]
                rw [hd, List.getElem?_eq_getElem h'] at h1
                exact (Option.some.inj h1).symm
              rw [← hsf] at hS ⊢
              obtain ⟨L, hL⟩ : ∃ L, L = fs.length := ⟨_, rfl⟩
              rw [← hL] at hfl
              have HL := Lib.hid hL
              have HSZ := Lib.hid hsz
              have HG := Lib.hid hget
              have HRT0 : Hid (rIns q = takeAll q1 (zeroIns o) (fs.drop 0)) := Lib.hid hrt
              clear h63 hrt hoR hlet hsf hsz hget hL HRI2 z0 z1 z2 zf0 zf1 zf2 r0 r1' r2' r3' rf0 rf1 rf2 rf3 E2
              go_wp2
              go_loopw [11] (fun i wk => ∃ (j : Nat) (q2 : Rdr) (st2 : Int) (x2 : Ins), j ≤ L ∧ i = .int .i64 j ∧ Hid (q2.xs = xs) ∧ Hid (q2.err = 0) ∧ q2.pos ≤ N ∧ Hid (rIns q = takeAll q2 x2 (fs.drop j)) ∧ CSt w wk w1.heap.size pb (.slice A N c) (.int .i64 q2.pos) (.int .i64 0) (.int .i64 st2) (.string (ofBs s)) (.int .i64 a) (.slice B k d) (.slice B k d) k (codeCells l) ∧ Loc wk w5.heap.size (insCells x2) 59) (fun i _ => L - (intOf i).toNat)
              case atStart => exact ⟨0, q1, st5, zeroIns o, Nat.zero_le _, rfl, HX1, HE1, hp1, HRT0, E3, X3⟩
              case round =>
                clear E3 X3 HX1 HE1 HRT0 hp1
                obtain ⟨w8, rfl⟩ : ∃ w8, w8 = wr := ⟨_, rfl⟩
                obtain ⟨j, q2, st2, x2, hj, rfl, HX2, HE2, hp2, HRT, G, X⟩ := hrel
                obtain ⟨xo, xa, xb, xc, xn, xv⟩ := x2
                simp only [insCells] at X
                obtain ⟨r0, r1', r2', r3', rf0, rf1, rf2, rf3⟩ := G.r.four
                obtain ⟨x0, x1, x2, x3, x4, x5, x6, x7⟩ := loc_eight X
                by_cases hjL : j < L
                · have hjf : j < fs.length := by rw [← HL.out]; exact hjL
                  have hjs : j < sf.size := by rw [HSZ.out]; exact hjf
                  have hu := HLET.out fs[j] (List.getElem_mem hjf)
                  have hsj := HG.out j hjs hjf
                  have hdrop : fs.drop j = fs[j] :: fs.drop (j + 1) := List.drop_eq_getElem_cons hjf
                  have hrt := HRT.out
                  rw [hdrop] at hrt
                  have htk := CT.out q2 st2 ⟨xo, xa, xb, xc, xn, xv⟩ fs[j] hu w8.drew HX2.out (by rw [← HN.out]; exact hp2) G.b.drew
                  rw [HX2.out, ← HN.out, HE2.out] at htk
                  have hx9 := takenM_xs q2 ⟨xo, xa, xb, xc, xn, xv⟩ fs[j]
                  have hp9 := takenM_pos (r := q2) ⟨xo, xa, xb, xc, xn, xv⟩ fs[j] (by rw [HX2.out, ← HN.out]; exact hp2)
                  have he9 := takenM_err (r := q2) (x := ⟨xo, xa, xb, xc, xn, xv⟩) (c := fs[j])
                  rw [HX2.out] at hx9 hp9
                  rw [← HN.out] at hp9
                  simp only [takeAll] at hrt
                  obtain ⟨T9, hT9⟩ : ∃ T9, takenM q2 ⟨xo, xa, xb, xc, xn, xv⟩ fs[j] = T9 := ⟨_, rfl⟩
                  rw [hT9] at htk hx9 hp9 he9 hrt
                  rw [← hsj] at htk
                  obtain ⟨⟨q9, y9⟩, e9⟩ := T9
                  obtain ⟨yo, ya, yb, yc, yn, yv⟩ := y9
                  simp only at hx9 hp9 he9 hrt
                  unfold RTaken at htk
                  simp only [rvC, insCells] at htk
                  have HX9 := Lib.hid hx9
                  have HE9 := Lib.hid he9
                  have HTK := Lib.hid htk
                  have HRT2 := Lib.hid hrt
                  have HSJ := Lib.hid hsj
                  have hjI : (j : Int) < (L : Int) := by omega
                  have hjs' : (j : Int) < (sf.size : Int) := by omega
                  have hjs0 : (0 : Int) ≤ (j : Int) := by omega
                  clear hu hsj hdrop hrt htk HRT hx9 he9 hT9
                  go_wp2_with fail
                  have hH : (w8.drew).cell? ⟨w1.heap.size, 0, none⟩ = some (.slice A N c) ∧ (w8.drew).cell? ⟨w1.heap.size, 1, none⟩ = some (.int .i64 q2.pos) ∧ (w8.drew).cell? ⟨w1.heap.size, 2, none⟩ = some (.int .i64 0) ∧ (w8.drew).cell? ⟨w1.heap.size, 3, none⟩ = some (.int .i64 st2) ∧ (w8.drew).cell? ⟨w5.heap.size, 0, none⟩ = some (.int .i64 xo) ∧ (w8.drew).cell? ⟨w5.heap.size, 1, none⟩ = some (.int .i64 xa) ∧ (w8.drew).cell? ⟨w5.heap.size, 2, none⟩ = some (.int .i64 xb) ∧ (w8.drew).cell? ⟨w5.heap.size, 3, none⟩ = some (.int .i64 xc) ∧ (w8.drew).cell? ⟨w5.heap.size, 4, none⟩ = some (.int .i64 xn) ∧ (w8.drew).cell? ⟨w5.heap.size, 5, none⟩ = some (.int .i64 xv.kind) ∧ (w8.drew).cell? ⟨w5.heap.size, 6, none⟩ = some (.int .i64 xv.num) ∧ (w8.drew).cell? ⟨w5.heap.size, 7, none⟩ = some (.string xv.text) := ⟨r0, r1', r2', r3', x0, x1, x2, x3, x4, x5, x6, x7⟩
                  go_wp2_with fail
                  refine wp_region_till (c := 5) (S := fun W => W.cell? ⟨w1.heap.size, 0, none⟩ = some (.slice A N c) ∧ W.cell? ⟨w1.heap.size, 1, none⟩ = some (.int .i64 q2.pos) ∧ W.cell? ⟨w1.heap.size, 2, none⟩ = some (.int .i64 0) ∧ W.cell? ⟨w1.heap.size, 3, none⟩ = some (.int .i64 st2) ∧ W.cell? ⟨w5.heap.size, 0, none⟩ = some (.int .i64 xo) ∧ W.cell? ⟨w5.heap.size, 1, none⟩ = some (.int .i64 xa) ∧ W.cell? ⟨w5.heap.size, 2, none⟩ = some (.int .i64 xb) ∧ W.cell? ⟨w5.heap.size, 3, none⟩ = some (.int .i64 xc) ∧ W.cell? ⟨w5.heap.size, 4, none⟩ = some (.int .i64 xn) ∧ W.cell? ⟨w5.heap.size, 5, none⟩ = some (.int .i64 xv.kind) ∧ W.cell? ⟨w5.heap.size, 6, none⟩ = some (.int .i64 xv.num) ∧ W.cell? ⟨w5.heap.size, 7, none⟩ = some (.string xv.text)) (by kernel_rfl) ?_
                  refine wpTill_take 74 (i := 0) (v := ?_) rfl rfl (by kernel_rfl) (by kernel_rfl) (by kernel_rfl) rfl rfl (by kernel_rfl) (fun _ _ _ h => h) (Or.inl ⟨by rfl, ?_⟩) hH ?_
                  rotate_left
                  · intro W hW
                    obtain ⟨r0, r1, r2, r3, x0, x1, x2, x3, x4, x5, x6, x7⟩ := hW
                    go_simp
                    try with_reducible rfl
                  try simp only [Act.put, List.setIfInBounds_toArray, List.set_cons_zero, List.set_cons_succ]
                  refine wpTill_take 75 (i := 1) (v := ?_) rfl rfl (by kernel_rfl) (by kernel_rfl) (by kernel_rfl) rfl rfl (by kernel_rfl) (fun _ _ _ h => h) (Or.inl ⟨by rfl, ?_⟩) hH ?_
                  rotate_left
                  · intro W hW
                    obtain ⟨r0, r1, r2, r3, x0, x1, x2, x3, x4, x5, x6, x7⟩ := hW
                    go_simp
                    try with_reducible rfl
                  try simp only [Act.put, List.setIfInBounds_toArray, List.set_cons_zero, List.set_cons_succ]
                  refine wpTill_calm 76 (i := 2) (v := ?_) rfl rfl (by kernel_rfl) (by kernel_rfl) (by kernel_rfl) rfl (fun _ _ _ h => h) (Or.inl ⟨by rfl, ?_⟩) (fun _ => hH) ?_
                  rotate_left
                  · intro W hW
                    clear hW
                    go_simp
                    try with_reducible rfl
                  try simp only [Act.put, List.setIfInBounds_toArray, List.set_cons_zero, List.set_cons_succ]
                  refine wpTill_calm 77 (i := 3) (v := ?_) rfl rfl (by kernel_rfl) (by kernel_rfl) (by kernel_rfl) rfl (fun _ _ _ h => h) (Or.inl ⟨by rfl, ?_⟩) (fun _ => hH) ?_
                  rotate_left
                  · intro W hW
                    clear hW
                    go_simp
                    try with_reducible rfl
                  try simp only [Act.put, List.setIfInBounds_toArray, List.set_cons_zero, List.set_cons_succ]
                  refine wpTill_calm 78 (i := 4) (v := ?_) rfl rfl (by kernel_rfl) (by kernel_rfl) (by kernel_rfl) rfl (fun _ _ _ h => h) (Or.inl ⟨by rfl, ?_⟩) (fun _ => hH) ?_
                  rotate_left
                  · intro W hW
                    clear hW
                    go_simp
                    try with_reducible rfl
                  try simp only [Act.put, List.setIfInBounds_toArray, List.set_cons_zero, List.set_cons_succ]
                  refine wpTill_one (i := 5) (by kernel_rfl) rfl (by kernel_rfl) (fun K hK => ?_)
                  go_simp
                  refine (HTK.out.mono ?_)
                  rintro e w9 ⟨st9, rfl, hb⟩
                  refine hK.out _ _ ?_
                  clear hK K
                  try simp only [Act.put, List.setIfInBounds_toArray, List.set_cons_zero, List.set_cons_succ]
                  refine wpTill_calm 73 (i := 6) (v := ?_) rfl rfl (by kernel_rfl) (by kernel_rfl) (by kernel_rfl) rfl (fun _ _ _ h => h) (Or.inl ⟨by rfl, ?_⟩) (Till.past (by kernel_rfl)) ?_
                  rotate_left
                  · intro W hW
                    clear hW
                    go_simp
                    try with_reducible rfl
                  try simp only [Act.put, List.setIfInBounds_toArray, List.set_cons_zero, List.set_cons_succ]
                  refine wpTill_calm 80 (i := 7) (v := ?_) rfl rfl (by kernel_rfl) (by kernel_rfl) (by kernel_rfl) rfl (fun _ _ _ h => h) (Or.inl ⟨by rfl, ?_⟩) (Till.past (by kernel_rfl)) ?_
                  rotate_left
                  · intro W hW
                    clear hW
                    go_simp
                    try with_reducible rfl
                  try simp only [Act.put, List.setIfInBounds_toArray, List.set_cons_zero, List.set_cons_succ]
                  refine wpTill_calm 81 (i := 8) (v := ?_) rfl rfl (by kernel_rfl) (by kernel_rfl) (by kernel_rfl) rfl (fun _ _ _ h => h) (Or.inl ⟨by rfl, ?_⟩) (Till.past (by kernel_rfl)) ?_
                  rotate_left
                  · intro W hW
                    clear hW
                    go_simp
                    try with_reducible rfl
                  try simp only [Act.put, List.setIfInBounds_toArray, List.set_cons_zero, List.set_cons_succ]
                  refine wpTill_calm 82 (i := 9) (v := ?_) rfl rfl (by kernel_rfl) (by kernel_rfl) (by kernel_rfl) rfl (fun _ _ _ h => h) (Or.inl ⟨by rfl, ?_⟩) (Till.past (by kernel_rfl)) ?_
                  rotate_left
                  · intro W hW
                    clear hW
                    go_simp
                    try with_reducible rfl
                  try simp only [Act.put, List.setIfInBounds_toArray, List.set_cons_zero, List.set_cons_succ]
                  have G9 := G.drew.below hb
                  have X9 := (X.drew).below hb X.lt
                  clear r0 r1' r2' r3' rf0 rf1 rf2 rf3 x0 x1 x2 x3 x4 x5 x6 x7 hH
                  obtain ⟨r0, r1', r2', r3', rf0, rf1, rf2, rf3⟩ := G9.r.four
                  obtain ⟨x0, x1, x2, x3, x4, x5, x6, x7⟩ := loc_eight X9
                  obtain ⟨xf0, xf1, xf2, xf3, xf4, xf5, xf6, xf7⟩ := free_eight X9
                  refine wpTill_one (i := 10) (by kernel_rfl) rfl (by kernel_rfl) (fun K hK => ?_)
                  go_simp
                  refine hK.out _ _ ?_
                  clear hK K
                  try simp only [Act.put, List.setIfInBounds_toArray, List.set_cons_zero, List.set_cons_succ]
                  refine wpTill_one (i := 11) (by kernel_rfl) rfl (by kernel_rfl) (fun K hK => ?_)
                  go_simp
                  refine hK.out _ _ ?_
                  clear hK K
                  try simp only [Act.put, List.setIfInBounds_toArray, List.set_cons_zero, List.set_cons_succ]
                  refine wpTill_calm 12 (i := 12) (v := ?_) rfl rfl (by kernel_rfl) (by kernel_rfl) (by kernel_rfl) rfl (fun _ _ _ h => h) (Or.inl ⟨by rfl, ?_⟩) (Till.past (by kernel_rfl)) ?_
                  rotate_left
                  · intro W hW
                    clear hW
                    go_simp
                    try with_reducible rfl
                  try simp only [Act.put, List.setIfInBounds_toArray, List.set_cons_zero, List.set_cons_succ]
                  refine wpTill_done (by kernel_rfl) ?_ _
                  have H0 := (G9.putR (.slice A N c) (.int .i64 q9.pos) (.int .i64 q9.err) (.int .i64 st9)).putXb hpb5 HOB.out ⟨yo, ya, yb, yc, yn, yv⟩
                  have Y0 := putX_loc (loc_put4o X9 (show w5.heap.size ≠ w1.heap.size by omega) (.slice A N c) (.int .i64 q9.pos) (.int .i64 q9.err) (.int .i64 st9)) ⟨yo, ya, yb, yc, yn, yv⟩
                  unfold putX put4 at H0 Y0
                  simp only at H0 Y0
                  obtain ⟨z0, z1, z2, zf0, zf1, zf2⟩ := loc_three G9.z
                  have hn5 : ¬ w.heap.size = w5.heap.size := by omega
                  have hn6 : ¬ w5.heap.size = w.heap.size := by omega
                  clear G9 X9 hb G X
                  by_cases he9 : e9 = 0
                  · have hq9 := HE9.out he9
                    subst he9
                    have HQ9 := Lib.hid hq9
                    have hrt := HRT2.out
                    rw [if_neg (by simp)] at hrt
                    have HRT3 := Lib.hid hrt
                    rw [hq9] at H0 Y0 ⊢
                    clear hq9 hrt HRT2
                    go_wp2
                    go_roundw
                    case rel => exact ⟨j + 1, q9, st9, ⟨yo, ya, yb, yc, yn, yv⟩, by omega, by go_num, HX9, HQ9, hp9, HRT3, H0, Y0⟩
                    case measure => simp [intOf]; omega
                  · have hE' : (e9 != 0) = true := by simpa using he9
                    have hrt := HRT2.out
                    rw [if_pos he9] at hrt
                    have hd : procDecode xs = (.zero, e9) := by rw [HREL2.out]; exact readCode_stop HQX.out (by rw [hrt]) he9
                    clear hrt he9 Y0
                    obtain ⟨y0, y1, y2, _, be⟩ := loc_put3 H0.z H0.b (Nat.le_refl _) (.string ⟨#[]⟩) (.int .i64 0) (.slice none 0 0)
                    unfold put3 at y0 y1 y2 be
                    have HY := Lib.hid (And.intro y0 (And.intro y1 y2))
                    have HB := Lib.hid be
                    have HD := Lib.hid hd
                    clear y0 y1 y2 be
                    go_wp2
                    obtain ⟨y0, y1, y2⟩ := HY.out
                    exact bodyPost_ret (v := .tuple #[.agg #[.string ⟨#[]⟩, .int .i64 0, .slice none 0 0], .int .i64 e9]) (by simp [results, Try.results75, go_sem, y0, y1, y2]) rfl (dpost0 HB.out HD.out)
                · obtain rfl : j = L := by omega
                  have hrt := HRT.out
                  rw [HL.out, List.drop_length] at hrt
                  have hgo := readCode_go (f := f) (l := l) HQX.out hrt
                  have hrel := HREL2.out
                  rw [hgo] at hrel
                  have hjs' : (sf.size : Int) ≤ (j : Int) := by have := HSZ.out; have := HL.out; omega
                  have hsrc := Row.src (P := Try.prog) (c := 1) (size := 8) (n := 1) (tx := 25) (Row.of_loc (Loc.new w8 #[.int .i64 xo, .int .i64 xa, .int .i64 xb, .int .i64 xc, .int .i64 xn, .int .i64 xv.kind, .int .i64 xv.num, .string xv.text] 59)) Try.underlying25 rfl (by simp [Value.oneCell']) (fun h => by simp at h)
                  have HSRC := Lib.hid hsrc
                  have HREL3 := Lib.hid hrel
                  have G9 := G.below ((Below.refl _ _).alloc (Nat.le_refl _) (.cells #[.int .i64 xo, .int .i64 xa, .int .i64 xb, .int .i64 xc, .int .i64 xn, .int .i64 xv.kind, .int .i64 xv.num, .string xv.text] 59))
                  obtain ⟨q0, q1', q2', qf0, qf1, qf2⟩ := loc_three G.p
                  have hk64 : k ≤ 64 := by omega
                  clear hrt hgo hrel hsrc HREL2 HRT G
                  go_wp2_with (at_builtin; refine wpList_append_mine _ rfl _ _ 25 25 rfl 59 (.agg #[.int .i64 0, .int .i64 0, .int .i64 0, .int .i64 0, .int .i64 0, .int .i64 0, .int .i64 0, .string ⟨#[]⟩]) 8 72 Try.underlying25 infoIns rfl (by decide) (.slice B k d) k (codeCells l) rfl (owns_base (base' := 0) G9.o (fun _ _ => Nat.zero_le _)) _ 1 _ rfl HSRC.out (by unfold maxLen; omega) (by omega) ?_; intro A2 d2 w10 hown4 hg4 hb4 hx4; have G10 := G9.grown hown4 hg4 hb4; clear hown4 hg4 hb4 hx4 G9; obtain ⟨p0', p1', p2', pf0, pf1, pf2⟩ := loc_three G10.p)
                  go_roundw
                  case rel =>
                    refine ⟨k + 1, q2, st2, l ++ [⟨xo, xa, xb, xc, xn, xv⟩], A2, d2, by omega, by go_num, Lib.hid (by simp [HLK.out]), HX2, HE2, hp2, Lib.hid (by rw [← HF.out]; exact HREL3.out), ?_⟩
                    have := G10.set2 (.slice A2 (k + 1) d2)
                    rw [codeCells_append]
                    exact this
                  case measure => simp [intOf]; omega
          · have he1' : (q1.err != 0) = true := by simpa using he1
            have hd : procDecode xs = (.zero, q1.err) := by rw [HREL2.out]; exact readCode_stop HQX.out (by rw [HRI.out, if_pos (by simpa using he1)]) he1
            clear he1
            obtain ⟨y0, y1, y2, _, be⟩ := loc_put3 E2.z E2.b (Nat.le_refl _) (.string ⟨#[]⟩) (.int .i64 0) (.slice none 0 0)
            unfold put3 at y0 y1 y2 be
            have HY := Lib.hid (And.intro y0 (And.intro y1 y2))
            have HB := Lib.hid be
            have HD := Lib.hid hd
            clear y0 y1 y2 be
            go_wp2
            go_region
            all_goals
              go_wp2
              obtain ⟨y0, y1, y2⟩ := HY.out
              exact bodyPost_ret (v := .tuple #[.agg #[.string ⟨#[]⟩, .int .i64 0, .slice none 0 0], .int .i64 q1.err]) (by simp [results, Try.results75, go_sem, y0, y1, y2]) rfl (dpost0 HB.out.drew HD.out)
        · obtain rfl : k = m := by omega
          have hrel := HREL.out
          rw [Nat.sub_self, readCode] at hrel
          have hpt : procDecode xs = if q.end_ ≠ 0 then (.zero, q.end_) else if (procCheck ⟨ofBs s, a, l⟩).2 ≠ 0 then (.zero, (procCheck ⟨ofBs s, a, l⟩).2) else (⟨ofBs s, a, l⟩, 0) := by
            rw [hrel]; unfold decTail; simp
          have ce := fun W => CE.out q st W HQX.out (by rw [← HN.out]; exact hqp)
          rw [HQX.out, ← HN.out, HQE.out] at ce
          obtain ⟨E, hE⟩ : ∃ E, E = q.end_ := ⟨_, rfl⟩
          obtain ⟨Z1, Z2, hZ⟩ : ∃ Z1 Z2, procCheck ⟨ofBs s, a, l⟩ = (Z1, Z2) := ⟨_, _, rfl⟩
          have ck := fun W (h : Row W B (codeCells l)) => refCheck_any ⟨ofBs s, a, l⟩ B d W h (by show l.length ≤ _; have := HLK.out; omega)
          rw [hZ] at ck hpt
          simp only [procCells] at ck
          rw [HLK.out] at ck
          rw [← hE] at ce hpt
          unfold rvC at ce
          have HCE := Lib.hid ce
          have HCK := Lib.hid ck
          have HPT := Lib.hid hpt
          obtain ⟨r0, r1', r2', r3', _⟩ := D.r.four
          clear ce ck hpt hE hZ hrel HREL
          have hkk : (k : Int) ≤ (k : Int) := Int.le_refl _
          go_wp2_with fail
          refine (HCE.out _).mono ?_; rintro e w5 ⟨rfl, hb⟩
          have E1 := D.below hb
          have hlr := D.lr
          have hlp := D.lp
          clear D hb r0 r1' r2' r3' HCE
          by_cases hE0 : E = 0
          · have hE' : (E != 0) = false := by simp [hE0]
            have hpt := HPT.out
            rw [if_neg (by simpa using hE0)] at hpt
            have HPT2 := Lib.hid hpt
            obtain ⟨q0, q1, q2, qf0, qf1, qf2⟩ := loc_three E1.p
            clear hE0 hpt HPT
            go_wp2_with fail
            refine (HCK.out _ (Row.of_owns E1.o)).mono ?_; rintro e w6 ⟨rfl, hb⟩
            have E2 := E1.below hb
            clear E1 hb q0 q1 q2 qf0 qf1 qf2
            obtain ⟨q0, q1, q2, qf0, qf1, qf2⟩ := loc_three E2.p
            have hnz : ¬ w.heap.size = pb := by omega
            have hnz2 : ¬ pb = w.heap.size := by omega
            by_cases hZ0 : Z2 = 0
            · have hZ' : (Z2 != 0) = false := by simp [hZ0]
              have hpt := HPT2.out
              rw [if_neg (by simpa using hZ0)] at hpt
              have HPT3 := Lib.hid hpt
              obtain ⟨z0, z1, z2, zf0, zf1, zf2⟩ := loc_three E2.z
              obtain ⟨y0, y1, y2, Zp, be⟩ := loc_put3 E2.z E2.b (Nat.le_refl _) (.string (ofBs s)) (.int .i64 a) (.slice B k d)
              have o1 := owns_setCell (a := ⟨w.heap.size, 0, none⟩) E2.o (owns_ne E2.o E2.z (by decide)) (.string (ofBs s))
              have o2 := owns_setCell (a := ⟨w.heap.size, 1, none⟩) o1 (owns_ne o1 (E2.z.set 0 (.string (ofBs s))) (by decide)) (.int .i64 a)
              have o3 := owns_setCell (a := ⟨w.heap.size, 2, none⟩) o2 (owns_ne o2 ((E2.z.set 0 (.string (ofBs s))).set 1 (.int .i64 a)) (by decide)) (.slice B k d)
              unfold put3 at y0 y1 y2 be
              have HY := Lib.hid (And.intro y0 (And.intro y1 y2))
              have HB := Lib.hid be
              have HO := Lib.hid o3
              clear hZ0 hpt HPT2 y0 y1 y2 be Zp o1 o2 o3
              go_wp2
              obtain ⟨y0, y1, y2⟩ := HY.out
              refine bodyPost_ret (v := .tuple #[.agg #[.string (ofBs s), .int .i64 a, .slice B k d], .int .i64 0]) (by simp [results, Try.results75, go_sem, y0, y1, y2]) rfl ?_
              unfold DPost
              rw [HPT3.out]
              simp only [procCells, HLK.out]
              exact ⟨B, d, rfl, HO.out, HB.out⟩
            · have hZ' : (Z2 != 0) = true := by simpa using hZ0
              have hd : procDecode xs = (.zero, Z2) := by rw [HPT2.out, if_pos hZ0]
              clear hZ0 HPT2
              obtain ⟨z0, z1, z2, zf0, zf1, zf2⟩ := loc_three E2.z
              obtain ⟨y0, y1, y2, _, be⟩ := loc_put3 E2.z E2.b (Nat.le_refl _) (.string ⟨#[]⟩) (.int .i64 0) (.slice none 0 0)
              unfold put3 at y0 y1 y2 be
              have HY := Lib.hid (And.intro y0 (And.intro y1 y2))
              have HB := Lib.hid be
              have HD := Lib.hid hd
              clear y0 y1 y2 be
              go_wp2
              obtain ⟨y0, y1, y2⟩ := HY.out
              exact bodyPost_ret (v := .tuple #[.agg #[.string ⟨#[]⟩, .int .i64 0, .slice none 0 0], .int .i64 Z2]) (by simp [results, Try.results75, go_sem, y0, y1, y2]) rfl (dpost0 HB.out HD.out)
          · have hE' : (E != 0) = true := by simpa using hE0
            have hd : procDecode xs = (.zero, E) := by rw [HPT.out, if_pos hE0]
            clear hE0 HPT
            obtain ⟨z0, z1, z2, zf0, zf1, zf2⟩ := loc_three E1.z
            obtain ⟨y0, y1, y2, _, be⟩ := loc_put3 E1.z E1.b (Nat.le_refl _) (.string ⟨#[]⟩) (.int .i64 0) (.slice none 0 0)
            unfold put3 at y0 y1 y2 be
            have HY := Lib.hid (And.intro y0 (And.intro y1 y2))
            have HB := Lib.hid be
            have HD := Lib.hid hd
            clear y0 y1 y2 be
            go_wp2
            obtain ⟨y0, y1, y2⟩ := HY.out
            exact bodyPost_ret (v := .tuple #[.agg #[.string ⟨#[]⟩, .int .i64 0, .slice none 0 0], .int .i64 E]) (by simp [results, Try.results75, go_sem, y0, y1, y2]) rfl (dpost0 HB.out HD.out)
  · have hd : procDecode xs = (.zero, r3.err) := by rw [HPD.out, if_pos (by simpa using he3)]
    have he3' : (r3.err != 0) = true := by simpa using he3
    clear he3
    obtain ⟨y0, y1, y2, _, be⟩ := loc_put3 D6.z D6.b (Nat.le_refl _) (.string ⟨#[]⟩) (.int .i64 0) (.slice none 0 0)
    unfold put3 at y0 y1 y2 be
    have HY := Lib.hid (And.intro y0 (And.intro y1 y2))
    have HB := Lib.hid be
    have HD := Lib.hid hd
    clear y0 y1 y2 be
    go_wp2
    go_region
    all_goals
      go_wp2
      obtain ⟨y0, y1, y2⟩ := HY.out
      exact bodyPost_ret (v := .tuple #[.agg #[.string ⟨#[]⟩, .int .i64 0, .slice none 0 0], .int .i64 r3.err]) (by simp [results, Try.results75, go_sem, y0, y1, y2]) rfl (dpost0 HB.out.drew HD.out)
end Go.Proofs.Ytnmcdifkknphgaa
