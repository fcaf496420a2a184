/- Lists of numbers opened; what Read tells of a file; walk of treadlelaw14.PageBack. -/
import Derived.Test.YtnieminnnkbneaaWrt
import Derived.Test.YtnieminnnkbneaaSru
import Derived.Test.YtnieminnnkbneaaRdr
import Derived.Test.YtnieminnnkbneaaLop
import Derived.Deep.CutRange
namespace Go.Proofs.Ytnieminnnkbneaa
set_option linter.unusedVariables false

section
open Go.ChangeShapes Go.WideShapes Go.ChangeAt Go.RowKit Go.Deep
variable {H : Type} {enc : TypeId × Value → H} {w : World} {base : Nat} {spare : Nat → Bool} {held : Bool}
theorem cellsNum : Try.prog.cellsOf 3 = 1 := by kernel_rfl
instance : Inhabited Int := ⟨0⟩
theorem flat_one (l : List Int) : (l.flatMap fun z => [Value.int .i64 z]) = l.map (Value.int .i64 ·) := by
  induction l with
  | nil => rfl
  | cons x l ih => rw [List.flatMap_cons, ih]; rfl
set_option maxRecDepth 100000 in
theorem open_nums {r : Reach} {b0 : Nat} {v : Value} {d : DataW H} {p : List MemPlace} (hv : Value.okWide Try.prog w r b0 37 v) (h : DataW.Trod enc Try.prog w base spare held 37 v d p) :
    ∃ A cap, ∃ l : List Int, v = .slice A l.length cap ∧ Row w A (l.map (Value.int .i64 ·)) ∧ (A = none → l.length = 0) ∧ l.length ≤ cap ∧ cap ≤ maxLen ∧ True := by
  obtain ⟨A, n, cap, rfl⟩ := okWide_slice Try.underlying37 hv
  obtain ⟨fuel, hf⟩ := h
  obtain ⟨A', n', cap', l, hc, hn, h1, h2, h3, h4, h5⟩ := trod_list 3 37 1 (fun z : Int => [Value.int .i64 z]) (fun _ => rfl) (by decide) Try.underlying37 cellsNum (fun _ => True) (fun _ _ _ h => by
    obtain ⟨n, hc, _⟩ := DataW.trod_int Try.underlying3 h
    exact ⟨n, hc, trivial⟩) hf
  simp only [Value.slice.injEq] at hc
  obtain ⟨rfl, rfl, rfl⟩ := hc
  subst hn
  rw [flat_one] at h1
  exact ⟨A, cap, l, rfl, h1, h2, h3, h4, trivial⟩
end
open Go.RowKit


set_option maxHeartbeats 1000000 in
theorem pnew_no (a b : Int) (h : a < 1 ∨ 281474976710655 < a ∨ b < 0 ∨ 281474976710655 < b) (w : World) :
    Calls Try.prog 11 #[.int .i64 a, .int .i64 b] w fun e w' => e = .returned (.tuple #[.pointer none, .int .i64 1]) ∧ w' = w := by
  have H := Lib.hid h
  clear h
  by_cases h1 : a < 1
  · go_enter Try.func11, Try.ntmps11
    go_wp2
    go_ret2
    exact ⟨rfl, rfl⟩
  by_cases h2 : 281474976710655 < a
  · go_enter Try.func11, Try.ntmps11
    go_wp2
    go_ret2
    exact ⟨rfl, rfl⟩
  by_cases h3 : b < 0
  · go_enter Try.func11, Try.ntmps11
    go_wp2
    go_ret2
    exact ⟨rfl, rfl⟩
  have h4 : 281474976710655 < b := by have := H.out; omega
  go_enter Try.func11, Try.ntmps11
  go_wp2
  go_ret2
  exact ⟨rfl, rfl⟩

theorem SrtP.wok {w w' : World} {a : List PrcC} {b : List Ent} {n m : Nat} (h : SrtP w a) (k : SrtE w' b) : WOk (PW.new n m) (a.map (·.p)) b := by
  refine WOk.new (fun p hp => ?_) ?_ k.v k.r
  · obtain ⟨y, hy, rfl⟩ := List.mem_map.1 hp
    exact h.v y hy
  · exact List.pairwise_map.2 h.r

/-- An image that tells of procedures that came. -/
theorem ImgO.oks {W : World} {base : Nat} {m : RM} (h : ImgO W base m) {a : List PrcC} {V : World} (ha : m.s.procs = a.map (·.p)) (hok : ∀ y ∈ a, y.ok V) : ∀ y ∈ m.pl, y.ok W := by
  intro y hy
  have h1 : y.p ∈ a.map (·.p) := by rw [← ha, ← h.hp]; exact List.mem_map.2 ⟨y, hy, rfl⟩
  obtain ⟨z, hz, e⟩ := List.mem_map.1 h1
  have hzo := hok z hz
  exact ⟨Row.of_owns (h.oc y hy), by rw [← e]; exact hzo.l, by rw [← e]; exact hzo.i⟩

/-- What Read tells of a file. -/
def RdFile (n m : Nat) (a : List PrcC) (b : List Ent) (w : World) (e : Ending) (w' : World) : Prop :=
  ∃ (pl : List PrcC) (P E : Option Addr) (cp ce : Nat), e = .returned (.tuple #[.agg #[.int .i64 n, .int .i64 m, .slice P pl.length cp, .slice E b.length ce], .int .i64 0]) ∧ pl.map (·.p) = a.map (·.p) ∧ Row w' P (prcsCells pl) ∧ Row w' E (entsCells b) ∧ (∀ y ∈ pl, y.ok w') ∧ Below w.heap.size w w'

theorem read_file {n m : Nat} {a : List PrcC} {b : List Ent} {xs : Bs} {ends : List Nat} (hf : File n m (a.map (·.p)) b xs ends) (A : Option Addr) (N c : Nat) (w : World) (hr : Row w A (cellsB xs)) (hn : N = xs.length) (hc : N ≤ c) (hl : N ≤ 1000000000) {V : World} (hok : ∀ y ∈ a, y.ok V) :
    Calls Try.prog 14 #[.slice A N c] w (RdFile n m a b w) := by
  refine (pread_any A N c xs w hr hn hc hl).mono fun e w' h => ?_
  obtain ⟨s, hs, e1, e2, e3, e4⟩ := file_read hf
  obtain ⟨q, hq, rfl, I, hb⟩ := h
  rw [hs] at hq ⊢
  simp only at hq ⊢
  have hqp : q.s.procs = a.map (·.p) := by rw [hq]; exact e3
  have hqe : q.s.entries = b := by rw [hq]; exact e4
  refine ⟨q.pl, q.P, q.E, q.cp, q.ce, ?_, by rw [I.hp, hqp], Row.of_owns I.op, ?_, I.oks hqp hok, hb⟩
  · unfold RM.img
    rw [hqe, hq, e1, e2]
  · have := Row.of_owns I.oe
    rw [hqe] at this
    exact this

/-- What images says of two that are alike. -/
theorem images_same (n m : Int) (xs ys : List PrcC) (es fs : List Ent) (A B C D : Option Addr) (N1 N2 N3 N4 ca cb cc cd : Nat) (w : World) (h1 : N1 = xs.length) (h2 : N2 = ys.length) (h3 : N3 = es.length) (h4 : N4 = fs.length) (ha : Row w A (prcsCells xs)) (hb : Row w B (prcsCells ys)) (hc : Row w C (entsCells es)) (hd : Row w D (entsCells fs))
    (hla : N1 ≤ 140737488355328) (hlb : N2 ≤ 140737488355328) (hlc : N3 ≤ 140737488355328) (hld : N4 ≤ 140737488355328) (hxo : ∀ x ∈ xs, x.ok w) (hyo : ∀ y ∈ ys, y.ok w) (hp : xs.map (·.p) = ys.map (·.p)) (he : es = fs) :
    Calls Try.prog 15 #[.agg #[.int .i64 n, .int .i64 m, .slice A N1 ca, .slice C N3 cc], .agg #[.int .i64 n, .int .i64 m, .slice B N2 cb, .slice D N4 cd]] w fun e w' => e = .returned (.bool true) ∧ Below w.heap.size w w' := by
  subst h1; subst h2; subst h3; subst h4
  refine (images_any n m n m xs ys es fs A B C D ca cb cc cd w ha hb hc hd hla hlb hlc hld hxo hyo).mono fun e w' h => ?_
  obtain ⟨⟨r, rfl, hr⟩, hb⟩ := h
  have := hr.2 ⟨rfl, rfl, hp, he⟩
  rw [this]
  exact ⟨rfl, hb⟩

/-- What Read says of what is no file. -/
theorem read_no {xs : Bs} {E : Int} (hx : pageRead xs = (.zero, E)) (A : Option Addr) (N c : Nat) (w : World) (hr : Row w A (cellsB xs)) (hn : N = xs.length) (hc : N ≤ c) (hl : N ≤ 1000000000) :
    Calls Try.prog 14 #[.slice A N c] w fun e w' => (∃ v, e = .returned (.tuple #[.agg v, .int .i64 E])) ∧ Below w.heap.size w w' := by
  refine (pread_any A N c xs w hr hn hc hl).mono fun e w' h => ?_
  obtain ⟨q, hq, rfl, I, hb⟩ := h
  rw [hx]
  exact ⟨⟨_, rfl⟩, hb⟩


set_option maxRecDepth 100000 in
set_option maxHeartbeats 4000000 in
theorem pback_bad (a b c : Int) (v1 v2 v3 v4 : Value) (w : World) (h : a < 1 ∨ 281474976710655 < a ∨ b < 0 ∨ 281474976710655 < b) :
    Calls Try.prog 4 #[.int .i64 a, .int .i64 b, v1, v2, v3, v4, .int .i64 c] w fun e w' => e = .returned (.bool true) ∧ Below w.heap.size w w' := by
  have HN := Lib.hid (pnew_no a b h)
  have H := Lib.hid h
  clear h
  by_cases h1 : a < 1
  · go_enter Try.func4, Try.ntmps4
    go_wp2_with (first | (go_at_call 11; refine (HN.out _).mono ?_; rintro e w' ⟨rfl, rfl⟩) | (go_at_call 10; refine (known_any _).mono ?_; rintro e w9 ⟨rfl, b9⟩))
    go_ret
    exact ⟨rfl, b9⟩
  by_cases h2 : 281474976710655 < a
  · go_enter Try.func4, Try.ntmps4
    go_wp2_with (first | (go_at_call 11; refine (HN.out _).mono ?_; rintro e w' ⟨rfl, rfl⟩) | (go_at_call 10; refine (known_any _).mono ?_; rintro e w9 ⟨rfl, b9⟩))
    go_ret
    exact ⟨rfl, b9⟩
  by_cases h3 : b < 0
  · go_enter Try.func4, Try.ntmps4
    go_wp2_with (first | (go_at_call 11; refine (HN.out _).mono ?_; rintro e w' ⟨rfl, rfl⟩) | (go_at_call 10; refine (known_any _).mono ?_; rintro e w9 ⟨rfl, b9⟩))
    go_ret
    exact ⟨rfl, b9⟩
  have h4 : 281474976710655 < b := by have := H.out; omega
  go_enter Try.func4, Try.ntmps4
  go_wp2_with (first | (go_at_call 11; refine (HN.out _).mono ?_; rintro e w' ⟨rfl, rfl⟩) | (go_at_call 10; refine (known_any _).mono ?_; rintro e w9 ⟨rfl, b9⟩))
  go_ret
  exact ⟨rfl, b9⟩

set_option maxRecDepth 100000 in
set_option maxHeartbeats 8000000 in
theorem pback_good (n m : Nat) (cut : Int) (ps : List PrcC) (es : List Ent) (ks js : List Int) (P E C D : Option Addr) (cp ce cc cd : Nat) (w : World) (hn : 1 ≤ n) (hn2 : n ≤ 281474976710655) (hm2 : m ≤ 281474976710655)
    (hrp : Row w P (prcsCells ps)) (hre : Row w E (entsCells es)) (hrc : Row w C (ks.map (Value.int .i64 ·))) (hrd : Row w D (js.map (Value.int .i64 ·)))
    (hpl : ps.length ≤ 9223372036854775807) (hel : es.length ≤ 9223372036854775807) (hkl : ks.length ≤ 9223372036854775807) (hjl : js.length ≤ 9223372036854775807) (hpo : ∀ y ∈ ps, y.came w) (heo : ∀ y ∈ es, y.inR) :
    Calls Try.prog 4 #[.int .i64 n, .int .i64 m, .slice P ps.length cp, .slice E es.length ce, .slice C ks.length cc, .slice D js.length cd, .int .i64 cut] w fun e w' => e = .returned (.bool true) ∧ Below w.heap.size w w' := by
  have HS := Lib.hid (sorted_any ps P cp es E ce w hrp hpo hpl hre heo hel)
  obtain ⟨K, hK⟩ : ∃ K, K = ks.length := ⟨_, rfl⟩
  obtain ⟨J, hJ⟩ : ∃ J, J = js.length := ⟨_, rfl⟩
  obtain ⟨NP, hNP⟩ : ∃ NP, NP = ps.length := ⟨_, rfl⟩
  obtain ⟨NE, hNE⟩ : ∃ NE, NE = es.length := ⟨_, rfl⟩
  rw [← hNP, ← hNE] at HS
  rw [← hK] at hkl
  rw [← hJ] at hjl
  rw [← hK, ← hJ, ← hNP, ← hNE]
  have HK := Lib.hid hK
  have HJ := Lib.hid hJ
  have HRC := Lib.hid hrc
  have HRD := Lib.hid hrd
  clear hK hJ hNP hNE hrp hre hrc hrd hpl hel hpo heo
  have t1 : ¬ (n : Int) < 1 := by omega
  have t2 : ¬ (281474976710655 : Int) < (n : Int) := by omega
  have t3 : ¬ (m : Int) < 0 := by omega
  have t4 : ¬ (281474976710655 : Int) < (m : Int) := by omega
  go_enter Try.func4, Try.ntmps4
  go_upto_region 5 with (go_at_call 12; refine HS.out.mono ?_; rintro e w1 ⟨a, b, A, B, ca, cb, rfl, hSP, hla, hSE, hlb, oA, oB, b1⟩)
  clear t1 t2 t3 t4 HS
  have hok1 : ∀ y ∈ a, y.ok w1 := fun y hy => (hSP.c y hy).below b1
  have hW : WOk (PW.new n m) (a.map (·.p)) b := hSP.wok hSE
  have hca := owns_capA oA
  have hcb := owns_capA oB
  have hw := fun (ks : List Int) (C : Option Addr) (cc : Nat) (W : World) (hb : Below w1.heap.size w1 W) (hr : Row W C (ks.map (Value.int .i64 ·))) (hl : ks.length ≤ 9223372036854775807) => written_any n m a b ks A B C ca cb cc W hn hn2 hm2
    ((Row.of_owns oA).of_below hb (Nat.le_refl _)) ((Row.of_owns oB).of_below hb (Nat.le_refl _)) hr hca hcb hla hlb hl (fun y hy => (hok1 y hy).below hb) hSE.c hW
  have HOA := Lib.hid (Row.of_owns oA)
  have HOB := Lib.hid (Row.of_owns oB)
  have HOK := Lib.hid hok1
  have HSE := Lib.hid hSE
  have hw1 := hw ks C cc w1 (Below.refl _ _) (HRC.out.of_below b1 (Nat.le_refl _)) (by rw [← HK.out]; exact hkl)
  rw [← HK.out] at hw1
  obtain ⟨na, hna⟩ : ∃ na, na = a.length := ⟨_, rfl⟩
  obtain ⟨nb, hnb⟩ : ∃ nb, nb = b.length := ⟨_, rfl⟩
  rw [← hna, ← hnb] at hw1
  rw [← hna, ← hnb]
  have HNA := Lib.hid hna
  have HNB := Lib.hid hnb
  have HW := Lib.hid hw
  have HW1 := Lib.hid hw1
  clear hSP hSE hok1 hW oA oB hw hw1 hna hnb hca hcb
  go_upto_region 6 with (go_at_call 13; refine HW1.out.mono ?_; rintro e w2 ⟨xs, ends, O, Q, co, cq, rfl, hF, hxl, oO, oQ, b2⟩)
  have b12 := below_then b1 b2 b1.size
  have hw2 := HW.out js D cd w2 b2 (HRD.out.of_below b12 (Nat.le_refl _)) (by rw [← HJ.out]; exact hjl)
  rw [← HJ.out, ← HNA.out, ← HNB.out] at hw2
  have HW2 := Lib.hid hw2
  have hco := owns_capA oO
  obtain ⟨no, hno⟩ : ∃ no, no = xs.length := ⟨_, rfl⟩
  obtain ⟨nq, hnq⟩ : ∃ nq, nq = ends.length := ⟨_, rfl⟩
  rw [← hno] at hxl oO hco
  rw [← hno]
  rw [← hnq] at oQ
  rw [← hnq]
  have HF := Lib.hid hF
  have HNO := Lib.hid hno
  have HNQ := Lib.hid hnq
  have HOO := Lib.hid oO
  have HOQ := Lib.hid oQ
  have HB2 := Lib.hid b2
  clear hw2 HW HW1 hF hno hnq oO oQ HRC HRD
  go_upto_region 7 with (go_at_call 13; refine HW2.out.mono ?_; rintro e w3 ⟨zs, fnds, O2, Q2, co2, cq2, rfl, hF2, hzl, oO2, oQ2, b3⟩)
  have b13 := below_then b12 b3 b12.size
  have b23 := below_then HB2.out b3 HB2.out.size
  have hco2 := owns_capA oO2
  obtain ⟨nz, hnz⟩ : ∃ nz, nz = zs.length := ⟨_, rfl⟩
  rw [← hnz] at hzl oO2 hco2
  rw [← hnz]
  have HF2 := Lib.hid hF2
  have HNZ := Lib.hid hnz
  have oO3 := owns_mono' HOO.out b3
  have oQ3 := owns_mono' HOQ.out b3
  have HO3 := Lib.hid oO3
  have HQ3 := Lib.hid oQ3
  have HZ3 := Lib.hid oO2
  have HB13 := Lib.hid b13
  have HB23 := Lib.hid b23
  clear hF2 hnz oQ2 oO2 oO3 oQ3 HW2 HOO HOQ HB2 b3 b12 b13 b23
  have LW := Loc.new w3 #[.int .i64 n, .int .i64 m, .slice A na ca, .slice B nb cb] 45
  have b4 := (Below.refl w3.heap.size w3).alloc (Nat.le_refl _) (.cells #[.int .i64 n, .int .i64 m, .slice A na ca, .slice B nb cb] 45)
  have hr1 := read_file HF.out O no co _ ((Row.of_owns HO3.out).of_below b4 (Nat.le_refl _)) HNO.out hco (by omega) HOK.out
  have HR1 := Lib.hid hr1
  clear hr1
  go_upto_region 10 with (fail)
  obtain ⟨w4, hw4⟩ : ∃ w4, w4 = w3.alloc (.cells #[.int .i64 n, .int .i64 m, .slice A na ca, .slice B nb cb] 45) := ⟨_, rfl⟩
  rw [← hw4] at LW b4 HR1
  rw [← hw4]
  clear hw4
  go_upto_region 11 with (go_at_call 14; refine HR1.out.mono ?_; rintro e w5 ⟨pl1, P1, E1, cp1, ce1, rfl, hp1, rP1, rE1, ok1, b5⟩)
  have b35 := below_then b4 b5 b4.size
  have b6 := (Below.refl w5.heap.size w5).alloc (Nat.le_refl _) (.cells #[.int .i64 n, .int .i64 m, .slice P1 pl1.length cp1, .slice E1 b.length ce1] 45)
  have b36 := below_then b35 b6 b35.size
  have hr2 := read_file HF2.out O2 nz co2 _ ((Row.of_owns HZ3.out).of_below b36 (Nat.le_refl _)) HNZ.out hco2 (by omega) HOK.out
  have LI1 := Loc.new w5 #[.int .i64 n, .int .i64 m, .slice P1 pl1.length cp1, .slice E1 b.length ce1] 45
  have LW6 := (LW.below b5 LW.lt).below b6 (LW.below b5 LW.lt).lt
  obtain ⟨w6, hw6⟩ : ∃ w6, w6 = w5.alloc (.cells #[.int .i64 n, .int .i64 m, .slice P1 pl1.length cp1, .slice E1 b.length ce1] 45) := ⟨_, rfl⟩
  have HR2 := Lib.hid hr2
  rw [← hw6] at LI1 b6 b36 LW6 HR2
  rw [← hw6]
  clear hr2 hw6 HR1 LW b4 b35
  go_upto_region 12 with (go_at_call 14; refine HR2.out.mono ?_; rintro e w7 ⟨pl2, P2, E2, cp2, ce2, rfl, hp2, rP2, rE2, ok2, b7⟩)
  have b38 := (below_then b36 b7 b36.size).alloc (by have := b36.size; have := b7.size; omega) (.cells #[.int .i64 n, .int .i64 m, .slice P2 pl2.length cp2, .slice E2 b.length ce2] 45)
  have b8 := (Below.refl w7.heap.size w7).alloc (Nat.le_refl _) (.cells #[.int .i64 n, .int .i64 m, .slice P2 pl2.length cp2, .slice E2 b.length ce2] 45)
  have LI2 := Loc.new w7 #[.int .i64 n, .int .i64 m, .slice P2 pl2.length cp2, .slice E2 b.length ce2] 45
  have LW8 := (LW6.below b7 LW6.lt).below b8 (LW6.below b7 LW6.lt).lt
  have LI18 := (LI1.below b7 LI1.lt).below b8 (LI1.below b7 LI1.lt).lt
  have b58 := below_then (below_then b6 b7 b6.size) b8 (below_then b6 b7 b6.size).size
  have rP18 := rP1.of_below b58 (Nat.le_refl _)
  have rE18 := rE1.of_below b58 (Nat.le_refl _)
  have ok18 : ∀ y ∈ pl1, y.ok _ := fun y hy => (ok1 y hy).below b58
  have rP28 := rP2.of_below b8 (Nat.le_refl _)
  have rE28 := rE2.of_below b8 (Nat.le_refl _)
  have ok28 : ∀ y ∈ pl2, y.ok _ := fun y hy => (ok2 y hy).below b8
  obtain ⟨w8, hw8⟩ : ∃ w8, w8 = w7.alloc (.cells #[.int .i64 n, .int .i64 m, .slice P2 pl2.length cp2, .slice E2 b.length ce2] 45) := ⟨_, rfl⟩
  rw [← hw8] at b38 LI2 LW8 LI18 rP18 rE18 rP28 rE28
  rw [← hw8]
  have ok18' : ∀ y ∈ pl1, y.ok w8 := by rw [hw8]; exact ok18
  have ok28' : ∀ y ∈ pl2, y.ok w8 := by rw [hw8]; exact ok28
  have hl1 : pl1.length = na := by have := congrArg List.length hp1; rw [List.length_map, List.length_map] at this; rw [HNA.out]; exact this
  have hl2 : pl2.length = na := by have := congrArg List.length hp2; rw [List.length_map, List.length_map] at this; rw [HNA.out]; exact this
  have hna2 : na ≤ 200 := by rw [HNA.out]; exact hla
  have hnb4 : nb ≤ 400 := by rw [HNB.out]; exact hlb
  have hb18 := below_then HB13.out b38 HB13.out.size
  have hwA := below_then HB23.out b38 HB23.out.size
  have him := fun W (hb : Below w8.heap.size w8 W) => images_same n m pl1 a b b P1 A E1 B na na nb nb cp1 ca ce1 cb W hl1.symm HNA.out HNB.out HNB.out (rP18.of_below hb (Nat.le_refl _)) ((HOA.out.of_below hwA (Nat.le_refl _)).of_below hb (Nat.le_refl _)) (rE18.of_below hb (Nat.le_refl _)) ((HOB.out.of_below hwA (Nat.le_refl _)).of_below hb (Nat.le_refl _)) (by omega) (by omega) (by omega) (by omega) (fun y hy => (ok18' y hy).below hb) (fun y hy => ((HOK.out y hy).below hwA).below hb) hp1 rfl
  have hin := fun W (hb : Below w8.heap.size w8 W) => images_same n m pl2 a b b P2 A E2 B na na nb nb cp2 ca ce2 cb W hl2.symm HNA.out HNB.out HNB.out (rP28.of_below hb (Nat.le_refl _)) ((HOA.out.of_below hwA (Nat.le_refl _)).of_below hb (Nat.le_refl _)) (rE28.of_below hb (Nat.le_refl _)) ((HOB.out.of_below hwA (Nat.le_refl _)).of_below hb (Nat.le_refl _)) (by omega) (by omega) (by omega) (by omega) (fun y hy => (ok28' y hy).below hb) (fun y hy => ((HOK.out y hy).below hwA).below hb) hp2 rfl
  rw [hl1, ← HNB.out] at LI18
  rw [hl2, ← HNB.out] at LI2
  have x0 := LI18.cell 0; have x1 := LI18.cell 1; have x2 := LI18.cell 2; have x3 := LI18.cell 3
  have y0 := LW8.cell 0; have y1 := LW8.cell 1; have y2 := LW8.cell 2; have y3 := LW8.cell 3
  simp only [List.getElem?_toArray, List.getElem?_cons_zero, List.getElem?_cons_succ] at x0 x1 x2 x3 y0 y1 y2 y3
  have HIM := Lib.hid him
  have HIN := Lib.hid hin
  have HB18 := Lib.hid hb18
  have HB38 := Lib.hid b38
  have hpos := file_pos HF.out
  rw [← HNO.out] at hpos
  clear hw8 him hin hb18 hl1 hl2 ok18 ok28 ok18' ok28' rP18 rE18 rP28 rE28 b58 LI1 LW6 b8 b38 rP1 rE1 ok1 b5 b6 b36 rP2 rE2 ok2 b7 hp1 hp2 hwA HR2 HB13 HB23
  go_upto_region 14 with (first | (go_at_call 15; refine (HIN.out _ b89).mono ?_; rintro e w10 ⟨rfl, b10⟩; have b8A := below_then b89 b10 b89.size) | (go_at_call 15; refine (HIM.out _ (Below.refl _ _)).mono ?_; rintro e w9 ⟨rfl, b89⟩; have LI29 := LI2.below b89 LI2.lt; have LW9 := LW8.below b89 LW8.lt; have z0 := LI29.cell 0; have z1 := LI29.cell 1; have z2 := LI29.cell 2; have z3 := LI29.cell 3; have u0 := LW9.cell 0; have u1 := LW9.cell 1; have u2 := LW9.cell 2; have u3 := LW9.cell 3; simp only [List.getElem?_toArray, List.getElem?_cons_zero, List.getElem?_cons_succ] at z0 z1 z2 z3 u0 u1 u2 u3; clear x0 x1 x2 x3 y0 y1 y2 y3))
  have b3A := below_then HB38.out b8A HB38.out.size
  have oA := owns_mono' HO3.out b3A
  have qA := owns_mono' HQ3.out b3A
  have zA := owns_mono' HZ3.out b3A
  have bA := below_then HB18.out b8A HB18.out.size
  have HOX := Lib.hid oA
  have HQX := Lib.hid qA
  have HZX := Lib.hid zA
  have HBA0 := Lib.hid bA
  clear b3A oA qA zA bA b8A b10 b89 LI29 LW9 LI18 LW8 LI2 z0 z1 z2 z3 u0 u1 u2 u3 HO3 HQ3 HZ3 HB38 HB18 HIM HIN b1 b2
  have hsz1 : (Try.prog.info? 5).map (·.size) = some 1 := by kernel_rfl
  go_upto_if 130 with (fail)
  obtain ⟨T, hT⟩ : ∃ T, T = cut.tmod (no : Int) := ⟨_, rfl⟩
  have hT1 : T < (no : Int) ∧ -(no : Int) < T := by
    have hlt : (cut.tmod (no : Int)).natAbs < no := by
      rw [Int.natAbs_tmod, Int.natAbs_natCast]
      exact Nat.mod_lt _ hpos
    rw [hT]; omega
  rw [← hT]
  clear hT
  go_cut [6] from 125 to 183 (fun v wx => ∃ k : Nat, v = .int .i64 (k : Nat) ∧ k < no ∧ wx = w10)
  case first =>
    by_cases hneg : T < 0
    · obtain ⟨k, hk⟩ : ∃ k : Nat, T + (no : Int) = k := ⟨(T + (no : Int)).toNat, by omega⟩
      have hkn : k < no := by omega
      have hk' : (T + (no : Int)) = (k : Int) := hk
      clear hT1 hk
      go_wp2
      go_meet
      case rel => exact ⟨k, rfl, hkn, rfl⟩
    · obtain ⟨k, rfl⟩ : ∃ k : Nat, T = k := ⟨T.toNat, by omega⟩
      have hkn : k < no := by omega
      go_wp2
      go_meet
      case rel => exact ⟨k, rfl, hkn, rfl⟩
  case rest =>
  obtain ⟨k, rfl, hk, hwc⟩ := hcut
  have hwc' := hwc.symm
  subst hwc'
  clear hwc hT1
  have hsl : ∀ W, (Instr.slice 25 (.slice O no co) none (some (.int .i64 (k : Int))) none).run Try.prog W = .ok (.slice (subAddr O 0 co 1) k co) W := fun W => run_subTo (P := Try.prog) 25 5 1 Try.underlying25 hsz1 O no co k (by omega) W
  have hrow : ∀ W q, q ≤ no → Below w10.heap.size w10 W → Row W (subAddr O 0 co 1) (cellsB (xs.take q)) := fun W q hq hW => by
    have h := ((Row.of_owns HOX.out).of_below hW (Nat.le_refl _)).subs 1 0 q co (by rw [cellsB_length, ← HNO.out]; omega) (by rw [cellsB_length, ← HNO.out]; omega)
    have e : (((cellsB xs).drop (0 * 1)).take q) = cellsB (xs.take q) := by simp [cellsB]
    rw [e] at h
    exact h
  have hlen : ∀ q, q ≤ no → q = (xs.take q).length := fun q hq => by rw [List.length_take, ← HNO.out]; omega
  obtain ⟨E2, hE2, hE3⟩ : ∃ E : Int, pageRead (xs.take k) = (.zero, E) ∧ (E = 2 ∨ E = 13) := by
    rcases file_cut HF.out k (by rw [← HNO.out]; exact hk) with h | h
    · exact ⟨2, h, .inl rfl⟩
    · exact ⟨13, h, .inr rfl⟩
  have hrd := read_no hE2 (subAddr O 0 co 1) k co w10 (hrow w10 k (by omega) (Below.refl _ _)) (hlen k (by omega)) (by omega) (by omega)
  have HRD := Lib.hid hrd
  have HROW := Lib.hid hrow
  have HLEN := Lib.hid hlen
  have HE3 := Lib.hid hE3
  clear hrd hrow hlen hE2 hE3
  go_upto_region 18 with (go_at_call 14; refine HRD.out.mono ?_; rintro e w11 ⟨⟨v11, rfl⟩, b11⟩)
  go_cut [147] from 125 to 183 (fun v wx => v = .bool false ∧ wx = w11)
  case first =>
    rcases HE3.out with hq | hq
    · subst hq
      go_wp2
      go_meet
      case rel => exact ⟨rfl, rfl⟩
    · subst hq
      go_wp2
      go_meet
      case rel => exact ⟨rfl, rfl⟩
  case rest =>
  obtain ⟨rfl, hwc⟩ := hcut
  have hwc' := hwc.symm
  subst hwc'
  clear hwc HRD hsl
  go_wp2
  go_loopw [27, 30] (fun e i wr => ∃ (j : Nat) (E : Int), j ≤ nq ∧ j ≤ 5 ∧ i = .int .i64 (j : Nat) ∧ e = .int .i64 E ∧ Below w10.heap.size w10 wr) (fun _ i _ => nq - (intOf i).toNat)
  case atStart => exact ⟨0, E2, Nat.zero_le _, Nat.zero_le _, rfl, rfl, b11⟩
  case round =>
    obtain ⟨wi, rfl⟩ : ∃ wi, wi = wr := ⟨_, rfl⟩
    obtain ⟨j, E4, hjq, hj5, rfl, rfl, bi⟩ := hrel
    clear b11 HE3
    go_upto_region 21 with (fail)
    go_cut [155] from 148 to 169 (fun v wx => v = .bool (decide (j < nq ∧ j < 5)) ∧ wx = wi)
    case first =>
      by_cases hk1 : j < nq
      · have t1 : (j : Int) < (nq : Int) := by omega
        by_cases hk2' : j < 5
        · have t2 : (j : Int) < 5 := by omega
          have hd : decide (j < nq ∧ j < 5) = true := by simp; omega
          have HD := Lib.hid hd
          clear hd
          go_wp2
          go_meet
          case rel => exact ⟨by rw [HD.out], rfl⟩
        · have t2 : ¬ (j : Int) < 5 := by omega
          have hd : decide (j < nq ∧ j < 5) = false := by simp; omega
          have HD := Lib.hid hd
          clear hd
          go_wp2
          go_meet
          case rel => exact ⟨by rw [HD.out], rfl⟩
      · have t1 : ¬ (j : Int) < (nq : Int) := by omega
        have hd : decide (j < nq ∧ j < 5) = false := by simp; omega
        have HD := Lib.hid hd
        clear hd
        go_wp2
        go_meet
        case rel => exact ⟨by rw [HD.out], rfl⟩
    case rest =>
    obtain ⟨rfl, hwc⟩ := hcut
    have hwc' := hwc.symm
    subst hwc'
    clear hwc
    by_cases hend : j < nq ∧ j < 5
    · rw [show decide (j < nq ∧ j < 5) = true by simp; omega]
      obtain ⟨hj1, hj2⟩ := hend
      have hje : j < ends.length := by rw [← HNQ.out]; exact hj1
      obtain ⟨hel, hre⟩ := file_ends HF.out ends[j] (List.getElem_mem hje)
      rw [← HNO.out] at hel
      have oQi := owns_mono' HQX.out bi
      obtain ⟨gq, rfl, hgc⟩ := owns_some oQi (by omega)
      have hcell := (owns_cell oQi j (by rw [intCells, List.length_map]; exact hje)).1
      rw [intCells, List.getElem?_map, List.getElem?_eq_getElem hje, Option.map_some] at hcell
      generalize ends[j] = Z at *
      have hsl : ∀ W, (Instr.slice 25 (.slice O no co) none (some (.int .i64 (Z : Int))) none).run Try.prog W = .ok (.slice (subAddr O 0 co 1) Z co) W := fun W => run_subTo (P := Try.prog) 25 5 1 Try.underlying25 hsz1 O no co Z (by omega) W
      have hrd := read_no hre (subAddr O 0 co 1) Z co wi (HROW.out wi Z hel bi) (HLEN.out Z hel) (by omega) (by omega)
      have HRD := Lib.hid hrd
      clear hrd hre oQi
      go_wp2_with (go_at_call 14; refine HRD.out.mono ?_; rintro e w12 ⟨⟨v12, rfl⟩, b12⟩)
      go_roundw
      case rel => exact ⟨j + 1, 2, by omega, by omega, by go_num, rfl, below_then bi b12 bi.size⟩
      case measure => simp [intOf]; omega
    · rw [show decide (j < nq ∧ j < 5) = false by simp; omega]
      clear hend
      have hlit : (wi.alloc (.cells #[] 5)).ownsRow wi.heap.size 5 1 (.slice (some ⟨wi.heap.size, 0, none⟩) 0 0) 0 [] := World.ownsRow_lit wi #[] 0 (Nat.le_refl _) (by decide) rfl
      have ba := (Below.refl wi.heap.size wi).alloc (Nat.le_refl _) (.cells #[] 5)
      have hiA := below_then bi ba bi.size
      have hs1 := (Row.of_owns (owns_mono' HOX.out hiA)).src (P := Try.prog) (c := co) (n := no) (size := 1) Try.underlying25 (by rw [cellsB_length, HNO.out]; simp) (cellsB_one _) (owns_none HOX.out)
      have HS1 := Lib.hid hs1
      have HLIT := Lib.hid hlit
      have HBA := Lib.hid ba
      have HHA := Lib.hid hiA
      have hmore := file_more HF.out zs (by
        intro h
        have := file_pos HF2.out
        rw [h] at this
        simp at this)
      have HMORE := Lib.hid hmore
      have hrdN := fun A N c W hr hn hc hl => read_no hmore A N c W hr hn hc hl
      have HRDN := Lib.hid hrdN
      clear hs1 hlit ba hiA hmore hrdN hsz1
      go_wp2_with (first | (at_builtin; refine wpList_append_mine _ rfl _ _ 25 25 rfl 5 (.int .u8 0) 1 1 Try.underlying25 infoU8 rfl (by decide) (.slice A7 no c7) no (cellsB xs) rfl (owns_base (base' := 0) HX7.out.1 (fun _ _ => Nat.zero_le _)) (.slice O2 nz co2) nz (cellsB zs) rfl HX7.out.2.2 (by unfold maxLen; omega) (by omega) ?_; intro A8 c8 w8' hown8 hg8 hbl8 hx8; have HX8 : Hid (w8'.ownsRow wi.heap.size 5 1 (.slice A8 (no + nz) c8) (no + nz) (cellsB (xs ++ zs)) ∧ Below wi.heap.size wi w8') := Lib.hid (by obtain ⟨o, b⟩ := own_next0 HX7.out.1 hown8 hg8 hbl8 HX7.out.2.1.size HX7.out.2.1; rw [← cellsB_append] at o; exact ⟨o, b⟩); have hr8 := HRDN.out A8 (no + nz) c8 w8' (Row.of_owns HX8.out.1) (by rw [List.length_append, HNO.out, HNZ.out]) (owns_capA HX8.out.1) (by omega); have HR8 := Lib.hid hr8; clear hx8 hg8 hbl8 hown8 hr8) | (at_builtin; refine wpList_append_mine _ rfl _ _ 25 25 rfl 5 (.int .u8 0) 1 1 Try.underlying25 infoU8 rfl (by decide) (.slice (some ⟨wi.heap.size, 0, none⟩) 0 0) 0 [] rfl (owns_base (base' := 0) HLIT.out (fun _ _ => Nat.zero_le _)) (.slice O no co) no (cellsB xs) rfl HS1.out (by unfold maxLen; omega) (by omega) ?_; intro A7 c7 w7' hown7 hg7 hbl7 hx7; have HX7 : Hid (w7'.ownsRow wi.heap.size 5 1 (.slice A7 no c7) no (cellsB xs) ∧ Below wi.heap.size wi w7' ∧ Src Try.prog 1 25 (.slice O2 nz co2) nz (cellsB zs) w7') := Lib.hid (by obtain ⟨o, b⟩ := own_next0 HLIT.out hown7 hg7 hbl7 HBA.out.size HBA.out; rw [Nat.zero_add, List.nil_append] at o; have b2 := below_then bi b bi.size; exact ⟨o, b, (Row.of_owns (owns_mono' HZX.out b2)).src (P := Try.prog) (c := co2) (n := nz) (size := 1) Try.underlying25 (by rw [cellsB_length, HNZ.out]; simp) (cellsB_one _) (owns_none HZX.out)⟩); clear hx7 hg7 hbl7 hown7) | (go_at_call 14; refine HR8.out.mono ?_; rintro e w9' ⟨⟨v9, rfl⟩, b9'⟩) | (go_at_call 10; refine (known_any _).mono ?_; rintro e wz ⟨rfl, bz⟩))
      go_ret
      have h1 := below_then bi HX8.out.2 bi.size
      have h2 := below_then h1 b9' h1.size
      have h3 := below_then h2 bz h2.size
      exact ⟨rfl, below_then HBA0.out h3 HBA0.out.size⟩

theorem pback_any (a b cut : Int) (ps : List PrcC) (es : List Ent) (ks js : List Int) (P E C D : Option Addr) (cp ce cc cd : Nat) (w : World)
    (hrp : Row w P (prcsCells ps)) (hre : Row w E (entsCells es)) (hrc : Row w C (ks.map (Value.int .i64 ·))) (hrd : Row w D (js.map (Value.int .i64 ·)))
    (hpl : ps.length ≤ 9223372036854775807) (hel : es.length ≤ 9223372036854775807) (hkl : ks.length ≤ 9223372036854775807) (hjl : js.length ≤ 9223372036854775807) (hpo : ∀ y ∈ ps, y.came w) (heo : ∀ y ∈ es, y.inR) :
    Calls Try.prog 4 #[.int .i64 a, .int .i64 b, .slice P ps.length cp, .slice E es.length ce, .slice C ks.length cc, .slice D js.length cd, .int .i64 cut] w fun e w' => e = .returned (.bool true) ∧ Below w.heap.size w w' := by
  by_cases h : a < 1 ∨ 281474976710655 < a ∨ b < 0 ∨ 281474976710655 < b
  · exact pback_bad a b cut _ _ _ _ w h
  · obtain ⟨n, rfl⟩ : ∃ n : Nat, a = n := ⟨a.toNat, by omega⟩
    obtain ⟨m, rfl⟩ : ∃ m : Nat, b = m := ⟨b.toNat, by omega⟩
    exact pback_good n m cut ps es ks js P E C D cp ce cc cd w (by omega) (by omega) (by omega) hrp hre hrc hrd hpl hel hkl hjl hpo heo
end Go.Proofs.Ytnieminnnkbneaa
