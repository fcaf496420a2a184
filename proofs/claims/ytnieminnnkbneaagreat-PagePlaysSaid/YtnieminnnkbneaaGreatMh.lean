/- Walk of treadlelaw14.stands. -/
import Derived.Test.YtnieminnnkbneaaGreatRdm
import Derived.Test.YtnieminnnkbneaaGreatLop
import Derived.Test.YtnieminnnkbneaaGreatLlg
import Derived.Test.YtnieminnnkbneaaGreatLcm
namespace Go.Proofs.YtnieminnnkbneaaGreat
open Go.RowKit
set_option linter.unusedVariables false

def markC (k : Nat) : Ins := ⟨80 + k, 0, 0, 0, 0, .zero⟩
def markP (k : Nat) : PrcC := ⟨⟨⟨#[]⟩, 90 + k, []⟩, none, 0⟩
def markE (k : Nat) : Ent := ⟨⟨#[]⟩, ⟨95 + k, 0, ⟨#[]⟩⟩⟩
def cmarks (k : Nat) : List Ins := (List.range k).map markC
def pmarks (k : Nat) : List PrcC := (List.range k).map markP
def emarks (k : Nat) : List Ent := (List.range k).map markE
theorem cmarks_succ (k : Nat) : cmarks (k + 1) = cmarks k ++ [markC k] := by simp [cmarks, List.range_succ]
theorem pmarks_succ (k : Nat) : pmarks (k + 1) = pmarks k ++ [markP k] := by simp [pmarks, List.range_succ]
theorem emarks_succ (k : Nat) : emarks (k + 1) = emarks k ++ [markE k] := by simp [emarks, List.range_succ]
theorem prcsCells_append (a b : List PrcC) : prcsCells (a ++ b) = prcsCells a ++ prcsCells b := by simp [prcsCells]
theorem entsCells_append (a b : List Ent) : entsCells (a ++ b) = entsCells a ++ entsCells b := by simp [entsCells]
theorem entsCells_one (l : List Ent) : ∀ u ∈ entsCells l, u.oneCell' = true := by
 intro u hu
 simp only [entsCells, List.mem_flatMap] at hu
 obtain ⟨v, _, hu⟩ := hu
 simp [Ent.cells] at hu
 rcases hu with rfl | rfl | rfl | rfl <;> rfl

theorem owns_some {w : World} {base : Nat} {e : TypeId} {size n c : Nat} {A : Option Addr} {xs : List Value} (h : w.ownsRow base e size (.slice A n c) n xs) (hn : 0 < n) : ∃ g, A = some ⟨g, 0, none⟩ ∧ n ≤ c := by
 rcases h.2 with ⟨h1, h2⟩ | ⟨g, cap, cur, hv, _, _, hnc, _⟩
 ·omega
 ·cases hv
  exact ⟨g, rfl, hnc⟩

theorem owns_grow_none {W V : World} {base : Nat} {e : TypeId} {size n : Nat} {v : Value} {xs : List Value} (h : W.ownsRow base e size v n xs) (hg : W.grownBy V none) : V.ownsRow base e size v n xs := h.kept hg (by cases v.ownBlock <;> simp)

theorem run_upto2 {P : Program} (t e : TypeId) (size : Nat) (hu : P.underlying t = some (.slice e)) (hs : (P.info? e).map (·.size) = some size) (g len cap hi : Nat) (h2 : hi ≤ cap) (h3 : 0 < cap) (W : World) :
  (Instr.slice t (.slice (some ⟨g, 0, none⟩) len cap) none (some (.int .i64 (hi : Int))) none).run P W = .ok (.slice (some ⟨g, 0, none⟩) hi cap) W := by
 obtain ⟨i, hi', hsz⟩ : ∃ i, P.info? e = some i ∧ i.size = size := by
  cases h : P.info? e with
  | none => simp [h] at hs
  | some i => exact ⟨i, rfl, by simpa [h] using hs⟩
 have eh : (hi : Int).toNat = hi := rfl
 have ha : (⟨g, 0, none⟩ : Addr).add 0 = ⟨g, 0, none⟩ := rfl
 have hne : ¬ cap = 0 := by omega
 simp [Instr.slice, run_underlying hu, Instr.sliceBounds, run_sliceBound, sizeOf, typeInfo, hi', h2, ha, hne]


/-- A procedure in a list of its own, with marked room behind it. -/
def TwP (W : World) (base : Nat) (y : PrcC) : Prop := W.ownsRow base 109 8 (.slice y.A (y.p.code.length + 4) y.c) (y.p.code.length + 4) (codeCells (y.p.code ++ cmarks 4))
namespace TwP
variable {W V : World} {base : Nat} {y : PrcC}
theorem below (h : TwP W base y) (hb : Below W.heap.size W V) : TwP V base y := owns_mono' h hb
theorem set {b : Nat} {c : Array Value} {t : TypeId} (h : TwP W base y) (hl : Loc W b c t) (hb : 109 ≠ t) (i : Nat) (u : Value) : TwP (W.setCell ⟨b, i, none⟩ u) base y :=
 owns_setCell (a := ⟨b, i, none⟩) h (owns_ne h hl hb) u
theorem grown {b1 s n : Nat} {e : TypeId} {v : Value} {xs : List Value} (h : TwP W base y) (hv : W.ownsRow b1 e s v n xs) (he : e ≠ 109) (hg : W.grownBy V v.ownBlock) : TwP V base y := owns_two hv h he hg
end TwP

/-- What twin answers. -/
def TwinP (ps : List PrcC) (es : List Ent) (fb : Bool) (w : World) (e : Ending) (w' : World) : Prop :=
 ∃ (G H ca cb : Nat) (lt : List PrcC), e = .returned (.agg #[.slice (some ⟨G, 0, none⟩) ps.length ca, .slice (some ⟨H, 0, none⟩) es.length cb, .bool fb]) ∧ lt.map (·.p) = ps.map (·.p) ∧
  w'.ownsRow w.heap.size 54 3 (.slice (some ⟨G, 0, none⟩) (ps.length + 4) ca) (ps.length + 4) (prcsCells (lt ++ pmarks 4)) ∧ (∀ y ∈ lt, TwP w' w.heap.size y) ∧
  w'.ownsRow w.heap.size 62 4 (.slice (some ⟨H, 0, none⟩) (es.length + 4) cb) (es.length + 4) (entsCells (es ++ emarks 4)) ∧ Below w.heap.size w w'

set_option maxRecDepth 100000 in
set_option maxHeartbeats 4000000 in
theorem ptwin_any (ps : List PrcC) (es : List Ent) (fb : Bool) (A B : Option Addr) (ca cb : Nat) (w : World) (hr : Row w A (prcsCells ps)) (hok : ∀ y ∈ ps, y.came w) (hre : Row w B (entsCells es)) (hB0 : B = none → es.length = 0) (h300 : ps.length ≤ 300) (h3e : es.length ≤ 300) (hall : ∀ y ∈ ps, y.p.code.length ≤ 300) :
  Calls Tryz.prog 18 #[.agg #[.slice A ps.length ca, .slice B es.length cb, .bool fb]] w (TwinP ps es fb w) := by
 obtain ⟨N, hN⟩ : ∃ N, N = ps.length := ⟨_, rfl⟩
 obtain ⟨M, hM⟩ : ∃ M, M = es.length := ⟨_, rfl⟩
 have HN := Lib.hid hN
 have HM0 := Lib.hid hM
 have HR := Lib.hid hr
 have HRE := Lib.hid hre
 have HOK := Lib.hid hok
 have HALL := Lib.hid hall
 have HB0 := Lib.hid hB0
 rw [← hN] at h300 ⊢
 rw [← hM] at h3e ⊢
 clear hN hr hok hall hM hre hB0
 have hszI : (Tryz.prog.info? 109).map (·.size) = some 8 := by kernel_rfl
 have hszP : (Tryz.prog.info? 54).map (·.size) = some 3 := by kernel_rfl
 have hszE : (Tryz.prog.info? 62).map (·.size) = some 4 := by kernel_rfl
 have b0 : Below w.heap.size w ((w.alloc (.cells #[.slice A N ca, .slice B M cb, .bool fb] 39)).alloc (.cells #[.slice none 0 0, .slice none 0 0, .bool false] 39)) := ((Below.refl w.heap.size w).alloc (Nat.le_refl _) _).alloc (by simp) _
 have L0 := (Loc.new w #[.slice A N ca, .slice B M cb, .bool fb] 39).alloc (.cells #[.slice none 0 0, .slice none 0 0, .bool false] 39)
 have Z0 := Loc.new (w.alloc (.cells #[.slice A N ca, .slice B M cb, .bool fb] 39)) #[.slice none 0 0, .slice none 0 0, .bool false] 39
 simp only [World.size_alloc] at Z0
 go_enter Tryz.func18, Tryz.ntmps18
 go_wp2
 go_loopw [3, 4] (fun v i wr => ∃ (k : Nat) (lt : List PrcC) (G : Option Addr) (d : Nat), k ≤ N ∧ v = .slice G k d ∧ i = .int .i64 (k : Nat) ∧ Hid (lt.map (·.p) = (ps.map (·.p)).take k) ∧ Hid (lt.length = k) ∧ Below w.heap.size w wr ∧ Loc wr w.heap.size #[.slice A N ca, .slice B M cb, .bool fb] 39 ∧ Loc wr (w.heap.size + 1) #[.slice none 0 0, .slice none 0 0, .bool false] 39 ∧ wr.ownsRow w.heap.size 54 3 (.slice G k d) k (prcsCells lt) ∧ Hid (∀ y ∈ lt, TwP wr w.heap.size y)) (fun _ i _ => N - (intOf i).toNat)
 case atStart => exact ⟨0, [], none, 0, Nat.zero_le _, rfl, rfl, Lib.hid rfl, Lib.hid rfl, b0, L0, Z0, World.ownsRow_nil _ _ _ _, Lib.hid (fun y hy => by cases hy)⟩
 case round =>
  obtain ⟨wi, rfl⟩ : ∃ wi, wi = wr := ⟨_, rfl⟩
  obtain ⟨k, lt, G, d, hk, rfl, rfl, HM, HLL, bi, Li, Zi, own, HT⟩ := hrel
  have p0 := Li.cell 0
  have p1 := Li.cell 1
  simp at p0 p1
  clear b0 L0 Z0
  by_cases hkn : k < N
  ·have hkl : k < ps.length := by rw [← HN.out]; exact hkn
   obtain ⟨b, off, rfl, hbl, hc⟩ := (HR.out.of_below bi (Nat.le_refl _)).prcs (by omega)
   have hcx := hc k hkl
   have htk : (ps.map (·.p)).take (k + 1) = (ps.map (·.p)).take k ++ [ps[k].p] := by rw [List.take_succ_eq_append_getElem (by rw [List.length_map]; exact hkl), List.getElem_map]
   have hox := (HOK.out _ (List.getElem_mem hkl)).below bi
   have hal := HALL.out _ (List.getElem_mem hkl)
   generalize ps[k] = X at *
   obtain ⟨⟨xn, xa, xc⟩, XB, xcb⟩ := X
   have x0 := hcx 0 (by decide); have x1 := hcx 1 (by decide); have x2 := hcx 2 (by decide)
   simp only [PrcC.cells, procCells, List.getElem?_toArray, List.getElem?_cons_zero, List.getElem?_cons_succ, Nat.add_zero] at x0 x1 x2
   simp only at hal htk
   obtain ⟨nc, hnc⟩ : ∃ nc, nc = xc.length := ⟨_, rfl⟩
   have hob := hox.r; have hob0 := hox.a
   simp only at hob hob0
   rw [← hnc] at x2 hal hob0
   have HTK := Lib.hid htk
   have HNC := Lib.hid hnc
   have hkn' : (k : Int) < (N : Int) := by omega
   have bT : Below wi.heap.size wi (wi.alloc (.cells #[.string xn, .int .i64 xa, .slice XB nc xcb] 54)) := (Below.refl _ _).alloc (Nat.le_refl _) _
   have T0 := Loc.new wi #[.string xn, .int .i64 xa, .slice XB nc xcb] 54
   have HSV := Lib.hid ((hob.of_below bT (Nat.le_refl _)).src (P := Tryz.prog) (size := 8) (n := nc) (c := xcb) (tx := 52) Tryz.underlying52 (by rw [codeCells_length, HNC.out]) (codeCells_cell xc) hob0)
   clear hc hcx htk hnc hox hob hob0
   go_upto_region 8 with (at_builtin; refine wpList_append_mine _ rfl _ _ 52 52 rfl 109 (.agg #[.int .i64 0, .int .i64 0, .int .i64 0, .int .i64 0, .int .i64 0, .int .i64 0, .int .i64 0, .string ⟨#[]⟩]) 8 72 Tryz.underlying52 infoIns rfl (by decide) (.slice none 0 0) 0 [] rfl (World.ownsRow_nil _ _ _ _) (.slice XB nc xcb) nc (codeCells xc) rfl HSV.out (by unfold maxLen; omega) (by omega) ?_; intro A1 c1 w1 hown1 hg1 hb1 hx1; have T1 := T0.grown hg1 (by simp [Value.ownBlock]); obtain ⟨o1, b1⟩ := own_next0 (World.ownsRow_nil _ wi.heap.size _ _) hown1 hg1 hb1 bT.size bT; rw [Nat.zero_add, List.nil_append] at o1; clear hx1 hg1 hb1 hown1)
   go_wp2
   go_loopw [6, 7] (fun c i wr => ∃ (j : Nat) (B1 : Option Addr) (d1 : Nat), j ≤ 4 ∧ c = .slice B1 (nc + j) d1 ∧ i = .int .i64 (j : Nat) ∧ Below wi.heap.size wi wr ∧ Loc wr wi.heap.size #[.string xn, .int .i64 xa, .slice XB nc xcb] 54 ∧ wr.ownsRow wi.heap.size 109 8 (.slice B1 (nc + j) d1) (nc + j) (codeCells (xc ++ cmarks j))) (fun _ i _ => 4 - (intOf i).toNat)
   case atStart => exact ⟨0, A1, c1, Nat.zero_le _, rfl, rfl, b1, T1, by simpa [cmarks] using o1⟩
   case round =>
    obtain ⟨wj, rfl⟩ : ∃ wj, wj = wr := ⟨_, rfl⟩
    obtain ⟨j, B4, d4, hj, rfl, rfl, bj, Tj, oi⟩ := hrel
    clear b1 T1 o1
    by_cases hj4 : j < 4
    ·have hj4' : (j : Int) < 4 := by omega
     have w80 : IntKind.i64.wrap (80 + (j : Int)) = 80 + (j : Int) := by simp [IntKind.bits, IntKind.wrap, IntKind.signed]; omega
     have bv := (Below.refl wj.heap.size wj).alloc (Nat.le_refl _) (.cells #[.int .i64 (80 + j), .int .i64 0, .int .i64 0, .int .i64 0, .int .i64 0, .int .i64 0, .int .i64 0, .string ⟨#[]⟩] 109)
     have oi1 := owns_mono' oi bv
     have bj1 := bj.alloc bj.size (.cells #[.int .i64 (80 + j), .int .i64 0, .int .i64 0, .int .i64 0, .int .i64 0, .int .i64 0, .int .i64 0, .string ⟨#[]⟩] 109)
     have Tj1 := Tj.alloc (.cells #[.int .i64 (80 + j), .int .i64 0, .int .i64 0, .int .i64 0, .int .i64 0, .int .i64 0, .int .i64 0, .string ⟨#[]⟩] 109)
     have HS1 := Lib.hid (Row.src (P := Tryz.prog) (c := 1) (size := 8) (n := 1) (tx := 52) (Row.of_loc (Loc.new wj #[.int .i64 (80 + j), .int .i64 0, .int .i64 0, .int .i64 0, .int .i64 0, .int .i64 0, .int .i64 0, .string ⟨#[]⟩] 109)) Tryz.underlying52 rfl (by simp [Value.oneCell']) (fun h => by simp at h))
     clear bv oi Tj
     go_wp2_with (at_builtin; refine wpList_append_mine _ rfl _ _ 52 52 rfl 109 (.agg #[.int .i64 0, .int .i64 0, .int .i64 0, .int .i64 0, .int .i64 0, .int .i64 0, .int .i64 0, .string ⟨#[]⟩]) 8 72 Tryz.underlying52 infoIns rfl (by decide) (.slice B4 (nc + j) d4) (nc + j) (codeCells (xc ++ cmarks j)) rfl (owns_base (base' := 0) oi1 (fun _ _ => Nat.zero_le _)) _ 1 _ rfl HS1.out (by unfold maxLen; omega) (by omega) ?_; intro B6 d6 w6 hown hg hbl hx; obtain ⟨oi4, b7⟩ := own_next0 oi1 hown hg hbl bj1.size bj1; have T7 := Tj1.grown hg (owns_ne oi1 Tj1 (by decide)); clear hown hg hbl hx)
     go_roundw
     case rel =>
      refine ⟨j + 1, B6, d6, by omega, rfl, by go_num, b7, T7, ?_⟩
      rw [cmarks_succ, ← List.append_assoc, codeCells_append]
      exact oi4
     case measure => simp [intOf]; omega
    ·obtain rfl : j = 4 := by omega
     obtain ⟨gb, rfl, hcb⟩ := owns_some oi (by omega)
     have hupI := run_upto2 (P := Tryz.prog) 52 109 8 Tryz.underlying52 hszI gb (nc + 4) d4 nc (by omega) (by omega)
     have e0 := Tj.cell 0; have e1 := Tj.cell 1; have e2 := Tj.cell 2
     have f2 := Tj.free 2
     simp at e0 e1 e2
     have T6 := Tj.set 2 (.slice (some ⟨gb, 0, none⟩) nc d4)
     have b6 := bj.setCell (p := ⟨wi.heap.size, 2, none⟩) (Nat.le_refl _) (.slice (some ⟨gb, 0, none⟩) nc d4)
     have oi6 := owns_setCell (a := ⟨wi.heap.size, 2, none⟩) oi (owns_ne oi Tj (by decide)) (.slice (some ⟨gb, 0, none⟩) nc d4)
     simp only [List.setIfInBounds_toArray, List.set_cons_succ, List.set_cons_zero] at T6
     obtain ⟨w8, hw8⟩ : ∃ w8, w8 = wj.setCell ⟨wi.heap.size, 2, none⟩ (.slice (some ⟨gb, 0, none⟩) nc d4) := ⟨_, rfl⟩
     have bn := (Below.refl w8.heap.size w8).alloc (Nat.le_refl _) (.cells #[.string xn, .int .i64 xa, .slice (some ⟨gb, 0, none⟩) nc d4] 54)
     rw [← hw8] at T6 b6 oi6
     have hY : TwP w8 w.heap.size ⟨⟨xn, xa, xc⟩, some ⟨gb, 0, none⟩, d4⟩ := owns_mono (by have h := oi6; rw [HNC.out] at h; exact h) bi.size
     have hT8 : ∀ y ∈ lt ++ [⟨⟨xn, xa, xc⟩, some ⟨gb, 0, none⟩, d4⟩], TwP (w8.alloc (.cells #[.string xn, .int .i64 xa, .slice (some ⟨gb, 0, none⟩) nc d4] 54)) w.heap.size y := fun y hy => by
      rcases List.mem_append.1 hy with hy | hy
      ·exact ((HT.out y hy).below b6).below bn
      ·rw [List.mem_singleton.1 hy]; exact hY.below bn
     have own8 := owns_mono' (owns_mono' own b6) bn
     have b8 := below_then bi b6 bi.size
     have b9 := b8.alloc b8.size (.cells #[.string xn, .int .i64 xa, .slice (some ⟨gb, 0, none⟩) nc d4] 54)
     have L8 := (Li.below b6 Li.lt).alloc (.cells #[.string xn, .int .i64 xa, .slice (some ⟨gb, 0, none⟩) nc d4] 54)
     have Z8 := (Zi.below b6 Zi.lt).alloc (.cells #[.string xn, .int .i64 xa, .slice (some ⟨gb, 0, none⟩) nc d4] 54)
     have hs9 := Row.src (P := Tryz.prog) (c := 1) (size := 3) (n := 1) (tx := 36) (Row.of_loc (Loc.new w8 #[.string xn, .int .i64 xa, .slice (some ⟨gb, 0, none⟩) nc d4] 54)) Tryz.underlying36 rfl (by simp [Value.oneCell']) (fun h => by simp at h)
     have hz8 : w8.heap.size = wj.heap.size := by rw [hw8]; simp
     rw [hz8] at hs9
     rw [hw8] at hs9 own8 b9 L8 Z8 hT8
     have HS9 := Lib.hid hs9
     have HT8 := Lib.hid hT8
     clear hs9 hT8 hY bn oi6 T6 b6 b8 oi hw8 hz8 Tj bj
     go_wp2_with (at_builtin; refine wpList_append_mine _ rfl _ _ 36 36 rfl 54 (.agg #[.string ⟨#[]⟩, .int .i64 0, .slice none 0 0]) 3 48 Tryz.underlying36 infoProc rfl (by decide) (.slice G k d) k (prcsCells lt) rfl (owns_base (base' := 0) own8 (fun _ _ => Nat.zero_le _)) _ 1 _ rfl HS9.out (by unfold maxLen; omega) (by omega) ?_; intro A7 c7 w10 hown hg hbl hx; obtain ⟨o10, b10⟩ := own_next0 own8 hown hg hbl b9.size b9; have L10 := L8.grown hg (owns_ne own8 L8 (by decide)); have Z10 := Z8.grown hg (owns_ne own8 Z8 (by decide)); have T10 := fun y hy => (HT8.out y hy).grown own8 (by decide) hg; clear hown hg hbl hx)
     go_roundw
     case rel =>
      refine ⟨k + 1, lt ++ [⟨⟨xn, xa, xc⟩, some ⟨gb, 0, none⟩, d4⟩], A7, c7, by omega, rfl, by go_num, Lib.hid ?_, Lib.hid (by simp [HLL.out]), b10, L10, Z10, ?_, Lib.hid T10⟩
      ·rw [HTK.out, List.map_append, HM.out]; rfl
      ·have htc : prcsCells (lt ++ [⟨⟨xn, xa, xc⟩, some ⟨gb, 0, none⟩, d4⟩]) = prcsCells lt ++ (#[.string xn, .int .i64 xa, .slice (some ⟨gb, 0, none⟩) nc d4] : Array Value).toList := by rw [HNC.out]; simp [prcsCells, PrcC.cells, procCells]
       rw [htc]
       exact o10
     case measure => simp [intOf]; omega
  ·obtain rfl : k = N := by omega
   have hm := HM.out
   rw [List.take_of_length_le (by rw [List.length_map, ← HN.out]; exact Nat.le_refl _)] at hm
   have HMM := Lib.hid hm
   have HSE := Lib.hid ((HRE.out.of_below bi (Nat.le_refl _)).src (P := Tryz.prog) (size := 4) (n := M) (c := cb) (tx := 37) Tryz.underlying37 (by rw [entsCells_length, HM0.out]) (entsCells_one es) (by rw [HM0.out]; exact HB0.out))
   clear hm HM
   go_upto_region 16 with (at_builtin; refine wpList_append_mine _ rfl _ _ 37 37 rfl 62 (.agg #[.string ⟨#[]⟩, .int .i64 0, .int .i64 0, .string ⟨#[]⟩]) 4 48 Tryz.underlying37 infoEntry rfl (by decide) (.slice none 0 0) 0 [] rfl (World.ownsRow_nil _ _ _ _) (.slice B M cb) M (entsCells es) rfl HSE.out (by unfold maxLen; omega) (by omega) ?_; intro A1 c1 w1 hown1 hg1 hb1 hx1; have T1 := Li.grown hg1 (by simp [Value.ownBlock]); have Z1 := Zi.grown hg1 (by simp [Value.ownBlock]); have ow1 := owns_grow_none own hg1; have HT1 := Lib.hid (fun y hy => (owns_grow_none (HT.out y hy) hg1 : TwP w1 w.heap.size y)); obtain ⟨o1, b1⟩ := own_next0 (World.ownsRow_nil _ w.heap.size _ _) hown1 hg1 hb1 bi.size bi; rw [Nat.zero_add, List.nil_append] at o1; clear hx1 hg1 hb1 hown1)
   clear bi Li Zi own HT p0 p1 HSE
   go_wp2
   go_loopw [3, 8, 9] (fun v u i wr => ∃ (j : Nat) (G : Option Addr) (d : Nat) (H : Option Addr) (dh : Nat), j ≤ 4 ∧ v = .slice G (k + j) d ∧ u = .slice H (M + j) dh ∧ i = .int .i64 (j : Nat) ∧ Below w.heap.size w wr ∧ Loc wr w.heap.size #[.slice A k ca, .slice B M cb, .bool fb] 39 ∧ Loc wr (w.heap.size + 1) #[.slice none 0 0, .slice none 0 0, .bool false] 39 ∧ wr.ownsRow w.heap.size 54 3 (.slice G (k + j) d) (k + j) (prcsCells (lt ++ pmarks j)) ∧ wr.ownsRow w.heap.size 62 4 (.slice H (M + j) dh) (M + j) (entsCells (es ++ emarks j)) ∧ Hid (∀ y ∈ lt, TwP wr w.heap.size y)) (fun _ _ i _ => 4 - (intOf i).toNat)
   case atStart => exact ⟨0, G, d, A1, c1, Nat.zero_le _, rfl, rfl, rfl, b1, T1, Z1, by simpa [pmarks] using ow1, by simpa [emarks] using o1, HT1⟩
   case round =>
    obtain ⟨wj, rfl⟩ : ∃ wj, wj = wr := ⟨_, rfl⟩
    obtain ⟨j, B4, d4, H4, dh4, hj, rfl, rfl, rfl, bj, Lj, Zj, oj, oe, HTj⟩ := hrel
    clear b1 T1 Z1 ow1 o1 HT1
    by_cases hj4 : j < 4
    ·have hj4' : (j : Int) < 4 := by omega
     have w90 : IntKind.i64.wrap (90 + (j : Int)) = 90 + (j : Int) := by simp [IntKind.bits, IntKind.wrap, IntKind.signed]; omega
     have w95 : IntKind.i64.wrap (95 + (j : Int)) = 95 + (j : Int) := by simp [IntKind.bits, IntKind.wrap, IntKind.signed]; omega
     have bn := (Below.refl wj.heap.size wj).alloc (Nat.le_refl _) (.cells #[.string ⟨#[]⟩, .int .i64 (90 + j), .slice none 0 0] 54)
     have oj1 := owns_mono' oj bn
     have oe1 := owns_mono' oe bn
     have bj1 := bj.alloc bj.size (.cells #[.string ⟨#[]⟩, .int .i64 (90 + j), .slice none 0 0] 54)
     have Lj1 := Lj.alloc (.cells #[.string ⟨#[]⟩, .int .i64 (90 + j), .slice none 0 0] 54)
     have Zj1 := Zj.alloc (.cells #[.string ⟨#[]⟩, .int .i64 (90 + j), .slice none 0 0] 54)
     have HTj1 := Lib.hid (fun y hy => (HTj.out y hy).below bn)
     have HS1 := Lib.hid (Row.src (P := Tryz.prog) (c := 1) (size := 3) (n := 1) (tx := 36) (Row.of_loc (Loc.new wj #[.string ⟨#[]⟩, .int .i64 (90 + j), .slice none 0 0] 54)) Tryz.underlying36 rfl (by simp [Value.oneCell']) (fun h => by simp at h))
     clear bn oj oe bj Lj Zj
     go_upto_region 20 with (at_builtin; refine wpList_append_mine _ rfl _ _ 36 36 rfl 54 (.agg #[.string ⟨#[]⟩, .int .i64 0, .slice none 0 0]) 3 48 Tryz.underlying36 infoProc rfl (by decide) (.slice B4 (k + j) d4) (k + j) (prcsCells (lt ++ pmarks j)) rfl (owns_base (base' := 0) oj1 (fun _ _ => Nat.zero_le _)) _ 1 _ rfl HS1.out (by unfold maxLen; omega) (by omega) ?_; intro A7 c7 w10 hown hg hbl hx; obtain ⟨o10, b10⟩ := own_next0 oj1 hown hg hbl bj1.size bj1; have L10 := Lj1.grown hg (owns_ne oj1 Lj1 (by decide)); have Z10 := Zj1.grown hg (owns_ne oj1 Zj1 (by decide)); have e10 := owns_two oj1 oe1 (by decide) hg; have T10 := Lib.hid (fun y hy => (HTj1.out y hy).grown oj1 (by decide) hg); clear hown hg hbl hx)
     have bn := (Below.refl w10.heap.size w10).alloc (Nat.le_refl _) (.cells #[.string ⟨#[]⟩, .int .i64 (95 + j), .int .i64 0, .string ⟨#[]⟩] 62)
     have o11 := owns_mono' o10 bn
     have e11 := owns_mono' e10 bn
     have b11 := b10.alloc b10.size (.cells #[.string ⟨#[]⟩, .int .i64 (95 + j), .int .i64 0, .string ⟨#[]⟩] 62)
     have L11 := L10.alloc (.cells #[.string ⟨#[]⟩, .int .i64 (95 + j), .int .i64 0, .string ⟨#[]⟩] 62)
     have Z11 := Z10.alloc (.cells #[.string ⟨#[]⟩, .int .i64 (95 + j), .int .i64 0, .string ⟨#[]⟩] 62)
     have T11 := Lib.hid (fun y hy => (T10.out y hy).below bn)
     have HS2 := Lib.hid (Row.src (P := Tryz.prog) (c := 1) (size := 4) (n := 1) (tx := 37) (Row.of_loc (Loc.new w10 #[.string ⟨#[]⟩, .int .i64 (95 + j), .int .i64 0, .string ⟨#[]⟩] 62)) Tryz.underlying37 rfl (by simp [Value.oneCell']) (fun h => by simp at h))
     clear bn o10 e10 b10 L10 Z10 T10 oj1 oe1 bj1 Lj1 Zj1 HTj1 HS1
     go_wp2_with (at_builtin; refine wpList_append_mine _ rfl _ _ 37 37 rfl 62 (.agg #[.string ⟨#[]⟩, .int .i64 0, .int .i64 0, .string ⟨#[]⟩]) 4 48 Tryz.underlying37 infoEntry rfl (by decide) (.slice H4 (M + j) dh4) (M + j) (entsCells (es ++ emarks j)) rfl (owns_base (base' := 0) e11 (fun _ _ => Nat.zero_le _)) _ 1 _ rfl HS2.out (by unfold maxLen; omega) (by omega) ?_; intro A8 c8 w12 hown hg hbl hx; obtain ⟨e12, b12⟩ := own_next0 e11 hown hg hbl b11.size b11; have L12 := L11.grown hg (owns_ne e11 L11 (by decide)); have Z12 := Z11.grown hg (owns_ne e11 Z11 (by decide)); have o12 := owns_two e11 o11 (by decide) hg; have T12 := Lib.hid (fun y hy => (T11.out y hy).grown e11 (by decide) hg); clear hown hg hbl hx)
     go_roundw
     case rel =>
      refine ⟨j + 1, A7, c7, A8, c8, by omega, rfl, rfl, by go_num, b12, L12, Z12, ?_, ?_, T12⟩
      ·have htc : prcsCells (lt ++ pmarks (j + 1)) = prcsCells (lt ++ pmarks j) ++ (#[.string ⟨#[]⟩, .int .i64 (90 + j), .slice none 0 0] : Array Value).toList := by
        rw [pmarks_succ, ← List.append_assoc, prcsCells_append]
        rfl
       rw [htc]
       exact o12
      ·have htc : entsCells (es ++ emarks (j + 1)) = entsCells (es ++ emarks j) ++ (#[.string ⟨#[]⟩, .int .i64 (95 + j), .int .i64 0, .string ⟨#[]⟩] : Array Value).toList := by
        rw [emarks_succ, ← List.append_assoc, entsCells_append]
        rfl
       rw [htc]
       exact e12
     case measure => simp [intOf]; omega
    ·obtain rfl : j = 4 := by omega
     obtain ⟨G, rfl, hcg⟩ := owns_some oj (by omega)
     obtain ⟨H, rfl, hch⟩ := owns_some oe (by omega)
     have hup := run_upto2 (P := Tryz.prog) 36 54 3 Tryz.underlying36 hszP G (k + 4) d4 k (by omega) (by omega)
     have hue := run_upto2 (P := Tryz.prog) 37 62 4 Tryz.underlying37 hszE H (M + 4) dh4 M (by omega) (by omega)
     have p0 := Lj.cell 0; have p1 := Lj.cell 1; have p2 := Lj.cell 2; have pf0 := Lj.free 0; have pf1 := Lj.free 1
     have q0 := Zj.cell 0; have q1 := Zj.cell 1; have q2 := Zj.cell 2; have qf0 := Zj.free 0; have qf1 := Zj.free 1; have qf2 := Zj.free 2
     simp at p0 p1 p2 q0 q1 q2
     obtain ⟨c0, hc0⟩ : ∃ c0 : Value, c0 = .slice (some ⟨G, 0, none⟩) k d4 := ⟨_, rfl⟩
     obtain ⟨c1, hc1⟩ : ∃ c1 : Value, c1 = .slice (some ⟨H, 0, none⟩) M dh4 := ⟨_, rfl⟩
     have hput : ∀ (b i : Nat) (t : TypeId) (c : Array Value) (u : Value) (W : World), 39 = t → w.heap.size ≤ b → Loc W b c t → (W.ownsRow w.heap.size 54 3 (.slice (some ⟨G, 0, none⟩) (k + 4) d4) (k + 4) (prcsCells (lt ++ pmarks 4)) ∧ W.ownsRow w.heap.size 62 4 (.slice (some ⟨H, 0, none⟩) (M + 4) dh4) (M + 4) (entsCells (es ++ emarks 4)) ∧ (∀ y ∈ lt, TwP W w.heap.size y) ∧ Below w.heap.size w W) → ((W.setCell ⟨b, i, none⟩ u).ownsRow w.heap.size 54 3 (.slice (some ⟨G, 0, none⟩) (k + 4) d4) (k + 4) (prcsCells (lt ++ pmarks 4)) ∧ (W.setCell ⟨b, i, none⟩ u).ownsRow w.heap.size 62 4 (.slice (some ⟨H, 0, none⟩) (M + 4) dh4) (M + 4) (entsCells (es ++ emarks 4)) ∧ (∀ y ∈ lt, TwP (W.setCell ⟨b, i, none⟩ u) w.heap.size y) ∧ Below w.heap.size w (W.setCell ⟨b, i, none⟩ u)) := fun b i t c u W ht hb L h => by
      subst ht
      exact ⟨owns_setCell (a := ⟨b, i, none⟩) h.1 (owns_ne h.1 L (by decide)) u, owns_setCell (a := ⟨b, i, none⟩) h.2.1 (owns_ne h.2.1 L (by decide)) u, fun y hy => (h.2.2.1 y hy).set L (by decide) i u, h.2.2.2.setCell (p := ⟨b, i, none⟩) hb u⟩
     have s0 := hput w.heap.size 0 _ _ c0 wj rfl (Nat.le_refl _) Lj ⟨oj, oe, HTj.out, bj⟩
     have L1 := Lj.set 0 c0
     have Z1 := Zj.other (a := ⟨w.heap.size, 0, none⟩) (show w.heap.size + 1 ≠ w.heap.size by omega) c0
     have s1 := hput w.heap.size 1 _ _ c1 _ rfl (Nat.le_refl _) L1 s0
     have Z2 := Z1.other (a := ⟨w.heap.size, 1, none⟩) (show w.heap.size + 1 ≠ w.heap.size by omega) c1
     have s2 := hput (w.heap.size + 1) 0 _ _ c0 _ rfl (Nat.le_succ _) Z2 s1
     have Z3 := Z2.set 0 c0
     have s3 := hput (w.heap.size + 1) 1 _ _ c1 _ rfl (Nat.le_succ _) Z3 s2
     have Z4 := Z3.set 1 c1
     have s4 := hput (w.heap.size + 1) 2 _ _ (.bool fb) _ rfl (Nat.le_succ _) Z4 s3
     have Z5 := Z4.set 2 (.bool fb)
     simp only [List.setIfInBounds_toArray, List.set_cons_succ, List.set_cons_zero] at Z5
     have y0 := Z5.cell 0; have y1 := Z5.cell 1; have y2 := Z5.cell 2
     simp at y0 y1 y2
     rw [hc0, hc1] at y0 y1 y2 s4
     have HY := Lib.hid (And.intro y0 (And.intro y1 y2))
     have HS4 := Lib.hid s4
     clear y0 y1 y2 s4 s3 s2 s1 s0 Z1 Z2 Z3 Z4 Z5 L1 hput bj oj oe hc0 hc1 Lj Zj
     go_wp2
     obtain ⟨y0, y1, y2⟩ := HY.out
     obtain ⟨z1, z2, z3, z4⟩ := HS4.out
     exact bodyPost_ret (v := .agg #[.slice (some ⟨G, 0, none⟩) k d4, .slice (some ⟨H, 0, none⟩) M dh4, .bool fb]) (by simp [results, Tryz.results18, go_sem, y0, y1, y2]) rfl ⟨G, H, d4, dh4, lt, by rw [← HN.out, ← HM0.out], HMM.out, by rw [← HN.out]; exact z1, z3, by rw [← HM0.out]; exact z2, z4⟩
end Go.Proofs.YtnieminnnkbneaaGreat

namespace Go.Proofs.YtnieminnnkbneaaGreat
open Go.RowKit
set_option linter.unusedVariables false

theorem owns_locs {w : World} {base : Nat} {e : TypeId} {size n g d : Nat} {xs : List Value} (h : w.ownsRow base e size (.slice (some ⟨g, 0, none⟩) n d) n xs) :
  ∃ cur : Array Value, Loc w g cur e ∧ base ≤ g ∧ n * size ≤ cur.size ∧ (∀ j, j < n * size → cur[j]? = xs[j]?) := by
 rcases h.2 with ⟨h1, _⟩ | ⟨g', cap, cur, hv, hb, hh, hnc, _, hs, ht⟩
 ·cases h1
 ·cases hv
  refine ⟨cur, hh, hb, by rw [hs]; exact Nat.mul_le_mul_right _ hnc, fun j hj => ?_⟩
  rw [← ht, List.getElem?_take_of_lt hj]
  simp

theorem owns_type {W V : World} {base : Nat} {e : TypeId} {size n : Nat} {v : Value} {xs : List Value} (h : W.ownsRow base e size v n xs) (hk : ∀ b c, Loc W b c e → Loc V b c e) : V.ownsRow base e size v n xs := by
 obtain ⟨h1, h2⟩ := h
 refine ⟨h1, ?_⟩
 rcases h2 with h2 | ⟨g, cap, cur, rfl, hg, hh, r⟩
 ·exact .inl h2
 ·exact .inr ⟨g, cap, cur, rfl, hg, hk g cur hh, r⟩
/-- The blocks of spoil: the twin's lists, as far as they are needed still. -/
structure Sp (N M G H tb base : Nat) (T : Array Value) (lt : List PrcC) (k : Nat) (w W : World) : Prop where
 b : Below base w W
 t : Loc W tb T 39
 g : ∃ c : Array Value, Loc W G c 54 ∧ N * 3 ≤ c.size ∧ ∀ j (hj : j < lt.length), k ≤ j → ∀ i, i < 3 → c[j * 3 + i]? = lt[j].cells[i]?
 h : ∃ c : Array Value, Loc W H c 62 ∧ M * 4 ≤ c.size
 c : ∀ y ∈ lt, ∃ q c, y.A = some ⟨q, 0, none⟩ ∧ base ≤ q ∧ Loc W q c 109 ∧ y.p.code.length * 8 ≤ c.size
 bg : base ≤ G
 bh : base ≤ H
 o : ∀ q c t, t ≠ 109 → t ≠ 54 → t ≠ 62 → Loc w q c t → Loc W q c t
namespace Sp
variable {N M G H tb base k : Nat} {T : Array Value} {lt : List PrcC} {w W : World}
theorem up (h : Sp N M G H tb base T lt k w W) : Sp N M G H tb base T lt (k + 1) w W := by
 obtain ⟨c, L, s, hc⟩ := h.g
 exact { h with g := ⟨c, L, s, fun j hj hk => hc j hj (by omega)⟩ }
theorem setC (h : Sp N M G H tb base T lt k w W) {q : Nat} {c : Array Value} (L : Loc W q c 109) (hq : base ≤ q) (o : Nat) (v : Value) : Sp N M G H tb base T lt k w (W.setCell ⟨q, o, none⟩ v) := by
 obtain ⟨cg, Lg, s, hc⟩ := h.g
 obtain ⟨ch, Lh, s2⟩ := h.h
 refine ⟨h.b.setCell (p := ⟨q, o, none⟩) hq v, h.t.other (a := ⟨q, o, none⟩) (h.t.ne L (by decide)) v, ⟨cg, Lg.other (a := ⟨q, o, none⟩) (Lg.ne L (by decide)) v, s, hc⟩, ⟨ch, Lh.other (a := ⟨q, o, none⟩) (Lh.ne L (by decide)) v, s2⟩, fun y hy => ?_, h.bg, h.bh, fun p cp t h1 h2 h3 hl => (h.o p cp t h1 h2 h3 hl).other (a := ⟨q, o, none⟩) ((h.o p cp t h1 h2 h3 hl).ne L h1) v⟩
 obtain ⟨p, cp, e1, e2, e3, e4⟩ := h.c y hy
 by_cases hpq : p = q
 ·subst hpq
  exact ⟨p, _, e1, e2, e3.set o v, by simpa using e4⟩
 ·exact ⟨p, cp, e1, e2, e3.other (a := ⟨q, o, none⟩) hpq v, e4⟩
theorem setG (h : Sp N M G H tb base T lt k w W) (o : Nat) (ho : o < k * 3) (v : Value) : Sp N M G H tb base T lt k w (W.setCell ⟨G, o, none⟩ v) := by
 obtain ⟨cg, Lg, s, hc⟩ := h.g
 obtain ⟨ch, Lh, s2⟩ := h.h
 refine ⟨h.b.setCell (p := ⟨G, o, none⟩) h.bg v, h.t.other (a := ⟨G, o, none⟩) (h.t.ne Lg (by decide)) v, ⟨_, Lg.set o v, by simpa using s, fun j hj hk i hi => ?_⟩, ⟨ch, Lh.other (a := ⟨G, o, none⟩) (Lh.ne Lg (by decide)) v, s2⟩, fun y hy => ?_, h.bg, h.bh, fun p cp t h1 h2 h3 hl => (h.o p cp t h1 h2 h3 hl).other (a := ⟨G, o, none⟩) ((h.o p cp t h1 h2 h3 hl).ne Lg h2) v⟩
 ·rw [Array.getElem?_setIfInBounds_ne (by omega)]
  exact hc j hj hk i hi
 ·obtain ⟨p, cp, e1, e2, e3, e4⟩ := h.c y hy
  exact ⟨p, cp, e1, e2, e3.other (a := ⟨G, o, none⟩) (e3.ne Lg (by decide)) v, e4⟩
theorem setH (h : Sp N M G H tb base T lt k w W) (o : Nat) (v : Value) : Sp N M G H tb base T lt k w (W.setCell ⟨H, o, none⟩ v) := by
 obtain ⟨cg, Lg, s, hc⟩ := h.g
 obtain ⟨ch, Lh, s2⟩ := h.h
 refine ⟨h.b.setCell (p := ⟨H, o, none⟩) h.bh v, h.t.other (a := ⟨H, o, none⟩) (h.t.ne Lh (by decide)) v, ⟨cg, Lg.other (a := ⟨H, o, none⟩) (Lg.ne Lh (by decide)) v, s, hc⟩, ⟨_, Lh.set o v, by simpa using s2⟩, fun y hy => ?_, h.bg, h.bh, fun p cp t h1 h2 h3 hl => (h.o p cp t h1 h2 h3 hl).other (a := ⟨H, o, none⟩) ((h.o p cp t h1 h2 h3 hl).ne Lh h3) v⟩
 obtain ⟨p, cp, e1, e2, e3, e4⟩ := h.c y hy
 exact ⟨p, cp, e1, e2, e3.other (a := ⟨H, o, none⟩) (e3.ne Lh (by decide)) v, e4⟩
end Sp
/-- A cell of a block that is there. -/
theorem loc_some {w : World} {b : Nat} {c : Array Value} {t : TypeId} (h : Loc w b c t) (o : Nat) (ho : o < c.size) : ∃ v, w.cell? ⟨b, o, none⟩ = some v := ⟨c[o], by rw [h.cell, Array.getElem?_eq_getElem ho]⟩

set_option maxRecDepth 100000 in
set_option maxHeartbeats 4000000 in
theorem pspoil_any (N M : Nat) (lt : List PrcC) (es : List Ent) (fb : Bool) (G H da db base : Nat) (w : World) (hN : N = lt.length) (hM : M = es.length) (h300 : N ≤ 300) (h3e : M ≤ 300) (hall : ∀ y ∈ lt, y.p.code.length ≤ 300) (hbase : base ≤ w.heap.size)
  (hown : w.ownsRow base 54 3 (.slice (some ⟨G, 0, none⟩) (N + 4) da) (N + 4) (prcsCells (lt ++ pmarks 4))) (hT : ∀ y ∈ lt, TwP w base y)
  (hone : w.ownsRow base 62 4 (.slice (some ⟨H, 0, none⟩) (M + 4) db) (M + 4) (entsCells (es ++ emarks 4))) :
  Calls Tryz.prog 21 #[.agg #[.slice (some ⟨G, 0, none⟩) N da, .slice (some ⟨H, 0, none⟩) M db, .bool fb]] w fun e w' => e = .returned (.tuple #[]) ∧ Below base w w' ∧ (∀ q c t, t ≠ 109 → t ≠ 54 → t ≠ 62 → Loc w q c t → Loc w' q c t) := by
 have ba := (Below.refl w.heap.size w).alloc (Nat.le_refl _) (.cells #[.slice (some ⟨G, 0, none⟩) N da, .slice (some ⟨H, 0, none⟩) M db, .bool fb] 39)
 have hsp : Sp N M G H w.heap.size base #[.slice (some ⟨G, 0, none⟩) N da, .slice (some ⟨H, 0, none⟩) M db, .bool fb] lt 0 w (w.alloc (.cells #[.slice (some ⟨G, 0, none⟩) N da, .slice (some ⟨H, 0, none⟩) M db, .bool fb] 39)) := by
  obtain ⟨cg, Lg, bg, sg, hcg⟩ := owns_locs (owns_mono' hown ba)
  obtain ⟨ch, Lh, bh, sh, _⟩ := owns_locs (owns_mono' hone ba)
  refine ⟨(Below.refl base w).alloc hbase _, Loc.new w _ _, ⟨cg, Lg, by omega, fun j hj _ i hi => ?_⟩, ⟨ch, Lh, by omega⟩, fun y hy => ?_, bg, bh, fun p cp t _ _ _ hl => hl.alloc _⟩
  ·rw [hcg _ (by omega), prcsCells_get (lt ++ pmarks 4) j (by rw [List.length_append]; omega) i hi, List.getElem_append_left hj]
  ·have hy' := (hT y hy).below ba
   unfold TwP at hy'
   obtain ⟨q, hq, _⟩ := owns_some hy' (by omega)
   rw [hq] at hy'
   obtain ⟨cq, Lq, bq, sq, _⟩ := owns_locs hy'
   exact ⟨q, cq, hq, bq, Lq, by omega⟩
 have HSP := Lib.hid hsp
 have HN := Lib.hid hN
 have HALL := Lib.hid hall
 clear hsp hN hM hall hown hT hone ba hbase
 go_enter Tryz.func21, Tryz.ntmps21
 go_wp2
 go_loopw [2] (fun i wr => ∃ k : Nat, k ≤ N ∧ i = .int .i64 (k : Nat) ∧ Hid (Sp N M G H w.heap.size base #[.slice (some ⟨G, 0, none⟩) N da, .slice (some ⟨H, 0, none⟩) M db, .bool fb] lt k w wr)) (fun i _ => N - (intOf i).toNat)
 case atStart => exact ⟨0, Nat.zero_le _, rfl, HSP⟩
 case round =>
  obtain ⟨wi, rfl⟩ : ∃ wi, wi = wr := ⟨_, rfl⟩
  obtain ⟨k, hk, rfl, HS⟩ := hrel
  have p0 := HS.out.t.cell 0
  simp only [List.getElem?_toArray, List.getElem?_cons_zero] at p0
  by_cases hkN : k < N
  ·have hkN' : (k : Int) < (N : Int) := by omega
   have hkl : k < lt.length := by rw [← HN.out]; exact hkN
   have hal := HALL.out _ (List.getElem_mem hkl)
   obtain ⟨nc, hnc⟩ : ∃ nc, nc = (lt[k]).p.code.length := ⟨_, rfl⟩
   have HKC : Hid (∀ W, Sp N M G H w.heap.size base #[.slice (some ⟨G, 0, none⟩) N da, .slice (some ⟨H, 0, none⟩) M db, .bool fb] lt k w W → ∃ q, lt[k].A = some ⟨q, 0, none⟩ ∧ W.cell? ⟨G, k * 3 + 2, none⟩ = some (.slice (some ⟨q, 0, none⟩) nc lt[k].c) ∧ base ≤ q ∧ ∃ c, Loc W q c 109 ∧ nc * 8 ≤ c.size) := Lib.hid (fun W h => by
    obtain ⟨q, c, e1, e2, e3, e4⟩ := h.c _ (List.getElem_mem hkl)
    obtain ⟨cg, Lg, _, hcg⟩ := h.g
    refine ⟨q, e1, ?_, e2, c, e3, by rw [hnc]; exact e4⟩
    rw [Lg.cell, hcg k hkl (Nat.le_refl _) 2 (by decide), hnc, ← e1]
    rfl)
   rw [← hnc] at hal
   obtain ⟨q, hq, cq, _⟩ := HKC.out wi HS.out
   obtain ⟨lc, hlc⟩ : ∃ lc, lc = lt[k].c := ⟨_, rfl⟩
   have HKC2 : Hid (∀ W, Sp N M G H w.heap.size base #[.slice (some ⟨G, 0, none⟩) N da, .slice (some ⟨H, 0, none⟩) M db, .bool fb] lt k w W → W.cell? ⟨G, k * 3 + 2, none⟩ = some (.slice (some ⟨q, 0, none⟩) nc lc) ∧ base ≤ q ∧ ∃ c, Loc W q c 109 ∧ nc * 8 ≤ c.size) := Lib.hid (fun W h => by
    obtain ⟨q2, h1, h2, h3, h4⟩ := HKC.out W h
    rw [hq] at h1
    cases h1
    rw [hlc]
    exact ⟨h2, h3, h4⟩)
   clear hnc hq cq hlc HKC
   go_wp2
   go_loopw [3] (fun i wr => ∃ j : Nat, j ≤ nc ∧ i = .int .i64 (j : Nat) ∧ Hid (Sp N M G H w.heap.size base #[.slice (some ⟨G, 0, none⟩) N da, .slice (some ⟨H, 0, none⟩) M db, .bool fb] lt k w wr)) (fun i _ => nc - (intOf i).toNat)
   case atStart => exact ⟨0, Nat.zero_le _, rfl, HS⟩
   case round =>
    obtain ⟨wj, rfl⟩ : ∃ wj, wj = wr := ⟨_, rfl⟩
    obtain ⟨j, hj, rfl, HSj⟩ := hrel
    clear p0
    have p0 := HSj.out.t.cell 0
    simp only [List.getElem?_toArray, List.getElem?_cons_zero] at p0
    obtain ⟨cq, hbq, c, Lq, sq⟩ := HKC2.out wj HSj.out
    have hkI : (0 : Int) ≤ (k : Int) := by omega
    by_cases hjn : j < nc
    ·have hjn' : (j : Int) < (nc : Int) := by omega
     have hjI : (0 : Int) ≤ (j : Int) := by omega
     obtain ⟨v0, h0⟩ := loc_some Lq (j * 8) (by omega)
     obtain ⟨v1, h1⟩ := loc_some Lq (j * 8 + 1) (by omega)
     obtain ⟨v2, h2⟩ := loc_some Lq (j * 8 + 2) (by omega)
     obtain ⟨v3, h3⟩ := loc_some Lq (j * 8 + 3) (by omega)
     obtain ⟨v4, h4⟩ := loc_some Lq (j * 8 + 4) (by omega)
     obtain ⟨v5, h5⟩ := loc_some Lq (j * 8 + 5) (by omega)
     obtain ⟨v6, h6⟩ := loc_some Lq (j * 8 + 6) (by omega)
     obtain ⟨v7, h7⟩ := loc_some Lq (j * 8 + 7) (by omega)
     have f0 := Lq.free (j * 8); have f1 := Lq.free (j * 8 + 1); have f2 := Lq.free (j * 8 + 2); have f3 := Lq.free (j * 8 + 3); have f4 := Lq.free (j * 8 + 4); have f5 := Lq.free (j * 8 + 5); have f6 := Lq.free (j * 8 + 6); have f7 := Lq.free (j * 8 + 7)
     have HLQ := Lib.hid Lq
     have HSQ := Lib.hid sq
     clear Lq sq
     go_wp2
     go_roundw
     case rel =>
      have L0 := HLQ.out
      have S1 := HSj.out.setC L0 hbq (j * 8) (.int .i64 99)
      have L1 := L0.set (j * 8) (.int .i64 99)
      have S2 := S1.setC L1 hbq (j * 8 + 1) (.int .i64 0)
      have L2 := L1.set (j * 8 + 1) (.int .i64 0)
      have S3 := S2.setC L2 hbq (j * 8 + 2) (.int .i64 0)
      have L3 := L2.set (j * 8 + 2) (.int .i64 0)
      have S4 := S3.setC L3 hbq (j * 8 + 3) (.int .i64 0)
      have L4 := L3.set (j * 8 + 3) (.int .i64 0)
      have S5 := S4.setC L4 hbq (j * 8 + 4) (.int .i64 0)
      have L5 := L4.set (j * 8 + 4) (.int .i64 0)
      have S6 := S5.setC L5 hbq (j * 8 + 5) (.int .i64 0)
      have L6 := L5.set (j * 8 + 5) (.int .i64 0)
      have S7 := S6.setC L6 hbq (j * 8 + 6) (.int .i64 0)
      have L7 := L6.set (j * 8 + 6) (.int .i64 0)
      have S8 := S7.setC L7 hbq (j * 8 + 7) (.string ⟨#[]⟩)
      exact ⟨j + 1, by omega, by go_num, Lib.hid S8⟩
     case measure => simp [intOf]; omega
    ·have hjn' : ¬ (j : Int) < (nc : Int) := by omega
     obtain ⟨cg, Lg, sg, hcg⟩ := HSj.out.g
     obtain ⟨v0, h0⟩ := loc_some Lg (k * 3) (by omega)
     obtain ⟨v1, h1⟩ := loc_some Lg (k * 3 + 1) (by omega)
     have f0 := Lg.free (k * 3); have f1 := Lg.free (k * 3 + 1); have f2 := Lg.free (k * 3 + 2)
     clear Lg sg hcg Lq sq
     go_wp2
     go_roundw
     case rel =>
      have S1 := HSj.out.up.setG (k * 3) (by omega) (.string ⟨#[122, 122, 122]⟩)
      have S2 := S1.setG (k * 3 + 1) (by omega) (.int .i64 0)
      have S3 := S2.setG (k * 3 + 2) (by omega) (.slice none 0 0)
      exact ⟨k + 1, by omega, by go_num, Lib.hid S3⟩
     case measure => simp [intOf]; omega
  ·have hkN' : ¬ (k : Int) < (N : Int) := by omega
   go_wp2
   go_loopw [4] (fun i wr => ∃ j : Nat, j ≤ M ∧ i = .int .i64 (j : Nat) ∧ Hid (Sp N M G H w.heap.size base #[.slice (some ⟨G, 0, none⟩) N da, .slice (some ⟨H, 0, none⟩) M db, .bool fb] lt k w wr)) (fun i _ => M - (intOf i).toNat)
   case atStart => exact ⟨0, Nat.zero_le _, rfl, HS⟩
   case round =>
    obtain ⟨wj, rfl⟩ : ∃ wj, wj = wr := ⟨_, rfl⟩
    obtain ⟨j, hj, rfl, HSj⟩ := hrel
    clear p0
    have p1 := HSj.out.t.cell 1
    simp only [List.getElem?_toArray, List.getElem?_cons_zero, List.getElem?_cons_succ] at p1
    by_cases hjn : j < M
    ·have hjn' : (j : Int) < (M : Int) := by omega
     have hjI : (0 : Int) ≤ (j : Int) := by omega
     obtain ⟨ch, Lh, sh⟩ := HSj.out.h
     obtain ⟨v0, h0⟩ := loc_some Lh (j * 4) (by omega)
     obtain ⟨v1, h1⟩ := loc_some Lh (j * 4 + 1) (by omega)
     obtain ⟨v2, h2⟩ := loc_some Lh (j * 4 + 2) (by omega)
     obtain ⟨v3, h3⟩ := loc_some Lh (j * 4 + 3) (by omega)
     have f0 := Lh.free (j * 4); have f1 := Lh.free (j * 4 + 1); have f2 := Lh.free (j * 4 + 2); have f3 := Lh.free (j * 4 + 3)
     clear Lh sh
     go_wp2
     go_roundw
     case rel => exact ⟨j + 1, by omega, by go_num, Lib.hid ((((HSj.out.setH (j * 4) (.string ⟨#[122, 122, 122]⟩)).setH (j * 4 + 1) (.int .i64 0)).setH (j * 4 + 2) (.int .i64 0)).setH (j * 4 + 3) (.string ⟨#[]⟩))⟩
     case measure => simp [intOf]; omega
    ·have hjn' : ¬ (j : Int) < (M : Int) := by omega
     go_wp2
     go_end0
     exact ⟨rfl, HSj.out.b, HSj.out.o⟩
end Go.Proofs.YtnieminnnkbneaaGreat

namespace Go.Proofs.YtnieminnnkbneaaGreat
open Go.RowKit
set_option linter.unusedVariables false

theorem cameOk {W : World} {y : PrcC} (h : y.came W) (hl : y.p.code.length ≤ 300) : y.ok W := ⟨h.r, by omega, h.i⟩
theorem TwP.ok {W : World} {base : Nat} {y : PrcC} (h : TwP W base y) (hl : y.p.code.length ≤ 300) (hi : y.p.inR) : y.ok W := by
 have ra := Row.of_owns h
 rw [codeCells_append] at ra
 exact ⟨Row.fore ra, by omega, hi⟩
/-- What holds of the twin's procedures as of those that it was made of. -/
theorem of_ps {ps lt : List PrcC} (h : lt.map (·.p) = ps.map (·.p)) {Q : Prc → Prop} (hf : ∀ x ∈ ps, Q x.p) : ∀ y ∈ lt, Q y.p := fun y hy => by
 have h1 : y.p ∈ ps.map (·.p) := by rw [← h]; exact List.mem_map_of_mem hy
 obtain ⟨x, hx, he⟩ := List.mem_map.1 h1
 rw [← he]; exact hf x hx

set_option maxRecDepth 100000 in
set_option maxHeartbeats 4000000 in
theorem pstands_any (ps lt : List PrcC) (es : List Ent) (fb : Bool) (A B : Option Addr) (ca cb G H da db base : Nat) (w : World) (hr : Row w A (prcsCells ps)) (hok : ∀ y ∈ ps, y.came w) (hre : Row w B (entsCells es)) (h300 : ps.length ≤ 300) (h3e : es.length ≤ 300) (hall : ∀ y ∈ ps, y.p.code.length ≤ 300)
  (hm : lt.map (·.p) = ps.map (·.p)) (hown : w.ownsRow base 54 3 (.slice (some ⟨G, 0, none⟩) (ps.length + 4) da) (ps.length + 4) (prcsCells (lt ++ pmarks 4))) (hT : ∀ y ∈ lt, TwP w base y)
  (hone : w.ownsRow base 62 4 (.slice (some ⟨H, 0, none⟩) (es.length + 4) db) (es.length + 4) (entsCells (es ++ emarks 4))) :
  Calls Tryz.prog 20 #[.agg #[.slice (some ⟨G, 0, none⟩) ps.length da, .slice (some ⟨H, 0, none⟩) es.length db, .bool fb], .agg #[.slice A ps.length ca, .slice B es.length cb, .bool fb]] w fun e w' => e = .returned (.bool true) ∧ Below w.heap.size w w' := by
 have hll : lt.length = ps.length := by have := congrArg List.length hm; simpa using this
 have hin : ∀ y ∈ ps, y.p.inR := fun y hy => (hok y hy).i
 have hltok : ∀ W, Below w.heap.size w W → ∀ y ∈ lt, y.ok W := fun W hb y hy => ((hT y hy).ok (of_ps hm (Q := fun p => p.code.length ≤ 300) hall y hy) (of_ps hm (Q := fun p => p.inR) hin y hy)).below hb
 have hpsok : ∀ W, Below w.heap.size w W → ∀ y ∈ ps, y.ok W := fun W hb y hy => (cameOk (hok y hy) (hall y hy)).below hb
 have hsm := fun W (b : Below w.heap.size w W) => procs_any lt ps (some ⟨G, 0, none⟩) A da ca W (by have := (Row.of_owns hown).of_below b (Nat.le_refl _); rw [prcsCells_append] at this; exact Row.fore this) (hr.of_below b (Nat.le_refl _)) (by omega) (by omega) (hltok W b) (hpsok W b)
 have hse := fun W (b : Below w.heap.size w W) => entries_any es es (some ⟨H, 0, none⟩) B db cb W (by have := (Row.of_owns hone).of_below b (Nat.le_refl _); rw [entsCells_append] at this; exact Row.fore this) (hre.of_below b (Nat.le_refl _)) (by omega) (by omega)
 rw [hll] at hsm
 have hszP : (Tryz.prog.info? 54).map (·.size) = some 3 := by kernel_rfl
 have hszE : (Tryz.prog.info? 62).map (·.size) = some 4 := by kernel_rfl
 have hszI : (Tryz.prog.info? 109).map (·.size) = some 8 := by kernel_rfl
 obtain ⟨g', hg', hcd⟩ := owns_some hown (by omega)
 obtain ⟨g2, hg2, hce⟩ := owns_some hone (by omega)
 clear hg' hg2 hltok hpsok hin
 obtain ⟨N, hN⟩ : ∃ N, N = ps.length := ⟨_, rfl⟩
 obtain ⟨M, hM0⟩ : ∃ M, M = es.length := ⟨_, rfl⟩
 rw [← hN] at hsm hown h300 hcd hll ⊢
 rw [← hM0] at hse hone h3e hce ⊢
 have hup : ∀ W, (Instr.slice 36 (.slice (some ⟨G, 0, none⟩) N da) none (some (.int .i64 ((N : Int) + 4))) none).run Tryz.prog W = .ok (.slice (some ⟨G, 0, none⟩) (N + 4) da) W := fun W => by
  have h := run_upto2 (P := Tryz.prog) 36 54 3 Tryz.underlying36 hszP G N da (N + 4) (by omega) (by omega) W
  rw [show (((N + 4 : Nat) : Int)) = (N : Int) + 4 from by omega] at h
  exact h
 have hue : ∀ W, (Instr.slice 37 (.slice (some ⟨H, 0, none⟩) M db) none (some (.int .i64 ((M : Int) + 4))) none).run Tryz.prog W = .ok (.slice (some ⟨H, 0, none⟩) (M + 4) db) W := fun W => by
  have h := run_upto2 (P := Tryz.prog) 37 62 4 Tryz.underlying37 hszE H M db (M + 4) (by omega) (by omega) W
  rw [show (((M + 4 : Nat) : Int)) = (M : Int) + 4 from by omega] at h
  exact h
 have hw5 : IntKind.i64.wrap ((N : Int) + 4) = (N : Int) + 4 := by simp [IntKind.bits, IntKind.wrap, IntKind.signed]; omega
 have hw6 : IntKind.i64.wrap ((M : Int) + 4) = (M : Int) + 4 := by simp [IntKind.bits, IntKind.wrap, IntKind.signed]; omega
 have HSM := Lib.hid hsm
 have HSE := Lib.hid hse
 have HR := Lib.hid hr
 have HALL := Lib.hid hall
 have HN := Lib.hid hN
 have HM0 := Lib.hid hM0
 have HM := Lib.hid hm
 have HLL := Lib.hid hll
 have HOWN := Lib.hid hown
 have HONE := Lib.hid hone
 have HT := Lib.hid hT
 clear hsm hse hr hok hall hN hm hown hone hT hll hM0 hre
 have b0 : Below w.heap.size w ((w.alloc (.cells #[.slice (some ⟨G, 0, none⟩) N da, .slice (some ⟨H, 0, none⟩) M db, .bool fb] 39)).alloc (.cells #[.slice A N ca, .slice B M cb, .bool fb] 39)) := ((Below.refl w.heap.size w).alloc (Nat.le_refl _) _).alloc (by simp) _
 have L0 := (Loc.new w #[.slice (some ⟨G, 0, none⟩) N da, .slice (some ⟨H, 0, none⟩) M db, .bool fb] 39).alloc (.cells #[.slice A N ca, .slice B M cb, .bool fb] 39)
 have Z0 := Loc.new (w.alloc (.cells #[.slice (some ⟨G, 0, none⟩) N da, .slice (some ⟨H, 0, none⟩) M db, .bool fb] 39)) #[.slice A N ca, .slice B M cb, .bool fb] 39
 simp only [World.size_alloc] at Z0
 go_enter Tryz.func20, Tryz.ntmps20
 go_upto_region 1 with (fail)
 obtain ⟨w0, hw0⟩ : ∃ w0, w0 = ((w.alloc (.cells #[.slice (some ⟨G, 0, none⟩) N da, .slice (some ⟨H, 0, none⟩) M db, .bool fb] 39)).alloc (.cells #[.slice A N ca, .slice B M cb, .bool fb] 39)) := ⟨_, rfl⟩
 rw [← hw0] at b0 L0 Z0
 rw [← hw0]
 clear hw0
 have p0 := L0.cell 0; have p1 := L0.cell 1; have q0 := Z0.cell 0; have q1 := Z0.cell 1
 simp at p0 p1 q0 q1
 go_wp2_with fail
 refine (HSM.out _ b0).mono ?_; rintro e w1 ⟨⟨res, rfl, hres⟩, hb⟩
 have hrt : res = true := hres.2 HM.out
 subst hrt
 have L1 := L0.below hb L0.lt
 have Z1 := Z0.below hb Z0.lt
 have b1 := below_then b0 hb b0.size
 have p10 := L1.cell 0; have p11 := L1.cell 1; have q10 := Z1.cell 0; have q11 := Z1.cell 1
 simp at p10 p11 q10 q11
 clear hres hb
 go_wp2_with fail
 refine (HSE.out _ b1).mono ?_; rintro e w2 ⟨⟨res, rfl, hres⟩, hb⟩
 have hrt : res = true := hres.2 (by first | trivial | rfl)
 subst hrt
 have L2 := L1.below hb L1.lt
 have Z2 := Z1.below hb Z1.lt
 have b2 := below_then b1 hb b1.size
 have p20 := L2.cell 0; have p21 := L2.cell 1; have q20 := Z2.cell 0; have q21 := Z2.cell 1
 simp at p20 p21 q20 q21
 clear hres hb
 have HB2 := Lib.hid b2
 have own2 := owns_mono' HOWN.out b2
 have one2 := owns_mono' HONE.out b2
 have hlen : (lt ++ pmarks 4).length = N + 4 := by rw [List.length_append, HLL.out]; simp [pmarks]
 have hlee : (es ++ emarks 4).length = M + 4 := by rw [List.length_append, ← HM0.out]; simp [emarks]
 obtain ⟨_, _, hbG, _, hcp⟩ := (Row.of_owns own2).prcs (by rw [hlen]; omega)
 cases hbG
 obtain ⟨_, _, hbH, _, hce2⟩ := (Row.of_owns one2).ents (by rw [hlee]; omega)
 cases hbH
 have hpm : ∀ j, j < 4 → w2.cell? ⟨G, (N + j) * 3 + 1, none⟩ = some (.int .i64 (90 + (j : Int))) := fun j hj => by
  have h := hcp (N + j) (by rw [hlen]; omega) 1 (by decide)
  have he : (lt ++ pmarks 4)[N + j]'(by rw [hlen]; omega) = markP j := by
   rw [List.getElem_append_right (by have := HLL.out; omega)]
   simp [pmarks, HLL.out]
  rw [he] at h
  simpa [PrcC.cells, procCells, markP] using h
 have hem : ∀ j, j < 4 → w2.cell? ⟨H, (M + j) * 4 + 1, none⟩ = some (.int .i64 (95 + (j : Int))) := fun j hj => by
  have h := hce2 (M + j) (by rw [hlee]; omega) 1 (by decide)
  have he : (es ++ emarks 4)[M + j]'(by rw [hlee]; omega) = markE j := by
   rw [List.getElem_append_right (by have := HM0.out; omega)]
   simp [emarks, ← HM0.out]
  rw [he] at h
  simpa [Ent.cells, markE] using h
 have HPM := Lib.hid hpm
 have HEM := Lib.hid hem
 have HCP := Lib.hid hcp
 have HLEN := Lib.hid hlen
 clear hpm hem hcp hce2 hlen hlee own2 one2 b0 b1 b2 L0 Z0 L1 Z1 p0 p1 q0 q1 p10 p11 q10 q11 L2 Z2
 go_wp2
 go_loopw [7] (fun i wr => ∃ k : Nat, k ≤ 4 ∧ i = .int .i64 (k : Nat) ∧ wr = w2) (fun i _ => 4 - (intOf i).toNat)
 case atStart => exact ⟨0, Nat.zero_le _, rfl, rfl⟩
 case round =>
  obtain ⟨k, hk, rfl, hwr⟩ := hrel
  have hwr' := hwr.symm
  subst hwr'
  clear hwr
  by_cases hk4 : k < 4
  ·have hk4' : (k : Int) < 4 := by omega
   have v0 := HPM.out k hk4
   have i0 := HEM.out k hk4
   have wa : IntKind.i64.wrap ((N : Int) + (k : Int)) = (N : Int) + (k : Int) := by simp [IntKind.bits, IntKind.wrap, IntKind.signed]; omega
   have wc : IntKind.i64.wrap ((M : Int) + (k : Int)) = (M : Int) + (k : Int) := by simp [IntKind.bits, IntKind.wrap, IntKind.signed]; omega
   have wa0 : IntKind.i64.wrap (N : Int) = (N : Int) := by simp [IntKind.bits, IntKind.wrap, IntKind.signed]; omega
   have wc0 : IntKind.i64.wrap (M : Int) = (M : Int) := by simp [IntKind.bits, IntKind.wrap, IntKind.signed]; omega
   have w90 : IntKind.i64.wrap (90 + (k : Int)) = 90 + (k : Int) := by simp [IntKind.bits, IntKind.wrap, IntKind.signed]; omega
   have w95 : IntKind.i64.wrap (95 + (k : Int)) = 95 + (k : Int) := by simp [IntKind.bits, IntKind.wrap, IntKind.signed]; omega
   go_wp2
   go_roundw
   case rel => exact ⟨k + 1, by omega, by go_num, trivial⟩
   case measure => simp [intOf]; omega
  ·have hk4' : ¬ (k : Int) < 4 := by omega
   clear hk hk4
   go_wp2
   go_loopw [8] (fun i wr => ∃ k : Nat, k ≤ N ∧ i = .int .i64 (k : Nat) ∧ wr = w2) (fun i _ => N - (intOf i).toNat)
   case atStart => exact ⟨0, Nat.zero_le _, rfl, rfl⟩
   case round =>
    obtain ⟨k, hk, rfl, hwr⟩ := hrel
    have hwr' := hwr.symm
    subst hwr'
    clear hwr
    by_cases hkN : k < N
    ·have hkN' : (k : Int) < (N : Int) := by omega
     have hkl : k < ps.length := by rw [← HN.out]; exact hkN
     have hkt : k < lt.length := by rw [HLL.out]; exact hkN
     have hck := HCP.out k (by rw [HLEN.out]; omega)
     have hel : (lt ++ pmarks 4)[k]'(by rw [HLEN.out]; omega) = lt[k] := List.getElem_append_left hkt
     rw [hel] at hck
     obtain ⟨b', off', hAe, _, hc'⟩ := (HR.out.of_below HB2.out (Nat.le_refl _)).prcs (by omega)
     have hcx := hc' k hkl
     have htt : (lt[k]).p = (ps[k]).p := by
      have h1 : (lt.map (·.p))[k]? = (ps.map (·.p))[k]? := by rw [HM.out]
      simpa [hkl, hkt] using h1
     have hTw := (HT.out _ (List.getElem_mem hkt)).below HB2.out
     have hal := HALL.out _ (List.getElem_mem hkl)
     generalize lt[k] = Y at *
     generalize ps[k] = X at *
     obtain ⟨⟨xn, xa, xc⟩, XB, xcb⟩ := X
     obtain ⟨yt, YB, ycb⟩ := Y
     simp only at htt
     subst htt
     unfold TwP at hTw
     simp only at hTw hal
     have y2 := hck 2 (by decide)
     have x2 := hcx 2 (by decide)
     simp only [PrcC.cells, procCells, List.getElem?_toArray, List.getElem?_cons_zero, List.getElem?_cons_succ, Nat.zero_add] at x2 y2
     obtain ⟨nc, hnc⟩ : ∃ nc, nc = xc.length := ⟨_, rfl⟩
     rw [← hnc] at x2 y2 hTw hal
     obtain ⟨gb, rfl, hcb⟩ := owns_some hTw (by omega)
     have hil : (xc ++ cmarks 4).length = nc + 4 := by rw [List.length_append, hnc]; simp [cmarks]
     obtain ⟨_, _, hb4, hci⟩ := (Row.of_owns hTw).ins (by rw [hil]; omega)
     cases hb4
     have hij : ∀ j, j < 4 → w2.cell? ⟨gb, (nc + j) * 8, none⟩ = some (.int .i64 (80 + (j : Int))) := fun j hj => by
      have h := hci (nc + j) (by rw [hil]; omega) 0 (by decide)
      have he : (xc ++ cmarks 4)[nc + j]'(by rw [hil]; omega) = markC j := by
       rw [List.getElem_append_right (by omega)]
       simp [cmarks, hnc]
      rw [he] at h
      simpa [insCells, markC] using h
     have hupI : ∀ W, (Instr.slice 52 (.slice (some ⟨gb, 0, none⟩) nc ycb) none (some (.int .i64 ((nc : Int) + 4))) none).run Tryz.prog W = .ok (.slice (some ⟨gb, 0, none⟩) (nc + 4) ycb) W := fun W => by
      have h := run_upto2 (P := Tryz.prog) 52 109 8 Tryz.underlying52 hszI gb nc ycb (nc + 4) (by omega) (by omega) W
      rw [show (((nc + 4 : Nat) : Int)) = (nc : Int) + 4 from by omega] at h
      exact h
     have wc5 : IntKind.i64.wrap ((nc : Int) + 4) = (nc : Int) + 4 := by simp [IntKind.bits, IntKind.wrap, IntKind.signed]; omega
     have HIJ := Lib.hid hij
     have HAE := Lib.hid hAe
     have hkI : (0 : Int) ≤ (k : Int) := by omega
     have hkI4 : (k : Int) < (N : Int) + 4 := by omega
     rw [hAe] at q20
     rw [hAe]
     clear hck hel hc' hcx hTw hnc hil hci hij hAe
     go_wp2
     go_loop [11] (fun i => ∃ j : Nat, j ≤ 4 ∧ i = .int .i64 (j : Nat)) (fun i => 4 - (intOf i).toNat)
     case atStart => exact ⟨0, Nat.zero_le _, rfl⟩
     case round =>
      obtain ⟨j, hj, rfl⟩ := hrel
      by_cases hj4 : j < 4
      ·have hj4' : (j : Int) < 4 := by omega
       have i0 := HIJ.out j hj4
       have wc : IntKind.i64.wrap ((nc : Int) + (j : Int)) = (nc : Int) + (j : Int) := by simp [IntKind.bits, IntKind.wrap, IntKind.signed]; omega
       have wc0 : IntKind.i64.wrap (nc : Int) = (nc : Int) := by simp [IntKind.bits, IntKind.wrap, IntKind.signed]; omega
       have w80 : IntKind.i64.wrap (80 + (j : Int)) = 80 + (j : Int) := by simp [IntKind.bits, IntKind.wrap, IntKind.signed]; omega
       go_wp2
       go_round
       case rel => exact ⟨j + 1, by omega, by go_num⟩
       case measure => simp [intOf]; omega
      ·have hj4' : ¬ (j : Int) < 4 := by omega
       go_wp2
       go_roundw
       case rel => exact ⟨k + 1, by omega, by go_num, trivial⟩
       case measure => simp [intOf]; omega
    ·have hkN' : ¬ (k : Int) < (N : Int) := by omega
     go_wp2
     go_ret
     exact ⟨rfl, HB2.out⟩
end Go.Proofs.YtnieminnnkbneaaGreat
