/- Walk of treadlelaw12.twin. -/
import Derived.Test.YtnmcdifkknphgaaBs
namespace Go.Proofs.Ytnmcdifkknphgaa
open Go.RowKit

def markV (k : Nat) : Val := ⟨50 + k, 0, ⟨#[]⟩⟩
def markC (k : Nat) : Ins := ⟨60 + k, 0, 0, 0, 0, .zero⟩
def markT (k : Nat) : TxnC := ⟨⟨70 + k, .zero, ⟨#[]⟩, []⟩, none, 0, none, 0⟩
def vmarks (k : Nat) : List Val := (List.range k).map markV
def cmarks (k : Nat) : List Ins := (List.range k).map markC
def tmarks (k : Nat) : List TxnC := (List.range k).map markT
theorem vmarks_succ (k : Nat) : vmarks (k + 1) = vmarks k ++ [markV k] := by simp [vmarks, List.range_succ]
theorem cmarks_succ (k : Nat) : cmarks (k + 1) = cmarks k ++ [markC k] := by simp [cmarks, List.range_succ]
theorem tmarks_succ (k : Nat) : tmarks (k + 1) = tmarks k ++ [markT k] := by simp [tmarks, List.range_succ]
theorem valsCells_append (a b : List Val) : valsCells (a ++ b) = valsCells a ++ valsCells b := by simp [valsCells]
theorem txnsCells_append (a b : List TxnC) : txnsCells (a ++ b) = txnsCells a ++ txnsCells b := by simp [txnsCells]
theorem valsCells_cell (l : List Val) : ∀ u ∈ valsCells l, u.oneCell' = true := by
  intro u hu
  simp only [valsCells, List.mem_flatMap] at hu
  obtain ⟨v, _, hu⟩ := hu
  simp [valCells] at hu
  rcases hu with rfl | rfl | rfl <;> rfl

theorem owns_some {w : World} {base : Nat} {e : TypeId} {size n c : Nat} {A : Option Addr} {xs : List Value} (h : w.ownsRow base e size (.slice A n c) n xs) (hn : 0 < n) : ∃ g, A = some ⟨g, 0, none⟩ ∧ n ≤ c := by
  rcases h.2 with ⟨h1, h2⟩ | ⟨g, cap, cur, hv, _, _, hnc, _⟩
  · omega
  · cases hv
    exact ⟨g, rfl, hnc⟩

theorem owns_grow_none {W V : World} {base : Nat} {e : TypeId} {size n : Nat} {v : Value} {xs : List Value} (h : W.ownsRow base e size v n xs) (hg : W.grownBy V none) : V.ownsRow base e size v n xs := h.kept hg (by cases v.ownBlock <;> simp)

theorem run_upto2 {P : Program} (t e : TypeId) (size : Nat) (hu : P.underlying t = some (.slice e)) (hs : (P.info? e).map (·.size) = some size) (g len cap hi : Nat) (h2 : hi ≤ cap) (h3 : 0 < cap) (W : World) :
    (Instr.slice t (.slice (some ⟨g, 0, none⟩) len cap) none (some (.int .i64 (hi : Int))) none).run P W = .ok (.slice (some ⟨g, 0, none⟩) hi cap) W := by
  obtain ⟨i, hi', hsz⟩ : ∃ i, P.info? e = some i ∧ i.size = size := by
    cases h : P.info? e with
    | none => simp [h] at hs
    | some i => exact ⟨i, rfl, by simpa [h] using hs⟩
  have eh : (hi : Int).toNat = hi := rfl
  have ha : (⟨g, 0, none⟩ : Addr).add 0 = ⟨g, 0, none⟩ := rfl
  have hne : ¬ cap = 0 := by omega
  simp [Instr.slice, run_underlying hu, Instr.sliceBounds, run_sliceBound, sizeOf, typeInfo, hi', h2, ha, hne]

/-- A transaction in lists of its own, with marked room behind each. -/
structure Twin (W : World) (base : Nat) (y : TxnC) : Prop where
  a : W.ownsRow base 57 3 (.slice y.A (y.t.args.length + 5) y.c) (y.t.args.length + 5) (valsCells (y.t.args ++ vmarks 5))
  b : W.ownsRow base 59 8 (.slice y.B (y.t.proc.code.length + 5) y.d) (y.t.proc.code.length + 5) (codeCells (y.t.proc.code ++ cmarks 5))
namespace Twin
variable {W V : World} {base : Nat} {y : TxnC}
theorem below (h : Twin W base y) (hb : Below W.heap.size W V) : Twin V base y := ⟨owns_mono' h.a hb, owns_mono' h.b hb⟩
theorem set {b : Nat} {c : Array Value} {t : TypeId} (h : Twin W base y) (hl : Loc W b c t) (ha : 57 ≠ t) (hb : 59 ≠ t) (i : Nat) (u : Value) : Twin (W.setCell ⟨b, i, none⟩ u) base y :=
  ⟨owns_setCell (a := ⟨b, i, none⟩) h.a (owns_ne h.a hl ha) u, owns_setCell (a := ⟨b, i, none⟩) h.b (owns_ne h.b hl hb) u⟩
theorem grown {b1 n : Nat} {v : Value} {xs : List Value} (h : Twin W base y) (hv : W.ownsRow b1 30 6 v n xs) (hg : W.grownBy V v.ownBlock) : Twin V base y := ⟨owns_two hv h.a (by decide) hg, owns_two hv h.b (by decide) hg⟩
theorem mono {base' : Nat} (h : Twin W base y) (hb : base' ≤ base) : Twin W base' y := ⟨owns_mono h.a hb, owns_mono h.b hb⟩
end Twin

/-- What twin answers. -/
def TwinP (f : Int) (l : List TxnC) (w : World) (e : Ending) (w' : World) : Prop :=
  ∃ (G cap : Nat) (lt : List TxnC), e = .returned (.agg #[.int .i64 f, .slice (some ⟨G, 0, none⟩) l.length cap]) ∧ lt.map (·.t) = l.map (·.t) ∧
    w'.ownsRow w.heap.size 30 6 (.slice (some ⟨G, 0, none⟩) (l.length + 5) cap) (l.length + 5) (txnsCells (lt ++ tmarks 5)) ∧ (∀ y ∈ lt, Twin w' w.heap.size y) ∧ Below w.heap.size w w'

set_option maxRecDepth 100000 in
set_option maxHeartbeats 4000000 in
theorem btwin_any (f : Int) (l : List TxnC) (A : Option Addr) (cap : Nat) (w : World) (hr : Row w A (txnsCells l)) (hok : ∀ x ∈ l, x.ok w) (h300 : l.length ≤ 300) (hall : ∀ x ∈ l, x.t.args.length ≤ 300 ∧ x.t.proc.code.length ≤ 300) :
    Calls Try.prog 10 #[.agg #[.int .i64 f, .slice A l.length cap]] w (TwinP f l w) := by
  obtain ⟨N, hN⟩ : ∃ N, N = l.length := ⟨_, rfl⟩
  have HN := Lib.hid hN
  have HR := Lib.hid hr
  have HOK := Lib.hid hok
  have HALL := Lib.hid hall
  rw [← hN] at h300 ⊢
  clear hN hr hok hall
  have hszV : (Try.prog.info? 57).map (·.size) = some 3 := by kernel_rfl
  have hszI : (Try.prog.info? 59).map (·.size) = some 8 := by kernel_rfl
  have hszT : (Try.prog.info? 30).map (·.size) = some 6 := by kernel_rfl
  have b0 : Below w.heap.size w ((w.alloc (.cells #[.int .i64 f, .slice A N cap] 24)).alloc (.cells #[.int .i64 0, .slice none 0 0] 24)) := ((Below.refl w.heap.size w).alloc (Nat.le_refl _) _).alloc (by simp) _
  have L0 := (Loc.new w #[.int .i64 f, .slice A N cap] 24).alloc (.cells #[.int .i64 0, .slice none 0 0] 24)
  have Z0 := Loc.new (w.alloc (.cells #[.int .i64 f, .slice A N cap] 24)) #[.int .i64 0, .slice none 0 0] 24
  simp only [World.size_alloc] at Z0
  go_enter Try.func10, Try.ntmps10
  go_wp2
  go_loopw [3, 4] (fun v i wr => ∃ (k : Nat) (lt : List TxnC) (B : Option Addr) (d : Nat), k ≤ N ∧ v = .slice B k d ∧ i = .int .i64 (k : Nat) ∧ Hid (lt.map (·.t) = (l.map (·.t)).take k) ∧ Hid (lt.length = k) ∧ Below w.heap.size w wr ∧ Loc wr w.heap.size #[.int .i64 f, .slice A N cap] 24 ∧ Loc wr (w.heap.size + 1) #[.int .i64 0, .slice none 0 0] 24 ∧ wr.ownsRow w.heap.size 30 6 (.slice B k d) k (txnsCells lt) ∧ Hid (∀ y ∈ lt, Twin wr w.heap.size y)) (fun _ i _ => N - (intOf i).toNat)
  case atStart => exact ⟨0, [], none, 0, Nat.zero_le _, rfl, rfl, Lib.hid rfl, Lib.hid rfl, b0, L0, Z0, World.ownsRow_nil _ _ _ _, Lib.hid (fun y hy => by cases hy)⟩
  case round =>
    obtain ⟨wi, rfl⟩ : ∃ wi, wi = wr := ⟨_, rfl⟩
    obtain ⟨k, lt, B, d, hk, rfl, rfl, HM, HLL, bi, Li, Zi, own, HT⟩ := hrel
    have p1 := Li.cell 1
    simp at p1
    clear b0 L0 Z0
    by_cases hkn : k < N
    · have hkl : k < l.length := by rw [← HN.out]; exact hkn
      obtain ⟨b, off, rfl, hbl, hc⟩ := (HR.out.of_below bi (Nat.le_refl _)).txns (by omega)
      have hcx := hc k hkl
      have htk := txn_take hkl
      have hox := (HOK.out _ (List.getElem_mem hkl)).below bi
      have hal := HALL.out _ (List.getElem_mem hkl)
      generalize l[k] = X at *
      obtain ⟨⟨xk, ⟨xn, xa, xc⟩, xm, xv⟩, XA, xca, XB, xcb⟩ := X
      have x0 := hcx 0 (by decide); have x1 := hcx 1 (by decide); have x2 := hcx 2 (by decide); have x3 := hcx 3 (by decide); have x4 := hcx 4 (by decide); have x5 := hcx 5 (by decide)
      simp only [TxnC.cells, List.getElem?_toArray, List.getElem?_cons_zero, List.getElem?_cons_succ, Nat.add_zero] at x0 x1 x2 x3 x4 x5
      simp only at hal htk
      obtain ⟨na, hna⟩ : ∃ na, na = xv.length := ⟨_, rfl⟩
      obtain ⟨nc, hnc⟩ : ∃ nc, nc = xc.length := ⟨_, rfl⟩
      have hoa := hox.a; have hoa0 := hox.a0; have hob := hox.b; have hob0 := hox.b0
      simp only at hoa hoa0 hob hob0
      rw [← hnc] at x3 hal hob0
      rw [← hna] at x5 hal hoa0
      have HTK := Lib.hid htk
      have HNA := Lib.hid hna
      have HNC := Lib.hid hnc
      have hkn' : (k : Int) < (N : Int) := by omega
      have bT : Below wi.heap.size wi (wi.alloc (.cells #[.int .i64 xk, .string xn, .int .i64 xa, .slice XB nc xcb, .string xm, .slice XA na xca] 30)) := (Below.refl _ _).alloc (Nat.le_refl _) _
      have T0 := Loc.new wi #[.int .i64 xk, .string xn, .int .i64 xa, .slice XB nc xcb, .string xm, .slice XA na xca] 30
      have HSV := Lib.hid ((hoa.of_below bT (Nat.le_refl _)).src (P := Try.prog) (size := 3) (n := na) (c := xca) (tx := 28) Try.underlying28 (by rw [valsCells_length, HNA.out]) (valsCells_cell xv) hoa0)
      have HOB := Lib.hid hob
      have HOB0 := Lib.hid hob0
      clear hc hcx htk hna hnc hox hoa hoa0 hob hob0
      go_upto_region 11 with (first | (at_builtin; refine wpList_append_mine _ rfl _ _ 28 28 rfl 57 (.agg #[.int .i64 0, .int .i64 0, .string ⟨#[]⟩]) 3 32 Try.underlying28 infoVal rfl (by decide) (.slice none 0 0) 0 [] rfl (World.ownsRow_nil _ _ _ _) (.slice XA na xca) na (valsCells xv) rfl HSV.out (by unfold maxLen; omega) (by omega) ?_; intro A1 c1 w2 hown1 hg1 hb1 hx1; obtain ⟨o1, b2⟩ := own_next0 (World.ownsRow_nil _ wi.heap.size _ _) hown1 hg1 hb1 bT.size bT; rw [Nat.zero_add, List.nil_append] at o1; have T1 := T0.grown hg1 (by simp [Value.ownBlock]); have HSI := Lib.hid ((HOB.out.of_below b2 (Nat.le_refl _)).src (P := Try.prog) (size := 8) (n := nc) (c := xcb) (tx := 25) Try.underlying25 (by rw [codeCells_length, HNC.out]) (codeCells_cell xc) HOB0.out); have e1 := T1.cell 1; have e3 := T1.cell 3; simp at e1 e3; clear hown1 hg1 hb1 hx1) | (at_builtin; refine wpList_append_mine _ rfl _ _ 25 25 rfl 59 (.agg #[.int .i64 0, .int .i64 0, .int .i64 0, .int .i64 0, .int .i64 0, .int .i64 0, .int .i64 0, .string ⟨#[]⟩]) 8 72 Try.underlying25 infoIns rfl (by decide) (.slice none 0 0) 0 [] rfl (World.ownsRow_nil _ _ _ _) (.slice XB nc xcb) nc (codeCells xc) rfl HSI.out (by unfold maxLen; omega) (by omega) ?_; intro B1 d1 w3 hown2 hg2 hb2 hx2; obtain ⟨o2, b3⟩ := own_next0 (World.ownsRow_nil _ wi.heap.size _ _) hown2 hg2 hb2 b2.size b2; rw [Nat.zero_add, List.nil_append] at o2; have T2 := T1.grown hg2 (by simp [Value.ownBlock]); have o1' := owns_grow_none o1 hg2; clear hown2 hg2 hb2 hx2 o1 T1 b2 e1 e3))
      go_loopw [6, 7, 8] (fun a c i wr => ∃ (j : Nat) (A1 : Option Addr) (c1 : Nat) (B1 : Option Addr) (d1 : Nat), j ≤ 5 ∧ a = .slice A1 (na + j) c1 ∧ c = .slice B1 (nc + j) d1 ∧ i = .int .i64 (j : Nat) ∧ Below wi.heap.size wi wr ∧ Loc wr wi.heap.size #[.int .i64 xk, .string xn, .int .i64 xa, .slice XB nc xcb, .string xm, .slice XA na xca] 30 ∧
          wr.ownsRow wi.heap.size 57 3 (.slice A1 (na + j) c1) (na + j) (valsCells (xv ++ vmarks j)) ∧ wr.ownsRow wi.heap.size 59 8 (.slice B1 (nc + j) d1) (nc + j) (codeCells (xc ++ cmarks j))) (fun _ _ i _ => 5 - (intOf i).toNat)
      case atStart => exact ⟨0, A1, c1, B1, d1, Nat.zero_le _, rfl, rfl, rfl, b3, T2, by simpa [vmarks] using o1', by simpa [cmarks] using o2⟩
      case round =>
        obtain ⟨wj, rfl⟩ : ∃ wj, wj = wr := ⟨_, rfl⟩
        obtain ⟨j, A4, c4, B4, d4, hj, rfl, rfl, rfl, bj, Tj, ov, oi⟩ := hrel
        clear b3 T2 o1' o2
        by_cases hj5 : j < 5
        · have hj5' : (j : Int) < 5 := by omega
          have w50 : IntKind.i64.wrap (50 + (j : Int)) = 50 + (j : Int) := by simp [IntKind.bits, IntKind.wrap, IntKind.signed]; omega
          have w60 : IntKind.i64.wrap (60 + (j : Int)) = 60 + (j : Int) := by simp [IntKind.bits, IntKind.wrap, IntKind.signed]; omega
          have bv := (Below.refl wj.heap.size wj).alloc (Nat.le_refl _) (.cells #[.int .i64 (50 + j), .int .i64 0, .string ⟨#[]⟩] 57)
          have ov1 := owns_mono' ov bv
          have oi1 := owns_mono' oi bv
          have bj1 := bj.alloc bj.size (.cells #[.int .i64 (50 + j), .int .i64 0, .string ⟨#[]⟩] 57)
          have Tj1 := Tj.alloc (.cells #[.int .i64 (50 + j), .int .i64 0, .string ⟨#[]⟩] 57)
          have HS1 := Lib.hid (Row.src (P := Try.prog) (c := 1) (size := 3) (n := 1) (tx := 28) (Row.of_loc (Loc.new wj #[.int .i64 (50 + j), .int .i64 0, .string ⟨#[]⟩] 57)) Try.underlying28 rfl (by simp [Value.oneCell']) (fun h => by simp at h))
          clear bv ov oi Tj
          go_wp2_with (first | (at_builtin; refine wpList_append_mine _ rfl _ _ 28 28 rfl 57 (.agg #[.int .i64 0, .int .i64 0, .string ⟨#[]⟩]) 3 32 Try.underlying28 infoVal rfl (by decide) (.slice A4 (na + j) c4) (na + j) (valsCells (xv ++ vmarks j)) rfl (owns_base (base' := 0) ov1 (fun _ _ => Nat.zero_le _)) _ 1 _ rfl HS1.out (by unfold maxLen; omega) (by omega) ?_; intro A5 c5 w5 hown hg hbl hx; obtain ⟨ov2, b5⟩ := own_next0 ov1 hown hg hbl bj1.size bj1; have oi2 := owns_two ov1 oi1 (by decide) hg; have T5 := Tj1.grown hg (owns_ne ov1 Tj1 (by decide)); have bw := (Below.refl w5.heap.size w5).alloc (Nat.le_refl _) (.cells #[.int .i64 (60 + j), .int .i64 0, .int .i64 0, .int .i64 0, .int .i64 0, .int .i64 0, .int .i64 0, .string ⟨#[]⟩] 59); have ov3 := owns_mono' ov2 bw; have oi3 := owns_mono' oi2 bw; have b6 := b5.alloc b5.size (.cells #[.int .i64 (60 + j), .int .i64 0, .int .i64 0, .int .i64 0, .int .i64 0, .int .i64 0, .int .i64 0, .string ⟨#[]⟩] 59); have T6 := T5.alloc (.cells #[.int .i64 (60 + j), .int .i64 0, .int .i64 0, .int .i64 0, .int .i64 0, .int .i64 0, .int .i64 0, .string ⟨#[]⟩] 59); have HS2 := Lib.hid (Row.src (P := Try.prog) (c := 1) (size := 8) (n := 1) (tx := 25) (Row.of_loc (Loc.new w5 #[.int .i64 (60 + j), .int .i64 0, .int .i64 0, .int .i64 0, .int .i64 0, .int .i64 0, .int .i64 0, .string ⟨#[]⟩] 59)) Try.underlying25 rfl (by simp [Value.oneCell']) (fun h => by simp at h)); clear hown hg hbl hx ov1 oi1 Tj1 bj1 ov2 oi2 b5 T5 bw) | (at_builtin; refine wpList_append_mine _ rfl _ _ 25 25 rfl 59 (.agg #[.int .i64 0, .int .i64 0, .int .i64 0, .int .i64 0, .int .i64 0, .int .i64 0, .int .i64 0, .string ⟨#[]⟩]) 8 72 Try.underlying25 infoIns rfl (by decide) (.slice B4 (nc + j) d4) (nc + j) (codeCells (xc ++ cmarks j)) rfl (owns_base (base' := 0) oi3 (fun _ _ => Nat.zero_le _)) _ 1 _ rfl HS2.out (by unfold maxLen; omega) (by omega) ?_; intro B6 d6 w7 hown hg hbl hx; obtain ⟨oi4, b7⟩ := own_next0 oi3 hown hg hbl b6.size b6; have ov4 := owns_two oi3 ov3 (by decide) hg; have T7 := T6.grown hg (owns_ne oi3 T6 (by decide)); clear hown hg hbl hx oi3 ov3 T6 b6))
          go_roundw
          case rel =>
            refine ⟨j + 1, A5, c5, B6, d6, by omega, rfl, rfl, by go_num, b7, T7, ?_, ?_⟩
            · rw [vmarks_succ, ← List.append_assoc, valsCells_append]
              exact ov4
            · rw [cmarks_succ, ← List.append_assoc, codeCells_append]
              exact oi4
          case measure => simp [intOf]; omega
        · obtain rfl : j = 5 := by omega
          obtain ⟨ga, rfl, hca⟩ := owns_some ov (by omega)
          obtain ⟨gb, rfl, hcb⟩ := owns_some oi (by omega)
          have hupV := run_upto2 (P := Try.prog) 28 57 3 Try.underlying28 hszV ga (na + 5) c4 na (by omega) (by omega)
          have hupI := run_upto2 (P := Try.prog) 25 59 8 Try.underlying25 hszI gb (nc + 5) d4 nc (by omega) (by omega)
          have e3 := Tj.cell 3; have e5 := Tj.cell 5; have e0 := Tj.cell 0; have e1 := Tj.cell 1; have e2 := Tj.cell 2; have e4 := Tj.cell 4
          have f3 := Tj.free 3; have f5 := Tj.free 5
          simp at e0 e1 e2 e3 e4 e5
          have T6 := (Tj.set 5 (.slice (some ⟨ga, 0, none⟩) na c4)).set 3 (.slice (some ⟨gb, 0, none⟩) nc d4)
          have b6 := (bj.setCell (p := ⟨wi.heap.size, 5, none⟩) (Nat.le_refl _) (.slice (some ⟨ga, 0, none⟩) na c4)).setCell (p := ⟨wi.heap.size, 3, none⟩) (Nat.le_refl _) (.slice (some ⟨gb, 0, none⟩) nc d4)
          have ov6 := owns_setCell (a := ⟨wi.heap.size, 3, none⟩) (owns_setCell (a := ⟨wi.heap.size, 5, none⟩) ov (owns_ne ov Tj (by decide)) (.slice (some ⟨ga, 0, none⟩) na c4)) (owns_ne ov Tj (by decide)) (.slice (some ⟨gb, 0, none⟩) nc d4)
          have oi6 := owns_setCell (a := ⟨wi.heap.size, 3, none⟩) (owns_setCell (a := ⟨wi.heap.size, 5, none⟩) oi (owns_ne oi Tj (by decide)) (.slice (some ⟨ga, 0, none⟩) na c4)) (owns_ne oi Tj (by decide)) (.slice (some ⟨gb, 0, none⟩) nc d4)
          simp only [List.setIfInBounds_toArray, List.set_cons_succ, List.set_cons_zero] at T6
          obtain ⟨w8, hw8⟩ : ∃ w8, w8 = (wj.setCell ⟨wi.heap.size, 5, none⟩ (.slice (some ⟨ga, 0, none⟩) na c4)).setCell ⟨wi.heap.size, 3, none⟩ (.slice (some ⟨gb, 0, none⟩) nc d4) := ⟨_, rfl⟩
          have bn := (Below.refl w8.heap.size w8).alloc (Nat.le_refl _) (.cells #[.int .i64 xk, .string xn, .int .i64 xa, .slice (some ⟨gb, 0, none⟩) nc d4, .string xm, .slice (some ⟨ga, 0, none⟩) na c4] 30)
          rw [← hw8] at T6 b6 ov6 oi6
          have hY : Twin w8 w.heap.size ⟨⟨xk, ⟨xn, xa, xc⟩, xm, xv⟩, some ⟨ga, 0, none⟩, c4, some ⟨gb, 0, none⟩, d4⟩ := ⟨owns_mono (by have h := ov6; rw [HNA.out] at h; exact h) bi.size, owns_mono (by have h := oi6; rw [HNC.out] at h; exact h) bi.size⟩
          have hT8 : ∀ y ∈ lt ++ [⟨⟨xk, ⟨xn, xa, xc⟩, xm, xv⟩, some ⟨ga, 0, none⟩, c4, some ⟨gb, 0, none⟩, d4⟩], Twin (w8.alloc (.cells #[.int .i64 xk, .string xn, .int .i64 xa, .slice (some ⟨gb, 0, none⟩) nc d4, .string xm, .slice (some ⟨ga, 0, none⟩) na c4] 30)) w.heap.size y := fun y hy => by
            rcases List.mem_append.1 hy with hy | hy
            · exact ((HT.out y hy).below b6).below bn
            · rw [List.mem_singleton.1 hy]; exact hY.below bn
          have own8 := owns_mono' (owns_mono' own b6) bn
          have b8 := below_then bi b6 bi.size
          have b9 := b8.alloc b8.size (.cells #[.int .i64 xk, .string xn, .int .i64 xa, .slice (some ⟨gb, 0, none⟩) nc d4, .string xm, .slice (some ⟨ga, 0, none⟩) na c4] 30)
          have L8 := (Li.below b6 Li.lt).alloc (.cells #[.int .i64 xk, .string xn, .int .i64 xa, .slice (some ⟨gb, 0, none⟩) nc d4, .string xm, .slice (some ⟨ga, 0, none⟩) na c4] 30)
          have Z8 := (Zi.below b6 Zi.lt).alloc (.cells #[.int .i64 xk, .string xn, .int .i64 xa, .slice (some ⟨gb, 0, none⟩) nc d4, .string xm, .slice (some ⟨ga, 0, none⟩) na c4] 30)
          have hs9 := Row.src (P := Try.prog) (c := 1) (size := 6) (n := 1) (tx := 22) (Row.of_loc (Loc.new w8 #[.int .i64 xk, .string xn, .int .i64 xa, .slice (some ⟨gb, 0, none⟩) nc d4, .string xm, .slice (some ⟨ga, 0, none⟩) na c4] 30)) Try.underlying22 rfl (by simp [Value.oneCell']) (fun h => by simp at h)
          have hz8 : w8.heap.size = wj.heap.size := by rw [hw8]; simp
          rw [hz8] at hs9
          rw [hw8] at hs9 own8 b9 L8 Z8 hT8
          have HS9 := Lib.hid hs9
          have HT8 := Lib.hid hT8
          clear hs9 hT8 hY bn ov6 oi6 T6 b6 b8 ov oi hw8 hz8 Tj bj
          go_wp2_with (at_builtin; refine wpList_append_mine _ rfl _ _ 22 22 rfl 30 (.agg #[.int .i64 0, .string ⟨#[]⟩, .int .i64 0, .slice none 0 0, .string ⟨#[]⟩, .slice none 0 0]) 6 96 Try.underlying22 infoTxn rfl (by decide) (.slice B k d) k (txnsCells lt) rfl (owns_base (base' := 0) own8 (fun _ _ => Nat.zero_le _)) _ 1 _ rfl HS9.out (by unfold maxLen; omega) (by omega) ?_; intro A7 c7 w10 hown hg hbl hx; obtain ⟨o10, b10⟩ := own_next0 own8 hown hg hbl b9.size b9; have L10 := L8.grown hg (owns_ne own8 L8 (by decide)); have Z10 := Z8.grown hg (owns_ne own8 Z8 (by decide)); have T10 := fun y hy => (HT8.out y hy).grown own8 hg; clear hown hg hbl hx own8 b9 L8 Z8)
          go_roundw
          case rel =>
            refine ⟨k + 1, lt ++ [⟨⟨xk, ⟨xn, xa, xc⟩, xm, xv⟩, some ⟨ga, 0, none⟩, c4, some ⟨gb, 0, none⟩, d4⟩], A7, c7, by omega, rfl, by go_num, Lib.hid ?_, Lib.hid (by simp [HLL.out]), b10, L10, Z10, ?_, Lib.hid T10⟩
            · rw [HTK.out, List.map_append, HM.out]; rfl
            · have htc : txnsCells (lt ++ [⟨⟨xk, ⟨xn, xa, xc⟩, xm, xv⟩, some ⟨ga, 0, none⟩, c4, some ⟨gb, 0, none⟩, d4⟩]) = txnsCells lt ++ (#[.int .i64 xk, .string xn, .int .i64 xa, .slice (some ⟨gb, 0, none⟩) nc d4, .string xm, .slice (some ⟨ga, 0, none⟩) na c4] : Array Value).toList := by rw [HNA.out, HNC.out]; simp [txnsCells, TxnC.cells]
              rw [htc]
              exact o10
          case measure => simp [intOf]; omega
    · obtain rfl : k = N := by omega
      have hm := HM.out
      rw [List.take_of_length_le (by rw [List.length_map, ← HN.out]; exact Nat.le_refl _)] at hm
      have HMM := Lib.hid hm
      clear hm HM
      go_wp2
      go_loopw [3, 9] (fun v i wr => ∃ (j : Nat) (B : Option Addr) (d : Nat), j ≤ 5 ∧ v = .slice B (k + j) d ∧ i = .int .i64 (j : Nat) ∧ Below w.heap.size w wr ∧ Loc wr w.heap.size #[.int .i64 f, .slice A k cap] 24 ∧ Loc wr (w.heap.size + 1) #[.int .i64 0, .slice none 0 0] 24 ∧ wr.ownsRow w.heap.size 30 6 (.slice B (k + j) d) (k + j) (txnsCells (lt ++ tmarks j)) ∧ Hid (∀ y ∈ lt, Twin wr w.heap.size y)) (fun _ i _ => 5 - (intOf i).toNat)
      case atStart => exact ⟨0, B, d, Nat.zero_le _, rfl, rfl, bi, Li, Zi, by simpa [tmarks] using own, HT⟩
      case round =>
        obtain ⟨wj, rfl⟩ : ∃ wj, wj = wr := ⟨_, rfl⟩
        obtain ⟨j, B4, d4, hj, rfl, rfl, bj, Lj, Zj, oj, HTj⟩ := hrel
        clear bi Li Zi own HT p1
        by_cases hj5 : j < 5
        · have hj5' : (j : Int) < 5 := by omega
          have w70 : IntKind.i64.wrap (70 + (j : Int)) = 70 + (j : Int) := by simp [IntKind.bits, IntKind.wrap, IntKind.signed]; omega
          have bn := (Below.refl wj.heap.size wj).alloc (Nat.le_refl _) (.cells #[.int .i64 (70 + j), .string ⟨#[]⟩, .int .i64 0, .slice none 0 0, .string ⟨#[]⟩, .slice none 0 0] 30)
          have oj1 := owns_mono' oj bn
          have bj1 := bj.alloc bj.size (.cells #[.int .i64 (70 + j), .string ⟨#[]⟩, .int .i64 0, .slice none 0 0, .string ⟨#[]⟩, .slice none 0 0] 30)
          have Lj1 := Lj.alloc (.cells #[.int .i64 (70 + j), .string ⟨#[]⟩, .int .i64 0, .slice none 0 0, .string ⟨#[]⟩, .slice none 0 0] 30)
          have Zj1 := Zj.alloc (.cells #[.int .i64 (70 + j), .string ⟨#[]⟩, .int .i64 0, .slice none 0 0, .string ⟨#[]⟩, .slice none 0 0] 30)
          have HTj1 := Lib.hid (fun y hy => (HTj.out y hy).below bn)
          have HS1 := Lib.hid (Row.src (P := Try.prog) (c := 1) (size := 6) (n := 1) (tx := 22) (Row.of_loc (Loc.new wj #[.int .i64 (70 + j), .string ⟨#[]⟩, .int .i64 0, .slice none 0 0, .string ⟨#[]⟩, .slice none 0 0] 30)) Try.underlying22 rfl (by simp [Value.oneCell']) (fun h => by simp at h))
          clear bn oj bj Lj Zj
          go_wp2_with (at_builtin; refine wpList_append_mine _ rfl _ _ 22 22 rfl 30 (.agg #[.int .i64 0, .string ⟨#[]⟩, .int .i64 0, .slice none 0 0, .string ⟨#[]⟩, .slice none 0 0]) 6 96 Try.underlying22 infoTxn rfl (by decide) (.slice B4 (k + j) d4) (k + j) (txnsCells (lt ++ tmarks j)) rfl (owns_base (base' := 0) oj1 (fun _ _ => Nat.zero_le _)) _ 1 _ rfl HS1.out (by unfold maxLen; omega) (by omega) ?_; intro A7 c7 w10 hown hg hbl hx; obtain ⟨o10, b10⟩ := own_next0 oj1 hown hg hbl bj1.size bj1; have L10 := Lj1.grown hg (owns_ne oj1 Lj1 (by decide)); have Z10 := Zj1.grown hg (owns_ne oj1 Zj1 (by decide)); have T10 := fun y hy => (HTj1.out y hy).grown oj1 hg; clear hown hg hbl hx oj1 bj1 Lj1 Zj1)
          go_roundw
          case rel =>
            refine ⟨j + 1, A7, c7, by omega, rfl, by go_num, b10, L10, Z10, ?_, Lib.hid T10⟩
            have htc : txnsCells (lt ++ tmarks (j + 1)) = txnsCells (lt ++ tmarks j) ++ (#[.int .i64 (70 + j), .string ⟨#[]⟩, .int .i64 0, .slice none 0 0, .string ⟨#[]⟩, .slice none 0 0] : Array Value).toList := by
              rw [tmarks_succ, ← List.append_assoc, txnsCells_append]
              rfl
            rw [htc]
            exact o10
          case measure => simp [intOf]; omega
        · obtain rfl : j = 5 := by omega
          obtain ⟨G, rfl, hcg⟩ := owns_some oj (by omega)
          have hup := run_upto2 (P := Try.prog) 22 30 6 Try.underlying22 hszT G (k + 5) d4 k (by omega) (by omega)
          have p0 := Lj.cell 0; have p1 := Lj.cell 1; have pf1 := Lj.free 1
          have q0 := Zj.cell 0; have q1 := Zj.cell 1; have qf0 := Zj.free 0; have qf1 := Zj.free 1
          simp at p0 p1 q0 q1
          have L1 := Lj.set 1 (.slice (some ⟨G, 0, none⟩) k d4)
          have Z1 := Zj.other (a := ⟨w.heap.size, 1, none⟩) (show w.heap.size + 1 ≠ w.heap.size by omega) (.slice (some ⟨G, 0, none⟩) k d4)
          have o1 := owns_setCell (a := ⟨w.heap.size, 1, none⟩) oj (owns_ne oj Lj (by decide)) (.slice (some ⟨G, 0, none⟩) k d4)
          have t1 := fun y hy => (HTj.out y hy).set Lj (by decide) (by decide) 1 (.slice (some ⟨G, 0, none⟩) k d4)
          have b1 := bj.setCell (p := ⟨w.heap.size, 1, none⟩) (Nat.le_refl _) (.slice (some ⟨G, 0, none⟩) k d4)
          have Z2 := Z1.set 0 (.int .i64 f)
          have Z3 := Z2.set 1 (.slice (some ⟨G, 0, none⟩) k d4)
          have o3 := owns_setCell (a := ⟨w.heap.size + 1, 1, none⟩) (owns_setCell (a := ⟨w.heap.size + 1, 0, none⟩) o1 (owns_ne o1 Z1 (by decide)) (.int .i64 f)) (owns_ne o1 Z1 (by decide)) (.slice (some ⟨G, 0, none⟩) k d4)
          have t3 := fun y hy => ((t1 y hy).set Z1 (by decide) (by decide) 0 (.int .i64 f)).set Z2 (by decide) (by decide) 1 (.slice (some ⟨G, 0, none⟩) k d4)
          have b3 := (b1.setCell (p := ⟨w.heap.size + 1, 0, none⟩) (Nat.le_succ _) (.int .i64 f)).setCell (p := ⟨w.heap.size + 1, 1, none⟩) (Nat.le_succ _) (.slice (some ⟨G, 0, none⟩) k d4)
          simp only [List.setIfInBounds_toArray, List.set_cons_succ, List.set_cons_zero] at Z3
          have y0 := Z3.cell 0; have y1 := Z3.cell 1
          simp at y0 y1
          have HY := Lib.hid (And.intro y0 y1)
          have HO := Lib.hid o3
          have HT3 := Lib.hid t3
          have HB := Lib.hid b3
          clear y0 y1 o3 t3 b3 Z3 Z2 o1 t1 b1 L1 Z1 bj oj
          go_wp2
          obtain ⟨y0, y1⟩ := HY.out
          exact bodyPost_ret (v := .agg #[.int .i64 f, .slice (some ⟨G, 0, none⟩) k d4]) (by simp [results, Try.results10, go_sem, y0, y1]) rfl ⟨G, d4, lt, by rw [← HN.out], HMM.out, by rw [← HN.out]; exact HO.out, HT3.out, HB.out⟩
end Go.Proofs.Ytnmcdifkknphgaa
