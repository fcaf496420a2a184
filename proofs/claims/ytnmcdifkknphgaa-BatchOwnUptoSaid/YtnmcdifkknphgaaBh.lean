/- Walk of treadleref12.laid. Printed by gen_bh.py. -/
import Derived.Test.YtnmcdifkknphgaaBe
import Derived.Test.YtnmcdifkknphgaaRefF
import Derived.Test.YtnmcdifkknphgaaBr
namespace Go.Proofs.Ytnmcdifkknphgaa
open Go.RowKit

/-- The state of laid: the writer's block and its row, the transaction's block. -/
structure HSt (w W : World) (wb : Nat) (X : Array Value) (B : Option Addr) (c : Nat) (zs : Bs) : Prop where
  t : Loc W wb #[.slice B zs.length c, .int .i64 0] 81
  o : W.ownsRow w.heap.size 5 1 (.slice B zs.length c) zs.length (cellsB zs)
  p : Loc W w.heap.size X 30
  b : Below w.heap.size w W

theorem HSt.below {w W V : World} {wb : Nat} {X : Array Value} {B : Option Addr} {c : Nat} {zs : Bs} (h : HSt w W wb X B c zs) (hb : Below W.heap.size W V) : HSt w V wb X B c zs :=
  ⟨h.t.below hb h.t.lt, owns_mono' h.o hb, h.p.below hb h.p.lt, below_then h.b hb h.b.size⟩

theorem HSt.step {w W V : World} {wb : Nat} {X : Array Value} {B A' : Option Addr} {c c' n : Nat} {zs zs' : Bs} (h : HSt w W wb X B c zs) (hb : Below W.heap.size W V)
    (o : V.ownsRow W.heap.size 5 1 (.slice A' n c') n (cellsB zs')) (hn : n = zs'.length) (hw : w.heap.size ≤ wb) :
    HSt w ((V.setCell ⟨wb, 0, none⟩ (.slice A' n c')).setCell ⟨wb, 1, none⟩ (.int .i64 0)) wb X A' c' zs' ∧
      V.cell? ⟨wb, 0, none⟩ = some (.slice B zs.length c) ∧ V.cell? ⟨wb, 1, none⟩ = some (.int .i64 0) ∧ V.frozen? ⟨wb, 0, none⟩ = false ∧ V.frozen? ⟨wb, 1, none⟩ = false := by
  subst hn
  have g := h.below hb
  obtain ⟨T, O⟩ := ws_put g.t (owns_mono o h.b.size)
  have np : w.heap.size ≠ wb := g.p.ne g.t (by decide)
  have e0 := g.t.cell 0; have e1 := g.t.cell 1
  simp at e0 e1
  exact ⟨⟨T, O, (g.p.other (a := ⟨wb, 0, none⟩) np _).other (a := ⟨wb, 1, none⟩) np _, (g.b.setCell (p := ⟨wb, 0, none⟩) hw _).setCell (p := ⟨wb, 1, none⟩) hw _⟩,
    e0, e1, g.t.free 0, g.t.free 1⟩

/-- What laid answers. -/
def HPost (A : Option Addr) (n c base : Nat) (ys : Bs) (w : World) (e : Ending) (w' : World) : Prop :=
  ∃ A' c', e = .returned (.slice A' ys.length c') ∧ w'.ownsRow base 5 1 (.slice A' ys.length c') ys.length (cellsB ys) ∧ Keep w.heap.size (fun k => (Value.slice A n c).ownBlock = some k) w w'

/-- Behind the append. -/
theorem hfin {A A' : Option Addr} {n c c' base m : Nat} {zs ys : Bs} {w W V : World} (hn : n = zs.length) (hm : m = ys.length) (hown : W.ownsRow base 5 1 (.slice A n c) n (cellsB zs)) (hbase : base ≤ w.heap.size) (hb : Below w.heap.size w W)
    (h1 : V.ownsRow 0 5 1 (.slice A' (n + m) c') (n + m) (cellsB zs ++ cellsB ys)) (hg : W.grownBy V (Value.slice A n c).ownBlock) (hbl : ∀ k, (Value.slice A' (n + m) c').ownBlock = some k → (Value.slice A n c).ownBlock = some k ∨ k = W.heap.size) :
    HPost A n c base (zs ++ ys) w (.returned (.slice A' (n + m) c')) V := by
  obtain ⟨o, _⟩ := own_next0 hown h1 hg hbl (Nat.le_trans hbase hb.size) ⟨hb.os, hb.tape, hb.output, hb.size, fun k hk => hb.block k (Nat.lt_of_lt_of_le hk hbase)⟩
  have hl : (zs ++ ys).length = n + m := by rw [List.length_append, hn, hm]
  unfold HPost
  rw [hl, cellsB_append]
  exact ⟨A', c', rfl, o, (Keep.of_below hb _).grown hg hb.size (fun k h => .inr h)⟩

set_option maxRecDepth 100000 in
set_option maxHeartbeats 8000000 in
theorem rblaid_any (x : TxnC) (A : Option Addr) (n c base : Nat) (zs : Bs) (w : World) (hx : x.ok w) (hin : x.t.proc.inR) (hv : ∀ v ∈ x.t.args, i64v v) (hk : txnCheck x.t = 0) (hown : w.ownsRow base 5 1 (.slice A n c) n (cellsB zs)) (hn : n = zs.length) (hbase : base ≤ w.heap.size) (hl : n ≤ 100000000) :
    Calls Try.prog 31 #[.slice A n c, .agg x.cells] w (HPost A n c base (zs ++ txnBytes x.t) w) := by
  obtain ⟨⟨xk, ⟨xn, xa, xc⟩, xm, xv⟩, XA, xca, XB, xcb⟩ := x
  have hcase := txnCheck_zero hk
  have hxa := hx.a; have hxa0 := hx.a0; have hxb := hx.b; have hxb0 := hx.b0
  have htl := txnBytes_le hk
  unfold TxnC.cells
  simp only at hcase hxa hxa0 hxb hxb0 hin hv htl ⊢
  obtain ⟨na, hna⟩ : ∃ na, na = xv.length := ⟨_, rfl⟩
  obtain ⟨nc, hnc⟩ : ∃ nc, nc = xc.length := ⟨_, rfl⟩
  rw [← hna, ← hnc]
  have HOWN := Lib.hid hown
  have HN := Lib.hid hn
  have HXA := Lib.hid hxa
  have HXA0 := Lib.hid hxa0
  have HXB := Lib.hid hxb
  have HV := Lib.hid hv
  have HNA := Lib.hid hna
  have HBASE := Lib.hid hbase
  clear hx hk hown hxa hxa0 hv hn hbase
  rcases hcase with ⟨rfl, hp⟩ | ⟨rfl, hnm, hal, hvs⟩ | ⟨rfl, hnm⟩
  · -- a definition
    have hpc := procCheck_zero hp
    have hpl := procBytes_small hp
    have he : procEncode ⟨xn, xa, xc⟩ = (procBytes ⟨xn, xa, xc⟩, 0) := by unfold procEncode; rw [if_pos hp]
    have henc := fun W (b : Below w.heap.size w W) => refEncode_any ⟨xn, xa, xc⟩ XB xcb W (HXB.out.of_below b (Nat.le_refl _)) (by have := hpc.2.2.1; simp only at this ⊢; omega) hin
    obtain ⟨db, hdb⟩ : ∃ db, db = procBytes ⟨xn, xa, xc⟩ := ⟨_, rfl⟩
    rw [he, ← hdb] at henc
    rw [← hdb] at hpl
    unfold procCells at henc
    simp only at henc
    rw [← hnc] at henc
    have hby := fun W => rwbyte_num none 0 0 [] 1 W (Row.nil _ _) rfl (fun _ => rfl) (by omega) (by omega) (by omega)
    obtain ⟨y1, hy1⟩ : ∃ y1 : Bs, y1 = [] ++ [UInt8.ofNat (1 : Int).toNat] := ⟨_, rfl⟩
    rw [← hy1] at hby
    have l1 : y1.length ≤ 1 := by rw [hy1]; exact Nat.le_refl _
    have htx := fun B d W (h : Row W B (cellsB y1)) (hB : B = none → y1.length = 0) => rwtext_any B y1.length d y1 ⟨db.toArray⟩ W h rfl hB (by show y1.length + db.toArray.size + 10 ≤ _; rw [List.size_toArray]; omega)
    obtain ⟨y2, hy2⟩ : ∃ y2, y2 = y1 ++ encText db := ⟨_, rfl⟩
    rw [show (⟨db.toArray⟩ : ByteArray).data.toList = db from rfl, ← hy2] at htx
    have hyt : txnBytes ⟨1, ⟨xn, xa, xc⟩, xm, xv⟩ = y2 := by rw [hy2, hy1, hdb]; rfl
    have hlen2 : y2.length ≤ 31000 := by rw [← hyt]; exact htl
    have HENC := Lib.hid henc
    have HBY := Lib.hid hby
    have HTX := Lib.hid htx
    have HYT := Lib.hid hyt
    clear hpc he henc hby htx hyt hdb hy1 hy2 hp hin htl hxb hnc hna hxb0
    go_enter Try.func31, Try.ntmps31
    have L0 := Loc.new w #[.int .i64 1, .string xn, .int .i64 xa, .slice XB nc xcb, .string xm, .slice XA na xca] 30
    have b0 := (Below.refl w.heap.size w).alloc (Nat.le_refl _) (.cells #[.int .i64 1, .string xn, .int .i64 xa, .slice XB nc xcb, .string xm, .slice XA na xca] 30)
    go_wp2_with fail
    refine (HBY.out _).mono ?_; rintro e w1 ⟨B1, d1, rfl, o1, hb⟩
    have hA1 := (Below.refl w1.heap.size w1).alloc (Nat.le_refl _) (.cells #[.slice B1 y1.length d1, .int .i64 0] 81)
    have b1 := below_then b0 hb b0.size
    have S1 : HSt w (w1.alloc (.cells #[.slice B1 y1.length d1, .int .i64 0] 81)) w1.heap.size #[.int .i64 1, .string xn, .int .i64 xa, .slice XB nc xcb, .string xm, .slice XA na xca] B1 d1 y1 :=
      ⟨Loc.new w1 _ _, owns_mono (owns_mono' o1 hA1) b0.size, (L0.below hb L0.lt).below hA1 (L0.below hb L0.lt).lt, b1.alloc b1.size _⟩
    have hsz : w.heap.size ≤ w1.heap.size := b1.size
    have hne : ¬ w.heap.size = w1.heap.size := by have := (L0.below hb L0.lt).lt; omega
    have x0 := S1.p.cell 0; have x1 := S1.p.cell 1; have x2 := S1.p.cell 2; have x3 := S1.p.cell 3; have x4 := S1.p.cell 4; have x5 := S1.p.cell 5
    have t0 := S1.t.cell 0; have t1' := S1.t.cell 1
    simp at x0 x1 x2 x3 x4 x5 t0 t1'
    clear L0 b0 hb hA1 o1 b1 HBY
    go_wp2_with fail
    refine (HENC.out _ S1.b).mono ?_; rintro e V ⟨A2, c2, rfl, o2, hb⟩
    have hcv := run_ofBytes (P := Try.prog) 39 9 5 Try.underlying39 Try.underlying5 Try.underlying9 (W := V) (A := A2) (xs := db) db.length c2 rfl (Row.of_owns o2) (owns_none o2)
    have S2 := S1.below hb
    clear S1 x0 x1 x2 x3 x4 x5 t0 t1' hb o2
    have x0 := S2.p.cell 0; have t0 := S2.t.cell 0; have t1' := S2.t.cell 1
    simp at x0 t0 t1'
    go_wp2_with fail
    refine (HTX.out _ _ _ (Row.of_owns S2.o) (owns_none S2.o)).mono ?_; rintro e V2 ⟨A3, c3, rfl, o3, hb⟩
    obtain ⟨S3, v0, v1, f0, f1⟩ := S2.step hb o3 rfl hsz
    have x0' := (S2.below hb).p.cell 0
    simp at x0'
    clear S2 x0 t0 t1' hb o3 hcv
    have hsrc := (Row.of_owns S3.o).src (P := Try.prog) (size := 1) (n := y2.length) (c := c3) (tx := 39) Try.underlying39 (by rw [cellsB_length]; omega) (cellsB_one y2) (owns_none S3.o)
    have HSRC := Lib.hid hsrc
    have hownW := owns_base (owns_mono' HOWN.out S3.b) (fun _ _ => Nat.zero_le _)
    have HOWNW := Lib.hid hownW
    have t0 := S3.t.cell 0
    simp at t0
    clear hsrc hownW
    go_wp2_with (first | (at_builtin; refine wpList_append_mine _ rfl _ _ 39 39 rfl 5 (.int .u8 0) 1 1 Try.underlying39 infoU8 rfl (by decide) (.slice A n c) n (cellsB zs) rfl HOWNW.out (.slice A3 y2.length c3) y2.length (cellsB y2) rfl HSRC.out (by unfold maxLen; omega) (by omega) ?_; intro A9 c9 w9 hown9 hg9 hb9 hx9))
    go_ret
    rw [HYT.out]
    exact hfin HN.out rfl (owns_mono' HOWN.out S3.b) HBASE.out S3.b hown9 hg9 hb9
  · -- a call
    have hnl := isName_le hnm
    have hby := fun W => rwbyte_num none 0 0 [] 2 W (Row.nil _ _) rfl (fun _ => rfl) (by omega) (by omega) (by omega)
    obtain ⟨y1, hy1⟩ : ∃ y1 : Bs, y1 = [] ++ [UInt8.ofNat (2 : Int).toNat] := ⟨_, rfl⟩
    rw [← hy1] at hby
    have l1 : y1.length ≤ 1 := by rw [hy1]; exact Nat.le_refl _
    have hsz0 : xm.data.toList.length = xm.size := by simp
    have htx := fun B d W (h : Row W B (cellsB y1)) (hB : B = none → y1.length = 0) => rwtext_any B y1.length d y1 xm W h rfl hB (by omega)
    obtain ⟨y2, hy2⟩ : ∃ y2, y2 = y1 ++ encText xm.data.toList := ⟨_, rfl⟩
    rw [← hy2] at htx
    have hlen2 : y2.length ≤ 100 := by rw [hy2, List.length_append]; have := encText_le xm.data.toList; omega
    have hnu := fun B d W (h : Row W B (cellsB y2)) (hB : B = none → y2.length = 0) => rwnumber_any B y2.length d y2 (na : Int) W h rfl hB (by omega) (by omega) (by omega)
    obtain ⟨zk, hzk⟩ : ∃ zk : Nat → Bs, zk = fun k => y2 ++ encNumber (na : Int) ++ (xv.take k).flatMap valBytes := ⟨_, rfl⟩
    have hz0 : zk 0 = y2 ++ encNumber (na : Int) := by rw [hzk]; simp
    have hzl : txnBytes ⟨2, ⟨xn, xa, xc⟩, xm, xv⟩ = zk na := by rw [hzk, hna]; simp only [List.take_length]; rw [hy2, hy1]; simp [txnBytes]
    have hzs : ∀ k (h : k < xv.length), zk (k + 1) = zk k ++ valBytes xv[k] := fun k h => by
      rw [hzk]
      simp only [List.take_succ_eq_append_getElem h, List.flatMap_append, List.flatMap_cons, List.flatMap_nil, List.append_nil, List.append_assoc]
    have hzb : ∀ k, k ≤ na → (zk k).length ≤ 6000 := fun k h => by
      rw [hzk]
      have h1 := encNumber_le (na : Int)
      have h2 : ((xv.take k).flatMap valBytes).length ≤ 310 * (xv.take k).length := valsBytes_le (fun v hv => hvs v (List.mem_of_mem_take hv))
      rw [List.length_take] at h2
      simp only [List.length_append]
      omega
    rw [← hz0] at hnu
    have HBY := Lib.hid hby
    have HTX := Lib.hid htx
    have HNU := Lib.hid hnu
    have HYT := Lib.hid hzl
    have HZS := Lib.hid hzs
    have HZB := Lib.hid hzb
    have HVS := Lib.hid hvs
    rw [← hna] at hal
    clear hby htx hnu hy1 hy2 hzk hz0 hzl hzs hzb hvs hnm hin htl hxb hnc hna hxb0 hsz0 hnl
    go_enter Try.func31, Try.ntmps31
    have L0 := Loc.new w #[.int .i64 2, .string xn, .int .i64 xa, .slice XB nc xcb, .string xm, .slice XA na xca] 30
    have b0 := (Below.refl w.heap.size w).alloc (Nat.le_refl _) (.cells #[.int .i64 2, .string xn, .int .i64 xa, .slice XB nc xcb, .string xm, .slice XA na xca] 30)
    go_wp2_with fail
    refine (HBY.out _).mono ?_; rintro e w1 ⟨B1, d1, rfl, o1, hb⟩
    have hA1 := (Below.refl w1.heap.size w1).alloc (Nat.le_refl _) (.cells #[.slice B1 y1.length d1, .int .i64 0] 81)
    have b1 := below_then b0 hb b0.size
    have S1 : HSt w (w1.alloc (.cells #[.slice B1 y1.length d1, .int .i64 0] 81)) w1.heap.size #[.int .i64 2, .string xn, .int .i64 xa, .slice XB nc xcb, .string xm, .slice XA na xca] B1 d1 y1 :=
      ⟨Loc.new w1 _ _, owns_mono (owns_mono' o1 hA1) b0.size, (L0.below hb L0.lt).below hA1 (L0.below hb L0.lt).lt, b1.alloc b1.size _⟩
    have hsz : w.heap.size ≤ w1.heap.size := b1.size
    have hne : ¬ w.heap.size = w1.heap.size := by have := (L0.below hb L0.lt).lt; omega
    have x0 := S1.p.cell 0; have x1 := S1.p.cell 1; have x2 := S1.p.cell 2; have x3 := S1.p.cell 3; have x4 := S1.p.cell 4; have x5 := S1.p.cell 5
    have t0 := S1.t.cell 0; have t1' := S1.t.cell 1
    simp at x0 x1 x2 x3 x4 x5 t0 t1'
    clear L0 b0 hb hA1 o1 b1 HBY
    go_wp2_with fail
    refine (HTX.out _ _ _ (Row.of_owns S1.o) (owns_none S1.o)).mono ?_; rintro e V2 ⟨A3, c3, rfl, o3, hb⟩
    obtain ⟨S3, v0, v1, f0, f1⟩ := S1.step hb o3 rfl hsz
    have x0' := (S1.below hb).p.cell 0; have x5' := (S1.below hb).p.cell 5
    simp at x0' x5'
    clear S1 x0 x1 x2 x3 x4 x5 t0 t1' hb o3
    go_wp2_with fail
    refine (HNU.out _ _ _ (Row.of_owns S3.o) (owns_none S3.o)).mono ?_; rintro e V3 ⟨A4, c4, rfl, o4, hb⟩
    obtain ⟨S4, g0, g1, h0, h1⟩ := S3.step hb o4 rfl hsz
    clear S3 x0' x5' v0 v1 f0 f1 hb o4
    go_wp2
    go_loopw [8] (fun i wk => ∃ (k : Nat) (B : Option Addr) (d : Nat), k ≤ na ∧ i = .int .i64 (k : Nat) ∧ HSt w wk w1.heap.size #[.int .i64 2, .string xn, .int .i64 xa, .slice XB nc xcb, .string xm, .slice XA na xca] B d (zk k)) (fun i _ => na - (intOf i).toNat)
    case atStart => exact ⟨0, A4, c4, Nat.zero_le _, rfl, S4⟩
    case round =>
      obtain ⟨wk, rfl⟩ : ∃ wk, wk = wr := ⟨_, rfl⟩
      obtain ⟨k, B2, d2, hk, rfl, S⟩ := hrel
      clear S4
      have t0 := S.t.cell 0; have t1' := S.t.cell 1; have x5 := S.p.cell 5
      simp at t0 t1' x5
      by_cases hkn : k < na
      · have hkl : k < xv.length := by rw [← HNA.out]; exact hkn
        obtain ⟨b, off, rfl, hbl, hc⟩ := (HXA.out.of_below S.b (Nat.le_refl _)).vals (by omega)
        have hcx := hc k hkl
        have hdz := HVS.out _ (List.getElem_mem hkl)
        have hdv := HV.out _ (List.getElem_mem hkl)
        have hz := HZS.out k hkl
        have hzb2 := HZB.out k (by omega)
        generalize xv[k] = v at *
        have hdl := datumBytes_le hdz
        have hde : datumEncode v = (datumBytes v, 0) := by unfold datumEncode; rw [if_pos hdz]
        have hdn := fun W => rdenc_any v W hdv
        rw [hde] at hdn
        unfold valBytes at hz
        obtain ⟨db, hdb⟩ : ∃ db, db = datumBytes v := ⟨_, rfl⟩
        rw [← hdb] at hdn hdl hz
        have hct := fun B d W (h : Row W B (cellsB (zk k))) (hB : B = none → (zk k).length = 0) => rwtext_any B (zk k).length d (zk k) ⟨db.toArray⟩ W h rfl hB (by show (zk k).length + db.toArray.size + 10 ≤ _; rw [List.size_toArray]; omega)
        rw [show (⟨db.toArray⟩ : ByteArray).data.toList = db from rfl, ← hz] at hct
        have v0 := hcx 0 (by decide); have v1 := hcx 1 (by decide); have v2 := hcx 2 (by decide)
        simp only [valCells, List.getElem?_toArray, List.getElem?_cons_zero, List.getElem?_cons_succ, Nat.add_zero] at v0 v1 v2
        unfold valCells at hdn
        have HDN := Lib.hid hdn
        have HCT := Lib.hid hct
        have hkn' : (k : Int) < (na : Int) := by omega
        clear hc hcx hdz hdv hz hde hdn hdb hct
        go_wp2_with fail
        refine (HDN.out _).mono ?_; rintro e V4 ⟨A', c', rfl, o', hb⟩
        have hcv := run_ofBytes (P := Try.prog) 39 9 5 Try.underlying39 Try.underlying5 Try.underlying9 (W := V4) (A := A') (xs := db) db.length c' rfl (Row.of_owns o') (owns_none o')
        have S1 := S.below hb
        clear S t0 t1' x5 v0 v1 v2 o' hb
        have t0 := S1.t.cell 0; have t1' := S1.t.cell 1
        simp at t0 t1'
        go_wp2_with fail
        refine (HCT.out _ _ _ (Row.of_owns S1.o) (owns_none S1.o)).mono ?_; rintro e V5 ⟨A2, c2, rfl, o2, hb⟩
        obtain ⟨S', g0, g1, h0, h1⟩ := S1.step hb o2 rfl hsz
        clear S1 hb o2 hcv
        go_wp2
        go_roundw
        case rel => exact ⟨k + 1, A2, c2, by omega, by go_num, S'⟩
        case measure => simp [intOf]; omega
      · obtain rfl : k = na := by omega
        have hzb2 := HZB.out k (Nat.le_refl _)
        obtain ⟨y2', hy2'⟩ : ∃ y2', y2' = zk k := ⟨_, rfl⟩
        rw [← hy2'] at S t0 hzb2
        have HYT := Lib.hid (HYT.out.trans hy2'.symm)
        clear hy2'
        have hsrc := (Row.of_owns S.o).src (P := Try.prog) (size := 1) (n := y2'.length) (c := d2) (tx := 39) Try.underlying39 (by rw [cellsB_length]; omega) (cellsB_one y2') (owns_none S.o)
        have HSRC := Lib.hid hsrc
        have hownW := owns_base (owns_mono' HOWN.out S.b) (fun _ _ => Nat.zero_le _)
        have HOWNW := Lib.hid hownW
        have t0 := S.t.cell 0
        simp at t0
        clear hsrc hownW
        go_wp2_with (first | (at_builtin; refine wpList_append_mine _ rfl _ _ 39 39 rfl 5 (.int .u8 0) 1 1 Try.underlying39 infoU8 rfl (by decide) (.slice A n c) n (cellsB zs) rfl HOWNW.out (.slice B2 y2'.length d2) y2'.length (cellsB y2') rfl HSRC.out (by unfold maxLen; omega) (by omega) ?_; intro A9 c9 w9 hown9 hg9 hb9 hx9))
        go_ret
        rw [HYT.out]
        exact hfin HN.out rfl (owns_mono' HOWN.out S.b) HBASE.out S.b hown9 hg9 hb9
  · -- a drop
    have hnl := isName_le hnm
    have hby := fun W => rwbyte_num none 0 0 [] 3 W (Row.nil _ _) rfl (fun _ => rfl) (by omega) (by omega) (by omega)
    obtain ⟨y1, hy1⟩ : ∃ y1 : Bs, y1 = [] ++ [UInt8.ofNat (3 : Int).toNat] := ⟨_, rfl⟩
    rw [← hy1] at hby
    have l1 : y1.length ≤ 1 := by rw [hy1]; exact Nat.le_refl _
    have hsz0 : xm.data.toList.length = xm.size := by simp
    have htx := fun B d W (h : Row W B (cellsB y1)) (hB : B = none → y1.length = 0) => rwtext_any B y1.length d y1 xm W h rfl hB (by omega)
    obtain ⟨y2, hy2⟩ : ∃ y2, y2 = y1 ++ encText xm.data.toList := ⟨_, rfl⟩
    rw [← hy2] at htx
    have hlen2 : y2.length ≤ 100 := by rw [hy2, List.length_append]; have := encText_le xm.data.toList; omega
    have hyt : txnBytes ⟨3, ⟨xn, xa, xc⟩, xm, xv⟩ = y2 := by rw [hy2, hy1]; rfl
    have HBY := Lib.hid hby
    have HTX := Lib.hid htx
    have HYT := Lib.hid hyt
    clear hby htx hyt hy1 hy2 hnm hin htl hxb hnc hna hxb0 hsz0 hnl
    go_enter Try.func31, Try.ntmps31
    have L0 := Loc.new w #[.int .i64 3, .string xn, .int .i64 xa, .slice XB nc xcb, .string xm, .slice XA na xca] 30
    have b0 := (Below.refl w.heap.size w).alloc (Nat.le_refl _) (.cells #[.int .i64 3, .string xn, .int .i64 xa, .slice XB nc xcb, .string xm, .slice XA na xca] 30)
    go_wp2_with fail
    refine (HBY.out _).mono ?_; rintro e w1 ⟨B1, d1, rfl, o1, hb⟩
    have hA1 := (Below.refl w1.heap.size w1).alloc (Nat.le_refl _) (.cells #[.slice B1 y1.length d1, .int .i64 0] 81)
    have b1 := below_then b0 hb b0.size
    have S1 : HSt w (w1.alloc (.cells #[.slice B1 y1.length d1, .int .i64 0] 81)) w1.heap.size #[.int .i64 3, .string xn, .int .i64 xa, .slice XB nc xcb, .string xm, .slice XA na xca] B1 d1 y1 :=
      ⟨Loc.new w1 _ _, owns_mono (owns_mono' o1 hA1) b0.size, (L0.below hb L0.lt).below hA1 (L0.below hb L0.lt).lt, b1.alloc b1.size _⟩
    have hsz : w.heap.size ≤ w1.heap.size := b1.size
    have hne : ¬ w.heap.size = w1.heap.size := by have := (L0.below hb L0.lt).lt; omega
    have x0 := S1.p.cell 0; have x1 := S1.p.cell 1; have x2 := S1.p.cell 2; have x3 := S1.p.cell 3; have x4 := S1.p.cell 4; have x5 := S1.p.cell 5
    have t0 := S1.t.cell 0; have t1' := S1.t.cell 1
    simp at x0 x1 x2 x3 x4 x5 t0 t1'
    clear L0 b0 hb hA1 o1 b1 HBY
    go_wp2_with fail
    refine (HTX.out _ _ _ (Row.of_owns S1.o) (owns_none S1.o)).mono ?_; rintro e V2 ⟨A3, c3, rfl, o3, hb⟩
    obtain ⟨S3, v0, v1, f0, f1⟩ := S1.step hb o3 rfl hsz
    have x0' := (S1.below hb).p.cell 0; have x5' := (S1.below hb).p.cell 5
    simp at x0' x5'
    clear S1 x0 x1 x2 x3 x4 x5 t0 t1' hb o3
    have hsrc := (Row.of_owns S3.o).src (P := Try.prog) (size := 1) (n := y2.length) (c := c3) (tx := 39) Try.underlying39 (by rw [cellsB_length]; omega) (cellsB_one y2) (owns_none S3.o)
    have HSRC := Lib.hid hsrc
    have hownW := owns_base (owns_mono' HOWN.out S3.b) (fun _ _ => Nat.zero_le _)
    have HOWNW := Lib.hid hownW
    have t0 := S3.t.cell 0
    simp at t0
    clear hsrc hownW
    go_wp2_with (first | (at_builtin; refine wpList_append_mine _ rfl _ _ 39 39 rfl 5 (.int .u8 0) 1 1 Try.underlying39 infoU8 rfl (by decide) (.slice A n c) n (cellsB zs) rfl HOWNW.out (.slice A3 y2.length c3) y2.length (cellsB y2) rfl HSRC.out (by unfold maxLen; omega) (by omega) ?_; intro A9 c9 w9 hown9 hg9 hb9 hx9))
    go_ret
    rw [HYT.out]
    exact hfin HN.out rfl (owns_mono' HOWN.out S3.b) HBASE.out S3.b hown9 hg9 hb9
end Go.Proofs.Ytnmcdifkknphgaa
