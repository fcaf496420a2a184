/- Walk of treadleref6.Encode. -/
import Derived.Test.YtnieminnnkbneaaGreatRefE
import Derived.Test.YtnieminnnkbneaaGreatRef3
import Derived.Test.YtnieminnnkbneaaGreatProc4
namespace Go.Proofs.YtnieminnnkbneaaGreat
open Go.RowKit

/-- What one letter of an operation's fields lays. -/
def letBytes (x : Ins) (c : UInt8) : Bs :=
  if c = 65 then [UInt8.ofNat x.a.toNat] else if c = 66 then [UInt8.ofNat x.b.toNat] else if c = 67 then [UInt8.ofNat x.c.toNat]
  else if c = 97 then encNumber x.a else if c = 78 then encNumber x.n else if c = 86 then encText (datumBytes x.v) else []

theorem let_bytes {x : Ins} (h1 : 1 ≤ x.op) (h2 : x.op ≤ 16) : (fieldsS x.op).flatMap (letBytes x) = (fieldsOf x.op).flatMap (fldBytes x) ++ (if hasVal x.op then encText (datumBytes x.v) else []) := by
  obtain ⟨op, a, b, c, n, v⟩ := x
  simp only at h1 h2
  have h : op = 1 ∨ op = 2 ∨ op = 3 ∨ op = 4 ∨ op = 5 ∨ op = 6 ∨ op = 7 ∨ op = 8 ∨ op = 9 ∨ op = 10 ∨ op = 11 ∨ op = 12 ∨ op = 13 ∨ op = 14 ∨ op = 15 ∨ op = 16 := by omega
  rcases h with rfl | rfl | rfl | rfl | rfl | rfl | rfl | rfl | rfl | rfl | rfl | rfl | rfl | rfl | rfl | rfl <;>
    simp [fieldsS, fieldsOf, letBytes, fldBytes, hasVal, Fld.one, Fld.get]

theorem ins_bytes {x : Ins} (h1 : 1 ≤ x.op) (h2 : x.op ≤ 16) : insBytes x = UInt8.ofNat x.op.toNat :: (fieldsS x.op).flatMap (letBytes x) := by
  rw [let_bytes h1 h2]; rfl

theorem let_fld {op : Int} (h1 : 1 ≤ op) (h2 : op ≤ 16) : ∀ c ∈ fieldsS op,
    (c = 65 ∧ Fld.a ∈ fieldsOf op) ∨ (c = 66 ∧ Fld.b ∈ fieldsOf op) ∨ (c = 67 ∧ Fld.c ∈ fieldsOf op) ∨ (c = 97 ∧ Fld.skip ∈ fieldsOf op) ∨ (c = 78 ∧ (Fld.arg ∈ fieldsOf op ∨ Fld.how ∈ fieldsOf op ∨ Fld.many ∈ fieldsOf op)) ∨ (c = 86 ∧ hasVal op = true) := by
  have h : op = 1 ∨ op = 2 ∨ op = 3 ∨ op = 4 ∨ op = 5 ∨ op = 6 ∨ op = 7 ∨ op = 8 ∨ op = 9 ∨ op = 10 ∨ op = 11 ∨ op = 12 ∨ op = 13 ∨ op = 14 ∨ op = 15 ∨ op = 16 := by omega
  rcases h with rfl | rfl | rfl | rfl | rfl | rfl | rfl | rfl | rfl | rfl | rfl | rfl | rfl | rfl | rfl | rfl <;> decide

/-- The letters that an operation may have, and what is known of the field. -/
theorem let_may {args len place : Int} {x : Ins} (h : insCheck args len place x = 0) {c : UInt8} (hc : c ∈ fieldsS x.op) :
    (c = 65 ∧ 0 ≤ x.a ∧ x.a < 16) ∨ (c = 66 ∧ 0 ≤ x.b ∧ x.b < 16) ∨ (c = 67 ∧ 0 ≤ x.c ∧ x.c < 16) ∨ (c = 97 ∧ 0 ≤ x.a) ∨ (c = 78 ∧ 0 ≤ x.n) ∨ (c = 86 ∧ datumCheck x.v = 0) := by
  obtain ⟨⟨h1, h2⟩, hf, hv⟩ := insCheck_zero h
  rcases let_fld h1 h2 c hc with ⟨e, m⟩ | ⟨e, m⟩ | ⟨e, m⟩ | ⟨e, m⟩ | ⟨e, m⟩ | ⟨e, m⟩
  · have := Fld.may_pos (hf _ m)
    exact .inl ⟨e, this.1, this.2 rfl⟩
  · have := Fld.may_pos (hf _ m)
    exact .inr (.inl ⟨e, this.1, this.2 rfl⟩)
  · have := Fld.may_pos (hf _ m)
    exact .inr (.inr (.inl ⟨e, this.1, this.2 rfl⟩))
  · have := Fld.may_pos (hf _ m)
    exact .inr (.inr (.inr (.inl ⟨e, this.1⟩)))
  · have : 0 ≤ x.n := by
      rcases m with m | m | m
      · exact (Fld.may_pos (hf _ m)).1
      · exact (Fld.may_pos (hf _ m)).1
      · exact (Fld.may_pos (hf _ m)).1
    exact .inr (.inr (.inr (.inr (.inl ⟨e, this⟩))))
  · exact .inr (.inr (.inr (.inr (.inr ⟨e, hv m⟩))))

theorem ws_put {W : World} {wb base n c : Nat} {A : Option Addr} {zs : Bs} {c0 c1 : Value} (T : Loc W wb #[c0, c1] 104) (o : W.ownsRow base 5 1 (.slice A n c) n (cellsB zs)) :
    Loc ((W.setCell ⟨wb, 0, none⟩ (.slice A n c)).setCell ⟨wb, 1, none⟩ (.int .i64 0)) wb #[.slice A n c, .int .i64 0] 104 ∧
      ((W.setCell ⟨wb, 0, none⟩ (.slice A n c)).setCell ⟨wb, 1, none⟩ (.int .i64 0)).ownsRow base 5 1 (.slice A n c) n (cellsB zs) := by
  have t0 := T.set 0 (.slice A n c)
  have t1 := t0.set 1 (.int .i64 0)
  exact ⟨t1, owns_setCell (a := ⟨wb, 1, none⟩) (owns_setCell (a := ⟨wb, 0, none⟩) o (owns_ne o T (by decide)) _) (owns_ne (owns_setCell (a := ⟨wb, 0, none⟩) o (owns_ne o T (by decide)) (.slice A n c)) t0 (by decide)) _⟩

/-- The state of the loops of Encode: the writer's block, its row, the procedure's block, the instruction's block. -/
structure ESt (w W : World) (wb xb : Nat) (P X : Array Value) (B : Option Addr) (c : Nat) (zs : Bs) : Prop where
  t : Loc W wb #[.slice B zs.length c, .int .i64 0] 104
  o : W.ownsRow w.heap.size 5 1 (.slice B zs.length c) zs.length (cellsB zs)
  p : Loc W w.heap.size P 54
  x : Loc W xb X 109
  b : Below w.heap.size w W

theorem ESt.below {w W V : World} {wb xb : Nat} {P X : Array Value} {B : Option Addr} {c : Nat} {zs : Bs} (h : ESt w W wb xb P X B c zs) (hb : Below W.heap.size W V) : ESt w V wb xb P X B c zs :=
  ⟨h.t.below hb h.t.lt, owns_mono' h.o hb, h.p.below hb h.p.lt, h.x.below hb h.x.lt, below_then h.b hb h.b.size⟩

theorem ESt.step {w W V : World} {wb xb : Nat} {P X : Array Value} {B A' : Option Addr} {c c' n : Nat} {zs zs' : Bs} (h : ESt w W wb xb P X B c zs) (hb : Below W.heap.size W V)
    (o : V.ownsRow W.heap.size 5 1 (.slice A' n c') n (cellsB zs')) (hn : n = zs'.length) (hw : w.heap.size ≤ wb) :
    ESt w ((V.setCell ⟨wb, 0, none⟩ (.slice A' n c')).setCell ⟨wb, 1, none⟩ (.int .i64 0)) wb xb P X A' c' zs' ∧
      V.cell? ⟨wb, 0, none⟩ = some (.slice B zs.length c) ∧ V.cell? ⟨wb, 1, none⟩ = some (.int .i64 0) ∧ V.frozen? ⟨wb, 0, none⟩ = false ∧ V.frozen? ⟨wb, 1, none⟩ = false := by
  subst hn
  have g := h.below hb
  obtain ⟨T, O⟩ := ws_put g.t (owns_mono o h.b.size)
  have np : w.heap.size ≠ wb := g.p.ne g.t (by decide)
  have nx : xb ≠ wb := g.x.ne g.t (by decide)
  have e0 := g.t.cell 0; have e1 := g.t.cell 1
  simp at e0 e1
  exact ⟨⟨T, O, (g.p.other (a := ⟨wb, 0, none⟩) np _).other (a := ⟨wb, 1, none⟩) np _, (g.x.other (a := ⟨wb, 0, none⟩) nx _).other (a := ⟨wb, 1, none⟩) nx _, (g.b.setCell (p := ⟨wb, 0, none⟩) hw _).setCell (p := ⟨wb, 1, none⟩) hw _⟩,
    e0, e1, g.t.free 0, g.t.free 1⟩

theorem rwbyte_num (A : Option Addr) (n ca : Nat) (xs : Bs) (v : Int) (w : World) (ha : Row w A (cellsB xs)) (hn : n = xs.length) (hA : A = none → n = 0) (hl : n + 1 ≤ 140737488355328) (h0 : 0 ≤ v) (h1 : v < 256) :
    Calls Tryz.prog 88 #[.agg #[.slice A n ca, .int .i64 0], .int .u8 v] w (RW (xs ++ [UInt8.ofNat v.toNat]) w) := by
  have h := rwbyte_any A n ca xs (UInt8.ofNat v.toNat) w ha hn hA hl
  have e : ((UInt8.ofNat v.toNat).toNat : Int) = v := by rw [UInt8.toNat_ofNat']; omega
  rw [e] at h
  exact h

theorem letBytes_le {x : Ins} {c : UInt8} (h : c = 86 → datumCheck x.v = 0) : (letBytes x c).length ≤ 310 := by
  unfold letBytes
  repeat' split
  all_goals first
    | (simp; done)
    | (have := encNumber_le x.a; omega)
    | (have := encNumber_le x.n; omega)
    | (have h1 := encText_le (datumBytes x.v); have h2 := datumBytes_le (h ‹_›); omega)

set_option maxRecDepth 100000 in
set_option maxHeartbeats 8000000 in
theorem refEncode_any (p : Prc) (A : Option Addr) (cap : Nat) (w : World) (hr : Row w A (codeCells p.code)) (hlen : p.code.length ≤ 140737488355328) (hin : p.inR) :
    Calls Tryz.prog 48 #[.agg (procCells p.name p.args A p.code.length cap)] w (RE (procEncode p) w) := by
  have hck := fun W (h : Row W A (codeCells p.code)) => refCheck_any p A cap W h (by omega)
  by_cases hz : (procCheck p).2 = 0
  · have he : procEncode p = (procBytes p, 0) := by unfold procEncode; rw [if_pos hz]
    rw [he]
    rw [hz] at hck
    obtain ⟨hnm, ha, hl64, hall⟩ := procCheck_zero hz
    obtain ⟨name, args, l⟩ := p
    simp only at *
    obtain ⟨ys, hys⟩ : ∃ ys, ys = procBytes ⟨name, args, l⟩ := ⟨_, rfl⟩
    obtain ⟨z, hz1⟩ : ∃ z, z = (procCheck ⟨name, args, l⟩).1 := ⟨_, rfl⟩
    rw [← hz1] at hck
    rw [← hys]
    obtain ⟨t1, ht1⟩ : ∃ t1, t1 = [] ++ encText name.data.toList := ⟨_, rfl⟩
    obtain ⟨t2, ht2⟩ : ∃ t2, t2 = t1 ++ encNumber args := ⟨_, rfl⟩
    obtain ⟨hd, hhd⟩ : ∃ hd, hd = t2 ++ encNumber (l.length : Int) := ⟨_, rfl⟩
    have l1 : t1.length ≤ 42 := by rw [ht1]; have := encText_le name.data.toList; have := isName_le hnm; have h3 : name.data.toList.length = name.size := by simp
                                   simp only [List.nil_append]; omega
    have l2 : t2.length ≤ 52 := by rw [ht2, List.length_append]; have := encNumber_le args; omega
    have l3 : hd.length ≤ 62 := by rw [hhd, List.length_append]; have := encNumber_le (l.length : Int); omega
    have c1 := fun W => rwtext_any none 0 0 [] name W (Row.nil _ _) rfl (fun _ => rfl) (by have := isName_le hnm; omega)
    have c2 := fun A c W (h : Row W A (cellsB t1)) (hA : A = none → t1.length = 0) => rwnumber_any A t1.length c t1 args W h rfl hA (by omega) (by omega) (by omega)
    have c3 := fun A c W (h : Row W A (cellsB t2)) (hA : A = none → t2.length = 0) => rwnumber_any A t2.length c t2 (l.length : Int) W h rfl hA (by omega) (by omega) (by omega)
    rw [← ht1] at c1
    rw [← ht2] at c2
    rw [← hhd] at c3
    have hyz : ys = hd ++ l.flatMap insBytes := by rw [hys, hhd, ht2, ht1]; simp [procBytes]
    have HCK := Lib.hid hck
    have C1 := Lib.hid c1
    have C2 := Lib.hid c2
    have C3 := Lib.hid c3
    have HYZ := Lib.hid hyz
    have HALL := Lib.hid hall
    have HR := Lib.hid hr
    have HIN := Lib.hid hin
    have HL3 := Lib.hid l3
    clear hck c1 c2 c3 hyz hall hr hin hys ht1 ht2 hhd hz he hnm l1 l2 l3 hz1
    unfold procCells at *
    go_enter Tryz.func48, Tryz.ntmps48
    have L1 := Loc.new w #[.string name, .int .i64 args, .slice A l.length cap] 54
    have b1 := (Below.refl w.heap.size w).alloc (Nat.le_refl _) (.cells #[.string name, .int .i64 args, .slice A l.length cap] 54)
    go_wp2_with fail
    refine (HCK.out _ (HR.out.of_below b1 (Nat.le_refl _))).mono ?_; rintro e w2 ⟨rfl, hb⟩
    have L2 := L1.below hb L1.lt
    have b2 := below_then b1 hb b1.size
    have p0 := L2.cell 0; have p1 := L2.cell 1; have p2 := L2.cell 2
    simp at p0 p1 p2
    clear L1 b1 hb
    go_wp2_with fail
    refine (C1.out _).mono ?_; rintro e w3 ⟨A3, k3, rfl, o3, hb⟩
    have L3 := L2.below hb L2.lt
    have b3 := below_then b2 hb b2.size
    have T4 := Loc.new w3 #[.slice A3 t1.length k3, .int .i64 0] 104
    have L4 := L3.alloc (.cells #[.slice A3 t1.length k3, .int .i64 0] 104)
    have b4 := b3.alloc b3.size (.cells #[.slice A3 t1.length k3, .int .i64 0] 104)
    have o4 := owns_mono' (owns_mono o3 b2.size) ((Below.refl w3.heap.size w3).alloc (Nat.le_refl _) (.cells #[.slice A3 t1.length k3, .int .i64 0] 104))
    have p0' := L3.cell 0; have p1' := L3.cell 1; have p2' := L3.cell 2
    simp at p0' p1' p2'
    have hlt := L3.lt
    clear p0 p1 p2 L2 L3 b2 b3 o3 hb
    go_wp2_with fail
    have hsz : w.heap.size ≤ w3.heap.size := Nat.le_of_lt hlt
    have hne : ¬ w3.heap.size = w.heap.size := by omega
    refine (C2.out A3 k3 _ (Row.of_owns o4) (owns_none o4)).mono ?_; rintro e w5 ⟨A5, k5, rfl, o5, hb⟩
    have T5 := T4.below hb T4.lt
    have L5 := L4.below hb L4.lt
    have b5 := below_then b4 hb b4.size
    have t0 := T5.cell 0; have t1' := T5.cell 1; have f0 := T5.free 0; have f1 := T5.free 1
    have q0 := L5.cell 0; have q1 := L5.cell 1; have q2 := L5.cell 2
    simp at t0 t1' q0 q1 q2
    obtain ⟨T6, o6⟩ := ws_put T5 (owns_mono o5 b4.size)
    have L6 := (L5.other (a := ⟨w3.heap.size, 0, none⟩) (fun h => hne h.symm) (.slice A5 t2.length k5)).other (a := ⟨w3.heap.size, 1, none⟩) (fun h => hne h.symm) (.int .i64 0)
    have b6 := (b5.setCell (p := ⟨w3.heap.size, 0, none⟩) hsz (.slice A5 t2.length k5)).setCell (p := ⟨w3.heap.size, 1, none⟩) hsz (.int .i64 0)
    clear T4 L4 b4 o4 p0' p1' p2' o5 hb
    go_wp2_with fail
    refine (C3.out A5 k5 _ (Row.of_owns o6) (owns_none o6)).mono ?_; rintro e w7 ⟨A7, k7, rfl, o7, hb⟩
    have T7 := T6.below hb T6.lt
    have L7 := L6.below hb L6.lt
    have b7 := below_then b6 hb b6.size
    clear t0 t1' f0 f1 q0 q1 q2 T5 L5 b5 
    have t0 := T7.cell 0; have t1' := T7.cell 1; have f0 := T7.free 0; have f1 := T7.free 1
    have q0 := L7.cell 0; have q1 := L7.cell 1; have q2 := L7.cell 2
    simp at t0 t1' q0 q1 q2
    obtain ⟨T8, o8⟩ := ws_put T7 (owns_mono o7 b6.size)
    have L8 := (L7.other (a := ⟨w3.heap.size, 0, none⟩) (fun h => hne h.symm) (.slice A7 hd.length k7)).other (a := ⟨w3.heap.size, 1, none⟩) (fun h => hne h.symm) (.int .i64 0)
    have b8 := (b7.setCell (p := ⟨w3.heap.size, 0, none⟩) hsz (.slice A7 hd.length k7)).setCell (p := ⟨w3.heap.size, 1, none⟩) hsz (.int .i64 0)
    clear T6 L6 b6 o6 o7 hb T7 L7 b7
    go_wp2_with fail
    obtain ⟨zj, hzj⟩ : ∃ zj : Nat → Bs, zj = fun j => hd ++ (l.take j).flatMap insBytes := ⟨_, rfl⟩
    have z0 : zj 0 = hd := by rw [hzj]; simp
    have zl : zj l.length = ys := by rw [hzj, HYZ.out]; simp
    have zs : ∀ j (h : j < l.length), zj (j + 1) = zj j ++ insBytes l[j] := fun j h => by
      have htake : l.take (j + 1) = l.take j ++ [l[j]] := List.take_succ_eq_append_getElem h
      rw [hzj]
      simp only [htake, List.flatMap_append, List.flatMap_cons, List.flatMap_nil, List.append_nil, List.append_assoc]
    have zb : ∀ j, j ≤ l.length → (zj j).length ≤ 62 + 400 * 64 := fun j hj => by
      have h2 := codeBytes_le (l := l.take j) (fun x hx => by
        obtain ⟨k, hk, rfl⟩ := List.getElem_of_mem (List.mem_of_mem_take hx)
        exact (insCheck_zero (HALL.out k hk)).2.2)
      have := HL3.out
      rw [hzj]
      simp only [List.length_append, List.length_take] at *; omega
    have Z0 := Lib.hid z0
    have ZL := Lib.hid zl
    have ZS := Lib.hid zs
    have ZB := Lib.hid zb
    clear hzj z0 zl zs zb HYZ t0 t1' f0 f1 q0 q1 q2
    go_loopw [7] (fun i wr => ∃ (j : Nat) (B : Option Addr) (c : Nat), j ≤ l.length ∧ i = .int .i64 j ∧ Loc wr w3.heap.size #[.slice B (zj j).length c, .int .i64 0] 104 ∧ wr.ownsRow w.heap.size 5 1 (.slice B (zj j).length c) (zj j).length (cellsB (zj j)) ∧
        Loc wr w.heap.size #[.string name, .int .i64 args, .slice A l.length cap] 54 ∧ Below w.heap.size w wr) (fun i _ => l.length - (intOf i).toNat)
    case atStart => exact ⟨0, A7, k7, Nat.zero_le _, rfl, by rw [Z0.out]; exact T8, by rw [Z0.out]; exact o8, L8, b8⟩
    case round =>
      obtain ⟨wi, rfl⟩ : ∃ wi, wi = wr := ⟨_, rfl⟩
      obtain ⟨j, B, c, hj, rfl, Ti, oi, Li, bi⟩ := hrel
      clear T8 o8 L8 b8
      have q2 := Li.cell 2
      have t0 := Ti.cell 0; have t1' := Ti.cell 1
      simp at q2 t0 t1'
      by_cases hjl : j < l.length
      · obtain ⟨b, off, rfl, hc⟩ := HR.out.ins (by omega)
        have hx := hc j hjl
        have hck := HALL.out j hjl
        have hin := HIN.out.2 l[j] (List.getElem_mem hjl)
        have hzj := ZS.out j hjl
        have hzb := ZB.out (j + 1) (by omega)
        have hjl' : (j : Int) < (l.length : Int) := by omega
        obtain ⟨pre, hpre⟩ : ∃ pre, pre = zj j := ⟨_, rfl⟩
        rw [← hpre] at Ti oi t0 hzj
        obtain ⟨zn, hzn⟩ : ∃ zn, zn = zj (j + 1) := ⟨_, rfl⟩
        rw [← hzn] at hzj hzb
        have HZN := Lib.hid hzn
        clear hpre hzn hc
        generalize l[j] = x at *
        have hbl : b < w.heap.size := World.block_lt_of_cell? w _ ((hx 0 (by decide)).trans rfl)
        have hxi : ∀ i, i < 8 → wi.cell? ⟨b, off + j * 8 + i, none⟩ = (insCells x)[i]? := fun i hi => (bi.cell (p := ⟨b, off + j * 8 + i, none⟩) hbl).trans (hx i hi)
        obtain ⟨⟨ho1, ho2⟩, _, hval⟩ := insCheck_zero hck
        have hmay := fun c (hc : c ∈ fieldsS x.op) => let_may hck hc
        rw [ins_bytes ho1 ho2] at hzj
        have hfs := fun W => refFields_any x.op W
        obtain ⟨zs, hzs⟩ : ∃ zs : Nat → Bs, zs = fun k => pre ++ [UInt8.ofNat x.op.toNat] ++ ((fieldsS x.op).take k).flatMap (letBytes x) := ⟨_, rfl⟩
        have hz0 : zs 0 = pre ++ [UInt8.ofNat x.op.toNat] := by rw [hzs]; simp
        have hzl : zs (fieldsS x.op).length = zn := by rw [hzs, hzj]; simp
        have hzk : ∀ k (h : k < (fieldsS x.op).length), zs (k + 1) = zs k ++ letBytes x (fieldsS x.op)[k] := fun k h => by
          have htake : (fieldsS x.op).take (k + 1) = (fieldsS x.op).take k ++ [(fieldsS x.op)[k]] := List.take_succ_eq_append_getElem h
          rw [hzs]
          simp only [htake, List.flatMap_append, List.flatMap_cons, List.flatMap_nil, List.append_nil, List.append_assoc]
        have hzkb : ∀ k, k ≤ (fieldsS x.op).length → (zs k).length ≤ zn.length := fun k h => by
          rw [← hzl, hzs]
          have h1 : (fieldsS x.op) = (fieldsS x.op).take k ++ (fieldsS x.op).drop k := (List.take_append_drop _ _).symm
          simp only [List.length_append, List.take_length]
          conv => rhs; rw [h1, List.flatMap_append]
          simp only [List.length_append]
          omega
        have hby := fun A c W (h : Row W A (cellsB pre)) (hA : A = none → pre.length = 0) => rwbyte_num A pre.length c pre x.op W h rfl hA (by have := hzkb 0 (Nat.zero_le _); rw [hz0] at this; simp at this; omega) (by omega) (by omega)
        rw [← hz0] at hby
        obtain ⟨fs, hfse⟩ : ∃ fs, fs = fieldsS x.op := ⟨_, rfl⟩
        rw [← hfse] at hmay hfs hzl hzk hzkb
        have hfl : fs.length ≤ 4 := by rw [hfse]; exact fieldsS_le _
        obtain ⟨s, hs⟩ : ∃ s, s = ofBs fs := ⟨_, rfl⟩
        have hsz : s.size = fs.length := by rw [hs, ← size_data, ofBs_data]
        have hget : ∀ k (h : k < s.size) (h' : k < fs.length), s[k] = fs[k] := fun k h h' => by
          have h1 := bget s k h
          have hd : s.data.toList = fs := by rw [hs, ofBs_data]
          rw [hd, List.getElem?_eq_getElem h'] at h1
          exact (Option.some.inj h1).symm
        rw [← hs] at hfs
        obtain ⟨op, xa, xb, xc, xn, xv⟩ := x
        simp only at ho1 ho2 hval hmay hfs hby
        have x0 := hxi 0 (by decide); have x1 := hxi 1 (by decide); have x2 := hxi 2 (by decide); have x3 := hxi 3 (by decide)
        have x4 := hxi 4 (by decide); have x5 := hxi 5 (by decide); have x6 := hxi 6 (by decide); have x7 := hxi 7 (by decide)
        simp only [insCells, List.getElem?_toArray, List.getElem?_cons_zero, List.getElem?_cons_succ, Nat.add_zero] at x0 x1 x2 x3 x4 x5 x6 x7
        have hsi : w3.heap.size < wi.heap.size := Ti.lt
        have X1 := Loc.new wi #[.int .i64 op, .int .i64 xa, .int .i64 xb, .int .i64 xc, .int .i64 xn, .int .i64 xv.kind, .int .i64 xv.num, .string xv.text] 109
        have ha1 := (Below.refl wi.heap.size wi).alloc (Nat.le_refl _) (.cells #[.int .i64 op, .int .i64 xa, .int .i64 xb, .int .i64 xc, .int .i64 xn, .int .i64 xv.kind, .int .i64 xv.num, .string xv.text] 109)
        have S1 : ESt w (wi.alloc (.cells #[.int .i64 op, .int .i64 xa, .int .i64 xb, .int .i64 xc, .int .i64 xn, .int .i64 xv.kind, .int .i64 xv.num, .string xv.text] 109)) w3.heap.size wi.heap.size #[.string name, .int .i64 args, .slice (some ⟨b, off, none⟩) l.length cap]
            #[.int .i64 op, .int .i64 xa, .int .i64 xb, .int .i64 xc, .int .i64 xn, .int .i64 xv.kind, .int .i64 xv.num, .string xv.text] B c pre := ⟨Ti.alloc _, owns_mono' oi ha1, Li.alloc _, X1, bi.alloc bi.size _⟩
        have HMAY := Lib.hid hmay
        have HVAL := Lib.hid hval
        have HFS := Lib.hid hfs
        have HBY := Lib.hid hby
        have HZ0 := Lib.hid hz0
        have HZL := Lib.hid hzl
        have HZK := Lib.hid hzk
        have HZKB := Lib.hid hzkb
        have HSZ := Lib.hid hsz
        have HG := Lib.hid hget
        have hiv := hin.2.2.2.2.2
        obtain ⟨_, hia, _, _, hinn, _, _⟩ := hin
        have HIV := Lib.hid hiv
        have HIA := Lib.hid hia
        have HIN2 := Lib.hid hinn
        clear hmay hval hfs hby hz0 hzl hzk hzkb hsz hget hs hfse hzs hzj hx hxi hck Li bi X1 ha1 hiv hia hinn
        have ho3 : op < 256 := by omega
        go_wp2_with fail
        refine (HBY.out B c _ (Row.of_owns S1.o) (owns_none S1.o)).mono ?_; rintro e w5 ⟨A5, c5, rfl, o5, hb⟩
        obtain ⟨S2, v0, v1, f0, f1⟩ := S1.step hb o5 rfl hsz
        have i0 := (S1.below hb).x.cell 0
        simp at i0
        have hne2 : ¬ wi.heap.size = w3.heap.size := by omega
        clear S1 hb o5 Ti oi t0 t1' q2 x0 x1 x2 x3 x4 x5 x6 x7 HBY
        go_wp2_with fail
        refine (HFS.out _).mono ?_; rintro e w6 ⟨rfl, rfl⟩
        go_wp2_with fail
        clear v0 v1 f0 f1 i0
        obtain ⟨L, hL⟩ : ∃ L, L = fs.length := ⟨_, rfl⟩
        rw [← hL] at hfl
        have HL := Lib.hid hL
        clear hL
        go_loopw [10] (fun i wk => ∃ (k : Nat) (B : Option Addr) (c : Nat), k ≤ L ∧ i = .int .i64 k ∧ ESt w wk w3.heap.size wi.heap.size #[.string name, .int .i64 args, .slice (some ⟨b, off, none⟩) l.length cap]
            #[.int .i64 op, .int .i64 xa, .int .i64 xb, .int .i64 xc, .int .i64 xn, .int .i64 xv.kind, .int .i64 xv.num, .string xv.text] B c (zs k)) (fun i _ => L - (intOf i).toNat)
        case atStart => exact ⟨0, A5, c5, Nat.zero_le _, rfl, S2⟩
        case round =>
          obtain ⟨wk, rfl⟩ : ∃ wk, wk = wr := ⟨_, rfl⟩
          obtain ⟨k, B2, d, hk, rfl, S⟩ := hrel
          clear S2
          have t0 := S.t.cell 0; have t1' := S.t.cell 1
          have i0 := S.x.cell 0; have i1 := S.x.cell 1; have i2 := S.x.cell 2; have i3 := S.x.cell 3; have i4 := S.x.cell 4; have i5 := S.x.cell 5; have i6 := S.x.cell 6; have i7 := S.x.cell 7
          simp at t0 t1' i0 i1 i2 i3 i4 i5 i6 i7
          by_cases hkL : k < L
          · have hkf : k < fs.length := by rw [← HL.out]; exact hkL
            have hks : k < s.size := by rw [HSZ.out]; exact hkf
            have hm := HMAY.out fs[k] (List.getElem_mem hkf)
            have hsk := HG.out k hks hkf
            have hz := HZK.out k hkf
            have hzb2 := HZKB.out k (by omega)
            have hks' : (k : Int) < (s.size : Int) := by omega
            generalize fs[k] = cc at *
            rcases hm with ⟨rfl, hm1, hm2⟩ | ⟨rfl, hm1, hm2⟩ | ⟨rfl, hm1, hm2⟩ | ⟨rfl, hm1⟩ | ⟨rfl, hm1⟩ | ⟨rfl, hm1⟩
            · have hl : letBytes ⟨op, xa, xb, xc, xn, xv⟩ 65 = [UInt8.ofNat xa.toNat] := rfl
              rw [hl] at hz
              have hct := fun W (h : Row W B2 (cellsB (zs k))) (hA : B2 = none → (zs k).length = 0) => rwbyte_num B2 (zs k).length d (zs k) xa W h rfl hA (by omega) hm1 (by omega)
              rw [← hz] at hct
              have HCT := Lib.hid hct
              have hsk' : (s[k].toNat : Int) = 65 := by rw [hsk]; rfl
              clear hl hct hz hsk
              go_wp2_with fail
              refine (HCT.out _ (Row.of_owns S.o) (owns_none S.o)).mono ?_; rintro e V ⟨A', c', rfl, o', hb⟩
              obtain ⟨S', v0, v1, f0, f1⟩ := S.step hb o' rfl hsz
              clear S hb o' hsk'
              go_wp2
              go_roundw
              case rel => exact ⟨k + 1, A', c', by omega, by go_num, S'⟩
              case measure => simp [intOf]; omega
            · have hl : letBytes ⟨op, xa, xb, xc, xn, xv⟩ 66 = [UInt8.ofNat xb.toNat] := rfl
              rw [hl] at hz
              have hct := fun W (h : Row W B2 (cellsB (zs k))) (hA : B2 = none → (zs k).length = 0) => rwbyte_num B2 (zs k).length d (zs k) xb W h rfl hA (by omega) hm1 (by omega)
              rw [← hz] at hct
              have HCT := Lib.hid hct
              have hsk' : (s[k].toNat : Int) = 66 := by rw [hsk]; rfl
              clear hl hct hz hsk
              go_wp2_with fail
              refine (HCT.out _ (Row.of_owns S.o) (owns_none S.o)).mono ?_; rintro e V ⟨A', c', rfl, o', hb⟩
              obtain ⟨S', v0, v1, f0, f1⟩ := S.step hb o' rfl hsz
              clear S hb o' hsk'
              go_wp2
              go_roundw
              case rel => exact ⟨k + 1, A', c', by omega, by go_num, S'⟩
              case measure => simp [intOf]; omega
            · have hl : letBytes ⟨op, xa, xb, xc, xn, xv⟩ 67 = [UInt8.ofNat xc.toNat] := rfl
              rw [hl] at hz
              have hct := fun W (h : Row W B2 (cellsB (zs k))) (hA : B2 = none → (zs k).length = 0) => rwbyte_num B2 (zs k).length d (zs k) xc W h rfl hA (by omega) hm1 (by omega)
              rw [← hz] at hct
              have HCT := Lib.hid hct
              have hsk' : (s[k].toNat : Int) = 67 := by rw [hsk]; rfl
              clear hl hct hz hsk
              go_wp2_with fail
              refine (HCT.out _ (Row.of_owns S.o) (owns_none S.o)).mono ?_; rintro e V ⟨A', c', rfl, o', hb⟩
              obtain ⟨S', v0, v1, f0, f1⟩ := S.step hb o' rfl hsz
              clear S hb o' hsk'
              go_wp2
              go_roundw
              case rel => exact ⟨k + 1, A', c', by omega, by go_num, S'⟩
              case measure => simp [intOf]; omega
            · have hl : letBytes ⟨op, xa, xb, xc, xn, xv⟩ 97 = encNumber xa := rfl
              rw [hl] at hz
              have hct := fun W (h : Row W B2 (cellsB (zs k))) (hA : B2 = none → (zs k).length = 0) => rwnumber_any B2 (zs k).length d (zs k) xa W h rfl hA (by omega) hm1 HIA.out.2
              rw [← hz] at hct
              have HCT := Lib.hid hct
              have hsk' : (s[k].toNat : Int) = 97 := by rw [hsk]; rfl
              clear hl hct hz hsk
              go_wp2_with fail
              refine (HCT.out _ (Row.of_owns S.o) (owns_none S.o)).mono ?_; rintro e V ⟨A', c', rfl, o', hb⟩
              obtain ⟨S', v0, v1, f0, f1⟩ := S.step hb o' rfl hsz
              clear S hb o' hsk'
              go_wp2
              go_roundw
              case rel => exact ⟨k + 1, A', c', by omega, by go_num, S'⟩
              case measure => simp [intOf]; omega
            · have hl : letBytes ⟨op, xa, xb, xc, xn, xv⟩ 78 = encNumber xn := rfl
              rw [hl] at hz
              have hct := fun W (h : Row W B2 (cellsB (zs k))) (hA : B2 = none → (zs k).length = 0) => rwnumber_any B2 (zs k).length d (zs k) xn W h rfl hA (by omega) hm1 HIN2.out.2
              rw [← hz] at hct
              have HCT := Lib.hid hct
              have hsk' : (s[k].toNat : Int) = 78 := by rw [hsk]; rfl
              clear hl hct hz hsk
              go_wp2_with fail
              refine (HCT.out _ (Row.of_owns S.o) (owns_none S.o)).mono ?_; rintro e V ⟨A', c', rfl, o', hb⟩
              obtain ⟨S', v0, v1, f0, f1⟩ := S.step hb o' rfl hsz
              clear S hb o' hsk'
              go_wp2
              go_roundw
              case rel => exact ⟨k + 1, A', c', by omega, by go_num, S'⟩
              case measure => simp [intOf]; omega
            · have hl : letBytes ⟨op, xa, xb, xc, xn, xv⟩ 86 = encText (datumBytes xv) := rfl
              rw [hl] at hz
              have hdl := datumBytes_le hm1
              have hde : datumEncode xv = (datumBytes xv, 0) := by unfold datumEncode; rw [if_pos hm1]
              have hdn := fun W => rdenc_any xv W ⟨HIV.out.2.1, HIV.out.2.2⟩
              rw [hde] at hdn
              obtain ⟨db, hdb⟩ : ∃ db, db = datumBytes xv := ⟨_, rfl⟩
              rw [← hdb] at hdn hdl hz
              have hct := fun W (h : Row W B2 (cellsB (zs k))) (hA : B2 = none → (zs k).length = 0) => rwtext_any B2 (zs k).length d (zs k) ⟨db.toArray⟩ W h rfl hA (by show (zs k).length + db.toArray.size + 10 ≤ _; rw [List.size_toArray]; omega)
              rw [show (⟨db.toArray⟩ : ByteArray).data.toList = db from rfl, ← hz] at hct
              have HCT := Lib.hid hct
              unfold valCells at hdn
              have HDN := Lib.hid hdn
              have hsk' : (s[k].toNat : Int) = 86 := by rw [hsk]; rfl
              clear hl hct hz hsk hde hdn hdb hm1
              go_wp2_with fail
              refine (HDN.out _).mono ?_; rintro e V ⟨A', c', rfl, o', hb⟩
              have hcv := run_ofBytes (P := Tryz.prog) 33 9 5 Tryz.underlying33 Tryz.underlying5 Tryz.underlying9 (W := V) (A := A') (xs := db) db.length c' rfl (Row.of_owns o') (owns_none o')
              have S1 := S.below hb
              clear S t0 t1' i0 i1 i2 i3 i4 i5 i6 i7 hsk' o' hb
              have t0 := S1.t.cell 0; have t1' := S1.t.cell 1
              simp at t0 t1'
              go_wp2_with fail
              refine (HCT.out _ (Row.of_owns S1.o) (owns_none S1.o)).mono ?_; rintro e V2 ⟨A2, c2, rfl, o2, hb⟩
              obtain ⟨S', v0, v1, f0, f1⟩ := S1.step hb o2 rfl hsz
              clear S1 hb o2 hcv
              go_wp2
              go_roundw
              case rel => exact ⟨k + 1, A2, c2, by omega, by go_num, S'⟩
              case measure => simp [intOf]; omega
          · obtain rfl : k = L := by omega
            have hsl : (s.size : Int) ≤ (k : Int) := by have := HSZ.out; have := HL.out; omega
            have hzz : zs k = zj (j + 1) := by rw [HL.out, HZL.out, HZN.out]
            rw [hzz] at S
            clear hzz t0
            go_wp2
            go_roundw
            case rel => exact ⟨j + 1, B2, d, by omega, by go_num, S.t, S.o, S.p, S.b⟩
            case measure => simp [intOf]; omega
      · obtain rfl : j = l.length := by omega
        rw [ZL.out] at Ti oi t0
        go_wp2
        go_ret2
        exact ⟨B, c, rfl, oi, bi⟩
  · have he : procEncode p = ([], (procCheck p).2) := by unfold procEncode; rw [if_neg hz]
    rw [he]
    obtain ⟨E1, E2, hE⟩ : ∃ E1 E2, (E1, E2) = procCheck p := ⟨_, _, rfl⟩
    rw [← hE] at hz hck ⊢
    have hE' : (E2 != 0) = true := by simpa using hz
    obtain ⟨name, args, l⟩ := p
    simp only at *
    have HCK := Lib.hid hck
    have HR := Lib.hid hr
    clear hck hE hz he hr hin
    unfold procCells at *
    go_enter Tryz.func48, Tryz.ntmps48
    have b1 := (Below.refl w.heap.size w).alloc (Nat.le_refl _) (.cells #[.string name, .int .i64 args, .slice A l.length cap] 54)
    go_wp2_with fail
    refine (HCK.out _ (HR.out.of_below b1 (Nat.le_refl _))).mono ?_; rintro e w2 ⟨rfl, hb⟩
    go_wp2
    go_ret2
    exact ⟨none, 0, rfl, World.ownsRow_nil _ _ _ _, below_then b1 hb b1.size⟩
end Go.Proofs.YtnieminnnkbneaaGreat
