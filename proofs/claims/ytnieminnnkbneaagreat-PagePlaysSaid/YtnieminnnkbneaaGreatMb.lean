/- Walks of page.Writer: head, and what head and End lay. -/
import Derived.Test.YtnieminnnkbneaaGreatMa
import Derived.Test.YtnieminnnkbneaaGreatOrd
namespace Go.Proofs.YtnieminnnkbneaaGreat
open Go.RowKit

/-- One alone may come up, and S stands behind it. -/
theorem wpTill_ahead {P : Program} {ops : Array Oper} {Q : Exit → Act → World → Prop} {md : Region.Mode} {S : World → Prop} {c i : Nat} {o : Oper} {f : Nat} {l : Array Bool} {a : Act} {w : World} (hr : Region.ready md ops l = [i]) (ho : ops[i]? = some o)
  (h : ∀ K' : Act → World → Prop, Shut (∀ a w, S w → wpTill P md ops Q S c f (l.setIfInBounds i true) a w → K' a w) → if Region.wanted o (yielded ops a.tmps) = true then Oper.wp P o a w K' Q else K' (a.put o.dst undef) w) : wpTill P md ops Q S c (f + 1) l a w :=
 ⟨(fun h0 => by rw [hr] at h0; cases h0), fun j hj => by
  rw [hr] at hj
  simp at hj
  subst hj
  exact wpOp_step ho (fun K' hK => h K' (fun a w hS hW => hK a w ⟨fun _ => hS, hW⟩))⟩

/-- A Writer's fields but out. -/
structure PW where
 live : Bool
 number : Nat
 mark : Nat
 frames : Nat
 procs : Nat
 entries : Nat
 name : ByteArray
 key : ByteArray
def PW.cells (x : PW) (out : Value) : Array Value := #[.bool x.live, .int .i64 x.number, .int .i64 x.mark, .int .i64 x.frames, .int .i64 x.procs, .int .i64 x.entries, .string x.name, .string x.key, out]
def PW.new (number mark : Nat) : PW := ⟨true, number, mark, 0, 0, 0, emptyB, emptyB⟩

set_option maxHeartbeats 1000000 in
theorem pnew_any (a b : Nat) (h0 : 1 ≤ a) (h1 : a ≤ 281474976710655) (h2 : b ≤ 281474976710655) (w : World) :
  Calls Tryz.prog 7 #[.int .i64 a, .int .i64 b] w fun e w' => e = .returned (.tuple #[.pointer (some ⟨w.heap.size, 0, none⟩), .int .i64 0]) ∧ w' = w.alloc (.cells ((PW.new a b).cells (.slice none 0 0)) 56) := by
 have i0 : ¬ (a : Int) < 1 := by omega
 have i1 : ¬ (281474976710655 : Int) < (a : Int) := by omega
 have i2 : ¬ (b : Int) < 0 := by omega
 have i3 : ¬ (281474976710655 : Int) < (b : Int) := by omega
 go_enter Tryz.func7, Tryz.ntmps7
 go_wp2
 go_ret2
 exact ⟨rfl, rfl⟩

/-- What lays the rest of a frame. -/
def More (f : FuncId) (cb : Nat) (w : World) (pre extra : Bs) : Prop :=
 ∀ W, Lay w.heap.size (fun _ => False) w W pre → Calls Tryz.prog f #[.pointer (some ⟨w.heap.size, 0, none⟩), .pointer (some ⟨cb, 0, none⟩)] W fun e w' => e = .returned (.tuple #[]) ∧ Lay w.heap.size (fun _ => False) w w' (pre ++ extra)

/-- A frame's body and the frame. -/
def bodyF (kind : UInt8) (frames : Nat) (extra : Bs) : Bs := kind :: encNumber frames ++ extra
def frameB (kind : UInt8) (frames : Nat) (extra : Bs) : Bs := headB (bodyF kind frames extra) ++ bodyF kind frames extra
/-- What frame has done. -/
def Framed (p : Nat) (x : PW) (kind : UInt8) (extra ys : Bs) (w w' : World) : Prop :=
 ∃ g c' m, m = (ys ++ frameB kind x.frames extra).length ∧ Loc w' p (({ x with frames := x.frames + 1 } : PW).cells (.slice (some ⟨g, 0, none⟩) m c')) 56 ∧
  w'.ownsRow w.heap.size 5 1 (.slice (some ⟨g, 0, none⟩) m c') m (cellsB (ys ++ frameB kind x.frames extra)) ∧ Keep w.heap.size (· = p) w w'

theorem Lay.fresh (w : World) : Lay w.heap.size (fun _ => False) w (w.alloc (.cells #[.slice none 0 0, .int .i64 0] 146)) [] :=
 ⟨_, Wr.fresh w, fun _ hk => ⟨Nat.le_of_eq hk.symm, fun h => h⟩, (Below.refl _ _).alloc (Nat.le_refl _) _⟩

theorem Lay.drew {q : Nat} {w0 w : World} {xs : Bs} {N : Nat → Prop} (h : Lay q N w0 w xs) : Lay q N w0 w.drew xs := by
 obtain ⟨F, h1, h2, h3⟩ := h
 exact ⟨F, h1.drewN 1, h2, h3.drew⟩

theorem Lay.lt {q : Nat} {w0 w : World} {xs : Bs} {N : Nat → Prop} (h : Lay q N w0 w xs) : q < w.heap.size := by
 obtain ⟨F, h1, _, _⟩ := h
 exact h1.lt

theorem Lay.call0 {P : Program} {f : FuncId} {args : Array Value} {v : Ending} {q : Nat} {w0 w : World} {xs ys : Bs} (h : Lay q (fun _ => False) w0 w xs)
  (hc : ∀ F, Wr w F q xs → Calls P f args w fun e w' => e = v ∧ WrStep w w' F q ys) :
  Calls P f args w fun e w' => e = v ∧ Lay q (fun _ => False) w0 w' ys :=
 (h.call (Nat.le_of_lt h.lt) (fun _ f => f.elim) hc).mono fun _ _ h => ⟨h.1, h.2.1⟩

end Go.Proofs.YtnieminnnkbneaaGreat

namespace Go.Proofs.YtnieminnnkbneaaGreat
open Go.RowKit

set_option maxHeartbeats 4000000 in
theorem frame_head (p : Nat) (x : PW) (kind : UInt8) (cb : Nat) (extra ys : Bs) (A : Option Addr) (n c B : Nat) (w : World) (L : Loc w p (x.cells (.slice A n c)) 56)
  (hown : w.ownsRow B 5 1 (.slice A n c) n (cellsB ys)) (hM : More 72 cb w (kind :: encNumber x.frames) extra) (hf : x.frames ≤ 281474976710655) (hlen : extra.length ≤ 65000) (hn : n ≤ 80000000) :
  Calls Tryz.prog 37 #[.pointer (some ⟨p, 0, none⟩), .int .u8 kind.toNat, .func (.func 72) #[] #[.pointer (some ⟨cb, 0, none⟩)]] w fun e w' => e = .returned (.tuple #[]) ∧ Framed p x kind extra ys w w' := by
 have hpl := L.lt
 have LFin := fun W (hK : Keep w.heap.size (· = p) w W) => hK.frozen
 obtain ⟨live, number, mark, fr, pr, en, name, key⟩ := x
 unfold PW.cells at *
 simp only at *
 have hfl := encNumber_le (fr : Int)
 have hp := L.cell 3
 simp at hp
 have HM := Lib.hid hM
 have HL := Lib.hid L
 have HO := Lib.hid hown
 clear hM L hown LFin
 have LY := Lay.fresh w
 go_enter Tryz.func37, Tryz.ntmps37
 go_upto_region 1 with (fail)
 obtain ⟨W0, hW0⟩ : ∃ W0, W0 = w.alloc (.cells #[.slice none 0 0, .int .i64 0] 146) := ⟨_, rfl⟩
 rw [← hW0] at LY ⊢
 clear hW0
 obtain ⟨q, hq⟩ : ∃ q, q = w.heap.size := ⟨_, rfl⟩
 rw [← hq]
 rw [← hq] at LY
 have HQ := Lib.hid hq
 clear hq
 have HB := Lib.hid (LY.call0 (fun F hW => wbyte_any q F [] kind W0 hW (by decide)))
 go_upto_region 2 with (go_at_call 78; refine HB.out.mono ?_; rintro e w1 ⟨rfl, LY1⟩)
 have p1 := (HL.out.below LY1.bel (by rw [HQ.out]; exact hpl)).cell 3
 simp at p1
 have HNu := Lib.hid (LY1.call0 (fun F hW => wnumber_any q F _ (fr : Int) w1 hW (by omega) (by omega) (by simp)))
 go_upto_region 3 with (go_at_call 39; refine HNu.out.mono ?_; rintro e w2 ⟨rfl, LY2⟩)
 have HMo := Lib.hid (HM.out w2 (by rw [← HQ.out]; exact LY2))
 rw [← HQ.out] at HMo
 clear HM HB HNu LY LY1 p1 hp
 go_upto_region 4 with (go_at_call 72; refine HMo.out.mono ?_; rintro e w3 ⟨rfl, LY3⟩)
 obtain ⟨body, hbody⟩ : ∃ body, body = kind :: encNumber (fr : Int) ++ extra := ⟨_, rfl⟩
 rw [← hbody] at LY3
 have hbl : 0 < body.length ∧ body.length ≤ 65536 := by rw [hbody]; simp; omega
 have HBd := Lib.hid hbody
 clear HMo hbody LY2
 have b3 := LY3.bel
 have hq3 := LY3.lt
 have L3 := HL.out.below b3 (by rw [HQ.out]; exact hpl)
 have p3 := L3.cell 8
 simp at p3
 have O3 : w3.ownsRow B 5 1 (.slice A n c) n (cellsB ys) := owns_keep HO.out (Keep.of_below b3 (fun _ => False)) (by rw [HQ.out]; exact Nat.le_refl _) (fun _ _ h => h)
 have hnl : n = ys.length := by have := O3.1; rw [cellsB_length] at this; omega
 have HD := Lib.hid (fun W (hW : Lay q (fun _ => False) w W body) => (by obtain ⟨F, h1, _, _⟩ := hW; exact wdata_any q F body W h1 (by omega) : Calls Tryz.prog 80 #[.pointer (some ⟨q, 0, none⟩)] W fun e w' => ∃ A c, e = .returned (.slice A body.length c) ∧ w'.ownsRow W.heap.size 5 1 (.slice A body.length c) body.length (cellsB body) ∧ Below W.heap.size W w'))
 have HO3 := Lib.hid O3
 have HL3 := Lib.hid L3
 obtain ⟨bl, hbl'⟩ : ∃ bl, bl = body.length := ⟨_, rfl⟩
 rw [← hbl'] at HD hbl
 have HNL := Lib.hid hnl
 have HBL := Lib.hid hbl'
 clear O3 L3 hnl hbl'
 have HS := Lib.hid (fun W (A4 : Option Addr) (c4 : Nat) (b4 : Below w3.drew.heap.size w3.drew W) (o4 : W.ownsRow w3.drew.heap.size 5 1 (.slice A4 bl c4) bl (cellsB body)) => seal_any ys body A A4 n bl c c4 HNL.out HBL.out hbl.1 hbl.2 (by omega) W ((Row.of_owns HO3.out).drew.of_below b4 (Nat.le_refl _)) (Row.of_owns o4) (owns_none HO3.out) (owns_none o4))
 have hp3 := HL3.out.lt
 have hH : (w3.drew).cell? ⟨p, 8, none⟩ = some (.slice A n c) := p3
 go_upto_region 4 with (fail)
 refine wp_region_till (c := 7) (S := fun W => W.cell? ⟨p, 8, none⟩ = some (.slice A n c)) (by kernel_rfl) ?_
 refine wpTill_calm 22 (i := 0) (v := ?_) rfl rfl (by kernel_rfl) (by kernel_rfl) (by kernel_rfl) rfl (fun _ _ _ h => h) (Or.inl ⟨by rfl, ?_⟩) (fun _ => hH) ?_
 rotate_left
 ·intro W hW
  clear hW
  go_simp
  try with_reducible rfl
 try simp only [Act.put, List.setIfInBounds_toArray, List.set_cons_zero, List.set_cons_succ]
 refine wpTill_calm 23 (i := 1) (v := ?_) rfl rfl (by kernel_rfl) (by kernel_rfl) (by kernel_rfl) rfl (fun _ _ _ h => h) (Or.inl ⟨by rfl, ?_⟩) (fun _ => hH) ?_
 rotate_left
 ·intro W hW
  clear hW
  go_simp
  try with_reducible rfl
 try simp only [Act.put, List.setIfInBounds_toArray, List.set_cons_zero, List.set_cons_succ]
 refine wpTill_calm 24 (i := 2) (v := ?_) rfl rfl (by kernel_rfl) (by kernel_rfl) (by kernel_rfl) rfl (fun _ _ _ h => h) (Or.inl ⟨by rfl, ?_⟩) (fun _ => hH) ?_
 rotate_left
 ·intro W hW
  clear hW
  go_simp
  try with_reducible rfl
 try simp only [Act.put, List.setIfInBounds_toArray, List.set_cons_zero, List.set_cons_succ]
 refine wpTill_calm 25 (i := 3) (v := ?_) rfl rfl (by kernel_rfl) (by kernel_rfl) (by kernel_rfl) rfl (fun _ _ _ h => h) (Or.inl ⟨by rfl, ?_⟩) (fun _ => hH) ?_
 rotate_left
 ·intro W hW
  clear hW
  go_simp
  try with_reducible rfl
 try simp only [Act.put, List.setIfInBounds_toArray, List.set_cons_zero, List.set_cons_succ]
 refine wpTill_take 26 (i := 4) (v := ?_) rfl rfl (by kernel_rfl) (by kernel_rfl) (by kernel_rfl) rfl rfl (by kernel_rfl) (fun _ _ _ h => h) (Or.inl ⟨by rfl, ?_⟩) hH ?_
 rotate_left
 ·intro W hW
  go_simp
  try with_reducible rfl
 try simp only [Act.put, List.setIfInBounds_toArray, List.set_cons_zero, List.set_cons_succ]
 refine wpTill_calm 27 (i := 5) (v := ?_) rfl rfl (by kernel_rfl) (by kernel_rfl) (by kernel_rfl) rfl (fun _ _ _ h => h) (Or.inl ⟨by rfl, ?_⟩) (fun _ => hH) ?_
 rotate_left
 ·intro W hW
  clear hW
  go_simp
  try with_reducible rfl
 try simp only [Act.put, List.setIfInBounds_toArray, List.set_cons_zero, List.set_cons_succ]
 refine wpTill_ahead (i := 6) (by kernel_rfl) rfl (fun K hK => ?_)
 go_simp
 refine (HD.out _ LY3.drew).mono ?_
 rintro e w4 ⟨A4, c4, rfl, o4, b4⟩
 have L4 := Loc.below (Loc.drew HL3.out) b4 hp3
 have p4 := L4.cell 8
 simp at p4
 refine hK.out _ _ p4 ?_
 clear hK K
 try simp only [Act.put, List.setIfInBounds_toArray, List.set_cons_zero, List.set_cons_succ]
 refine wpTill_one (i := 7) (by kernel_rfl) rfl (by kernel_rfl) (fun K hK => ?_)
 go_simp
 refine (HS.out _ A4 c4 b4 o4).mono ?_
 rintro e w5 ⟨g, c', rfl, o5, b5⟩
 refine hK.out _ _ ?_
 clear hK K
 try simp only [Act.put, List.setIfInBounds_toArray, List.set_cons_zero, List.set_cons_succ]
 refine wpTill_calm 21 (i := 8) (v := ?_) rfl rfl (by kernel_rfl) (by kernel_rfl) (by kernel_rfl) rfl (fun _ _ _ h => h) (Or.inl ⟨by rfl, ?_⟩) (Till.past (by kernel_rfl)) ?_
 rotate_left
 ·intro W hW
  clear hW
  go_simp
  try with_reducible rfl
 try simp only [Act.put, List.setIfInBounds_toArray, List.set_cons_zero, List.set_cons_succ]
 refine wpTill_calm 30 (i := 9) (v := ?_) rfl rfl (by kernel_rfl) (by kernel_rfl) (by kernel_rfl) rfl (fun _ _ _ h => h) (Or.inl ⟨by rfl, ?_⟩) (Till.past (by kernel_rfl)) ?_
 rotate_left
 ·intro W hW
  clear hW
  go_simp
  try with_reducible rfl
 try simp only [Act.put, List.setIfInBounds_toArray, List.set_cons_zero, List.set_cons_succ]
 refine wpTill_calm 31 (i := 10) (v := ?_) rfl rfl (by kernel_rfl) (by kernel_rfl) (by kernel_rfl) rfl (fun _ _ _ h => h) (Or.inl ⟨by rfl, ?_⟩) (Till.past (by kernel_rfl)) ?_
 rotate_left
 ·intro W hW
  clear hW
  go_simp
  try with_reducible rfl
 try simp only [Act.put, List.setIfInBounds_toArray, List.set_cons_zero, List.set_cons_succ]
 refine wpTill_calm 32 (i := 11) (v := ?_) rfl rfl (by kernel_rfl) (by kernel_rfl) (by kernel_rfl) rfl (fun _ _ _ h => h) (Or.inl ⟨by rfl, ?_⟩) (Till.past (by kernel_rfl)) ?_
 rotate_left
 ·intro W hW
  clear hW
  go_simp
  try with_reducible rfl
 try simp only [Act.put, List.setIfInBounds_toArray, List.set_cons_zero, List.set_cons_succ]
 refine wpTill_calm 33 (i := 12) (v := ?_) rfl rfl (by kernel_rfl) (by kernel_rfl) (by kernel_rfl) rfl (fun _ _ _ h => h) (Or.inl ⟨by rfl, ?_⟩) (Till.past (by kernel_rfl)) ?_
 rotate_left
 ·intro W hW
  clear hW
  go_simp
  try with_reducible rfl
 try simp only [Act.put, List.setIfInBounds_toArray, List.set_cons_zero, List.set_cons_succ]
 have L5 := L4.below b5 L4.lt
 have p5 := L5.cell 8
 have f5 := L5.free 8
 simp at p5
 refine wpTill_one (i := 13) (by kernel_rfl) rfl (by kernel_rfl) (fun K hK => ?_)
 go_simp
 refine hK.out _ _ ?_
 clear hK K
 try simp only [Act.put, List.setIfInBounds_toArray, List.set_cons_zero, List.set_cons_succ]
 refine wpTill_done (by kernel_rfl) ?_ _
 have hsz45 := Nat.le_trans b4.size b5.size
 have hge : w4.heap.size ≤ g := (o5.lt g rfl).1
 have hgp : g ≠ p := by have := b4.size; have : w3.drew.heap.size = w3.heap.size := rfl; omega
 have o6 := owns_setCell o5 (a := ⟨p, 8, none⟩) (by simp [Value.ownBlock, hgp]) (.slice (some ⟨g, 0, none⟩) (n + 8 + bl) c')
 have L6 := L5.set 8 (.slice (some ⟨g, 0, none⟩) (n + 8 + bl) c')
 have K5 : Keep w.heap.size (· = p) w w5 := Keep.of_below (((below_then b3.drew b4 (Nat.le_of_lt hq3)).trans (b5.mono (Nat.le_trans (Nat.le_of_lt hq3) b4.size))).mono (by rw [HQ.out]; exact Nat.le_refl _)) _
 have K6 := K5.setCell (p := ⟨p, 8, none⟩) (.inr rfl) (.slice (some ⟨g, 0, none⟩) (n + 8 + bl) c')
 obtain ⟨W6, hW6⟩ : ∃ W6, W6 = w5.setCell ⟨p, 8, none⟩ (.slice (some ⟨g, 0, none⟩) (n + 8 + bl) c') := ⟨_, rfl⟩
 rw [← hW6] at o6 L6 K6 ⊢
 simp at L6
 have p6 := L6.cell 3
 have f6 := L6.free 3
 simp at p6
 have hwf : IntKind.i64.wrap ((fr : Int) + 1) = (fr : Int) + 1 := by simp [IntKind.bits, IntKind.wrap, IntKind.signed]; omega
 have L7 := L6.set 3 (.int .i64 ((fr : Int) + 1))
 have o7 := owns_setCell o6 (a := ⟨p, 3, none⟩) (by simp [Value.ownBlock, hgp]) (.int .i64 ((fr : Int) + 1))
 have K7 := K6.setCell (p := ⟨p, 3, none⟩) (.inr rfl) (.int .i64 ((fr : Int) + 1))
 simp at L7
 have HF7 := Lib.hid (And.intro L7 (And.intro o7 K7))
 have hsz4 : w.heap.size ≤ w4.heap.size := by
  have h1 := b4.size
  have h2 : w3.drew.heap.size = w3.heap.size := rfl
  have h3 := HQ.out
  omega
 clear hW6 L7 o7 K7 L6 o6 K6 K5 L5 L4 p4 p5 f5 b5 o5 o4 b4 hH p3 LY3 b3
 go_wp2
 go_end0
 obtain ⟨L7, o7, K7⟩ := HF7.out
 have hfr : frameB kind fr extra = headB body ++ body := by rw [frameB, bodyF, ← HBd.out]
 refine ⟨rfl, g, c', n + 8 + bl, ?_, L7, ?_, K7⟩
 ·rw [hfr, List.length_append, List.length_append, headB_length, ← HNL.out, ← HBL.out, Nat.add_assoc]
 ·rw [hfr, ← List.append_assoc]
  exact owns_mono o7 hsz4

set_option maxHeartbeats 4000000 in
theorem frame_proc (p : Nat) (x : PW) (kind : UInt8) (cb : Nat) (extra ys : Bs) (A : Option Addr) (n c B : Nat) (w : World) (L : Loc w p (x.cells (.slice A n c)) 56)
  (hown : w.ownsRow B 5 1 (.slice A n c) n (cellsB ys)) (hM : More 75 cb w (kind :: encNumber x.frames) extra) (hf : x.frames ≤ 281474976710655) (hlen : extra.length ≤ 65000) (hn : n ≤ 80000000) :
  Calls Tryz.prog 37 #[.pointer (some ⟨p, 0, none⟩), .int .u8 kind.toNat, .func (.func 75) #[] #[.pointer (some ⟨cb, 0, none⟩)]] w fun e w' => e = .returned (.tuple #[]) ∧ Framed p x kind extra ys w w' := by
 have hpl := L.lt
 have LFin := fun W (hK : Keep w.heap.size (· = p) w W) => hK.frozen
 obtain ⟨live, number, mark, fr, pr, en, name, key⟩ := x
 unfold PW.cells at *
 simp only at *
 have hfl := encNumber_le (fr : Int)
 have hp := L.cell 3
 simp at hp
 have HM := Lib.hid hM
 have HL := Lib.hid L
 have HO := Lib.hid hown
 clear hM L hown LFin
 have LY := Lay.fresh w
 go_enter Tryz.func37, Tryz.ntmps37
 go_upto_region 1 with (fail)
 obtain ⟨W0, hW0⟩ : ∃ W0, W0 = w.alloc (.cells #[.slice none 0 0, .int .i64 0] 146) := ⟨_, rfl⟩
 rw [← hW0] at LY ⊢
 clear hW0
 obtain ⟨q, hq⟩ : ∃ q, q = w.heap.size := ⟨_, rfl⟩
 rw [← hq]
 rw [← hq] at LY
 have HQ := Lib.hid hq
 clear hq
 have HB := Lib.hid (LY.call0 (fun F hW => wbyte_any q F [] kind W0 hW (by decide)))
 go_upto_region 2 with (go_at_call 78; refine HB.out.mono ?_; rintro e w1 ⟨rfl, LY1⟩)
 have p1 := (HL.out.below LY1.bel (by rw [HQ.out]; exact hpl)).cell 3
 simp at p1
 have HNu := Lib.hid (LY1.call0 (fun F hW => wnumber_any q F _ (fr : Int) w1 hW (by omega) (by omega) (by simp)))
 go_upto_region 3 with (go_at_call 39; refine HNu.out.mono ?_; rintro e w2 ⟨rfl, LY2⟩)
 have HMo := Lib.hid (HM.out w2 (by rw [← HQ.out]; exact LY2))
 rw [← HQ.out] at HMo
 clear HM HB HNu LY LY1 p1 hp
 go_upto_region 4 with (go_at_call 75; refine HMo.out.mono ?_; rintro e w3 ⟨rfl, LY3⟩)
 obtain ⟨body, hbody⟩ : ∃ body, body = kind :: encNumber (fr : Int) ++ extra := ⟨_, rfl⟩
 rw [← hbody] at LY3
 have hbl : 0 < body.length ∧ body.length ≤ 65536 := by rw [hbody]; simp; omega
 have HBd := Lib.hid hbody
 clear HMo hbody LY2
 have b3 := LY3.bel
 have hq3 := LY3.lt
 have L3 := HL.out.below b3 (by rw [HQ.out]; exact hpl)
 have p3 := L3.cell 8
 simp at p3
 have O3 : w3.ownsRow B 5 1 (.slice A n c) n (cellsB ys) := owns_keep HO.out (Keep.of_below b3 (fun _ => False)) (by rw [HQ.out]; exact Nat.le_refl _) (fun _ _ h => h)
 have hnl : n = ys.length := by have := O3.1; rw [cellsB_length] at this; omega
 have HD := Lib.hid (fun W (hW : Lay q (fun _ => False) w W body) => (by obtain ⟨F, h1, _, _⟩ := hW; exact wdata_any q F body W h1 (by omega) : Calls Tryz.prog 80 #[.pointer (some ⟨q, 0, none⟩)] W fun e w' => ∃ A c, e = .returned (.slice A body.length c) ∧ w'.ownsRow W.heap.size 5 1 (.slice A body.length c) body.length (cellsB body) ∧ Below W.heap.size W w'))
 have HO3 := Lib.hid O3
 have HL3 := Lib.hid L3
 obtain ⟨bl, hbl'⟩ : ∃ bl, bl = body.length := ⟨_, rfl⟩
 rw [← hbl'] at HD hbl
 have HNL := Lib.hid hnl
 have HBL := Lib.hid hbl'
 clear O3 L3 hnl hbl'
 have HS := Lib.hid (fun W (A4 : Option Addr) (c4 : Nat) (b4 : Below w3.drew.heap.size w3.drew W) (o4 : W.ownsRow w3.drew.heap.size 5 1 (.slice A4 bl c4) bl (cellsB body)) => seal_any ys body A A4 n bl c c4 HNL.out HBL.out hbl.1 hbl.2 (by omega) W ((Row.of_owns HO3.out).drew.of_below b4 (Nat.le_refl _)) (Row.of_owns o4) (owns_none HO3.out) (owns_none o4))
 have hp3 := HL3.out.lt
 have hH : (w3.drew).cell? ⟨p, 8, none⟩ = some (.slice A n c) := p3
 go_upto_region 4 with (fail)
 refine wp_region_till (c := 7) (S := fun W => W.cell? ⟨p, 8, none⟩ = some (.slice A n c)) (by kernel_rfl) ?_
 refine wpTill_calm 22 (i := 0) (v := ?_) rfl rfl (by kernel_rfl) (by kernel_rfl) (by kernel_rfl) rfl (fun _ _ _ h => h) (Or.inl ⟨by rfl, ?_⟩) (fun _ => hH) ?_
 rotate_left
 ·intro W hW
  clear hW
  go_simp
  try with_reducible rfl
 try simp only [Act.put, List.setIfInBounds_toArray, List.set_cons_zero, List.set_cons_succ]
 refine wpTill_calm 23 (i := 1) (v := ?_) rfl rfl (by kernel_rfl) (by kernel_rfl) (by kernel_rfl) rfl (fun _ _ _ h => h) (Or.inl ⟨by rfl, ?_⟩) (fun _ => hH) ?_
 rotate_left
 ·intro W hW
  clear hW
  go_simp
  try with_reducible rfl
 try simp only [Act.put, List.setIfInBounds_toArray, List.set_cons_zero, List.set_cons_succ]
 refine wpTill_calm 24 (i := 2) (v := ?_) rfl rfl (by kernel_rfl) (by kernel_rfl) (by kernel_rfl) rfl (fun _ _ _ h => h) (Or.inl ⟨by rfl, ?_⟩) (fun _ => hH) ?_
 rotate_left
 ·intro W hW
  clear hW
  go_simp
  try with_reducible rfl
 try simp only [Act.put, List.setIfInBounds_toArray, List.set_cons_zero, List.set_cons_succ]
 refine wpTill_calm 25 (i := 3) (v := ?_) rfl rfl (by kernel_rfl) (by kernel_rfl) (by kernel_rfl) rfl (fun _ _ _ h => h) (Or.inl ⟨by rfl, ?_⟩) (fun _ => hH) ?_
 rotate_left
 ·intro W hW
  clear hW
  go_simp
  try with_reducible rfl
 try simp only [Act.put, List.setIfInBounds_toArray, List.set_cons_zero, List.set_cons_succ]
 refine wpTill_take 26 (i := 4) (v := ?_) rfl rfl (by kernel_rfl) (by kernel_rfl) (by kernel_rfl) rfl rfl (by kernel_rfl) (fun _ _ _ h => h) (Or.inl ⟨by rfl, ?_⟩) hH ?_
 rotate_left
 ·intro W hW
  go_simp
  try with_reducible rfl
 try simp only [Act.put, List.setIfInBounds_toArray, List.set_cons_zero, List.set_cons_succ]
 refine wpTill_calm 27 (i := 5) (v := ?_) rfl rfl (by kernel_rfl) (by kernel_rfl) (by kernel_rfl) rfl (fun _ _ _ h => h) (Or.inl ⟨by rfl, ?_⟩) (fun _ => hH) ?_
 rotate_left
 ·intro W hW
  clear hW
  go_simp
  try with_reducible rfl
 try simp only [Act.put, List.setIfInBounds_toArray, List.set_cons_zero, List.set_cons_succ]
 refine wpTill_ahead (i := 6) (by kernel_rfl) rfl (fun K hK => ?_)
 go_simp
 refine (HD.out _ LY3.drew).mono ?_
 rintro e w4 ⟨A4, c4, rfl, o4, b4⟩
 have L4 := Loc.below (Loc.drew HL3.out) b4 hp3
 have p4 := L4.cell 8
 simp at p4
 refine hK.out _ _ p4 ?_
 clear hK K
 try simp only [Act.put, List.setIfInBounds_toArray, List.set_cons_zero, List.set_cons_succ]
 refine wpTill_one (i := 7) (by kernel_rfl) rfl (by kernel_rfl) (fun K hK => ?_)
 go_simp
 refine (HS.out _ A4 c4 b4 o4).mono ?_
 rintro e w5 ⟨g, c', rfl, o5, b5⟩
 refine hK.out _ _ ?_
 clear hK K
 try simp only [Act.put, List.setIfInBounds_toArray, List.set_cons_zero, List.set_cons_succ]
 refine wpTill_calm 21 (i := 8) (v := ?_) rfl rfl (by kernel_rfl) (by kernel_rfl) (by kernel_rfl) rfl (fun _ _ _ h => h) (Or.inl ⟨by rfl, ?_⟩) (Till.past (by kernel_rfl)) ?_
 rotate_left
 ·intro W hW
  clear hW
  go_simp
  try with_reducible rfl
 try simp only [Act.put, List.setIfInBounds_toArray, List.set_cons_zero, List.set_cons_succ]
 refine wpTill_calm 30 (i := 9) (v := ?_) rfl rfl (by kernel_rfl) (by kernel_rfl) (by kernel_rfl) rfl (fun _ _ _ h => h) (Or.inl ⟨by rfl, ?_⟩) (Till.past (by kernel_rfl)) ?_
 rotate_left
 ·intro W hW
  clear hW
  go_simp
  try with_reducible rfl
 try simp only [Act.put, List.setIfInBounds_toArray, List.set_cons_zero, List.set_cons_succ]
 refine wpTill_calm 31 (i := 10) (v := ?_) rfl rfl (by kernel_rfl) (by kernel_rfl) (by kernel_rfl) rfl (fun _ _ _ h => h) (Or.inl ⟨by rfl, ?_⟩) (Till.past (by kernel_rfl)) ?_
 rotate_left
 ·intro W hW
  clear hW
  go_simp
  try with_reducible rfl
 try simp only [Act.put, List.setIfInBounds_toArray, List.set_cons_zero, List.set_cons_succ]
 refine wpTill_calm 32 (i := 11) (v := ?_) rfl rfl (by kernel_rfl) (by kernel_rfl) (by kernel_rfl) rfl (fun _ _ _ h => h) (Or.inl ⟨by rfl, ?_⟩) (Till.past (by kernel_rfl)) ?_
 rotate_left
 ·intro W hW
  clear hW
  go_simp
  try with_reducible rfl
 try simp only [Act.put, List.setIfInBounds_toArray, List.set_cons_zero, List.set_cons_succ]
 refine wpTill_calm 33 (i := 12) (v := ?_) rfl rfl (by kernel_rfl) (by kernel_rfl) (by kernel_rfl) rfl (fun _ _ _ h => h) (Or.inl ⟨by rfl, ?_⟩) (Till.past (by kernel_rfl)) ?_
 rotate_left
 ·intro W hW
  clear hW
  go_simp
  try with_reducible rfl
 try simp only [Act.put, List.setIfInBounds_toArray, List.set_cons_zero, List.set_cons_succ]
 have L5 := L4.below b5 L4.lt
 have p5 := L5.cell 8
 have f5 := L5.free 8
 simp at p5
 refine wpTill_one (i := 13) (by kernel_rfl) rfl (by kernel_rfl) (fun K hK => ?_)
 go_simp
 refine hK.out _ _ ?_
 clear hK K
 try simp only [Act.put, List.setIfInBounds_toArray, List.set_cons_zero, List.set_cons_succ]
 refine wpTill_done (by kernel_rfl) ?_ _
 have hsz45 := Nat.le_trans b4.size b5.size
 have hge : w4.heap.size ≤ g := (o5.lt g rfl).1
 have hgp : g ≠ p := by have := b4.size; have : w3.drew.heap.size = w3.heap.size := rfl; omega
 have o6 := owns_setCell o5 (a := ⟨p, 8, none⟩) (by simp [Value.ownBlock, hgp]) (.slice (some ⟨g, 0, none⟩) (n + 8 + bl) c')
 have L6 := L5.set 8 (.slice (some ⟨g, 0, none⟩) (n + 8 + bl) c')
 have K5 : Keep w.heap.size (· = p) w w5 := Keep.of_below (((below_then b3.drew b4 (Nat.le_of_lt hq3)).trans (b5.mono (Nat.le_trans (Nat.le_of_lt hq3) b4.size))).mono (by rw [HQ.out]; exact Nat.le_refl _)) _
 have K6 := K5.setCell (p := ⟨p, 8, none⟩) (.inr rfl) (.slice (some ⟨g, 0, none⟩) (n + 8 + bl) c')
 obtain ⟨W6, hW6⟩ : ∃ W6, W6 = w5.setCell ⟨p, 8, none⟩ (.slice (some ⟨g, 0, none⟩) (n + 8 + bl) c') := ⟨_, rfl⟩
 rw [← hW6] at o6 L6 K6 ⊢
 simp at L6
 have p6 := L6.cell 3
 have f6 := L6.free 3
 simp at p6
 have hwf : IntKind.i64.wrap ((fr : Int) + 1) = (fr : Int) + 1 := by simp [IntKind.bits, IntKind.wrap, IntKind.signed]; omega
 have L7 := L6.set 3 (.int .i64 ((fr : Int) + 1))
 have o7 := owns_setCell o6 (a := ⟨p, 3, none⟩) (by simp [Value.ownBlock, hgp]) (.int .i64 ((fr : Int) + 1))
 have K7 := K6.setCell (p := ⟨p, 3, none⟩) (.inr rfl) (.int .i64 ((fr : Int) + 1))
 simp at L7
 have HF7 := Lib.hid (And.intro L7 (And.intro o7 K7))
 have hsz4 : w.heap.size ≤ w4.heap.size := by
  have h1 := b4.size
  have h2 : w3.drew.heap.size = w3.heap.size := rfl
  have h3 := HQ.out
  omega
 clear hW6 L7 o7 K7 L6 o6 K6 K5 L5 L4 p4 p5 f5 b5 o5 o4 b4 hH p3 LY3 b3
 go_wp2
 go_end0
 obtain ⟨L7, o7, K7⟩ := HF7.out
 have hfr : frameB kind fr extra = headB body ++ body := by rw [frameB, bodyF, ← HBd.out]
 refine ⟨rfl, g, c', n + 8 + bl, ?_, L7, ?_, K7⟩
 ·rw [hfr, List.length_append, List.length_append, headB_length, ← HNL.out, ← HBL.out, Nat.add_assoc]
 ·rw [hfr, ← List.append_assoc]
  exact owns_mono o7 hsz4

set_option maxHeartbeats 4000000 in
theorem frame_page (p : Nat) (x : PW) (kind : UInt8) (cb : Nat) (extra ys : Bs) (A : Option Addr) (n c B : Nat) (w : World) (L : Loc w p (x.cells (.slice A n c)) 56)
  (hown : w.ownsRow B 5 1 (.slice A n c) n (cellsB ys)) (hM : More 38 cb w (kind :: encNumber x.frames) extra) (hf : x.frames ≤ 281474976710655) (hlen : extra.length ≤ 65000) (hn : n ≤ 80000000) :
  Calls Tryz.prog 37 #[.pointer (some ⟨p, 0, none⟩), .int .u8 kind.toNat, .func (.func 38) #[] #[.pointer (some ⟨cb, 0, none⟩)]] w fun e w' => e = .returned (.tuple #[]) ∧ Framed p x kind extra ys w w' := by
 have hpl := L.lt
 have LFin := fun W (hK : Keep w.heap.size (· = p) w W) => hK.frozen
 obtain ⟨live, number, mark, fr, pr, en, name, key⟩ := x
 unfold PW.cells at *
 simp only at *
 have hfl := encNumber_le (fr : Int)
 have hp := L.cell 3
 simp at hp
 have HM := Lib.hid hM
 have HL := Lib.hid L
 have HO := Lib.hid hown
 clear hM L hown LFin
 have LY := Lay.fresh w
 go_enter Tryz.func37, Tryz.ntmps37
 go_upto_region 1 with (fail)
 obtain ⟨W0, hW0⟩ : ∃ W0, W0 = w.alloc (.cells #[.slice none 0 0, .int .i64 0] 146) := ⟨_, rfl⟩
 rw [← hW0] at LY ⊢
 clear hW0
 obtain ⟨q, hq⟩ : ∃ q, q = w.heap.size := ⟨_, rfl⟩
 rw [← hq]
 rw [← hq] at LY
 have HQ := Lib.hid hq
 clear hq
 have HB := Lib.hid (LY.call0 (fun F hW => wbyte_any q F [] kind W0 hW (by decide)))
 go_upto_region 2 with (go_at_call 78; refine HB.out.mono ?_; rintro e w1 ⟨rfl, LY1⟩)
 have p1 := (HL.out.below LY1.bel (by rw [HQ.out]; exact hpl)).cell 3
 simp at p1
 have HNu := Lib.hid (LY1.call0 (fun F hW => wnumber_any q F _ (fr : Int) w1 hW (by omega) (by omega) (by simp)))
 go_upto_region 3 with (go_at_call 39; refine HNu.out.mono ?_; rintro e w2 ⟨rfl, LY2⟩)
 have HMo := Lib.hid (HM.out w2 (by rw [← HQ.out]; exact LY2))
 rw [← HQ.out] at HMo
 clear HM HB HNu LY LY1 p1 hp
 go_upto_region 4 with (go_at_call 38; refine HMo.out.mono ?_; rintro e w3 ⟨rfl, LY3⟩)
 obtain ⟨body, hbody⟩ : ∃ body, body = kind :: encNumber (fr : Int) ++ extra := ⟨_, rfl⟩
 rw [← hbody] at LY3
 have hbl : 0 < body.length ∧ body.length ≤ 65536 := by rw [hbody]; simp; omega
 have HBd := Lib.hid hbody
 clear HMo hbody LY2
 have b3 := LY3.bel
 have hq3 := LY3.lt
 have L3 := HL.out.below b3 (by rw [HQ.out]; exact hpl)
 have p3 := L3.cell 8
 simp at p3
 have O3 : w3.ownsRow B 5 1 (.slice A n c) n (cellsB ys) := owns_keep HO.out (Keep.of_below b3 (fun _ => False)) (by rw [HQ.out]; exact Nat.le_refl _) (fun _ _ h => h)
 have hnl : n = ys.length := by have := O3.1; rw [cellsB_length] at this; omega
 have HD := Lib.hid (fun W (hW : Lay q (fun _ => False) w W body) => (by obtain ⟨F, h1, _, _⟩ := hW; exact wdata_any q F body W h1 (by omega) : Calls Tryz.prog 80 #[.pointer (some ⟨q, 0, none⟩)] W fun e w' => ∃ A c, e = .returned (.slice A body.length c) ∧ w'.ownsRow W.heap.size 5 1 (.slice A body.length c) body.length (cellsB body) ∧ Below W.heap.size W w'))
 have HO3 := Lib.hid O3
 have HL3 := Lib.hid L3
 obtain ⟨bl, hbl'⟩ : ∃ bl, bl = body.length := ⟨_, rfl⟩
 rw [← hbl'] at HD hbl
 have HNL := Lib.hid hnl
 have HBL := Lib.hid hbl'
 clear O3 L3 hnl hbl'
 have HS := Lib.hid (fun W (A4 : Option Addr) (c4 : Nat) (b4 : Below w3.drew.heap.size w3.drew W) (o4 : W.ownsRow w3.drew.heap.size 5 1 (.slice A4 bl c4) bl (cellsB body)) => seal_any ys body A A4 n bl c c4 HNL.out HBL.out hbl.1 hbl.2 (by omega) W ((Row.of_owns HO3.out).drew.of_below b4 (Nat.le_refl _)) (Row.of_owns o4) (owns_none HO3.out) (owns_none o4))
 have hp3 := HL3.out.lt
 have hH : (w3.drew).cell? ⟨p, 8, none⟩ = some (.slice A n c) := p3
 go_upto_region 4 with (fail)
 refine wp_region_till (c := 7) (S := fun W => W.cell? ⟨p, 8, none⟩ = some (.slice A n c)) (by kernel_rfl) ?_
 refine wpTill_calm 22 (i := 0) (v := ?_) rfl rfl (by kernel_rfl) (by kernel_rfl) (by kernel_rfl) rfl (fun _ _ _ h => h) (Or.inl ⟨by rfl, ?_⟩) (fun _ => hH) ?_
 rotate_left
 ·intro W hW
  clear hW
  go_simp
  try with_reducible rfl
 try simp only [Act.put, List.setIfInBounds_toArray, List.set_cons_zero, List.set_cons_succ]
 refine wpTill_calm 23 (i := 1) (v := ?_) rfl rfl (by kernel_rfl) (by kernel_rfl) (by kernel_rfl) rfl (fun _ _ _ h => h) (Or.inl ⟨by rfl, ?_⟩) (fun _ => hH) ?_
 rotate_left
 ·intro W hW
  clear hW
  go_simp
  try with_reducible rfl
 try simp only [Act.put, List.setIfInBounds_toArray, List.set_cons_zero, List.set_cons_succ]
 refine wpTill_calm 24 (i := 2) (v := ?_) rfl rfl (by kernel_rfl) (by kernel_rfl) (by kernel_rfl) rfl (fun _ _ _ h => h) (Or.inl ⟨by rfl, ?_⟩) (fun _ => hH) ?_
 rotate_left
 ·intro W hW
  clear hW
  go_simp
  try with_reducible rfl
 try simp only [Act.put, List.setIfInBounds_toArray, List.set_cons_zero, List.set_cons_succ]
 refine wpTill_calm 25 (i := 3) (v := ?_) rfl rfl (by kernel_rfl) (by kernel_rfl) (by kernel_rfl) rfl (fun _ _ _ h => h) (Or.inl ⟨by rfl, ?_⟩) (fun _ => hH) ?_
 rotate_left
 ·intro W hW
  clear hW
  go_simp
  try with_reducible rfl
 try simp only [Act.put, List.setIfInBounds_toArray, List.set_cons_zero, List.set_cons_succ]
 refine wpTill_take 26 (i := 4) (v := ?_) rfl rfl (by kernel_rfl) (by kernel_rfl) (by kernel_rfl) rfl rfl (by kernel_rfl) (fun _ _ _ h => h) (Or.inl ⟨by rfl, ?_⟩) hH ?_
 rotate_left
 ·intro W hW
  go_simp
  try with_reducible rfl
 try simp only [Act.put, List.setIfInBounds_toArray, List.set_cons_zero, List.set_cons_succ]
 refine wpTill_calm 27 (i := 5) (v := ?_) rfl rfl (by kernel_rfl) (by kernel_rfl) (by kernel_rfl) rfl (fun _ _ _ h => h) (Or.inl ⟨by rfl, ?_⟩) (fun _ => hH) ?_
 rotate_left
 ·intro W hW
  clear hW
  go_simp
  try with_reducible rfl
 try simp only [Act.put, List.setIfInBounds_toArray, List.set_cons_zero, List.set_cons_succ]
 refine wpTill_ahead (i := 6) (by kernel_rfl) rfl (fun K hK => ?_)
 go_simp
 refine (HD.out _ LY3.drew).mono ?_
 rintro e w4 ⟨A4, c4, rfl, o4, b4⟩
 have L4 := Loc.below (Loc.drew HL3.out) b4 hp3
 have p4 := L4.cell 8
 simp at p4
 refine hK.out _ _ p4 ?_
 clear hK K
 try simp only [Act.put, List.setIfInBounds_toArray, List.set_cons_zero, List.set_cons_succ]
 refine wpTill_one (i := 7) (by kernel_rfl) rfl (by kernel_rfl) (fun K hK => ?_)
 go_simp
 refine (HS.out _ A4 c4 b4 o4).mono ?_
 rintro e w5 ⟨g, c', rfl, o5, b5⟩
 refine hK.out _ _ ?_
 clear hK K
 try simp only [Act.put, List.setIfInBounds_toArray, List.set_cons_zero, List.set_cons_succ]
 refine wpTill_calm 21 (i := 8) (v := ?_) rfl rfl (by kernel_rfl) (by kernel_rfl) (by kernel_rfl) rfl (fun _ _ _ h => h) (Or.inl ⟨by rfl, ?_⟩) (Till.past (by kernel_rfl)) ?_
 rotate_left
 ·intro W hW
  clear hW
  go_simp
  try with_reducible rfl
 try simp only [Act.put, List.setIfInBounds_toArray, List.set_cons_zero, List.set_cons_succ]
 refine wpTill_calm 30 (i := 9) (v := ?_) rfl rfl (by kernel_rfl) (by kernel_rfl) (by kernel_rfl) rfl (fun _ _ _ h => h) (Or.inl ⟨by rfl, ?_⟩) (Till.past (by kernel_rfl)) ?_
 rotate_left
 ·intro W hW
  clear hW
  go_simp
  try with_reducible rfl
 try simp only [Act.put, List.setIfInBounds_toArray, List.set_cons_zero, List.set_cons_succ]
 refine wpTill_calm 31 (i := 10) (v := ?_) rfl rfl (by kernel_rfl) (by kernel_rfl) (by kernel_rfl) rfl (fun _ _ _ h => h) (Or.inl ⟨by rfl, ?_⟩) (Till.past (by kernel_rfl)) ?_
 rotate_left
 ·intro W hW
  clear hW
  go_simp
  try with_reducible rfl
 try simp only [Act.put, List.setIfInBounds_toArray, List.set_cons_zero, List.set_cons_succ]
 refine wpTill_calm 32 (i := 11) (v := ?_) rfl rfl (by kernel_rfl) (by kernel_rfl) (by kernel_rfl) rfl (fun _ _ _ h => h) (Or.inl ⟨by rfl, ?_⟩) (Till.past (by kernel_rfl)) ?_
 rotate_left
 ·intro W hW
  clear hW
  go_simp
  try with_reducible rfl
 try simp only [Act.put, List.setIfInBounds_toArray, List.set_cons_zero, List.set_cons_succ]
 refine wpTill_calm 33 (i := 12) (v := ?_) rfl rfl (by kernel_rfl) (by kernel_rfl) (by kernel_rfl) rfl (fun _ _ _ h => h) (Or.inl ⟨by rfl, ?_⟩) (Till.past (by kernel_rfl)) ?_
 rotate_left
 ·intro W hW
  clear hW
  go_simp
  try with_reducible rfl
 try simp only [Act.put, List.setIfInBounds_toArray, List.set_cons_zero, List.set_cons_succ]
 have L5 := L4.below b5 L4.lt
 have p5 := L5.cell 8
 have f5 := L5.free 8
 simp at p5
 refine wpTill_one (i := 13) (by kernel_rfl) rfl (by kernel_rfl) (fun K hK => ?_)
 go_simp
 refine hK.out _ _ ?_
 clear hK K
 try simp only [Act.put, List.setIfInBounds_toArray, List.set_cons_zero, List.set_cons_succ]
 refine wpTill_done (by kernel_rfl) ?_ _
 have hsz45 := Nat.le_trans b4.size b5.size
 have hge : w4.heap.size ≤ g := (o5.lt g rfl).1
 have hgp : g ≠ p := by have := b4.size; have : w3.drew.heap.size = w3.heap.size := rfl; omega
 have o6 := owns_setCell o5 (a := ⟨p, 8, none⟩) (by simp [Value.ownBlock, hgp]) (.slice (some ⟨g, 0, none⟩) (n + 8 + bl) c')
 have L6 := L5.set 8 (.slice (some ⟨g, 0, none⟩) (n + 8 + bl) c')
 have K5 : Keep w.heap.size (· = p) w w5 := Keep.of_below (((below_then b3.drew b4 (Nat.le_of_lt hq3)).trans (b5.mono (Nat.le_trans (Nat.le_of_lt hq3) b4.size))).mono (by rw [HQ.out]; exact Nat.le_refl _)) _
 have K6 := K5.setCell (p := ⟨p, 8, none⟩) (.inr rfl) (.slice (some ⟨g, 0, none⟩) (n + 8 + bl) c')
 obtain ⟨W6, hW6⟩ : ∃ W6, W6 = w5.setCell ⟨p, 8, none⟩ (.slice (some ⟨g, 0, none⟩) (n + 8 + bl) c') := ⟨_, rfl⟩
 rw [← hW6] at o6 L6 K6 ⊢
 simp at L6
 have p6 := L6.cell 3
 have f6 := L6.free 3
 simp at p6
 have hwf : IntKind.i64.wrap ((fr : Int) + 1) = (fr : Int) + 1 := by simp [IntKind.bits, IntKind.wrap, IntKind.signed]; omega
 have L7 := L6.set 3 (.int .i64 ((fr : Int) + 1))
 have o7 := owns_setCell o6 (a := ⟨p, 3, none⟩) (by simp [Value.ownBlock, hgp]) (.int .i64 ((fr : Int) + 1))
 have K7 := K6.setCell (p := ⟨p, 3, none⟩) (.inr rfl) (.int .i64 ((fr : Int) + 1))
 simp at L7
 have HF7 := Lib.hid (And.intro L7 (And.intro o7 K7))
 have hsz4 : w.heap.size ≤ w4.heap.size := by
  have h1 := b4.size
  have h2 : w3.drew.heap.size = w3.heap.size := rfl
  have h3 := HQ.out
  omega
 clear hW6 L7 o7 K7 L6 o6 K6 K5 L5 L4 p4 p5 f5 b5 o5 o4 b4 hH p3 LY3 b3
 go_wp2
 go_end0
 obtain ⟨L7, o7, K7⟩ := HF7.out
 have hfr : frameB kind fr extra = headB body ++ body := by rw [frameB, bodyF, ← HBd.out]
 refine ⟨rfl, g, c', n + 8 + bl, ?_, L7, ?_, K7⟩
 ·rw [hfr, List.length_append, List.length_append, headB_length, ← HNL.out, ← HBL.out, Nat.add_assoc]
 ·rw [hfr, ← List.append_assoc]
  exact owns_mono o7 hsz4

set_option maxHeartbeats 4000000 in
theorem frame_end (p : Nat) (x : PW) (kind : UInt8) (cb : Nat) (extra ys : Bs) (A : Option Addr) (n c B : Nat) (w : World) (L : Loc w p (x.cells (.slice A n c)) 56)
  (hown : w.ownsRow B 5 1 (.slice A n c) n (cellsB ys)) (hM : More 42 cb w (kind :: encNumber x.frames) extra) (hf : x.frames ≤ 281474976710655) (hlen : extra.length ≤ 65000) (hn : n ≤ 80000000) :
  Calls Tryz.prog 37 #[.pointer (some ⟨p, 0, none⟩), .int .u8 kind.toNat, .func (.func 42) #[] #[.pointer (some ⟨cb, 0, none⟩)]] w fun e w' => e = .returned (.tuple #[]) ∧ Framed p x kind extra ys w w' := by
 have hpl := L.lt
 have LFin := fun W (hK : Keep w.heap.size (· = p) w W) => hK.frozen
 obtain ⟨live, number, mark, fr, pr, en, name, key⟩ := x
 unfold PW.cells at *
 simp only at *
 have hfl := encNumber_le (fr : Int)
 have hp := L.cell 3
 simp at hp
 have HM := Lib.hid hM
 have HL := Lib.hid L
 have HO := Lib.hid hown
 clear hM L hown LFin
 have LY := Lay.fresh w
 go_enter Tryz.func37, Tryz.ntmps37
 go_upto_region 1 with (fail)
 obtain ⟨W0, hW0⟩ : ∃ W0, W0 = w.alloc (.cells #[.slice none 0 0, .int .i64 0] 146) := ⟨_, rfl⟩
 rw [← hW0] at LY ⊢
 clear hW0
 obtain ⟨q, hq⟩ : ∃ q, q = w.heap.size := ⟨_, rfl⟩
 rw [← hq]
 rw [← hq] at LY
 have HQ := Lib.hid hq
 clear hq
 have HB := Lib.hid (LY.call0 (fun F hW => wbyte_any q F [] kind W0 hW (by decide)))
 go_upto_region 2 with (go_at_call 78; refine HB.out.mono ?_; rintro e w1 ⟨rfl, LY1⟩)
 have p1 := (HL.out.below LY1.bel (by rw [HQ.out]; exact hpl)).cell 3
 simp at p1
 have HNu := Lib.hid (LY1.call0 (fun F hW => wnumber_any q F _ (fr : Int) w1 hW (by omega) (by omega) (by simp)))
 go_upto_region 3 with (go_at_call 39; refine HNu.out.mono ?_; rintro e w2 ⟨rfl, LY2⟩)
 have HMo := Lib.hid (HM.out w2 (by rw [← HQ.out]; exact LY2))
 rw [← HQ.out] at HMo
 clear HM HB HNu LY LY1 p1 hp
 go_upto_region 4 with (go_at_call 42; refine HMo.out.mono ?_; rintro e w3 ⟨rfl, LY3⟩)
 obtain ⟨body, hbody⟩ : ∃ body, body = kind :: encNumber (fr : Int) ++ extra := ⟨_, rfl⟩
 rw [← hbody] at LY3
 have hbl : 0 < body.length ∧ body.length ≤ 65536 := by rw [hbody]; simp; omega
 have HBd := Lib.hid hbody
 clear HMo hbody LY2
 have b3 := LY3.bel
 have hq3 := LY3.lt
 have L3 := HL.out.below b3 (by rw [HQ.out]; exact hpl)
 have p3 := L3.cell 8
 simp at p3
 have O3 : w3.ownsRow B 5 1 (.slice A n c) n (cellsB ys) := owns_keep HO.out (Keep.of_below b3 (fun _ => False)) (by rw [HQ.out]; exact Nat.le_refl _) (fun _ _ h => h)
 have hnl : n = ys.length := by have := O3.1; rw [cellsB_length] at this; omega
 have HD := Lib.hid (fun W (hW : Lay q (fun _ => False) w W body) => (by obtain ⟨F, h1, _, _⟩ := hW; exact wdata_any q F body W h1 (by omega) : Calls Tryz.prog 80 #[.pointer (some ⟨q, 0, none⟩)] W fun e w' => ∃ A c, e = .returned (.slice A body.length c) ∧ w'.ownsRow W.heap.size 5 1 (.slice A body.length c) body.length (cellsB body) ∧ Below W.heap.size W w'))
 have HO3 := Lib.hid O3
 have HL3 := Lib.hid L3
 obtain ⟨bl, hbl'⟩ : ∃ bl, bl = body.length := ⟨_, rfl⟩
 rw [← hbl'] at HD hbl
 have HNL := Lib.hid hnl
 have HBL := Lib.hid hbl'
 clear O3 L3 hnl hbl'
 have HS := Lib.hid (fun W (A4 : Option Addr) (c4 : Nat) (b4 : Below w3.drew.heap.size w3.drew W) (o4 : W.ownsRow w3.drew.heap.size 5 1 (.slice A4 bl c4) bl (cellsB body)) => seal_any ys body A A4 n bl c c4 HNL.out HBL.out hbl.1 hbl.2 (by omega) W ((Row.of_owns HO3.out).drew.of_below b4 (Nat.le_refl _)) (Row.of_owns o4) (owns_none HO3.out) (owns_none o4))
 have hp3 := HL3.out.lt
 have hH : (w3.drew).cell? ⟨p, 8, none⟩ = some (.slice A n c) := p3
 go_upto_region 4 with (fail)
 refine wp_region_till (c := 7) (S := fun W => W.cell? ⟨p, 8, none⟩ = some (.slice A n c)) (by kernel_rfl) ?_
 refine wpTill_calm 22 (i := 0) (v := ?_) rfl rfl (by kernel_rfl) (by kernel_rfl) (by kernel_rfl) rfl (fun _ _ _ h => h) (Or.inl ⟨by rfl, ?_⟩) (fun _ => hH) ?_
 rotate_left
 ·intro W hW
  clear hW
  go_simp
  try with_reducible rfl
 try simp only [Act.put, List.setIfInBounds_toArray, List.set_cons_zero, List.set_cons_succ]
 refine wpTill_calm 23 (i := 1) (v := ?_) rfl rfl (by kernel_rfl) (by kernel_rfl) (by kernel_rfl) rfl (fun _ _ _ h => h) (Or.inl ⟨by rfl, ?_⟩) (fun _ => hH) ?_
 rotate_left
 ·intro W hW
  clear hW
  go_simp
  try with_reducible rfl
 try simp only [Act.put, List.setIfInBounds_toArray, List.set_cons_zero, List.set_cons_succ]
 refine wpTill_calm 24 (i := 2) (v := ?_) rfl rfl (by kernel_rfl) (by kernel_rfl) (by kernel_rfl) rfl (fun _ _ _ h => h) (Or.inl ⟨by rfl, ?_⟩) (fun _ => hH) ?_
 rotate_left
 ·intro W hW
  clear hW
  go_simp
  try with_reducible rfl
 try simp only [Act.put, List.setIfInBounds_toArray, List.set_cons_zero, List.set_cons_succ]
 refine wpTill_calm 25 (i := 3) (v := ?_) rfl rfl (by kernel_rfl) (by kernel_rfl) (by kernel_rfl) rfl (fun _ _ _ h => h) (Or.inl ⟨by rfl, ?_⟩) (fun _ => hH) ?_
 rotate_left
 ·intro W hW
  clear hW
  go_simp
  try with_reducible rfl
 try simp only [Act.put, List.setIfInBounds_toArray, List.set_cons_zero, List.set_cons_succ]
 refine wpTill_take 26 (i := 4) (v := ?_) rfl rfl (by kernel_rfl) (by kernel_rfl) (by kernel_rfl) rfl rfl (by kernel_rfl) (fun _ _ _ h => h) (Or.inl ⟨by rfl, ?_⟩) hH ?_
 rotate_left
 ·intro W hW
  go_simp
  try with_reducible rfl
 try simp only [Act.put, List.setIfInBounds_toArray, List.set_cons_zero, List.set_cons_succ]
 refine wpTill_calm 27 (i := 5) (v := ?_) rfl rfl (by kernel_rfl) (by kernel_rfl) (by kernel_rfl) rfl (fun _ _ _ h => h) (Or.inl ⟨by rfl, ?_⟩) (fun _ => hH) ?_
 rotate_left
 ·intro W hW
  clear hW
  go_simp
  try with_reducible rfl
 try simp only [Act.put, List.setIfInBounds_toArray, List.set_cons_zero, List.set_cons_succ]
 refine wpTill_ahead (i := 6) (by kernel_rfl) rfl (fun K hK => ?_)
 go_simp
 refine (HD.out _ LY3.drew).mono ?_
 rintro e w4 ⟨A4, c4, rfl, o4, b4⟩
 have L4 := Loc.below (Loc.drew HL3.out) b4 hp3
 have p4 := L4.cell 8
 simp at p4
 refine hK.out _ _ p4 ?_
 clear hK K
 try simp only [Act.put, List.setIfInBounds_toArray, List.set_cons_zero, List.set_cons_succ]
 refine wpTill_one (i := 7) (by kernel_rfl) rfl (by kernel_rfl) (fun K hK => ?_)
 go_simp
 refine (HS.out _ A4 c4 b4 o4).mono ?_
 rintro e w5 ⟨g, c', rfl, o5, b5⟩
 refine hK.out _ _ ?_
 clear hK K
 try simp only [Act.put, List.setIfInBounds_toArray, List.set_cons_zero, List.set_cons_succ]
 refine wpTill_calm 21 (i := 8) (v := ?_) rfl rfl (by kernel_rfl) (by kernel_rfl) (by kernel_rfl) rfl (fun _ _ _ h => h) (Or.inl ⟨by rfl, ?_⟩) (Till.past (by kernel_rfl)) ?_
 rotate_left
 ·intro W hW
  clear hW
  go_simp
  try with_reducible rfl
 try simp only [Act.put, List.setIfInBounds_toArray, List.set_cons_zero, List.set_cons_succ]
 refine wpTill_calm 30 (i := 9) (v := ?_) rfl rfl (by kernel_rfl) (by kernel_rfl) (by kernel_rfl) rfl (fun _ _ _ h => h) (Or.inl ⟨by rfl, ?_⟩) (Till.past (by kernel_rfl)) ?_
 rotate_left
 ·intro W hW
  clear hW
  go_simp
  try with_reducible rfl
 try simp only [Act.put, List.setIfInBounds_toArray, List.set_cons_zero, List.set_cons_succ]
 refine wpTill_calm 31 (i := 10) (v := ?_) rfl rfl (by kernel_rfl) (by kernel_rfl) (by kernel_rfl) rfl (fun _ _ _ h => h) (Or.inl ⟨by rfl, ?_⟩) (Till.past (by kernel_rfl)) ?_
 rotate_left
 ·intro W hW
  clear hW
  go_simp
  try with_reducible rfl
 try simp only [Act.put, List.setIfInBounds_toArray, List.set_cons_zero, List.set_cons_succ]
 refine wpTill_calm 32 (i := 11) (v := ?_) rfl rfl (by kernel_rfl) (by kernel_rfl) (by kernel_rfl) rfl (fun _ _ _ h => h) (Or.inl ⟨by rfl, ?_⟩) (Till.past (by kernel_rfl)) ?_
 rotate_left
 ·intro W hW
  clear hW
  go_simp
  try with_reducible rfl
 try simp only [Act.put, List.setIfInBounds_toArray, List.set_cons_zero, List.set_cons_succ]
 refine wpTill_calm 33 (i := 12) (v := ?_) rfl rfl (by kernel_rfl) (by kernel_rfl) (by kernel_rfl) rfl (fun _ _ _ h => h) (Or.inl ⟨by rfl, ?_⟩) (Till.past (by kernel_rfl)) ?_
 rotate_left
 ·intro W hW
  clear hW
  go_simp
  try with_reducible rfl
 try simp only [Act.put, List.setIfInBounds_toArray, List.set_cons_zero, List.set_cons_succ]
 have L5 := L4.below b5 L4.lt
 have p5 := L5.cell 8
 have f5 := L5.free 8
 simp at p5
 refine wpTill_one (i := 13) (by kernel_rfl) rfl (by kernel_rfl) (fun K hK => ?_)
 go_simp
 refine hK.out _ _ ?_
 clear hK K
 try simp only [Act.put, List.setIfInBounds_toArray, List.set_cons_zero, List.set_cons_succ]
 refine wpTill_done (by kernel_rfl) ?_ _
 have hsz45 := Nat.le_trans b4.size b5.size
 have hge : w4.heap.size ≤ g := (o5.lt g rfl).1
 have hgp : g ≠ p := by have := b4.size; have : w3.drew.heap.size = w3.heap.size := rfl; omega
 have o6 := owns_setCell o5 (a := ⟨p, 8, none⟩) (by simp [Value.ownBlock, hgp]) (.slice (some ⟨g, 0, none⟩) (n + 8 + bl) c')
 have L6 := L5.set 8 (.slice (some ⟨g, 0, none⟩) (n + 8 + bl) c')
 have K5 : Keep w.heap.size (· = p) w w5 := Keep.of_below (((below_then b3.drew b4 (Nat.le_of_lt hq3)).trans (b5.mono (Nat.le_trans (Nat.le_of_lt hq3) b4.size))).mono (by rw [HQ.out]; exact Nat.le_refl _)) _
 have K6 := K5.setCell (p := ⟨p, 8, none⟩) (.inr rfl) (.slice (some ⟨g, 0, none⟩) (n + 8 + bl) c')
 obtain ⟨W6, hW6⟩ : ∃ W6, W6 = w5.setCell ⟨p, 8, none⟩ (.slice (some ⟨g, 0, none⟩) (n + 8 + bl) c') := ⟨_, rfl⟩
 rw [← hW6] at o6 L6 K6 ⊢
 simp at L6
 have p6 := L6.cell 3
 have f6 := L6.free 3
 simp at p6
 have hwf : IntKind.i64.wrap ((fr : Int) + 1) = (fr : Int) + 1 := by simp [IntKind.bits, IntKind.wrap, IntKind.signed]; omega
 have L7 := L6.set 3 (.int .i64 ((fr : Int) + 1))
 have o7 := owns_setCell o6 (a := ⟨p, 3, none⟩) (by simp [Value.ownBlock, hgp]) (.int .i64 ((fr : Int) + 1))
 have K7 := K6.setCell (p := ⟨p, 3, none⟩) (.inr rfl) (.int .i64 ((fr : Int) + 1))
 simp at L7
 have HF7 := Lib.hid (And.intro L7 (And.intro o7 K7))
 have hsz4 : w.heap.size ≤ w4.heap.size := by
  have h1 := b4.size
  have h2 : w3.drew.heap.size = w3.heap.size := rfl
  have h3 := HQ.out
  omega
 clear hW6 L7 o7 K7 L6 o6 K6 K5 L5 L4 p4 p5 f5 b5 o5 o4 b4 hH p3 LY3 b3
 go_wp2
 go_end0
 obtain ⟨L7, o7, K7⟩ := HF7.out
 have hfr : frameB kind fr extra = headB body ++ body := by rw [frameB, bodyF, ← HBd.out]
 refine ⟨rfl, g, c', n + 8 + bl, ?_, L7, ?_, K7⟩
 ·rw [hfr, List.length_append, List.length_append, headB_length, ← HNL.out, ← HBL.out, Nat.add_assoc]
 ·rw [hfr, ← List.append_assoc]
  exact owns_mono o7 hsz4
end Go.Proofs.YtnieminnnkbneaaGreat

namespace Go.Proofs.YtnieminnnkbneaaGreat
open Go.RowKit

/-- Lay from one's own world on, for any world ahead of it that has what is wanted. -/
theorem lay_numbers {q : Nat} {w0 W : World} {xs : Bs} (h : Lay q (fun _ => False) w0 W xs) (a : Nat) (ha : a ≤ 281474976710655) (hl : xs.length ≤ 100000) :
  Calls Tryz.prog 39 #[.pointer (some ⟨q, 0, none⟩), .int .i64 a] W fun e w' => e = .returned (.tuple #[]) ∧ Lay q (fun _ => False) w0 w' (xs ++ encNumber a) :=
 h.call0 (fun F hW => wnumber_any q F xs (a : Int) W hW (by omega) (by omega) (by omega))

set_option maxHeartbeats 1000000 in
theorem more_head (p cb : Nat) (x : PW) (out : Value) (w : World) (pre : Bs) (hpre : pre.length ≤ 1000) (L : Loc w p (x.cells out) 56) (C : w.cell? ⟨cb, 0, none⟩ = some (.pointer (some ⟨p, 0, none⟩))) (h1 : x.number ≤ 281474976710655) (h2 : x.mark ≤ 281474976710655) :
  More 72 cb w pre (encNumber x.number ++ encNumber x.mark) := by
 intro W hW
 obtain ⟨live, number, mark, fr, pr, en, name, key⟩ := x
 unfold PW.cells at *
 simp only at *
 have hl1 := encNumber_le (number : Int)
 have hC : ∀ W, Lay w.heap.size (fun _ => False) w W (pre ++ encNumber number) ∨ Lay w.heap.size (fun _ => False) w W pre → W.cell? ⟨cb, 0, none⟩ = some (.pointer (some ⟨p, 0, none⟩)) ∧ W.cell? ⟨p, 1, none⟩ = some (.int .i64 number) ∧ W.cell? ⟨p, 2, none⟩ = some (.int .i64 mark) := by
  intro W h
  have hb : Below w.heap.size w W := by rcases h with h | h <;> exact h.bel
  have L' := L.below hb L.lt
  have l1 := L'.cell 1
  have l2 := L'.cell 2
  simp at l1 l2
  exact ⟨by rw [← C]; exact hb.cell (p := ⟨cb, 0, none⟩) (World.block_lt_of_cell? w _ C), l1, l2⟩
 have HW := Lib.hid hW
 have HC := Lib.hid hC
 obtain ⟨c0, c1, _⟩ := hC W (.inr hW)
 obtain ⟨q, hq⟩ : ∃ q, q = w.heap.size := ⟨_, rfl⟩
 rw [← hq] at HW HC ⊢
 clear hW hC hq L C
 go_enter Tryz.func72, Tryz.ntmps72
 go_upto_region 1 with (go_at_call 39; refine (lay_numbers HW.out number h1 (by omega)).mono ?_; rintro e w1 ⟨rfl, LY1⟩)
 obtain ⟨d0, _, d2⟩ := HC.out w1 (.inl LY1)
 go_wp2_with (go_at_call 39; refine (lay_numbers LY1 mark h2 (by simp; omega)).mono ?_; rintro e w2 ⟨rfl, LY2⟩)
 go_end0
 exact ⟨rfl, by rw [← List.append_assoc]; exact LY2⟩

set_option maxHeartbeats 1000000 in
theorem more_end (p cb : Nat) (x : PW) (out : Value) (w : World) (pre : Bs) (hpre : pre.length ≤ 1000) (L : Loc w p (x.cells out) 56) (C : w.cell? ⟨cb, 0, none⟩ = some (.pointer (some ⟨p, 0, none⟩))) (h1 : x.procs ≤ 281474976710655) (h2 : x.entries ≤ 281474976710655) :
  More 42 cb w pre (encNumber x.procs ++ encNumber x.entries) := by
 intro W hW
 obtain ⟨live, number, mark, fr, pr, en, name, key⟩ := x
 unfold PW.cells at *
 simp only at *
 have hl1 := encNumber_le (pr : Int)
 have hC : ∀ W, Lay w.heap.size (fun _ => False) w W (pre ++ encNumber pr) ∨ Lay w.heap.size (fun _ => False) w W pre → W.cell? ⟨cb, 0, none⟩ = some (.pointer (some ⟨p, 0, none⟩)) ∧ W.cell? ⟨p, 4, none⟩ = some (.int .i64 pr) ∧ W.cell? ⟨p, 5, none⟩ = some (.int .i64 en) := by
  intro W h
  have hb : Below w.heap.size w W := by rcases h with h | h <;> exact h.bel
  have L' := L.below hb L.lt
  have l1 := L'.cell 4
  have l2 := L'.cell 5
  simp at l1 l2
  exact ⟨by rw [← C]; exact hb.cell (p := ⟨cb, 0, none⟩) (World.block_lt_of_cell? w _ C), l1, l2⟩
 have HW := Lib.hid hW
 have HC := Lib.hid hC
 obtain ⟨c0, c1, _⟩ := hC W (.inr hW)
 obtain ⟨q, hq⟩ : ∃ q, q = w.heap.size := ⟨_, rfl⟩
 rw [← hq] at HW HC ⊢
 clear hW hC hq L C
 go_enter Tryz.func42, Tryz.ntmps42
 go_upto_region 1 with (go_at_call 39; refine (lay_numbers HW.out pr h1 (by omega)).mono ?_; rintro e w1 ⟨rfl, LY1⟩)
 obtain ⟨d0, _, d2⟩ := HC.out w1 (.inl LY1)
 go_wp2_with (go_at_call 39; refine (lay_numbers LY1 en h2 (by simp; omega)).mono ?_; rintro e w2 ⟨rfl, LY2⟩)
 go_end0
 exact ⟨rfl, by rw [← List.append_assoc]; exact LY2⟩

set_option maxHeartbeats 1000000 in
theorem more_proc (cb : Nat) (ys : Bs) (A : Option Addr) (n c : Nat) (hn : n = ys.length) (hA : A = none → n = 0) (w : World) (pre : Bs) (hl : pre.length + ys.length ≤ 100000) (C : w.cell? ⟨cb, 0, none⟩ = some (.slice A n c)) (hr : Row w A (cellsB ys)) :
  More 75 cb w pre (encText ys) := by
 intro W hW
 have C0 : W.cell? ⟨cb, 0, none⟩ = some (.slice A n c) := by rw [← C]; exact hW.bel.cell (p := ⟨cb, 0, none⟩) (World.block_lt_of_cell? w _ C)
 have hcv := run_ofBytes (P := Tryz.prog) 33 9 5 Tryz.underlying33 Tryz.underlying5 Tryz.underlying9 (W := W) (A := A) n c hn (hr.of_below hW.bel (Nat.le_refl _)) hA
 have HT := Lib.hid (hW.call0 (fun F h => wtext_any w.heap.size F pre ⟨ys.toArray⟩ W h (by show pre.length + ys.length + 10 ≤ _; omega)))
 obtain ⟨q, hq⟩ : ∃ q, q = w.heap.size := ⟨_, rfl⟩
 rw [← hq] at HT ⊢
 clear hW hq C hr hn hA
 go_enter Tryz.func75, Tryz.ntmps75
 go_wp2_with (go_at_call 41; refine HT.out.mono ?_; rintro e w1 ⟨rfl, LY1⟩)
 go_end0
 exact ⟨rfl, LY1⟩

/-- An entry. -/
structure Ent where
 key : ByteArray
 v : Val
def Ent.cells (x : Ent) : Array Value := #[.string x.key, .int .i64 x.v.kind, .int .i64 x.v.num, .string x.v.text]
def entsCells (l : List Ent) : List Value := l.flatMap fun x => x.cells.toList
theorem entsCells_length (l : List Ent) : (entsCells l).length = l.length * 4 := by
 induction l with
 | nil => rfl
 | cons x l ih => simp [entsCells, Ent.cells] at ih ⊢; omega
theorem entsCells_get (l : List Ent) (k : Nat) (h : k < l.length) (j : Nat) (hj : j < 4) : (entsCells l)[k * 4 + j]? = (l[k]).cells[j]? := by
 induction l generalizing k with
 | nil => simp at h
 | cons x l ih =>
  have hx : entsCells (x :: l) = x.cells.toList ++ entsCells l := rfl
  have hx4 : x.cells.toList.length = 4 := rfl
  rw [hx]
  cases k with
  | zero =>
   rw [List.getElem?_append_left (by rw [hx4]; omega)]
   simp
  | succ k =>
   rw [List.getElem?_append_right (by rw [hx4]; omega), hx4, show (k + 1) * 4 + j - 4 = k * 4 + j by omega, ih k (by simpa using h)]
   rfl
theorem Row.ents {w : World} {A : Option Addr} {l : List Ent} (h : Row w A (entsCells l)) (hp : 0 < l.length) : ∃ b off, A = some ⟨b, off, none⟩ ∧ b < w.heap.size ∧ ∀ j (hj : j < l.length), ∀ i, i < 4 → w.cell? ⟨b, off + j * 4 + i, none⟩ = (l[j]).cells[i]? := by
 obtain ⟨b, off, hA, hlt, hc⟩ := h.at (by rw [entsCells_length]; omega)
 refine ⟨b, off, hA, hlt, fun j hj i hi => ?_⟩
 rw [Nat.add_assoc, hc _ (by rw [entsCells_length]; omega), entsCells_get l j hj i hi]

def entBytes (x : Ent) : Bs := encText x.key.data.toList ++ encText (datumBytes x.v)
def entsBytes (l : List Ent) : Bs := encNumber l.length ++ l.flatMap entBytes

def Ent.inR (x : Ent) : Prop := i64R x.v.kind ∧ i64R x.v.num

end Go.Proofs.YtnieminnnkbneaaGreat
