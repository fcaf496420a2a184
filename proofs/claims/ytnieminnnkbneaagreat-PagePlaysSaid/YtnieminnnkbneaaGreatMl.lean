/- Walks of page.Writer: head, proc, entry. -/
import Derived.Test.YtnieminnnkbneaaGreatMb
import Derived.Test.YtnieminnnkbneaaGreatPg
import Derived.Test.YtnieminnnkbneaaGreatProc4
namespace Go.Proofs.YtnieminnnkbneaaGreat
open Go.RowKit

theorem entBytes_le {x : Ent} (h : datumCheck x.v = 0) (hk : x.key.size ≤ 64) : (entBytes x).length ≤ 400 := by
 have h1 := encText_le x.key.data.toList
 have h2 := encText_le (datumBytes x.v)
 have h3 := datumBytes_le h
 have h4 : x.key.data.toList.length = x.key.size := by simp
 unfold entBytes
 rw [List.length_append]
 omega
theorem entsBytes_le {l : List Ent} (h : ∀ x ∈ l, datumCheck x.v = 0 ∧ x.key.size ≤ 64) : (l.flatMap entBytes).length ≤ 400 * l.length := by
 induction l with
 | nil => simp
 | cons x l ih =>
  have h1 := entBytes_le (h x (by simp)).1 (h x (by simp)).2
  have h2 := ih (fun y hy => h y (by simp [hy]))
  simp only [List.flatMap_cons, List.length_append, List.length_cons]
  omega

theorem owns_loc {W V : World} {base : Nat} {e : TypeId} {size n : Nat} {v : Value} {xs : List Value} (h : W.ownsRow base e size v n xs) (hk : ∀ b c t, base ≤ b → b < W.heap.size → Loc W b c t → Loc V b c t) : V.ownsRow base e size v n xs := by
 obtain ⟨h1, h2⟩ := h
 rcases h2 with h2 | ⟨g, cap, cur, he, hb, hg, h3⟩
 ·exact ⟨h1, .inl h2⟩
 ·exact ⟨h1, .inr ⟨g, cap, cur, he, hb, hk g cur _ hb (blk_lt hg) hg, h3⟩⟩

set_option maxHeartbeats 4000000 in
theorem more_page (cb : Nat) (l : List Ent) (A : Option Addr) (n c : Nat) (hn : n = l.length) (hn1 : n ≤ 128) (w : World) (pre : Bs) (hpl : pre.length ≤ 1000) (C : w.cell? ⟨cb, 0, none⟩ = some (.slice A n c)) (hr : Row w A (entsCells l))
  (hv : ∀ x ∈ l, datumCheck x.v = 0 ∧ x.key.size ≤ 64 ∧ x.inR) :
  More 38 cb w pre (entsBytes l) := by
 intro W hW
 have hC : ∀ W xs, Lay w.heap.size (fun _ => False) w W xs → W.cell? ⟨cb, 0, none⟩ = some (.slice A n c) := fun W xs h => by
  rw [← C]; exact h.bel.cell (p := ⟨cb, 0, none⟩) (World.block_lt_of_cell? w _ C)
 have hcb := World.block_lt_of_cell? w _ C
 have hl1 := encNumber_le (n : Int)
 have hlen : ∀ k, k ≤ n → ((l.take k).flatMap entBytes).length ≤ 400 * k := fun k hk => by
  have h := entsBytes_le (l := l.take k) (fun x hx => ⟨(hv x (List.mem_of_mem_take hx)).1, (hv x (List.mem_of_mem_take hx)).2.1⟩)
  rw [List.length_take] at h
  omega
 have C0 := hC W _ hW
 have HR := Lib.hid (fun W xs (h : Lay w.heap.size (fun _ => False) w W xs) => hr.of_below h.bel (Nat.le_refl _))
 have HW := Lib.hid hW
 have HC := Lib.hid hC
 have HN := Lib.hid hn
 have HV := Lib.hid hv
 have HLEN := Lib.hid hlen
 obtain ⟨q, hq⟩ : ∃ q, q = w.heap.size := ⟨_, rfl⟩
 rw [← hq] at HW HC HR hcb ⊢
 have HQ := Lib.hid hq
 clear hW hC hq C hr hn hv hlen
 go_enter Tryz.func38, Tryz.ntmps38
 go_upto_region 1 with (go_at_call 39; refine (lay_numbers HW.out n (by omega) (by omega)).mono ?_; rintro e w1 ⟨rfl, LY1⟩)
 have C1 := HC.out w1 _ LY1
 clear C0
 go_wp2
 go_loopw [13] (fun i wr => ∃ k : Nat, k ≤ n ∧ i = .int .i64 k ∧ Lay q (fun _ => False) w wr (pre ++ encNumber n ++ (l.take k).flatMap entBytes)) (fun i _ => n - (intOf i).toNat)
 case atStart => exact ⟨0, by omega, rfl, by simpa using LY1⟩
 case round =>
  obtain ⟨wi, rfl⟩ : ∃ wi, wi = wr := ⟨_, rfl⟩
  obtain ⟨k, hk, rfl, LYi⟩ := hrel
  by_cases hkn : k < n
  ·have hkl : k < l.length := by rw [← HN.out]; exact hkn
   have hle := HLEN.out k hk
   obtain ⟨b, off, rfl, hbl, hc⟩ := (HR.out wi _ LYi).ents (by omega)
   have hcx := hc k hkl
   have htk : l.take (k + 1) = l.take k ++ [l[k]] := List.take_succ_eq_append_getElem hkl
   have hvx := HV.out l[k] (List.getElem_mem hkl)
   generalize l[k] = X at *
   obtain ⟨xk, xv⟩ := X
   have x0 := hcx 0 (by decide); have x1 := hcx 1 (by decide); have x2 := hcx 2 (by decide); have x3 := hcx 3 (by decide)
   simp only [Ent.cells, List.getElem?_toArray, List.getElem?_cons_zero, List.getElem?_cons_succ, Nat.add_zero] at x0 x1 x2 x3
   have hkn' : (k : Int) < (n : Int) := by omega
   have HTK := Lib.hid htk
   have HVX := Lib.hid hvx
   have hqi := LYi.lt
   have LYa := LYi.alloc (Nat.le_of_lt hqi) (.cells #[.string xk, .int .i64 xv.kind, .int .i64 xv.num, .string xv.text] 62)
   have La := Loc.new wi #[.string xk, .int .i64 xv.kind, .int .i64 xv.num, .string xv.text] 62
   have hka := dencode_ok xv HVX.out.1 HVX.out.2.2.2.1 HVX.out.2.2.2.2
   unfold valCells at hka
   have HKA := Lib.hid hka
   clear hc hcx htk hvx C1 hka
   go_upto_region 4 with (fail)
   obtain ⟨wa, hwa⟩ : ∃ wa, wa = wi.alloc (.cells #[.string xk, .int .i64 xv.kind, .int .i64 xv.num, .string xv.text] 62) := ⟨_, rfl⟩
   rw [← hwa] at LYa La
   rw [← hwa]
   clear hwa x0 x1 x2 x3 LYi
   have y0 := La.cell 0; have y1 := La.cell 1; have y2 := La.cell 2; have y3 := La.cell 3
   simp only [List.getElem?_toArray, List.getElem?_cons_zero, List.getElem?_cons_succ] at y0 y1 y2 y3
   have hdl := datumBytes_le HVX.out.1
   have hqa := LYa.lt
   go_upto_region 5 with (go_at_call 40; refine (HKA.out _).mono ?_; rintro e w4 ⟨A4, c4, rfl, own4, b4⟩; have L4 := La.below b4 La.lt; have z0 := L4.cell 0; simp only [List.getElem?_toArray, List.getElem?_cons_zero] at z0)
   have LY4 := (LYa.also (N' := fun k => wa.heap.size ≤ k ∧ k < w4.heap.size) (fun k h => .inr h.1)).below (Nat.le_of_lt hqa) b4
   clear y0 y1 y2 y3 La LYa HKA hqa
   obtain ⟨dl, hdl'⟩ : ∃ dl, dl = (datumBytes xv).length := ⟨_, rfl⟩
   rw [← hdl'] at own4 hdl ⊢
   have HDL := Lib.hid hdl'
   have HT1 := Lib.hid (LY4.call (Nat.le_of_lt LY4.lt) (fun k h => h.2) (fun F h => wtext_any q F (pre ++ encNumber n ++ (l.take k).flatMap entBytes) xk w4 h (by simp only [List.length_append]; have := HVX.out.2.1; omega)))
   clear hdl'
   go_upto_region 6 with (go_at_call 41; refine HT1.out.mono ?_; rintro e w5 ⟨rfl, LY5, hk5, hs5⟩)
   have own5 := owns_loc own4 (fun b c t h1 h2 h => hk5 b c t (.inr ⟨h1, h2⟩) h)
   have LY5' := LY5.also (N' := fun _ => False) (fun _ h => h.elim)
   have hcv := run_ofBytes (P := Tryz.prog) 33 9 5 Tryz.underlying33 Tryz.underlying5 Tryz.underlying9 (W := w5) (A := A4) dl c4 HDL.out (Row.of_owns own5) (owns_none own5)
   have HT2 := Lib.hid (LY5'.call0 (fun F h => wtext_any q F (pre ++ encNumber n ++ (l.take k).flatMap entBytes ++ encText xk.data.toList) ⟨(datumBytes xv).toArray⟩ w5 h (by
    simp only [List.length_append]
    have e1 := encText_le xk.data.toList
    have e2 : xk.data.toList.length = xk.size := size_data xk
    have := HVX.out.2.1
    have e3 := HDL.out
    show _ + (datumBytes xv).toArray.size + 10 ≤ _
    rw [List.size_toArray]
    omega)))
   clear LY4 LY5 hk5 hs5 own4 own5 L4 z0 HT1 b4 LY5'
   go_wp2_with (go_at_call 41; refine HT2.out.mono ?_; rintro e w6 ⟨rfl, LY6⟩)
   go_roundw
   case rel =>
    refine ⟨k + 1, by omega, by go_num, ?_⟩
    rw [HTK.out, List.flatMap_append, List.flatMap_singleton]
    show Lay q _ w w6 (_ ++ (_ ++ (encText xk.data.toList ++ encText (datumBytes xv))))
    rw [← List.append_assoc, ← List.append_assoc]
    exact LY6
   case measure => simp [intOf]; omega
  ·obtain rfl : k = n := by omega
   go_wp2
   go_end0
   refine ⟨rfl, ?_⟩
   unfold entsBytes
   rw [← HN.out, ← List.append_assoc]
   rw [List.take_of_length_le (by rw [← HN.out]; exact Nat.le_refl _)] at LYi
   exact LYi
end Go.Proofs.YtnieminnnkbneaaGreat

namespace Go.Proofs.YtnieminnnkbneaaGreat
open Go.RowKit

/-- A Writer at p, its bytes of one's own; from w on nothing else has turned that stood in w. -/
def WSt (w W : World) (p : Nat) (x : PW) (ys : Bs) : Prop :=
 ∃ A n c, n = ys.length ∧ Loc W p (x.cells (.slice A n c)) 56 ∧ W.ownsRow w.heap.size 5 1 (.slice A n c) n (cellsB ys) ∧ Keep w.heap.size (· = p) w W

theorem Framed.st {p : Nat} {x : PW} {kind : UInt8} {extra ys : Bs} {w0 w w' : World} (h : Framed p x kind extra ys w w') (hk : Keep w0.heap.size (· = p) w0 w) : WSt w0 w' p { x with frames := x.frames + 1 } (ys ++ frameB kind x.frames extra) := by
 obtain ⟨g, c', m, hm, L, o, K⟩ := h
 exact ⟨_, m, c', hm, L, owns_mono o hk.size, hk.step K hk.size (fun _ _ h => h)⟩

theorem WSt.lt {w W : World} {p : Nat} {x : PW} {ys : Bs} (h : WSt w W p x ys) : p < W.heap.size := by
 obtain ⟨A, n, c, _, L, _⟩ := h
 exact L.lt

theorem WSt.below {w W V : World} {p : Nat} {x : PW} {ys : Bs} (h : WSt w W p x ys) (hb : Below W.heap.size W V) : WSt w V p x ys := by
 obtain ⟨A, n, c, hn, L, o, K⟩ := h
 exact ⟨A, n, c, hn, L.below hb L.lt, owns_mono' o hb, K.step (Keep.of_below hb _) K.size (fun _ _ h => h)⟩

set_option maxHeartbeats 1000000 in
theorem phead_any (p : Nat) (x : PW) (out : Value) (w : World) (L : Loc w p (x.cells out) 56) (h1 : x.number ≤ 281474976710655) (h2 : x.mark ≤ 281474976710655) :
  Calls Tryz.prog 34 #[.pointer (some ⟨p, 0, none⟩)] w fun e w' => e = .returned (.tuple #[]) ∧ WSt w w' p (pwHead x).2 (pwHead x).1 := by
 have hp := L.lt
 have L1 := L.alloc (.cells #[.pointer (some ⟨p, 0, none⟩)] 24)
 have L2 := (L.set 8 (.slice none 0 0)).alloc (.cells #[.pointer (some ⟨p, 0, none⟩)] 24)
 have K2 : Keep w.heap.size (· = p) w ((w.setCell ⟨p, 8, none⟩ (.slice none 0 0)).alloc (.cells #[.pointer (some ⟨p, 0, none⟩)] 24)) :=
  ((Keep.refl w.heap.size (· = p) w).setCell (p := ⟨p, 8, none⟩) (.inr rfl) _).alloc (by simp) _
 have c1 := L2.cell 3
 have c8 := L1.cell 8
 have f8 := L1.free 8
 obtain ⟨live, number, mark, fr, pr, en, name, key⟩ := x
 unfold PW.cells at *
 simp at c1 c8 L2
 have HL2 := Lib.hid L2
 have HK2 := Lib.hid K2
 clear L L1 L2 K2
 by_cases h0 : fr = 0
 ·have i0 : ((fr : Int) == 0) = true := by simp [h0]
  have HF := Lib.hid h0
  clear h0
  go_enter Tryz.func34, Tryz.ntmps34
  go_upto_region 3 with (fail)
  have C2 : ((w.setCell ⟨p, 8, none⟩ (.slice none 0 0)).alloc (.cells #[.pointer (some ⟨p, 0, none⟩)] 24)).cell? ⟨w.heap.size, 0, none⟩ = some (.pointer (some ⟨p, 0, none⟩)) := by
   have h := (Loc.new (w.setCell ⟨p, 8, none⟩ (.slice none 0 0)) #[.pointer (some ⟨p, 0, none⟩)] 24).cell 0
   rw [World.size_setCell] at h
   exact h
  obtain ⟨W2, hW2⟩ : ∃ W2, W2 = (w.setCell ⟨p, 8, none⟩ (.slice none 0 0)).alloc (.cells #[.pointer (some ⟨p, 0, none⟩)] 24) := ⟨_, rfl⟩
  rw [← hW2] at HL2 HK2 C2
  rw [← hW2]
  clear hW2 c1 c8 f8
  have e1 := encNumber_le (number : Int)
  have e2 := encNumber_le (mark : Int)
  have hf0 : fr ≤ 281474976710655 := by rw [HF.out]; omega
  have hM := more_head p w.heap.size ⟨live, number, mark, fr, pr, en, name, key⟩ (.slice none 0 0) W2 ((1 : UInt8) :: encNumber fr) (by simp; have := encNumber_le (fr : Int); omega) HL2.out C2 h1 h2
  have hF := frame_head p ⟨live, number, mark, fr, pr, en, name, key⟩ 1 w.heap.size _ [] none 0 0 0 W2 HL2.out (World.ownsRow_nil _ _ _ _) hM hf0 (by simp; omega) (by omega)
  rw [show (((1 : UInt8).toNat : Nat) : Int) = 1 from rfl] at hF
  have HFR := Lib.hid hF
  clear hM hF hf0 e1 e2
  go_wp2_with (go_at_call 37; refine HFR.out.mono ?_; rintro e w3 ⟨rfl, hfr⟩)
  go_end0
  refine ⟨rfl, ?_⟩
  have h := hfr.st HK2.out
  have e0 := HF.out
  subst e0
  unfold pwHead
  rw [if_pos rfl]
  exact h
 ·have i0 : ((fr : Int) == 0) = false := by simpa using h0
  go_enter Tryz.func34, Tryz.ntmps34
  go_wp2
  go_end0
  refine ⟨rfl, none, 0, 0, ?_, ?_, ?_, ?_⟩
  ·unfold pwHead; rw [if_neg h0]; rfl
  ·unfold pwHead; rw [if_neg h0]; exact HL2.out
  ·unfold pwHead; rw [if_neg h0]; exact World.ownsRow_nil _ _ _ _
  ·exact HK2.out
end Go.Proofs.YtnieminnnkbneaaGreat
