/- Walks of page.Writer: head, proc, entry. -/
import Derived.Test.YtnieminnnkbneaaGreatPg
import Derived.Test.YtnieminnnkbneaaGreatPwp
import Derived.Test.YtnieminnnkbneaaGreatProc4
namespace Go.Proofs.YtnieminnnkbneaaGreat
open Go.RowKit

/-- A Writer at p, its bytes of one's own; from w on nothing else has turned that stood in w. -/
def WSt (w W : World) (p : Nat) (x : PW) (ys : Bs) : Prop :=
  ∃ A n c, n = ys.length ∧ Loc W p (x.cells (.slice A n c)) 56 ∧ W.ownsRow w.heap.size 5 1 (.slice A n c) n (cellsB ys) ∧ Keep w.heap.size (· = p) w W

theorem Framed.st {p : Nat} {x : PW} {kind : UInt8} {extra ys : Bs} {w0 w w' : World} (h : Framed p x kind extra ys w w') (hk : Keep w0.heap.size (· = p) w0 w) : WSt w0 w' p { x with frames := x.frames + 1 } (ys ++ frameB kind x.frames extra) := by
  obtain ⟨g, c', m, hm, L, o, K⟩ := h
  exact ⟨_, m, c', hm, L, owns_mono o hk.size, hk.step K hk.size (fun _ _ h => h)⟩

theorem WSt.lt {w W : World} {p : Nat} {x : PW} {ys : Bs} (h : WSt w W p x ys) : p < W.heap.size := by
  obtain ⟨A, n, c, _, L, _⟩ := h
  exact L.lt

theorem WSt.below {w W V : World} {p : Nat} {x : PW} {ys : Bs} (h : WSt w W p x ys) (hb : Below W.heap.size W V) : WSt w V p x ys := by
  obtain ⟨A, n, c, hn, L, o, K⟩ := h
  exact ⟨A, n, c, hn, L.below hb L.lt, owns_mono' o hb, K.step (Keep.of_below hb _) K.size (fun _ _ h => h)⟩

set_option maxHeartbeats 1000000 in
theorem phead_any (p : Nat) (x : PW) (out : Value) (w : World) (L : Loc w p (x.cells out) 56) (h1 : x.number ≤ 281474976710655) (h2 : x.mark ≤ 281474976710655) :
    Calls Tryz.prog 34 #[.pointer (some ⟨p, 0, none⟩)] w fun e w' => e = .returned (.tuple #[]) ∧ WSt w w' p (pwHead x).2 (pwHead x).1 := by
  have hp := L.lt
  have L1 := L.alloc (.cells #[.pointer (some ⟨p, 0, none⟩)] 24)
  have L2 := (L.set 8 (.slice none 0 0)).alloc (.cells #[.pointer (some ⟨p, 0, none⟩)] 24)
  have K2 : Keep w.heap.size (· = p) w ((w.setCell ⟨p, 8, none⟩ (.slice none 0 0)).alloc (.cells #[.pointer (some ⟨p, 0, none⟩)] 24)) :=
    ((Keep.refl w.heap.size (· = p) w).setCell (p := ⟨p, 8, none⟩) (.inr rfl) _).alloc (by simp) _
  have c1 := L2.cell 3
  have c8 := L1.cell 8
  have f8 := L1.free 8
  obtain ⟨live, number, mark, fr, pr, en, name, key⟩ := x
  unfold PW.cells at *
  simp at c1 c8 L2
  have HL2 := Lib.hid L2
  have HK2 := Lib.hid K2
  clear L L1 L2 K2
  by_cases h0 : fr = 0
  · have i0 : ((fr : Int) == 0) = true := by simp [h0]
    have HF := Lib.hid h0
    clear h0
    go_enter Tryz.func34, Tryz.ntmps34
    go_upto_region 3 with (fail)
    have C2 : ((w.setCell ⟨p, 8, none⟩ (.slice none 0 0)).alloc (.cells #[.pointer (some ⟨p, 0, none⟩)] 24)).cell? ⟨w.heap.size, 0, none⟩ = some (.pointer (some ⟨p, 0, none⟩)) := by
      have h := (Loc.new (w.setCell ⟨p, 8, none⟩ (.slice none 0 0)) #[.pointer (some ⟨p, 0, none⟩)] 24).cell 0
      rw [World.size_setCell] at h
      exact h
    obtain ⟨W2, hW2⟩ : ∃ W2, W2 = (w.setCell ⟨p, 8, none⟩ (.slice none 0 0)).alloc (.cells #[.pointer (some ⟨p, 0, none⟩)] 24) := ⟨_, rfl⟩
    rw [← hW2] at HL2 HK2 C2
    rw [← hW2]
    clear hW2 c1 c8 f8
    have e1 := encNumber_le (number : Int)
    have e2 := encNumber_le (mark : Int)
    have hf0 : fr ≤ 281474976710655 := by rw [HF.out]; omega
    have hM := more_head p w.heap.size ⟨live, number, mark, fr, pr, en, name, key⟩ (.slice none 0 0) W2 ((1 : UInt8) :: encNumber fr) (by simp; have := encNumber_le (fr : Int); omega) HL2.out C2 h1 h2
    have hF := frame_head p ⟨live, number, mark, fr, pr, en, name, key⟩ 1 w.heap.size _ [] none 0 0 0 W2 HL2.out (World.ownsRow_nil _ _ _ _) hM hf0 (by simp; omega) (by omega)
    rw [show (((1 : UInt8).toNat : Nat) : Int) = 1 from rfl] at hF
    have HFR := Lib.hid hF
    clear hM hF hf0 e1 e2
    go_wp2_with (go_at_call 37; refine HFR.out.mono ?_; rintro e w3 ⟨rfl, hfr⟩)
    go_end0
    refine ⟨rfl, ?_⟩
    have h := hfr.st HK2.out
    have e0 := HF.out
    subst e0
    unfold pwHead
    rw [if_pos rfl]
    exact h
  · have i0 : ((fr : Int) == 0) = false := by simpa using h0
    go_enter Tryz.func34, Tryz.ntmps34
    go_wp2
    go_end0
    refine ⟨rfl, none, 0, 0, ?_, ?_, ?_, ?_⟩
    · unfold pwHead; rw [if_neg h0]; rfl
    · unfold pwHead; rw [if_neg h0]; exact HL2.out
    · unfold pwHead; rw [if_neg h0]; exact World.ownsRow_nil _ _ _ _
    · exact HK2.out
end Go.Proofs.YtnieminnnkbneaaGreat
