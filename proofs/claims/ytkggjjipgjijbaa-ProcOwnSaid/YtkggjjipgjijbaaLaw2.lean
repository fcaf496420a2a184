/- Walk of the law's own known(). -/
import Derived.Test.YtkggjjipgjijbaaLaw1
import Derived.Test.YtkggjjipgjijbaaProc4
import Derived.Test.YtkggjjipgjijbaaProc7
import Derived.Lib.SlBytesConst
namespace Go.Proofs.Ytkggjjipgjijbaa
open Go.RowKit

def knownP : Prc := ⟨⟨#[112, 117, 116, 50]⟩, 2, [⟨2, 0, 0, 0, 0, .zero⟩, ⟨2, 1, 0, 0, 1, .zero⟩, ⟨4, 0, 1, 0, 0, .zero⟩, ⟨16, 0, 0, 0, 0, .zero⟩]⟩
def knownB : Bs := [4, 112, 117, 116, 50, 2, 4, 2, 0, 0, 2, 1, 1, 4, 0, 1, 16]
theorem known_check : procCheck knownP = (0, 0) := by kernel_rfl
theorem known_encode : procEncode knownP = (knownB, 0) := by kernel_rfl
theorem known_decode : procDecode knownB = (knownP, 0) := by kernel_rfl
theorem known_none : procCheck ⟨⟨#[]⟩, 0, []⟩ = (-1, 5) := by kernel_rfl
theorem known_inR : knownP.inR := by
  refine ⟨by unfold i64R knownP; decide, fun x hx => ?_⟩
  simp only [knownP, List.mem_cons, List.not_mem_nil, or_false] at hx
  rcases hx with rfl | rfl | rfl | rfl <;> (unfold Ins.inR i64R Val.zero; decide)

set_option maxRecDepth 100000 in
set_option maxHeartbeats 4000000 in
theorem known_any (w : World) : Calls Try.prog 14 #[] w fun e w' => e = .returned (.bool true) ∧ Below w.heap.size w w' := by
  have hc := fun A cap W (h : Row W A (codeCells knownP.code)) => pcheck_any knownP A cap W h (by decide) known_inR
  have he := fun A cap W (h : Row W A (codeCells knownP.code)) => pencode_any knownP A cap W h (by decide) known_inR
  have hn := fun A cap W => pcheck_any ⟨⟨#[]⟩, 0, []⟩ A cap W (Row.nil _ _) (by decide) ⟨by unfold i64R; decide, fun x hx => by simp at hx⟩
  rw [known_check] at hc
  rw [known_encode] at he
  rw [known_none] at hn
  have HC := Lib.hid hc
  have HE := Lib.hid he
  have HN := Lib.hid hn
  clear hc he hn
  go_enter Try.func14, Try.ntmps14
  go_wp2_with fail
  obtain ⟨cells, hcells⟩ : ∃ cells, cells = (codeCells knownP.code).toArray := ⟨_, rfl⟩
  have LC0 := (Loc.new w cells 28).alloc (.cells #[.string ⟨#[112, 117, 116, 50]⟩, .int .i64 2, .slice (some ⟨w.heap.size, 0, none⟩) 4 4] 24)
  have LP0 := Loc.new (w.alloc (.cells cells 28)) #[.string ⟨#[112, 117, 116, 50]⟩, .int .i64 2, .slice (some ⟨w.heap.size, 0, none⟩) 4 4] 24
  have b0 := ((Below.refl w.heap.size w).alloc (Nat.le_refl _) (.cells cells 28)).alloc (by simp) (.cells #[.string ⟨#[112, 117, 116, 50]⟩, .int .i64 2, .slice (some ⟨w.heap.size, 0, none⟩) 4 4] 24)
  have hrow : ∀ W, Loc W w.heap.size cells 28 → Row W (some ⟨w.heap.size, 0, none⟩) (codeCells knownP.code) := fun W h => by
    have := Row.of_loc h
    rw [hcells] at this
    exact this
  have HROW := Lib.hid hrow
  have hcl : cells = #[.int .i64 2, .int .i64 0, .int .i64 0, .int .i64 0, .int .i64 0, .int .i64 0, .int .i64 0, .string ⟨#[]⟩, .int .i64 2, .int .i64 1, .int .i64 0, .int .i64 0, .int .i64 1, .int .i64 0, .int .i64 0, .string ⟨#[]⟩,
      .int .i64 4, .int .i64 0, .int .i64 1, .int .i64 0, .int .i64 0, .int .i64 0, .int .i64 0, .string ⟨#[]⟩, .int .i64 16, .int .i64 0, .int .i64 0, .int .i64 0, .int .i64 0, .int .i64 0, .int .i64 0, .string ⟨#[]⟩] := hcells
  rw [← hcl]
  clear hcells hrow hcl
  simp only [World.size_alloc] at LP0
  refine (HC.out (some ⟨w.heap.size, 0, none⟩) 4 _ (HROW.out _ LC0)).mono ?_; rintro e w1 ⟨rfl, hb⟩
  have LC1 := LC0.below hb LC0.lt
  have LP1 := LP0.below hb LP0.lt
  have b1 := below_then b0 hb b0.size
  have p0 := LP1.cell 0; have p1 := LP1.cell 1; have p2 := LP1.cell 2
  simp at p0 p1 p2
  clear LC0 LP0 b0 hb
  go_wp2_with fail
  refine (HE.out (some ⟨w.heap.size, 0, none⟩) 4 _ (HROW.out _ LC1)).mono ?_; rintro e w2 ⟨A', c', rfl, hown, hb⟩
  have LC2 := LC1.below hb LC1.lt
  have LP2 := LP1.below hb LP1.lt
  have b2 := below_then b1 hb b1.size
  have hcv := fun (w : World) (C : Array Value) (n c : Nat) => Lib.run_convert_bytes_const (P := Try.prog) w 38 5 C n c Try.underlying38 Try.underlying5
  clear LC1 LP1 b1 hb p0 p1 p2
  go_wp2_with fail
  obtain ⟨bcs, hbcs⟩ : ∃ bcs, bcs = (cellsB knownB).toArray := ⟨_, rfl⟩
  have LC3 := LC2.alloc (.cells bcs 5 (17, 18))
  have LP3 := LP2.alloc (.cells bcs 5 (17, 18))
  have b3 := b2.alloc b2.size (.cells bcs 5 (17, 18))
  have hown3 := owns_mono' hown ((Below.refl w2.heap.size w2).alloc (Nat.le_refl _) (.cells bcs 5 (17, 18)))
  have hrb : Row (w2.alloc (.cells bcs 5 (17, 18))) (some ⟨w2.heap.size, 0, none⟩) (cellsB knownB) := by
    refine .inr ⟨w2.heap.size, 0, rfl, fun j hj => ?_⟩
    rw [blk_cell (heap_alloc_new _ _), hbcs]
    simp
  have hbl : bcs = #[.int .u8 4, .int .u8 112, .int .u8 117, .int .u8 116, .int .u8 50, .int .u8 2, .int .u8 4, .int .u8 2, .int .u8 0, .int .u8 0, .int .u8 2, .int .u8 1, .int .u8 1, .int .u8 4, .int .u8 0, .int .u8 1, .int .u8 16] := hbcs
  simp only [← hbl]
  clear hbcs hbl LC2 LP2 b2 hown hcv
  refine (pdecode_any (some ⟨w2.heap.size, 0, none⟩) 17 17 knownB _ hrb rfl (fun h => by simp at h) (by decide)).mono ?_; rintro e w3 ⟨A2, c2, rfl, hown2, hb⟩
  have LC4 := LC3.below hb LC3.lt
  have LP4 := LP3.below hb LP3.lt
  have b4 := below_then b3 hb b3.size
  have hown4 := owns_mono' hown3 hb
  have hdec := known_decode
  rw [hdec] at hown2 ⊢
  simp only [procCells] at ⊢
  clear LC3 LP3 b3 hown3 hrb hb hdec
  go_wp2_with fail
  have LC5 := LC4.alloc (.cells #[.string knownP.name, .int .i64 knownP.args, .slice A2 knownP.code.length c2] 24)
  have LP5 := LP4.alloc (.cells #[.string knownP.name, .int .i64 knownP.args, .slice A2 knownP.code.length c2] 24)
  have LQ5 := Loc.new w3 #[.string knownP.name, .int .i64 knownP.args, .slice A2 knownP.code.length c2] 24
  have b5 := b4.alloc b4.size (.cells #[.string knownP.name, .int .i64 knownP.args, .slice A2 knownP.code.length c2] 24)
  have hown5 := owns_mono' hown4 ((Below.refl w3.heap.size w3).alloc (Nat.le_refl _) (.cells #[.string knownP.name, .int .i64 knownP.args, .slice A2 knownP.code.length c2] 24))
  have hown5' := owns_mono' hown2 ((Below.refl w3.heap.size w3).alloc (Nat.le_refl _) (.cells #[.string knownP.name, .int .i64 knownP.args, .slice A2 knownP.code.length c2] 24))
  clear LC4 LP4 b4 hown4 hown2
  refine (HN.out none 0 _).mono ?_; rintro e w4 ⟨rfl, hb⟩
  have LC6 := LC5.below hb LC5.lt
  have LP6 := LP5.below hb LP5.lt
  have LQ6 := LQ5.below hb LQ5.lt
  have b6 := below_then b5 hb b5.size
  have hown6 := owns_mono' hown5 hb
  have hown6' := owns_mono' hown5' hb
  have hq := Row.of_owns hown6'
  have hbyte : ∃ g, A' = some ⟨g, 0, none⟩ ∧ w4.cell? ⟨g, 16, none⟩ = some (.int .u8 16) := by
    obtain ⟨b, off, hA, hc⟩ := (Row.of_owns hown6).cellB (by decide)
    have h16 := hc 16 (by decide)
    rw [show ((knownB[16]).toNat : Int) = 16 from by decide] at h16
    rcases hown6.2 with ⟨_, h⟩ | ⟨g, cap, cur, hg, _⟩
    · exact absurd h (by decide)
    · cases hg
      cases hA
      exact ⟨_, rfl, by simpa only [Nat.zero_add] using h16⟩
  obtain ⟨g, rfl, h16⟩ := hbyte
  have p0 := LP6.cell 0; have p1 := LP6.cell 1; have p2 := LP6.cell 2
  have q0 := LQ6.cell 0; have q1 := LQ6.cell 1; have q2 := LQ6.cell 2
  simp at p0 p1 p2 q0 q1 q2
  have hrow := HROW.out _ LC6
  clear LC5 LP5 LQ5 b5 hown5 hown5' hb
  have hl17 : knownB.length = 17 := rfl
  rw [hl17]
  have hsame := refSame_any knownP knownP (some ⟨w.heap.size, 0, none⟩) A2 4 c2 w4 hrow hq (by decide) (by decide)
  unfold procCells at hsame
  have HS := Lib.hid hsame
  clear hsame
  go_wp2_with fail
  refine HS.out.mono ?_; rintro e w5 ⟨⟨res, rfl, hres⟩, hb⟩
  obtain rfl : res = true := hres.2 (by trivial)
  clear hres HS
  go_wp2
  go_ret
  exact ⟨rfl, below_then b6 hb b6.size⟩
end Go.Proofs.Ytkggjjipgjijbaa
