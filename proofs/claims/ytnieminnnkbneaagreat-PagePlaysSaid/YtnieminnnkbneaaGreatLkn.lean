/- Walk of treadlelaw14.known. -/
import Derived.Test.YtnieminnnkbneaaGreatMm
import Derived.Test.YtnieminnnkbneaaGreatRdr
namespace Go.Proofs.YtnieminnnkbneaaGreat
open Go.RowKit

def kE : Ent := ⟨⟨#[97]⟩, ⟨1, 1, ⟨#[]⟩⟩⟩
def kQ : (Bs × PW) × Int := pwPage (PW.new 1 7) [] [kE]
def kX : PW := ⟨true, 1, 7, 2, 0, 1, emptyB, ⟨#[97]⟩⟩
def kB : Bs := kQ.1.1
def kZ : Bs := (pwEndQ kX).1.1
def kS : RS := ⟨3, 1, 7, [], [kE], emptyB, ⟨#[97]⟩⟩
theorem kQ_eq : kQ = ((kB, kX), 0) := by
 have h1 : kQ.2 = 0 := by kernel_rfl
 have h2 : kQ.1.2 = kX := by kernel_rfl
 rw [← h1, ← h2]
 rfl
theorem kEnd_eq : pwEndQ kX = ((kZ, PW.zero), 0) := by
 have h1 : (pwEndQ kX).2 = 0 := by kernel_rfl
 have h2 : (pwEndQ kX).1.2 = PW.zero := by kernel_rfl
 rw [← h1, ← h2]
 rfl
theorem kRead : pageRead (kB ++ kZ) = (kS, 0) := by kernel_rfl
theorem kNone : pageRead [] = (.zero, 2) := by kernel_rfl
theorem kB_len : kB.length = 28 := by kernel_rfl
theorem kZ_len : kZ.length = 12 := by kernel_rfl
theorem owns_capA {w : World} {base : Nat} {e : TypeId} {size n c : Nat} {A : Option Addr} {xs : List Value} (ho : w.ownsRow base e size (.slice A n c) n xs) : n ≤ c := by
 rcases ho.2 with ⟨h, _⟩ | ⟨g, c1, cur, h, _, _, h1, _⟩
 ·simp only [Value.slice.injEq] at h
  omega
 ·simp only [Value.slice.injEq] at h
  obtain ⟨_, _, rfl⟩ := h
  exact h1

theorem Row.ents0 {w : World} {A : Option Addr} {y : Ent} (h : Row w A (entsCells [y])) : ∃ b off, A = some ⟨b, off, none⟩ ∧ w.cell? ⟨b, off, none⟩ = some (.string y.key) := by
 obtain ⟨b, off, hA, _, hc⟩ := h.ents (by simp)
 have h0 := hc 0 (by simp) 0 (by decide)
 simp only [Nat.zero_mul, Nat.add_zero] at h0
 exact ⟨b, off, hA, by rw [h0]; rfl⟩

set_option maxRecDepth 100000 in
set_option maxHeartbeats 4000000 in
theorem known_any (w : World) : Calls Tryz.prog 9 #[] w fun e w' => e = .returned (.bool true) ∧ Below w.heap.size w w' := by
 have hN := pnew_any 1 7 (by decide) (by decide) (by decide) w
 have LW := Loc.new w ((PW.new 1 7).cells nilS) 56
 have b1 := (Below.refl w.heap.size w).alloc (Nat.le_refl _) (.cells ((PW.new 1 7).cells nilS) 56)
 obtain ⟨w1, hw1⟩ : ∃ w1, w1 = w.alloc (.cells ((PW.new 1 7).cells nilS) 56) := ⟨_, rfl⟩
 rw [← hw1] at LW b1
 have hs1 : w1.heap.size = w.heap.size + 1 := by rw [hw1]; simp
 have hN1 : Calls Tryz.prog 7 #[.int .i64 1, .int .i64 7] w fun e w' => e = .returned (.tuple #[.pointer (some ⟨w.heap.size, 0, none⟩), .int .i64 0]) ∧ w' = w1 := by rw [hw1]; exact hN
 have HN := Lib.hid hN1
 have b2 := b1.alloc b1.size (.cells #[.string ⟨#[97]⟩, .int .i64 1, .int .i64 1, .string ⟨#[]⟩] 62)
 have L2 := LW.alloc (.cells #[.string ⟨#[97]⟩, .int .i64 1, .int .i64 1, .string ⟨#[]⟩] 62)
 have hP := ppage_any w.heap.size (PW.new 1 7) [] [kE] none (some ⟨w1.heap.size, 0, none⟩) 0 1 _ L2 (Row.nil _ _) (fun _ h => by cases h) (Row.of_loc (Loc.new w1 #[.string ⟨#[97]⟩, .int .i64 1, .int .i64 1, .string ⟨#[]⟩] 62)) (fun y hy => by
  rw [List.mem_singleton.1 hy]
  exact ⟨by simp [kE, i64R], by simp [kE, i64R]⟩) (by decide) (by decide) (by decide) (by decide) (by decide) (by decide) (by decide)
 rw [show pwPage (PW.new 1 7) (([] : List PrcC).map (·.p)) [kE] = ((kB, kX), 0) from kQ_eq] at hP
 have HP := Lib.hid hP
 have hs2 : (w1.alloc (.cells #[.string ⟨#[97]⟩, .int .i64 1, .int .i64 1, .string ⟨#[]⟩] 62)).heap.size = w.heap.size + 2 := by rw [World.size_alloc, hs1]
 have HS2 := Lib.hid hs2
 clear hN hw1 hN1 LW L2 hP hs2 hs1
 go_enter Tryz.func9, Tryz.ntmps9
 go_wp2_with (go_at_call 7; refine HN.out.mono ?_; rintro e w' ⟨rfl, rfl⟩)
 go_upto_region 5 with (go_at_call 15; refine HP.out.mono ?_; rintro e w3 ⟨A3, n3, c3, hn3, rfl, o3, L3, K3⟩; have HN3 : Hid (n3 = 28) := Lib.hid (by rw [hn3]; exact kB_len); clear hn3)
 have b3 := below_keep b2 K3 b2.size (fun k hk => by omega)
 have hpe := pend_any w.heap.size kX w3 L3 (by decide) (by decide) (by decide) (by decide) (by decide)
 rw [kEnd_eq] at hpe
 have HE := Lib.hid hpe
 have HO3 := Lib.hid o3
 have hb3 := b3.size
 clear hpe K3 b1 b2 HP HN
 go_upto_region 6 with (go_at_call 16; refine HE.out.mono ?_; rintro e w4 ⟨A4, n4, c4, hn4, rfl, o4, L4, K4⟩; have HN4 : Hid (n4 = 12) := Lib.hid (by rw [hn4]; exact kZ_len); clear hn4)
 have b4 := below_keep b3 K4 b3.size (fun k hk => by omega)
 have o3' := owns_keep HO3.out K4 (Nat.le_refl _) (fun k hk e => owns_ne HO3.out L3 (by decide) (e ▸ hk))
 have o3z := owns_base (base' := 0) o3' (fun _ _ => Nat.zero_le _)
 have hs4 := (Row.of_owns o4).src (P := Tryz.prog) (c := c4) (n := n4) (size := 1) Tryz.underlying33 (by rw [cellsB_length]; rw [HN4.out, kZ_len]) (cellsB_one _) (owns_none o4)
 have hl3 : n3 < 100 := by have := HN3.out; omega
 have hl4 : n4 < 100 := by have := HN4.out; omega
 have HB4 := Lib.hid b4
 have HO3' := Lib.hid o3'
 clear L3 L4 K4 b3 HE b4 o3'
 go_wp2_with (at_builtin; refine wpList_append_mine _ rfl _ _ 33 33 rfl 5 (.int .u8 0) 1 1 Tryz.underlying33 infoU8 rfl (by decide) (.slice A3 n3 c3) n3 (cellsB kB) rfl o3z (.slice A4 n4 c4) n4 (cellsB kZ) rfl hs4 (by unfold maxLen; omega) (by omega) ?_; intro A5 c5 w5 hown5 hg5 hb5 hx5)
 have hl5 : n3 + n4 = (kB ++ kZ).length := by rw [List.length_append, HN3.out, HN4.out, kB_len, kZ_len]
 have b5 := HB4.out.grown hg5 HB4.out.size (fun k hk => by have := (HO3'.out.lt k hk).1; have := HS2.out; omega)
 rw [← cellsB_append] at hown5
 have hrd := pread_any A5 (n3 + n4) c5 (kB ++ kZ) w5 (Row.of_owns hown5) hl5 (owns_capA hown5) (by omega)
 unfold RdPost at hrd
 rw [kRead] at hrd
 have hrd2 := hrd.mono (fun e w' h => (by
  obtain ⟨m, hm, he, I, hb⟩ := h
  have h1 := I.oe
  unfold RM.img at he
  simp only at hm
  rw [hm] at he h1
  exact ⟨m.P, m.pl.length, m.cp, m.E, m.ce, he, Row.of_owns h1, hb⟩ : ∃ P np cp E ce, e = .returned (.tuple #[.agg #[.int .i64 1, .int .i64 7, .slice P np cp, .slice E 1 ce], .int .i64 0]) ∧ Row w' E (entsCells [kE]) ∧ Below w5.heap.size w5 w'))
 have HRD := Lib.hid hrd2
 have HB5 := Lib.hid b5
 clear hrd hrd2 b5 hown5 hg5 hb5 hx5 hl5 o3z hs4 o3 o4
 go_upto_region 7 with (go_at_call 11; refine HRD.out.mono ?_; rintro e w6 ⟨P, np, cp, E, ce, rfl, hE, b6⟩)
 have L7 := Loc.new w6 #[.int .i64 1, .int .i64 7, .slice P np cp, .slice E 1 ce] 41
 have b7 := (below_then HB5.out b6 HB5.out.size).alloc (by have := b6.size; have := HB5.out.size; omega) (.cells #[.int .i64 1, .int .i64 7, .slice P np cp, .slice E 1 ce] 41)
 have hE7 := hE.alloc (.cells #[.int .i64 1, .int .i64 7, .slice P np cp, .slice E 1 ce] 41)
 obtain ⟨w7, hw7⟩ : ∃ w7, w7 = w6.alloc (.cells #[.int .i64 1, .int .i64 7, .slice P np cp, .slice E 1 ce] 41) := ⟨_, rfl⟩
 rw [← hw7] at L7 b7 hE7
 rw [← hw7]
 have hrn := pread_any none 0 0 [] w7 (Row.nil _ _) rfl (Nat.le_refl _) (by decide)
 unfold RdPost at hrn
 rw [kNone] at hrn
 unfold RM.img at hrn
 have HRN := Lib.hid hrn
 clear hw7 hrn hE b6
 go_upto_region 8 with (go_at_call 11; refine HRN.out.mono ?_; rintro e w8 ⟨m8, hm8, rfl, I8, b8⟩; have HM8 := Lib.hid hm8; clear hm8)
 have L8 := (L7.below b8 L7.lt).alloc (.cells #[.int .i64 m8.s.number, .int .i64 m8.s.mark, .slice m8.P m8.pl.length m8.cp, .slice m8.E m8.s.entries.length m8.ce] 41)
 obtain ⟨eb, eo, rfl, hc⟩ := ((hE7.of_below b8 (Nat.le_refl _)).alloc (.cells #[.int .i64 m8.s.number, .int .i64 m8.s.mark, .slice m8.P m8.pl.length m8.cp, .slice m8.E m8.s.entries.length m8.ce] 41)).ents0
 have y0 := L8.cell 0; have y1 := L8.cell 1; have y3 := L8.cell 3
 simp only [List.getElem?_toArray, List.getElem?_cons_zero, List.getElem?_cons_succ] at y0 y1 y3
 have hkk : kE.key = ⟨#[97]⟩ := rfl
 rw [hkk] at hc
 have hfin := (below_then b7 b8 b7.size).alloc (by have := b8.size; have := b7.size; omega) (.cells #[.int .i64 m8.s.number, .int .i64 m8.s.mark, .slice m8.P m8.pl.length m8.cp, .slice m8.E m8.s.entries.length m8.ce] 41)
 clear hkk L8 hE7 L7 b7 b8 I8
 go_wp2
 go_ret
 exact ⟨rfl, hfin⟩
end Go.Proofs.YtnieminnnkbneaaGreat
