/- Walk of page.reader.proc. Printed by gen_rd.py. -/
import Derived.Test.YtnieminnnkbneaaGreatRdk
import Derived.Deep.RegionLaw
namespace Go.Proofs.YtnieminnnkbneaaGreat
open Go.RowKit

theorem Rd.drew {w : World} {r : Nat} {s : Rdr} (h : Rd w r s) : Rd w.drew r s := h
theorem Rd.drewN {w : World} {r : Nat} {s : Rdr} (h : Rd w r s) (n : Nat) : Rd (w.drewN n) r s := h
theorem RSt.drewN {w0 W : World} {rb : Nat} {m : RM} (h : RSt w0 W rb m) (n : Nat) : RSt w0 (W.drewN n) rb m := h.below (below_drewN (Below.refl _ _) n)

set_option maxRecDepth 100000 in
set_option maxHeartbeats 4000000 in
theorem rproc_any (w0 : World) (rb ob : Nat) (m : RM) (r : Rdr) (all : Nat) (W : World) (h : RSt w0 W rb m) (hR : Rd W ob r) (ho : w0.heap.size ≤ ob) (hm : m.over = false) (hal : all ≤ 140737488355328) (hnp : m.pl.length ≤ 1000000000) :
    Calls Tryz.prog 53 #[.pointer (some ⟨rb, 0, none⟩), .pointer (some ⟨ob, 0, none⟩), .int .i64 all] W (RPost w0 rb ob false (pgProc all m.s r)) := by
  obtain ⟨t, r1, ht⟩ : ∃ t r1, r.text (all : Int) = (t, r1) := ⟨_, _, rfl⟩
  have hml := text_len r (all : Int)
  obtain ⟨⟨pn, pa, pc⟩, pe, hpe⟩ : ∃ p pe, procDecode t = (p, pe) := ⟨_, _, rfl⟩
  have htx := fun W (hh : Rd W ob r) => rtext_any ob r (all : Int) (by omega) (by omega) W hh
  rw [ht] at htx hml
  simp only at hml
  have hxl : r.xs.length ≤ 140737488355328 := by
    obtain ⟨_, _, _, _, h5⟩ := hR
    exact h5
  have hml2 : t.length ≤ 140737488355328 := by omega
  have hsz : (ofBs t).size = t.length := by rw [← size_data, ofBs_data]
  obtain ⟨q, hq⟩ : ∃ q, q = pgProc all m.s r := ⟨_, rfl⟩
  have hq' := hq
  unfold pgProc at hq'
  rw [ht] at hq'
  simp only [hpe] at hq'
  rw [← hq]
  have HQ := Lib.hid hq'
  have HTX := Lib.hid htx
  have HPE := Lib.hid hpe
  have HSZ := Lib.hid hsz
  have HM := Lib.hid hm
  clear hq hq' htx ht hpe hsz hml hxl hm
  go_enter Tryz.func53, Tryz.ntmps53
  go_wp2_with fail
  refine (HTX.out _ hR).mono ?_; rintro e w1 ⟨rfl, S1⟩
  have D1 := h.rd hR S1 ho
  have R1 := S1.1
  clear h hR HTX S1
  have htb := run_toBytes (P := Tryz.prog) 9 33 5 (ofBs t) Tryz.underlying9 Tryz.underlying33 Tryz.underlying5
  go_wp2_with fail
  have hrs := (Row.str w1 (ofBs t) (grownCap w1 (ofBs t).size 0 5) 5)
  rw [show (ofBs t).data.toList = t from ofBs_data t] at hrs
  refine (pdecode_any _ _ _ t _ hrs.drew HSZ.out (fun h => by simp at h) (by rw [HSZ.out]; exact hml2)).mono ?_; rintro e w5 ⟨A', c', rfl, own, hb⟩
  rw [HPE.out] at own ⊢
  simp only at own ⊢
  have hb2 : Below w1.heap.size w1 w5 := below_then (((Below.refl w1.heap.size w1).alloc (Nat.le_refl _) _).drew) hb (by simp)
  have own4 := owns_mono (base' := w1.heap.size) own (by simp)
  have own5 := owns_mono (base' := w0.heap.size) own4 D1.b.size
  have hsep := sepP_add (X := ⟨⟨pn, pa, pc⟩, A', c'⟩) D1.sep D1.oc own4
  have D5 := D1.below hb2
  have R5 := R1.below hb2
  clear htb hrs hb hb2 own own4 R1 D1
  unfold procCells
  go_upto_region 1 with (fail)
  have D6 := D5.alloc (.cells #[.string pn, .int .i64 pa, .slice A' pc.length c'] 54)
  have L6 := Loc.new w5 #[.string pn, .int .i64 pa, .slice A' pc.length c'] 54
  have R6 := R5.alloc (.cells #[.string pn, .int .i64 pa, .slice A' pc.length c'] 54)
  have own6 := owns_mono' own5 ((Below.refl w5.heap.size w5).alloc (Nat.le_refl _) (.cells #[.string pn, .int .i64 pa, .slice A' pc.length c'] 54))
  obtain ⟨k0, k1, k2, k3, k4, k5, k6, k7⟩ := D6.c0
  have kp := L6.cell 0
  simp only [List.getElem?_toArray, List.getElem?_cons_zero] at kp
  obtain ⟨f, hf⟩ : ∃ f, f = m.s.frames := ⟨_, rfl⟩
  obtain ⟨ne, hne⟩ : ∃ ne, ne = m.s.entries.length := ⟨_, rfl⟩
  have hq := HQ.out
  rw [← hf, ← hne] at hq
  rw [← hf] at k4
  rw [← hne] at k3
  have HFF := Lib.hid hf
  have HQ2 := Lib.hid hq
  have HSEP := Lib.hid hsep
  obtain ⟨w6, hw6⟩ : ∃ w6, w6 = w5.alloc (.cells #[.string pn, .int .i64 pa, .slice A' pc.length c'] 54) := ⟨_, rfl⟩
  rw [← hw6] at D6 L6 R6 own6 k3 k4 k5 kp
  rw [← hw6]
  clear hw6 D5 R5 own5 hq hf hne HQ hsep k0 k1 k2 k6 k7
  rcases Classical.em (0 < f ∧ pe = 0 ∧ ne = 0 ∧ leS pn m.s.name = false) with hc | hc
  · have hq := HQ2.out
    rw [if_pos hc] at hq
    have HQ3 := Lib.hid hq
    obtain ⟨hf0, hpe0, hne0, hl⟩ := hc
    subst hpe0 hne0
    have t0 : (0 : Int) < (f : Int) := by omega
    unfold leS at hl
    clear hq HQ2
    go_quiet ((go_at_call 27; exact quiet_eq (may_yes _)))
    have D7 := (D6.drewN nq).put (m' := { m with s := { m.s with name := pn } }) 5 (.string pn) rfl rfl rfl rfl rfl rfl rfl rfl
    have f5 := D6.l.free 5
    have hne6 : w5.heap.size ≠ rb := L6.ne D6.l (by decide)
    have L7 := (L6.drewN nq).other (a := ⟨rb, 5, none⟩) hne6 (.string pn)
    have own7 := owns_setCell (a := ⟨rb, 5, none⟩) (show (w6.drewN nq).ownsRow w0.heap.size 109 8 (.slice A' pc.length c') pc.length (codeCells pc) from own6) (owns_ne (show (w6.drewN nq).ownsRow w0.heap.size 109 8 (.slice A' pc.length c') pc.length (codeCells pc) from own6) (D6.drewN nq).l (by decide)) (.string pn)
    have R7 := (R6.drewN nq).other (D6.drewN nq).l (by decide) (by decide) 5 (.string pn)
    go_upto_region 3 with (fail)
    obtain ⟨w7, hw7⟩ : ∃ w7, w7 = (w6.drewN nq).setCell ⟨rb, 5, none⟩ (.string pn) := ⟨_, rfl⟩
    rw [← hw7] at D7 L7 own7 R7
    rw [← hw7]
    clear hw7 D6 L6 own6 R6 kp k5 k4 k3 f5
    have p2 : w7.cell? ⟨rb, 2, none⟩ = some (.slice m.P m.pl.length m.cp) := D7.c0.2.2.1
    have x0 := L7.cell 0; have x1 := L7.cell 1; have x2 := L7.cell 2
    simp only [List.getElem?_toArray, List.getElem?_cons_zero, List.getElem?_cons_succ] at x0 x1 x2
    have f2 := D7.l.free 2
    have D8 := (D7.alloc (.cells #[.string pn, .int .i64 pa, .slice A' pc.length c'] 54)).drew
    have hba := ((Below.refl w7.heap.size w7).alloc (Nat.le_refl _) (.cells #[.string pn, .int .i64 pa, .slice A' pc.length c'] 54)).drew
    have hown8 : (w7.alloc (.cells #[.string pn, .int .i64 pa, .slice A' pc.length c'] 54)).drew.ownsRow 0 54 3 (.slice m.P m.pl.length m.cp) m.pl.length (prcsCells m.pl) := owns_base (base' := 0) D8.op (fun _ _ => Nat.zero_le _)
    have hsrc := Row.src (P := Tryz.prog) (c := 1) (size := 3) (n := 1) (tx := 36) (Row.drew (Row.of_loc (Loc.new w7 #[.string pn, .int .i64 pa, .slice A' pc.length c'] 54))) Tryz.underlying36 rfl (by simp [Value.oneCell']) (fun h => by simp at h)
    have hX := owns_mono' own7 hba
    have R8 := (R7.alloc (.cells #[.string pn, .int .i64 pa, .slice A' pc.length c'] 54)).drewN 1
    have p2a : (w7.alloc (.cells #[.string pn, .int .i64 pa, .slice A' pc.length c'] 54)).cell? ⟨rb, 2, none⟩ = some (.slice m.P m.pl.length m.cp) := (D7.alloc (.cells #[.string pn, .int .i64 pa, .slice A' pc.length c'] 54)).c0.2.2.1
    have HX := Lib.hid hX
    obtain ⟨np, hnp'⟩ : ∃ np, np = m.pl.length := ⟨_, rfl⟩
    have HD8 := Lib.hid D8
    have HR8 := Lib.hid R8
    have HNP := Lib.hid hnp'
    rw [← hnp'] at p2 hown8 p2a hnp
    clear hba hX hnp' D8 R8 own7 R7 D7 L7
    go_region_law ((refine step_append_mine _ rfl _ _ 36 36 rfl 54 (.agg #[.string ⟨#[]⟩, .int .i64 0, .slice none 0 0]) 3 48 Tryz.underlying36 infoProc rfl (by decide) _ _ _ rfl hown8 _ _ _ rfl hsrc (by simp only [maxLen]; omega) (by omega) ?_; intro A3 c3 w8 hown9 hg8 hb8 hx8; have HG8 : Hid ((w7.alloc (.cells #[.string pn, .int .i64 pa, .slice A' pc.length c'] 54)).drew.grownBy w8 (Value.slice m.P m.pl.length m.cp).ownBlock) := Lib.hid (by rw [← HNP.out]; exact hg8); have HB8 : Hid (∀ k, (Value.slice A3 (np + 1) c3).ownBlock = some k → (Value.slice m.P m.pl.length m.cp).ownBlock = some k ∨ k = ((w7.alloc (.cells #[.string pn, .int .i64 pa, .slice A' pc.length c'] 54)).drew).heap.size) := Lib.hid (by rw [← HNP.out]; exact hb8); have HL9 := (HD8.out.grownP HG8.out).1; have p2b : w8.cell? ⟨rb, 2, none⟩ = some (.slice m.P m.pl.length m.cp) := HL9.cell 2; have f2b := HL9.free 2; clear hg8 hb8 hx8))
    all_goals
      clear p2b p2 p2a x0 x1 x2
      rw [HNP.out] at hown9 HB8
      have D9 := HD8.out.addP (X := ⟨⟨pn, pa, pc⟩, A', c'⟩) HX.out HSEP.out hown9 HG8.out HB8.out
      have R9 := (HR8.out.grown HD8.out.op HG8.out (by decide) (by decide)).other (HD8.out.grownP HG8.out).1 (by decide) (by decide) 2 (.slice A3 (m.pl.length + 1) c3)
      rw [← HNP.out] at D9 R9
      go_end0
      refine RPost.yes HQ3.out ?_ ?_ D9 R9
      · have e := HFF.out
        subst e
        rfl
      · exact HM.out
  · have hq := HQ2.out
    rw [if_neg hc] at hq
    have HQ3 := Lib.hid hq
    clear hq HQ2
    by_cases hf0 : 0 < f
    · have t0 : (0 : Int) < (f : Int) := by omega
      by_cases hpe0 : pe = 0
      · subst hpe0
        by_cases hne0 : ne = 0
        · subst hne0
          have hl : leS pn m.s.name = true := by
            cases hl : leS pn m.s.name with
            | true => rfl
            | false => exact absurd ⟨hf0, rfl, rfl, hl⟩ hc
          unfold leS at hl
          clear hc
          refine wp_region_held_drew (S := fun W => W.cell? ⟨rb, 4, none⟩ = some (.int .i64 f) ∧ W.cell? ⟨rb, 3, none⟩ = some (.slice m.E 0 m.ce) ∧ W.cell? ⟨w5.heap.size, 0, none⟩ = some (.string pn) ∧ W.cell? ⟨rb, 5, none⟩ = some (.string m.s.name)) (by kernel_rfl) ⟨k4, k3, kp, k5⟩ (fun hH => ?_)
          refine take_at1 0 16 (v := ?_) rfl rfl (by kernel_rfl) (by kernel_rfl) (by kernel_rfl) (fun _ _ _ h => h) (Or.inl ⟨by rfl, ?_⟩) hH ?_
          rotate_left
          · intro W hW
            obtain ⟨e0, e1, e2, e3⟩ := hW
            go_simp
            try with_reducible rfl
          try simp only [Act.put, List.setIfInBounds_toArray, List.set_cons_zero, List.set_cons_succ]
          refine take_at1 1 17 (v := ?_) rfl rfl (by kernel_rfl) (by kernel_rfl) (by kernel_rfl) (fun _ _ _ h => h) (Or.inl ⟨by rfl, ?_⟩) hH ?_
          rotate_left
          · intro W hW
            obtain ⟨e0, e1, e2, e3⟩ := hW
            go_simp
            try with_reducible rfl
          try simp only [Act.put, List.setIfInBounds_toArray, List.set_cons_zero, List.set_cons_succ]
          refine take_at1 2 18 (v := ?_) rfl rfl (by kernel_rfl) (by kernel_rfl) (by kernel_rfl) (fun _ _ _ h => h) (Or.inl ⟨by rfl, ?_⟩) hH ?_
          rotate_left
          · intro W hW
            obtain ⟨e0, e1, e2, e3⟩ := hW
            go_simp
            try with_reducible rfl
          try simp only [Act.put, List.setIfInBounds_toArray, List.set_cons_zero, List.set_cons_succ]
          refine take_at1 3 19 (v := ?_) rfl rfl (by kernel_rfl) (by kernel_rfl) (by kernel_rfl) (fun _ _ _ h => h) (Or.inl ⟨by rfl, ?_⟩) hH ?_
          rotate_left
          · intro W hW
            obtain ⟨e0, e1, e2, e3⟩ := hW
            go_simp
            try with_reducible rfl
          try simp only [Act.put, List.setIfInBounds_toArray, List.set_cons_zero, List.set_cons_succ]
          refine take_at1 4 20 (v := .bool true) rfl rfl (by kernel_rfl) (by kernel_rfl) (by kernel_rfl) (fun _ _ _ h => h) (Or.inl ⟨by rfl, ?_⟩) hH ?_
          · intro W hW
            obtain ⟨e0, e1, e2, e3⟩ := hW
            go_simp
            try with_reducible rfl
          try simp only [Act.put, List.setIfInBounds_toArray, List.set_cons_zero, List.set_cons_succ]
          refine take_at1 5 21 (v := .bool true) rfl rfl (by kernel_rfl) (by kernel_rfl) (by kernel_rfl) (fun _ _ _ h => h) (Or.inl ⟨by rfl, ?_⟩) hH ?_
          · intro W hW
            obtain ⟨e0, e1, e2, e3⟩ := hW
            go_simp
            try with_reducible rfl
          try simp only [Act.put, List.setIfInBounds_toArray, List.set_cons_zero, List.set_cons_succ]
          refine take_at1 6 22 (v := ?_) rfl rfl (by kernel_rfl) (by kernel_rfl) (by kernel_rfl) (fun _ _ _ h => h) (Or.inl ⟨by rfl, ?_⟩) hH ?_
          rotate_left
          · intro W hW
            obtain ⟨e0, e1, e2, e3⟩ := hW
            go_simp
            try with_reducible rfl
          try simp only [Act.put, List.setIfInBounds_toArray, List.set_cons_zero, List.set_cons_succ]
          refine take_at1 7 23 (v := .bool true) rfl rfl (by kernel_rfl) (by kernel_rfl) (by kernel_rfl) (fun _ _ _ h => h) (Or.inl ⟨by rfl, ?_⟩) hH ?_
          · intro W hW
            obtain ⟨e0, e1, e2, e3⟩ := hW
            go_simp
            try with_reducible rfl
          try simp only [Act.put, List.setIfInBounds_toArray, List.set_cons_zero, List.set_cons_succ]
          refine take_at1 8 24 (v := .bool true) rfl rfl (by kernel_rfl) (by kernel_rfl) (by kernel_rfl) (fun _ _ _ h => h) (Or.inl ⟨by rfl, ?_⟩) hH ?_
          · intro W hW
            obtain ⟨e0, e1, e2, e3⟩ := hW
            go_simp
            try with_reducible rfl
          try simp only [Act.put, List.setIfInBounds_toArray, List.set_cons_zero, List.set_cons_succ]
          refine take_at1 9 25 (v := .bool true) rfl rfl (by kernel_rfl) (by kernel_rfl) (by kernel_rfl) (fun _ _ _ h => h) (Or.inl ⟨by rfl, ?_⟩) hH ?_
          · intro W hW
            obtain ⟨e0, e1, e2, e3⟩ := hW
            go_simp
            try with_reducible rfl
          try simp only [Act.put, List.setIfInBounds_toArray, List.set_cons_zero, List.set_cons_succ]
          refine take_at1 10 26 (v := ?_) rfl rfl (by kernel_rfl) (by kernel_rfl) (by kernel_rfl) (fun _ _ _ h => h) (Or.inl ⟨by rfl, ?_⟩) hH ?_
          rotate_left
          · intro W hW
            obtain ⟨e0, e1, e2, e3⟩ := hW
            go_simp
            try with_reducible rfl
          try simp only [Act.put, List.setIfInBounds_toArray, List.set_cons_zero, List.set_cons_succ]
          refine take_at1 11 27 (v := ?_) rfl rfl (by kernel_rfl) (by kernel_rfl) (by kernel_rfl) (fun _ _ _ h => h) (Or.inl ⟨by rfl, ?_⟩) hH ?_
          rotate_left
          · intro W hW
            obtain ⟨e0, e1, e2, e3⟩ := hW
            go_simp
            try with_reducible rfl
          try simp only [Act.put, List.setIfInBounds_toArray, List.set_cons_zero, List.set_cons_succ]
          refine take_at1 12 28 (v := ?_) rfl rfl (by kernel_rfl) (by kernel_rfl) (by kernel_rfl) (fun _ _ _ h => h) (Or.inl ⟨by rfl, ?_⟩) hH ?_
          rotate_left
          · intro W hW
            obtain ⟨e0, e1, e2, e3⟩ := hW
            go_simp
            try with_reducible rfl
          try simp only [Act.put, List.setIfInBounds_toArray, List.set_cons_zero, List.set_cons_succ]
          refine take_at1 13 29 (v := ?_) rfl rfl (by kernel_rfl) (by kernel_rfl) (by kernel_rfl) (fun _ _ _ h => h) (Or.inl ⟨by rfl, ?_⟩) hH ?_
          rotate_left
          · intro W hW
            obtain ⟨e0, e1, e2, e3⟩ := hW
            go_simp
            try with_reducible rfl
          try simp only [Act.put, List.setIfInBounds_toArray, List.set_cons_zero, List.set_cons_succ]
          refine take_at1 14 30 (v := ?_) rfl rfl (by kernel_rfl) (by kernel_rfl) (by kernel_rfl) (fun _ _ _ h => h) (Or.inl ⟨by rfl, ?_⟩) hH ?_
          rotate_left
          · intro W hW
            obtain ⟨e0, e1, e2, e3⟩ := hW
            go_simp
            try with_reducible rfl
          try simp only [Act.put, List.setIfInBounds_toArray, List.set_cons_zero, List.set_cons_succ]
          refine take_at1 15 31 (v := ?_) rfl rfl (by kernel_rfl) (by kernel_rfl) (by kernel_rfl) (fun _ _ _ h => h) (Or.inl ⟨by rfl, ?_⟩) hH ?_
          rotate_left
          · intro W hW
            obtain ⟨e0, e1, e2, e3⟩ := hW
            go_simp
            try with_reducible rfl
          try simp only [Act.put, List.setIfInBounds_toArray, List.set_cons_zero, List.set_cons_succ]
          refine take_at1 16 32 (v := .bool true) rfl rfl (by kernel_rfl) (by kernel_rfl) (by kernel_rfl) (fun _ _ _ h => h) (Or.inl ⟨by rfl, ?_⟩) hH ?_
          · intro W hW
            obtain ⟨e0, e1, e2, e3⟩ := hW
            go_simp
            try with_reducible rfl
          try simp only [Act.put, List.setIfInBounds_toArray, List.set_cons_zero, List.set_cons_succ]
          refine take_at1 17 33 (v := .bool true) rfl rfl (by kernel_rfl) (by kernel_rfl) (by kernel_rfl) (fun _ _ _ h => h) (Or.inl ⟨by rfl, ?_⟩) hH ?_
          · intro W hW
            obtain ⟨e0, e1, e2, e3⟩ := hW
            go_simp
            try with_reducible rfl
          try simp only [Act.put, List.setIfInBounds_toArray, List.set_cons_zero, List.set_cons_succ]
          refine take_at1 18 34 (v := .bool true) rfl rfl (by kernel_rfl) (by kernel_rfl) (by kernel_rfl) (fun _ _ _ h => h) (Or.inl ⟨by rfl, ?_⟩) hH ?_
          · intro W hW
            obtain ⟨e0, e1, e2, e3⟩ := hW
            go_simp
            try with_reducible rfl
          try simp only [Act.put, List.setIfInBounds_toArray, List.set_cons_zero, List.set_cons_succ]
          refine take_at1 19 35 (v := ?_) rfl rfl (by kernel_rfl) (by kernel_rfl) (by kernel_rfl) (fun _ _ _ h => h) (Or.inl ⟨by rfl, ?_⟩) hH ?_
          rotate_left
          · intro W hW
            obtain ⟨e0, e1, e2, e3⟩ := hW
            go_simp
            try with_reducible rfl
          try simp only [Act.put, List.setIfInBounds_toArray, List.set_cons_zero, List.set_cons_succ]
          refine take_at1 20 36 (v := ?_) rfl rfl (by kernel_rfl) (by kernel_rfl) (by kernel_rfl) (fun _ _ _ h => h) (Or.inl ⟨by rfl, ?_⟩) hH ?_
          rotate_left
          · intro W hW
            obtain ⟨e0, e1, e2, e3⟩ := hW
            go_simp
            try with_reducible rfl
          try simp only [Act.put, List.setIfInBounds_toArray, List.set_cons_zero, List.set_cons_succ]
          refine take_at1 21 37 (v := ?_) rfl rfl (by kernel_rfl) (by kernel_rfl) (by kernel_rfl) (fun _ _ _ h => h) (Or.inl ⟨by rfl, ?_⟩) hH ?_
          rotate_left
          · intro W hW
            obtain ⟨e0, e1, e2, e3⟩ := hW
            go_simp
            try with_reducible rfl
          try simp only [Act.put, List.setIfInBounds_toArray, List.set_cons_zero, List.set_cons_succ]
          refine take_at1 22 38 (v := ?_) rfl rfl (by kernel_rfl) (by kernel_rfl) (by kernel_rfl) (fun _ _ _ h => h) (Or.inl ⟨by rfl, ?_⟩) hH ?_
          rotate_left
          · intro W hW
            obtain ⟨e0, e1, e2, e3⟩ := hW
            go_simp
            try with_reducible rfl
          try simp only [Act.put, List.setIfInBounds_toArray, List.set_cons_zero, List.set_cons_succ]
          refine take_at1 23 39 (v := ?_) rfl rfl (by kernel_rfl) (by kernel_rfl) (by kernel_rfl) (fun _ _ _ h => h) (Or.inl ⟨by rfl, ?_⟩) hH ?_
          rotate_left
          · intro W hW
            obtain ⟨e0, e1, e2, e3⟩ := hW
            go_simp
            try with_reducible rfl
          try simp only [Act.put, List.setIfInBounds_toArray, List.set_cons_zero, List.set_cons_succ]
          refine take_at1 24 40 (v := ?_) rfl rfl (by kernel_rfl) (by kernel_rfl) (by kernel_rfl) (fun _ _ _ h => h) (Or.inl ⟨by rfl, ?_⟩) hH ?_
          rotate_left
          · intro W hW
            obtain ⟨e0, e1, e2, e3⟩ := hW
            go_simp
            try with_reducible rfl
          try simp only [Act.put, List.setIfInBounds_toArray, List.set_cons_zero, List.set_cons_succ]
          refine take_at1 25 41 (v := .bool false) rfl rfl (by kernel_rfl) (by kernel_rfl) (by kernel_rfl) (fun _ _ _ h => h) (Or.inl ⟨by rfl, ?_⟩) hH ?_
          · intro W hW
            obtain ⟨e0, e1, e2, e3⟩ := hW
            go_simp
            try with_reducible rfl
          try simp only [Act.put, List.setIfInBounds_toArray, List.set_cons_zero, List.set_cons_succ]
          refine take_at1 26 42 (v := .bool false) rfl rfl (by kernel_rfl) (by kernel_rfl) (by kernel_rfl) (fun _ _ _ h => h) (Or.inl ⟨by rfl, ?_⟩) hH ?_
          · intro W hW
            obtain ⟨e0, e1, e2, e3⟩ := hW
            go_simp
            try with_reducible rfl
          try simp only [Act.put, List.setIfInBounds_toArray, List.set_cons_zero, List.set_cons_succ]
          refine wpAnyH_ready (rs := [27]) (by kernel_rfl) (by simp) ?_
          refine AllReadyH.cons rfl (fun K hK => ?_) AllReadyH.nil
          go_simp
          refine (may_no _).mono ?_; rintro e w9 ⟨rfl, rfl⟩
          exact ⟨rfl, .no HQ3.out D6.drew.b⟩
        · have t2 : ((ne : Int) == 0) = false := by simpa using hne0
          clear hc hne0
          refine wp_region_held_drew (S := fun W => W.cell? ⟨rb, 4, none⟩ = some (.int .i64 f) ∧ W.cell? ⟨rb, 3, none⟩ = some (.slice m.E ne m.ce) ∧ W.cell? ⟨w5.heap.size, 0, none⟩ = some (.string pn) ∧ W.cell? ⟨rb, 5, none⟩ = some (.string m.s.name)) (by kernel_rfl) ⟨k4, k3, kp, k5⟩ (fun hH => ?_)
          refine take_at1 0 16 (v := ?_) rfl rfl (by kernel_rfl) (by kernel_rfl) (by kernel_rfl) (fun _ _ _ h => h) (Or.inl ⟨by rfl, ?_⟩) hH ?_
          rotate_left
          · intro W hW
            obtain ⟨e0, e1, e2, e3⟩ := hW
            go_simp
            try with_reducible rfl
          try simp only [Act.put, List.setIfInBounds_toArray, List.set_cons_zero, List.set_cons_succ]
          refine take_at1 1 17 (v := ?_) rfl rfl (by kernel_rfl) (by kernel_rfl) (by kernel_rfl) (fun _ _ _ h => h) (Or.inl ⟨by rfl, ?_⟩) hH ?_
          rotate_left
          · intro W hW
            obtain ⟨e0, e1, e2, e3⟩ := hW
            go_simp
            try with_reducible rfl
          try simp only [Act.put, List.setIfInBounds_toArray, List.set_cons_zero, List.set_cons_succ]
          refine take_at1 2 18 (v := ?_) rfl rfl (by kernel_rfl) (by kernel_rfl) (by kernel_rfl) (fun _ _ _ h => h) (Or.inl ⟨by rfl, ?_⟩) hH ?_
          rotate_left
          · intro W hW
            obtain ⟨e0, e1, e2, e3⟩ := hW
            go_simp
            try with_reducible rfl
          try simp only [Act.put, List.setIfInBounds_toArray, List.set_cons_zero, List.set_cons_succ]
          refine take_at1 3 19 (v := ?_) rfl rfl (by kernel_rfl) (by kernel_rfl) (by kernel_rfl) (fun _ _ _ h => h) (Or.inl ⟨by rfl, ?_⟩) hH ?_
          rotate_left
          · intro W hW
            obtain ⟨e0, e1, e2, e3⟩ := hW
            go_simp
            try with_reducible rfl
          try simp only [Act.put, List.setIfInBounds_toArray, List.set_cons_zero, List.set_cons_succ]
          refine take_at1 4 20 (v := .bool true) rfl rfl (by kernel_rfl) (by kernel_rfl) (by kernel_rfl) (fun _ _ _ h => h) (Or.inl ⟨by rfl, ?_⟩) hH ?_
          · intro W hW
            obtain ⟨e0, e1, e2, e3⟩ := hW
            go_simp
            try with_reducible rfl
          try simp only [Act.put, List.setIfInBounds_toArray, List.set_cons_zero, List.set_cons_succ]
          refine take_at1 5 21 (v := .bool true) rfl rfl (by kernel_rfl) (by kernel_rfl) (by kernel_rfl) (fun _ _ _ h => h) (Or.inl ⟨by rfl, ?_⟩) hH ?_
          · intro W hW
            obtain ⟨e0, e1, e2, e3⟩ := hW
            go_simp
            try with_reducible rfl
          try simp only [Act.put, List.setIfInBounds_toArray, List.set_cons_zero, List.set_cons_succ]
          refine take_at1 6 22 (v := ?_) rfl rfl (by kernel_rfl) (by kernel_rfl) (by kernel_rfl) (fun _ _ _ h => h) (Or.inl ⟨by rfl, ?_⟩) hH ?_
          rotate_left
          · intro W hW
            obtain ⟨e0, e1, e2, e3⟩ := hW
            go_simp
            try with_reducible rfl
          try simp only [Act.put, List.setIfInBounds_toArray, List.set_cons_zero, List.set_cons_succ]
          refine take_at1 7 23 (v := .bool true) rfl rfl (by kernel_rfl) (by kernel_rfl) (by kernel_rfl) (fun _ _ _ h => h) (Or.inl ⟨by rfl, ?_⟩) hH ?_
          · intro W hW
            obtain ⟨e0, e1, e2, e3⟩ := hW
            go_simp
            try with_reducible rfl
          try simp only [Act.put, List.setIfInBounds_toArray, List.set_cons_zero, List.set_cons_succ]
          refine take_at1 8 24 (v := .bool true) rfl rfl (by kernel_rfl) (by kernel_rfl) (by kernel_rfl) (fun _ _ _ h => h) (Or.inl ⟨by rfl, ?_⟩) hH ?_
          · intro W hW
            obtain ⟨e0, e1, e2, e3⟩ := hW
            go_simp
            try with_reducible rfl
          try simp only [Act.put, List.setIfInBounds_toArray, List.set_cons_zero, List.set_cons_succ]
          refine take_at1 9 25 (v := .bool true) rfl rfl (by kernel_rfl) (by kernel_rfl) (by kernel_rfl) (fun _ _ _ h => h) (Or.inl ⟨by rfl, ?_⟩) hH ?_
          · intro W hW
            obtain ⟨e0, e1, e2, e3⟩ := hW
            go_simp
            try with_reducible rfl
          try simp only [Act.put, List.setIfInBounds_toArray, List.set_cons_zero, List.set_cons_succ]
          refine take_at1 10 26 (v := ?_) rfl rfl (by kernel_rfl) (by kernel_rfl) (by kernel_rfl) (fun _ _ _ h => h) (Or.inl ⟨by rfl, ?_⟩) hH ?_
          rotate_left
          · intro W hW
            obtain ⟨e0, e1, e2, e3⟩ := hW
            go_simp
            try with_reducible rfl
          try simp only [Act.put, List.setIfInBounds_toArray, List.set_cons_zero, List.set_cons_succ]
          refine take_at1 11 27 (v := ?_) rfl rfl (by kernel_rfl) (by kernel_rfl) (by kernel_rfl) (fun _ _ _ h => h) (Or.inl ⟨by rfl, ?_⟩) hH ?_
          rotate_left
          · intro W hW
            obtain ⟨e0, e1, e2, e3⟩ := hW
            go_simp
            try with_reducible rfl
          try simp only [Act.put, List.setIfInBounds_toArray, List.set_cons_zero, List.set_cons_succ]
          refine take_at1 12 28 (v := ?_) rfl rfl (by kernel_rfl) (by kernel_rfl) (by kernel_rfl) (fun _ _ _ h => h) (Or.inl ⟨by rfl, ?_⟩) hH ?_
          rotate_left
          · intro W hW
            obtain ⟨e0, e1, e2, e3⟩ := hW
            go_simp
            try with_reducible rfl
          try simp only [Act.put, List.setIfInBounds_toArray, List.set_cons_zero, List.set_cons_succ]
          refine take_at1 13 29 (v := ?_) rfl rfl (by kernel_rfl) (by kernel_rfl) (by kernel_rfl) (fun _ _ _ h => h) (Or.inl ⟨by rfl, ?_⟩) hH ?_
          rotate_left
          · intro W hW
            obtain ⟨e0, e1, e2, e3⟩ := hW
            go_simp
            try with_reducible rfl
          try simp only [Act.put, List.setIfInBounds_toArray, List.set_cons_zero, List.set_cons_succ]
          refine take_at1 14 30 (v := ?_) rfl rfl (by kernel_rfl) (by kernel_rfl) (by kernel_rfl) (fun _ _ _ h => h) (Or.inl ⟨by rfl, ?_⟩) hH ?_
          rotate_left
          · intro W hW
            obtain ⟨e0, e1, e2, e3⟩ := hW
            go_simp
            try with_reducible rfl
          try simp only [Act.put, List.setIfInBounds_toArray, List.set_cons_zero, List.set_cons_succ]
          refine take_at1 15 31 (v := ?_) rfl rfl (by kernel_rfl) (by kernel_rfl) (by kernel_rfl) (fun _ _ _ h => h) (Or.inl ⟨by rfl, ?_⟩) hH ?_
          rotate_left
          · intro W hW
            obtain ⟨e0, e1, e2, e3⟩ := hW
            go_simp
            try with_reducible rfl
          try simp only [Act.put, List.setIfInBounds_toArray, List.set_cons_zero, List.set_cons_succ]
          refine take_at1 16 32 (v := .bool false) rfl rfl (by kernel_rfl) (by kernel_rfl) (by kernel_rfl) (fun _ _ _ h => h) (Or.inl ⟨by rfl, ?_⟩) hH ?_
          · intro W hW
            obtain ⟨e0, e1, e2, e3⟩ := hW
            go_simp
            try with_reducible rfl
          try simp only [Act.put, List.setIfInBounds_toArray, List.set_cons_zero, List.set_cons_succ]
          refine take_at1 17 33 (v := .bool false) rfl rfl (by kernel_rfl) (by kernel_rfl) (by kernel_rfl) (fun _ _ _ h => h) (Or.inl ⟨by rfl, ?_⟩) hH ?_
          · intro W hW
            obtain ⟨e0, e1, e2, e3⟩ := hW
            go_simp
            try with_reducible rfl
          try simp only [Act.put, List.setIfInBounds_toArray, List.set_cons_zero, List.set_cons_succ]
          refine take_at1 18 34 (v := .bool false) rfl rfl (by kernel_rfl) (by kernel_rfl) (by kernel_rfl) (fun _ _ _ h => h) (Or.inl ⟨by rfl, ?_⟩) hH ?_
          · intro W hW
            obtain ⟨e0, e1, e2, e3⟩ := hW
            go_simp
            try with_reducible rfl
          try simp only [Act.put, List.setIfInBounds_toArray, List.set_cons_zero, List.set_cons_succ]
          refine take_at1 19 35 rfl rfl (by kernel_rfl) (by kernel_rfl) (by kernel_rfl) (fun _ _ _ h => h) (Or.inr ⟨by rfl, rfl⟩) hH ?_
          try simp only [Act.put, List.setIfInBounds_toArray, List.set_cons_zero, List.set_cons_succ]
          refine take_at1 20 36 rfl rfl (by kernel_rfl) (by kernel_rfl) (by kernel_rfl) (fun _ _ _ h => h) (Or.inr ⟨by rfl, rfl⟩) hH ?_
          try simp only [Act.put, List.setIfInBounds_toArray, List.set_cons_zero, List.set_cons_succ]
          refine take_at1 21 37 rfl rfl (by kernel_rfl) (by kernel_rfl) (by kernel_rfl) (fun _ _ _ h => h) (Or.inr ⟨by rfl, rfl⟩) hH ?_
          try simp only [Act.put, List.setIfInBounds_toArray, List.set_cons_zero, List.set_cons_succ]
          refine take_at1 22 38 rfl rfl (by kernel_rfl) (by kernel_rfl) (by kernel_rfl) (fun _ _ _ h => h) (Or.inr ⟨by rfl, rfl⟩) hH ?_
          try simp only [Act.put, List.setIfInBounds_toArray, List.set_cons_zero, List.set_cons_succ]
          refine take_at1 23 39 rfl rfl (by kernel_rfl) (by kernel_rfl) (by kernel_rfl) (fun _ _ _ h => h) (Or.inr ⟨by rfl, rfl⟩) hH ?_
          try simp only [Act.put, List.setIfInBounds_toArray, List.set_cons_zero, List.set_cons_succ]
          refine take_at1 24 40 rfl rfl (by kernel_rfl) (by kernel_rfl) (by kernel_rfl) (fun _ _ _ h => h) (Or.inr ⟨by rfl, rfl⟩) hH ?_
          try simp only [Act.put, List.setIfInBounds_toArray, List.set_cons_zero, List.set_cons_succ]
          refine take_at1 25 41 rfl rfl (by kernel_rfl) (by kernel_rfl) (by kernel_rfl) (fun _ _ _ h => h) (Or.inr ⟨by rfl, rfl⟩) hH ?_
          try simp only [Act.put, List.setIfInBounds_toArray, List.set_cons_zero, List.set_cons_succ]
          refine take_at1 26 42 (v := .bool false) rfl rfl (by kernel_rfl) (by kernel_rfl) (by kernel_rfl) (fun _ _ _ h => h) (Or.inl ⟨by rfl, ?_⟩) hH ?_
          · intro W hW
            obtain ⟨e0, e1, e2, e3⟩ := hW
            go_simp
            try with_reducible rfl
          try simp only [Act.put, List.setIfInBounds_toArray, List.set_cons_zero, List.set_cons_succ]
          refine wpAnyH_ready (rs := [27]) (by kernel_rfl) (by simp) ?_
          refine AllReadyH.cons rfl (fun K hK => ?_) AllReadyH.nil
          go_simp
          refine (may_no _).mono ?_; rintro e w9 ⟨rfl, rfl⟩
          exact ⟨rfl, .no HQ3.out D6.drew.b⟩
      · have t1 : (pe == 0) = false := by simpa using hpe0
        clear hc hpe0
        refine wp_region_held_drew (S := fun W => W.cell? ⟨rb, 4, none⟩ = some (.int .i64 f) ∧ W.cell? ⟨rb, 3, none⟩ = some (.slice m.E ne m.ce) ∧ W.cell? ⟨w5.heap.size, 0, none⟩ = some (.string pn) ∧ W.cell? ⟨rb, 5, none⟩ = some (.string m.s.name)) (by kernel_rfl) ⟨k4, k3, kp, k5⟩ (fun hH => ?_)
        refine take_at1 0 16 (v := ?_) rfl rfl (by kernel_rfl) (by kernel_rfl) (by kernel_rfl) (fun _ _ _ h => h) (Or.inl ⟨by rfl, ?_⟩) hH ?_
        rotate_left
        · intro W hW
          obtain ⟨e0, e1, e2, e3⟩ := hW
          go_simp
          try with_reducible rfl
        try simp only [Act.put, List.setIfInBounds_toArray, List.set_cons_zero, List.set_cons_succ]
        refine take_at1 1 17 (v := ?_) rfl rfl (by kernel_rfl) (by kernel_rfl) (by kernel_rfl) (fun _ _ _ h => h) (Or.inl ⟨by rfl, ?_⟩) hH ?_
        rotate_left
        · intro W hW
          obtain ⟨e0, e1, e2, e3⟩ := hW
          go_simp
          try with_reducible rfl
        try simp only [Act.put, List.setIfInBounds_toArray, List.set_cons_zero, List.set_cons_succ]
        refine take_at1 2 18 (v := ?_) rfl rfl (by kernel_rfl) (by kernel_rfl) (by kernel_rfl) (fun _ _ _ h => h) (Or.inl ⟨by rfl, ?_⟩) hH ?_
        rotate_left
        · intro W hW
          obtain ⟨e0, e1, e2, e3⟩ := hW
          go_simp
          try with_reducible rfl
        try simp only [Act.put, List.setIfInBounds_toArray, List.set_cons_zero, List.set_cons_succ]
        refine take_at1 3 19 (v := ?_) rfl rfl (by kernel_rfl) (by kernel_rfl) (by kernel_rfl) (fun _ _ _ h => h) (Or.inl ⟨by rfl, ?_⟩) hH ?_
        rotate_left
        · intro W hW
          obtain ⟨e0, e1, e2, e3⟩ := hW
          go_simp
          try with_reducible rfl
        try simp only [Act.put, List.setIfInBounds_toArray, List.set_cons_zero, List.set_cons_succ]
        refine take_at1 4 20 (v := .bool true) rfl rfl (by kernel_rfl) (by kernel_rfl) (by kernel_rfl) (fun _ _ _ h => h) (Or.inl ⟨by rfl, ?_⟩) hH ?_
        · intro W hW
          obtain ⟨e0, e1, e2, e3⟩ := hW
          go_simp
          try with_reducible rfl
        try simp only [Act.put, List.setIfInBounds_toArray, List.set_cons_zero, List.set_cons_succ]
        refine take_at1 5 21 (v := .bool true) rfl rfl (by kernel_rfl) (by kernel_rfl) (by kernel_rfl) (fun _ _ _ h => h) (Or.inl ⟨by rfl, ?_⟩) hH ?_
        · intro W hW
          obtain ⟨e0, e1, e2, e3⟩ := hW
          go_simp
          try with_reducible rfl
        try simp only [Act.put, List.setIfInBounds_toArray, List.set_cons_zero, List.set_cons_succ]
        refine take_at1 6 22 (v := ?_) rfl rfl (by kernel_rfl) (by kernel_rfl) (by kernel_rfl) (fun _ _ _ h => h) (Or.inl ⟨by rfl, ?_⟩) hH ?_
        rotate_left
        · intro W hW
          obtain ⟨e0, e1, e2, e3⟩ := hW
          go_simp
          try with_reducible rfl
        try simp only [Act.put, List.setIfInBounds_toArray, List.set_cons_zero, List.set_cons_succ]
        refine take_at1 7 23 (v := .bool false) rfl rfl (by kernel_rfl) (by kernel_rfl) (by kernel_rfl) (fun _ _ _ h => h) (Or.inl ⟨by rfl, ?_⟩) hH ?_
        · intro W hW
          obtain ⟨e0, e1, e2, e3⟩ := hW
          go_simp
          try with_reducible rfl
        try simp only [Act.put, List.setIfInBounds_toArray, List.set_cons_zero, List.set_cons_succ]
        refine take_at1 8 24 (v := .bool false) rfl rfl (by kernel_rfl) (by kernel_rfl) (by kernel_rfl) (fun _ _ _ h => h) (Or.inl ⟨by rfl, ?_⟩) hH ?_
        · intro W hW
          obtain ⟨e0, e1, e2, e3⟩ := hW
          go_simp
          try with_reducible rfl
        try simp only [Act.put, List.setIfInBounds_toArray, List.set_cons_zero, List.set_cons_succ]
        refine take_at1 9 25 (v := .bool false) rfl rfl (by kernel_rfl) (by kernel_rfl) (by kernel_rfl) (fun _ _ _ h => h) (Or.inl ⟨by rfl, ?_⟩) hH ?_
        · intro W hW
          obtain ⟨e0, e1, e2, e3⟩ := hW
          go_simp
          try with_reducible rfl
        try simp only [Act.put, List.setIfInBounds_toArray, List.set_cons_zero, List.set_cons_succ]
        refine take_at1 10 26 rfl rfl (by kernel_rfl) (by kernel_rfl) (by kernel_rfl) (fun _ _ _ h => h) (Or.inr ⟨by rfl, rfl⟩) hH ?_
        try simp only [Act.put, List.setIfInBounds_toArray, List.set_cons_zero, List.set_cons_succ]
        refine take_at1 11 27 rfl rfl (by kernel_rfl) (by kernel_rfl) (by kernel_rfl) (fun _ _ _ h => h) (Or.inr ⟨by rfl, rfl⟩) hH ?_
        try simp only [Act.put, List.setIfInBounds_toArray, List.set_cons_zero, List.set_cons_succ]
        refine take_at1 12 28 rfl rfl (by kernel_rfl) (by kernel_rfl) (by kernel_rfl) (fun _ _ _ h => h) (Or.inr ⟨by rfl, rfl⟩) hH ?_
        try simp only [Act.put, List.setIfInBounds_toArray, List.set_cons_zero, List.set_cons_succ]
        refine take_at1 13 29 rfl rfl (by kernel_rfl) (by kernel_rfl) (by kernel_rfl) (fun _ _ _ h => h) (Or.inr ⟨by rfl, rfl⟩) hH ?_
        try simp only [Act.put, List.setIfInBounds_toArray, List.set_cons_zero, List.set_cons_succ]
        refine take_at1 14 30 rfl rfl (by kernel_rfl) (by kernel_rfl) (by kernel_rfl) (fun _ _ _ h => h) (Or.inr ⟨by rfl, rfl⟩) hH ?_
        try simp only [Act.put, List.setIfInBounds_toArray, List.set_cons_zero, List.set_cons_succ]
        refine take_at1 15 31 rfl rfl (by kernel_rfl) (by kernel_rfl) (by kernel_rfl) (fun _ _ _ h => h) (Or.inr ⟨by rfl, rfl⟩) hH ?_
        try simp only [Act.put, List.setIfInBounds_toArray, List.set_cons_zero, List.set_cons_succ]
        refine take_at1 16 32 rfl rfl (by kernel_rfl) (by kernel_rfl) (by kernel_rfl) (fun _ _ _ h => h) (Or.inr ⟨by rfl, rfl⟩) hH ?_
        try simp only [Act.put, List.setIfInBounds_toArray, List.set_cons_zero, List.set_cons_succ]
        refine take_at1 17 33 (v := .bool false) rfl rfl (by kernel_rfl) (by kernel_rfl) (by kernel_rfl) (fun _ _ _ h => h) (Or.inl ⟨by rfl, ?_⟩) hH ?_
        · intro W hW
          obtain ⟨e0, e1, e2, e3⟩ := hW
          go_simp
          try with_reducible rfl
        try simp only [Act.put, List.setIfInBounds_toArray, List.set_cons_zero, List.set_cons_succ]
        refine take_at1 18 34 (v := .bool false) rfl rfl (by kernel_rfl) (by kernel_rfl) (by kernel_rfl) (fun _ _ _ h => h) (Or.inl ⟨by rfl, ?_⟩) hH ?_
        · intro W hW
          obtain ⟨e0, e1, e2, e3⟩ := hW
          go_simp
          try with_reducible rfl
        try simp only [Act.put, List.setIfInBounds_toArray, List.set_cons_zero, List.set_cons_succ]
        refine take_at1 19 35 rfl rfl (by kernel_rfl) (by kernel_rfl) (by kernel_rfl) (fun _ _ _ h => h) (Or.inr ⟨by rfl, rfl⟩) hH ?_
        try simp only [Act.put, List.setIfInBounds_toArray, List.set_cons_zero, List.set_cons_succ]
        refine take_at1 20 36 rfl rfl (by kernel_rfl) (by kernel_rfl) (by kernel_rfl) (fun _ _ _ h => h) (Or.inr ⟨by rfl, rfl⟩) hH ?_
        try simp only [Act.put, List.setIfInBounds_toArray, List.set_cons_zero, List.set_cons_succ]
        refine take_at1 21 37 rfl rfl (by kernel_rfl) (by kernel_rfl) (by kernel_rfl) (fun _ _ _ h => h) (Or.inr ⟨by rfl, rfl⟩) hH ?_
        try simp only [Act.put, List.setIfInBounds_toArray, List.set_cons_zero, List.set_cons_succ]
        refine take_at1 22 38 rfl rfl (by kernel_rfl) (by kernel_rfl) (by kernel_rfl) (fun _ _ _ h => h) (Or.inr ⟨by rfl, rfl⟩) hH ?_
        try simp only [Act.put, List.setIfInBounds_toArray, List.set_cons_zero, List.set_cons_succ]
        refine take_at1 23 39 rfl rfl (by kernel_rfl) (by kernel_rfl) (by kernel_rfl) (fun _ _ _ h => h) (Or.inr ⟨by rfl, rfl⟩) hH ?_
        try simp only [Act.put, List.setIfInBounds_toArray, List.set_cons_zero, List.set_cons_succ]
        refine take_at1 24 40 rfl rfl (by kernel_rfl) (by kernel_rfl) (by kernel_rfl) (fun _ _ _ h => h) (Or.inr ⟨by rfl, rfl⟩) hH ?_
        try simp only [Act.put, List.setIfInBounds_toArray, List.set_cons_zero, List.set_cons_succ]
        refine take_at1 25 41 rfl rfl (by kernel_rfl) (by kernel_rfl) (by kernel_rfl) (fun _ _ _ h => h) (Or.inr ⟨by rfl, rfl⟩) hH ?_
        try simp only [Act.put, List.setIfInBounds_toArray, List.set_cons_zero, List.set_cons_succ]
        refine take_at1 26 42 (v := .bool false) rfl rfl (by kernel_rfl) (by kernel_rfl) (by kernel_rfl) (fun _ _ _ h => h) (Or.inl ⟨by rfl, ?_⟩) hH ?_
        · intro W hW
          obtain ⟨e0, e1, e2, e3⟩ := hW
          go_simp
          try with_reducible rfl
        try simp only [Act.put, List.setIfInBounds_toArray, List.set_cons_zero, List.set_cons_succ]
        refine wpAnyH_ready (rs := [27]) (by kernel_rfl) (by simp) ?_
        refine AllReadyH.cons rfl (fun K hK => ?_) AllReadyH.nil
        go_simp
        refine (may_no _).mono ?_; rintro e w9 ⟨rfl, rfl⟩
        exact ⟨rfl, .no HQ3.out D6.drew.b⟩
    · obtain rfl : f = 0 := by omega
      rw [show ((0 : Nat) : Int) = 0 from rfl] at k4
      clear hf0 hc
      refine wp_region_held_drew (S := fun W => W.cell? ⟨rb, 4, none⟩ = some (.int .i64 0) ∧ W.cell? ⟨rb, 3, none⟩ = some (.slice m.E ne m.ce) ∧ W.cell? ⟨w5.heap.size, 0, none⟩ = some (.string pn) ∧ W.cell? ⟨rb, 5, none⟩ = some (.string m.s.name)) (by kernel_rfl) ⟨k4, k3, kp, k5⟩ (fun hH => ?_)
      refine take_at1 0 16 (v := ?_) rfl rfl (by kernel_rfl) (by kernel_rfl) (by kernel_rfl) (fun _ _ _ h => h) (Or.inl ⟨by rfl, ?_⟩) hH ?_
      rotate_left
      · intro W hW
        obtain ⟨e0, e1, e2, e3⟩ := hW
        go_simp
        try with_reducible rfl
      try simp only [Act.put, List.setIfInBounds_toArray, List.set_cons_zero, List.set_cons_succ]
      refine take_at1 1 17 (v := ?_) rfl rfl (by kernel_rfl) (by kernel_rfl) (by kernel_rfl) (fun _ _ _ h => h) (Or.inl ⟨by rfl, ?_⟩) hH ?_
      rotate_left
      · intro W hW
        obtain ⟨e0, e1, e2, e3⟩ := hW
        go_simp
        try with_reducible rfl
      try simp only [Act.put, List.setIfInBounds_toArray, List.set_cons_zero, List.set_cons_succ]
      refine take_at1 2 18 (v := ?_) rfl rfl (by kernel_rfl) (by kernel_rfl) (by kernel_rfl) (fun _ _ _ h => h) (Or.inl ⟨by rfl, ?_⟩) hH ?_
      rotate_left
      · intro W hW
        obtain ⟨e0, e1, e2, e3⟩ := hW
        go_simp
        try with_reducible rfl
      try simp only [Act.put, List.setIfInBounds_toArray, List.set_cons_zero, List.set_cons_succ]
      refine take_at1 3 19 (v := ?_) rfl rfl (by kernel_rfl) (by kernel_rfl) (by kernel_rfl) (fun _ _ _ h => h) (Or.inl ⟨by rfl, ?_⟩) hH ?_
      rotate_left
      · intro W hW
        obtain ⟨e0, e1, e2, e3⟩ := hW
        go_simp
        try with_reducible rfl
      try simp only [Act.put, List.setIfInBounds_toArray, List.set_cons_zero, List.set_cons_succ]
      refine take_at1 4 20 (v := .bool false) rfl rfl (by kernel_rfl) (by kernel_rfl) (by kernel_rfl) (fun _ _ _ h => h) (Or.inl ⟨by rfl, ?_⟩) hH ?_
      · intro W hW
        obtain ⟨e0, e1, e2, e3⟩ := hW
        go_simp
        try with_reducible rfl
      try simp only [Act.put, List.setIfInBounds_toArray, List.set_cons_zero, List.set_cons_succ]
      refine take_at1 5 21 (v := .bool false) rfl rfl (by kernel_rfl) (by kernel_rfl) (by kernel_rfl) (fun _ _ _ h => h) (Or.inl ⟨by rfl, ?_⟩) hH ?_
      · intro W hW
        obtain ⟨e0, e1, e2, e3⟩ := hW
        go_simp
        try with_reducible rfl
      try simp only [Act.put, List.setIfInBounds_toArray, List.set_cons_zero, List.set_cons_succ]
      refine take_at1 6 22 rfl rfl (by kernel_rfl) (by kernel_rfl) (by kernel_rfl) (fun _ _ _ h => h) (Or.inr ⟨by rfl, rfl⟩) hH ?_
      try simp only [Act.put, List.setIfInBounds_toArray, List.set_cons_zero, List.set_cons_succ]
      refine take_at1 7 23 rfl rfl (by kernel_rfl) (by kernel_rfl) (by kernel_rfl) (fun _ _ _ h => h) (Or.inr ⟨by rfl, rfl⟩) hH ?_
      try simp only [Act.put, List.setIfInBounds_toArray, List.set_cons_zero, List.set_cons_succ]
      refine take_at1 8 24 (v := .bool false) rfl rfl (by kernel_rfl) (by kernel_rfl) (by kernel_rfl) (fun _ _ _ h => h) (Or.inl ⟨by rfl, ?_⟩) hH ?_
      · intro W hW
        obtain ⟨e0, e1, e2, e3⟩ := hW
        go_simp
        try with_reducible rfl
      try simp only [Act.put, List.setIfInBounds_toArray, List.set_cons_zero, List.set_cons_succ]
      refine take_at1 9 25 (v := .bool false) rfl rfl (by kernel_rfl) (by kernel_rfl) (by kernel_rfl) (fun _ _ _ h => h) (Or.inl ⟨by rfl, ?_⟩) hH ?_
      · intro W hW
        obtain ⟨e0, e1, e2, e3⟩ := hW
        go_simp
        try with_reducible rfl
      try simp only [Act.put, List.setIfInBounds_toArray, List.set_cons_zero, List.set_cons_succ]
      refine take_at1 10 26 rfl rfl (by kernel_rfl) (by kernel_rfl) (by kernel_rfl) (fun _ _ _ h => h) (Or.inr ⟨by rfl, rfl⟩) hH ?_
      try simp only [Act.put, List.setIfInBounds_toArray, List.set_cons_zero, List.set_cons_succ]
      refine take_at1 11 27 rfl rfl (by kernel_rfl) (by kernel_rfl) (by kernel_rfl) (fun _ _ _ h => h) (Or.inr ⟨by rfl, rfl⟩) hH ?_
      try simp only [Act.put, List.setIfInBounds_toArray, List.set_cons_zero, List.set_cons_succ]
      refine take_at1 12 28 rfl rfl (by kernel_rfl) (by kernel_rfl) (by kernel_rfl) (fun _ _ _ h => h) (Or.inr ⟨by rfl, rfl⟩) hH ?_
      try simp only [Act.put, List.setIfInBounds_toArray, List.set_cons_zero, List.set_cons_succ]
      refine take_at1 13 29 rfl rfl (by kernel_rfl) (by kernel_rfl) (by kernel_rfl) (fun _ _ _ h => h) (Or.inr ⟨by rfl, rfl⟩) hH ?_
      try simp only [Act.put, List.setIfInBounds_toArray, List.set_cons_zero, List.set_cons_succ]
      refine take_at1 14 30 rfl rfl (by kernel_rfl) (by kernel_rfl) (by kernel_rfl) (fun _ _ _ h => h) (Or.inr ⟨by rfl, rfl⟩) hH ?_
      try simp only [Act.put, List.setIfInBounds_toArray, List.set_cons_zero, List.set_cons_succ]
      refine take_at1 15 31 rfl rfl (by kernel_rfl) (by kernel_rfl) (by kernel_rfl) (fun _ _ _ h => h) (Or.inr ⟨by rfl, rfl⟩) hH ?_
      try simp only [Act.put, List.setIfInBounds_toArray, List.set_cons_zero, List.set_cons_succ]
      refine take_at1 16 32 rfl rfl (by kernel_rfl) (by kernel_rfl) (by kernel_rfl) (fun _ _ _ h => h) (Or.inr ⟨by rfl, rfl⟩) hH ?_
      try simp only [Act.put, List.setIfInBounds_toArray, List.set_cons_zero, List.set_cons_succ]
      refine take_at1 17 33 (v := .bool false) rfl rfl (by kernel_rfl) (by kernel_rfl) (by kernel_rfl) (fun _ _ _ h => h) (Or.inl ⟨by rfl, ?_⟩) hH ?_
      · intro W hW
        obtain ⟨e0, e1, e2, e3⟩ := hW
        go_simp
        try with_reducible rfl
      try simp only [Act.put, List.setIfInBounds_toArray, List.set_cons_zero, List.set_cons_succ]
      refine take_at1 18 34 (v := .bool false) rfl rfl (by kernel_rfl) (by kernel_rfl) (by kernel_rfl) (fun _ _ _ h => h) (Or.inl ⟨by rfl, ?_⟩) hH ?_
      · intro W hW
        obtain ⟨e0, e1, e2, e3⟩ := hW
        go_simp
        try with_reducible rfl
      try simp only [Act.put, List.setIfInBounds_toArray, List.set_cons_zero, List.set_cons_succ]
      refine take_at1 19 35 rfl rfl (by kernel_rfl) (by kernel_rfl) (by kernel_rfl) (fun _ _ _ h => h) (Or.inr ⟨by rfl, rfl⟩) hH ?_
      try simp only [Act.put, List.setIfInBounds_toArray, List.set_cons_zero, List.set_cons_succ]
      refine take_at1 20 36 rfl rfl (by kernel_rfl) (by kernel_rfl) (by kernel_rfl) (fun _ _ _ h => h) (Or.inr ⟨by rfl, rfl⟩) hH ?_
      try simp only [Act.put, List.setIfInBounds_toArray, List.set_cons_zero, List.set_cons_succ]
      refine take_at1 21 37 rfl rfl (by kernel_rfl) (by kernel_rfl) (by kernel_rfl) (fun _ _ _ h => h) (Or.inr ⟨by rfl, rfl⟩) hH ?_
      try simp only [Act.put, List.setIfInBounds_toArray, List.set_cons_zero, List.set_cons_succ]
      refine take_at1 22 38 rfl rfl (by kernel_rfl) (by kernel_rfl) (by kernel_rfl) (fun _ _ _ h => h) (Or.inr ⟨by rfl, rfl⟩) hH ?_
      try simp only [Act.put, List.setIfInBounds_toArray, List.set_cons_zero, List.set_cons_succ]
      refine take_at1 23 39 rfl rfl (by kernel_rfl) (by kernel_rfl) (by kernel_rfl) (fun _ _ _ h => h) (Or.inr ⟨by rfl, rfl⟩) hH ?_
      try simp only [Act.put, List.setIfInBounds_toArray, List.set_cons_zero, List.set_cons_succ]
      refine take_at1 24 40 rfl rfl (by kernel_rfl) (by kernel_rfl) (by kernel_rfl) (fun _ _ _ h => h) (Or.inr ⟨by rfl, rfl⟩) hH ?_
      try simp only [Act.put, List.setIfInBounds_toArray, List.set_cons_zero, List.set_cons_succ]
      refine take_at1 25 41 rfl rfl (by kernel_rfl) (by kernel_rfl) (by kernel_rfl) (fun _ _ _ h => h) (Or.inr ⟨by rfl, rfl⟩) hH ?_
      try simp only [Act.put, List.setIfInBounds_toArray, List.set_cons_zero, List.set_cons_succ]
      refine take_at1 26 42 (v := .bool false) rfl rfl (by kernel_rfl) (by kernel_rfl) (by kernel_rfl) (fun _ _ _ h => h) (Or.inl ⟨by rfl, ?_⟩) hH ?_
      · intro W hW
        obtain ⟨e0, e1, e2, e3⟩ := hW
        go_simp
        try with_reducible rfl
      try simp only [Act.put, List.setIfInBounds_toArray, List.set_cons_zero, List.set_cons_succ]
      refine wpAnyH_ready (rs := [27]) (by kernel_rfl) (by simp) ?_
      refine AllReadyH.cons rfl (fun K hK => ?_) AllReadyH.nil
      go_simp
      refine (may_no _).mono ?_; rintro e w9 ⟨rfl, rfl⟩
      exact ⟨rfl, .no HQ3.out D6.drew.b⟩
end Go.Proofs.YtnieminnnkbneaaGreat
