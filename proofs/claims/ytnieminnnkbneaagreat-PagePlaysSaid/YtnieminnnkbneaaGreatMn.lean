/- Walk of page.reader.page. -/
import Derived.Test.YtnieminnnkbneaaGreatRdm
import Derived.Maps.Own
import Derived.Deep.RegionLaw
namespace Go.Proofs.YtnieminnnkbneaaGreat
open Go.RowKit Go.ChangeMaps

theorem key8 {P : Program} {key : TypeId} (hk : P.underlying key = some (.int .u8)) (k : Int) (h0 : 0 ≤ k) (h1 : k < 256) : keyOf P key (.int .u8 k) = some (.int .u8 k) := by
 have hw : (Lit.int .u8 k).wf = true := by simp [Lit.wf, IntKind.min, IntKind.max, IntKind.signed, IntKind.bits]; omega
 simp [keyOf, hk, mapKey, hw]

theorem run_insert8 {P : Program} {w : World} {t key elem : TypeId} (ht : P.underlying t = some (.map key elem)) (hk : P.underlying key = some (.int .u8)) {b : Nat} {es : Array MapEntry} {clock : Nat} (hb : w.heap[b]? = some (.map es clock)) (k : Int) (h0 : 0 ≤ k) (h1 : k < 256) (v : Value)
  (hn : Instr.findNow (.int .u8) (.int .u8 k) es.toList 0 = some none) : (Instr.mapUpdate t (.map (some b)) (.int .u8 k) v).run P w = .ok () (setBlock w b (.map (es.push ⟨.int .u8 k, v, clock⟩) (clock + 1))) := by
 have hc := (Maps.int_keyed hk).check w false (key8 hk k h0 h1)
 have hf : (Instr.findKey key (.int .u8 k) es.toList).run P w = .ok none w := by
  simp [Instr.findKey, run_underlying hk, hn]
 simp [Instr.mapUpdate, run_underlying ht, MapKept.run_getObj_map hb, hc, hf, MapKept.run_setObj_map _ hb, Result.andThen, setBlock]

theorem run_lookup8 {P : Program} {w : World} {t key elem : TypeId} (ht : P.underlying t = some (.map key elem)) (hk : P.underlying key = some (.int .u8)) {b : Nat} {es : Array MapEntry} {clock : Nat} (hb : w.heap[b]? = some (.map es clock)) (k : Int) (h0 : 0 ≤ k) (h1 : k < 256) (z : Value) (hz : (zeroValue elem).run P w = .ok z w)
  (q : Option (Nat × Value)) (hn : Instr.findNow (.int .u8) (.int .u8 k) es.toList 0 = some q) :
  (Instr.lookup t (.map (some b)) (.int .u8 k) true).run P w = .ok (.tuple #[(match q with | some (_, v) => v | none => z), .bool q.isSome]) w := by
 have hc := (Maps.int_keyed hk).check w es.isEmpty (key8 hk k h0 h1)
 have hf : (Instr.findKey key (.int .u8 k) es.toList).run P w = .ok q w := by
  simp [Instr.findKey, run_underlying hk, hn]
 cases q with
 | none => simp [Instr.lookup, run_underlying ht, MapKept.run_getObj_map hb, hc, hf, hz, Result.andThen]
 | some x => obtain ⟨i, v⟩ := x; simp [Instr.lookup, run_underlying ht, MapKept.run_getObj_map hb, hc, hf, Result.andThen]

/-- What reads each kind. -/
def kfn (rb : Nat) (f : FuncId) : Value := .func (.func f) #[.pointer (some ⟨rb, 0, none⟩)] #[]
def kfs (rb : Nat) : Array MapEntry := #[⟨.int .u8 1, kfn rb 52, 0⟩, ⟨.int .u8 2, kfn rb 53, 1⟩, ⟨.int .u8 3, kfn rb 54, 2⟩, ⟨.int .u8 4, kfn rb 55, 3⟩]
def KM (W : World) (km rb : Nat) : Prop := W.heap[km]? = some (.map (kfs rb) 4)

theorem KM.below {W V : World} {km rb : Nat} (h : KM W km rb) (hb : Below W.heap.size W V) : KM V km rb := by
 unfold KM at *
 rw [hb.block km (blk_lt h)]
 exact h

theorem below_block {B : Nat} {a w : World} (h : Below B a w) (o : Obj) : Below B a (setBlock w B o) :=
 h.trans ⟨rfl, rfl, rfl, by simp [setBlock], fun k hk => by simp [setBlock, Array.getElem?_setIfInBounds_ne (by omega : B ≠ k)]⟩
set_option maxHeartbeats 1000000 in
theorem kinds_any (rb : Nat) (w : World) : Calls Tryz.prog 23 #[.pointer (some ⟨rb, 0, none⟩)] w fun e w' => e = .returned (.map (some w.heap.size)) ∧ KM w' w.heap.size rb ∧ Below w.heap.size w w' := by
 have hmk := @run_makeMap Tryz.prog 75 w
 have h0 : (w.alloc (.map #[] 0)).heap[w.heap.size]? = some (.map #[] 0) := heap_alloc_new w _
 have b0 : Below w.heap.size w (w.alloc (.map #[] 0)) := (Below.refl _ _).alloc (Nat.le_refl _) _
 obtain ⟨W0, hW0⟩ : ∃ W0, W0 = w.alloc (.map #[] 0) := ⟨_, rfl⟩
 rw [← hW0] at h0 b0 hmk
 clear hW0
 have i0 := run_insert8 (P := Tryz.prog) Tryz.underlying75 Tryz.underlying5 h0 1 (by decide) (by decide) (kfn rb 52) rfl
 have h1 := heap_setBlock_same h0 (.map (#[].push ⟨.int .u8 1, kfn rb 52, 0⟩) 1)
 have b1 := below_block b0 (.map (#[].push ⟨.int .u8 1, kfn rb 52, 0⟩) 1)
 obtain ⟨W1, hW1⟩ : ∃ W, W = setBlock W0 w.heap.size (.map (#[].push ⟨.int .u8 1, kfn rb 52, 0⟩) 1) := ⟨_, rfl⟩
 rw [← hW1] at i0 h1 b1
 clear hW1
 have i1 := run_insert8 (P := Tryz.prog) Tryz.underlying75 Tryz.underlying5 h1 2 (by decide) (by decide) (kfn rb 53) rfl
 have h2 := heap_setBlock_same h1 (.map ((#[].push ⟨.int .u8 1, kfn rb 52, 0⟩).push ⟨.int .u8 2, kfn rb 53, 1⟩) 2)
 have b2 := below_block b1 (.map ((#[].push ⟨.int .u8 1, kfn rb 52, 0⟩).push ⟨.int .u8 2, kfn rb 53, 1⟩) 2)
 obtain ⟨W2, hW2⟩ : ∃ W, W = setBlock W1 w.heap.size (.map ((#[].push ⟨.int .u8 1, kfn rb 52, 0⟩).push ⟨.int .u8 2, kfn rb 53, 1⟩) 2) := ⟨_, rfl⟩
 rw [← hW2] at i1 h2 b2
 clear hW2
 have i2 := run_insert8 (P := Tryz.prog) Tryz.underlying75 Tryz.underlying5 h2 3 (by decide) (by decide) (kfn rb 54) rfl
 have h3 := heap_setBlock_same h2 (.map (((#[].push ⟨.int .u8 1, kfn rb 52, 0⟩).push ⟨.int .u8 2, kfn rb 53, 1⟩).push ⟨.int .u8 3, kfn rb 54, 2⟩) 3)
 have b3 := below_block b2 (.map (((#[].push ⟨.int .u8 1, kfn rb 52, 0⟩).push ⟨.int .u8 2, kfn rb 53, 1⟩).push ⟨.int .u8 3, kfn rb 54, 2⟩) 3)
 obtain ⟨W3, hW3⟩ : ∃ W, W = setBlock W2 w.heap.size (.map (((#[].push ⟨.int .u8 1, kfn rb 52, 0⟩).push ⟨.int .u8 2, kfn rb 53, 1⟩).push ⟨.int .u8 3, kfn rb 54, 2⟩) 3) := ⟨_, rfl⟩
 rw [← hW3] at i2 h3 b3
 clear hW3
 have i3 := run_insert8 (P := Tryz.prog) Tryz.underlying75 Tryz.underlying5 h3 4 (by decide) (by decide) (kfn rb 55) rfl
 have h4 := heap_setBlock_same h3 (.map ((((#[].push ⟨.int .u8 1, kfn rb 52, 0⟩).push ⟨.int .u8 2, kfn rb 53, 1⟩).push ⟨.int .u8 3, kfn rb 54, 2⟩).push ⟨.int .u8 4, kfn rb 55, 3⟩) 4)
 have b4 := below_block b3 (.map ((((#[].push ⟨.int .u8 1, kfn rb 52, 0⟩).push ⟨.int .u8 2, kfn rb 53, 1⟩).push ⟨.int .u8 3, kfn rb 54, 2⟩).push ⟨.int .u8 4, kfn rb 55, 3⟩) 4)
 obtain ⟨W4, hW4⟩ : ∃ W, W = setBlock W3 w.heap.size (.map ((((#[].push ⟨.int .u8 1, kfn rb 52, 0⟩).push ⟨.int .u8 2, kfn rb 53, 1⟩).push ⟨.int .u8 3, kfn rb 54, 2⟩).push ⟨.int .u8 4, kfn rb 55, 3⟩) 4) := ⟨_, rfl⟩
 rw [← hW4] at i3 h4 b4
 clear hW4
 have HK : Hid (KM W4 w.heap.size rb) := Lib.hid h4
 clear h0 h1 h2 h3 h4 b0 b1 b2 b3
 unfold kfn at i0 i1 i2 i3
 go_enter Tryz.func23, Tryz.ntmps23
 go_wp2
 go_ret
 exact ⟨rfl, HK.out, b4⟩
end Go.Proofs.YtnieminnnkbneaaGreat

namespace Go.Proofs.YtnieminnnkbneaaGreat
open Go.RowKit

theorem Rd.drew {w : World} {r : Nat} {s : Rdr} (h : Rd w r s) : Rd w.drew r s := h
theorem Rd.drewN {w : World} {r : Nat} {s : Rdr} (h : Rd w r s) (n : Nat) : Rd (w.drewN n) r s := h
theorem RSt.drewN {w0 W : World} {rb : Nat} {m : RM} (h : RSt w0 W rb m) (n : Nat) : RSt w0 (W.drewN n) rb m := h.below (below_drewN (Below.refl _ _) n)

set_option maxRecDepth 100000 in
set_option maxHeartbeats 4000000 in
theorem rproc_any (w0 : World) (rb ob : Nat) (m : RM) (r : Rdr) (all : Nat) (W : World) (h : RSt w0 W rb m) (hR : Rd W ob r) (ho : w0.heap.size ≤ ob) (hm : m.over = false) (hal : all ≤ 140737488355328) (hnp : m.pl.length ≤ 1000000000) :
  Calls Tryz.prog 53 #[.pointer (some ⟨rb, 0, none⟩), .pointer (some ⟨ob, 0, none⟩), .int .i64 all] W (RPost w0 rb ob false (pgProc all m.s r)) := by
 obtain ⟨t, r1, ht⟩ : ∃ t r1, r.text (all : Int) = (t, r1) := ⟨_, _, rfl⟩
 have hml := text_len r (all : Int)
 obtain ⟨⟨pn, pa, pc⟩, pe, hpe⟩ : ∃ p pe, procDecode t = (p, pe) := ⟨_, _, rfl⟩
 have htx := fun W (hh : Rd W ob r) => rtext_any ob r (all : Int) (by omega) (by omega) W hh
 rw [ht] at htx hml
 simp only at hml
 have hxl : r.xs.length ≤ 140737488355328 := by
  obtain ⟨_, _, _, _, h5⟩ := hR
  exact h5
 have hml2 : t.length ≤ 140737488355328 := by omega
 have hsz : (ofBs t).size = t.length := by rw [← size_data, ofBs_data]
 obtain ⟨q, hq⟩ : ∃ q, q = pgProc all m.s r := ⟨_, rfl⟩
 have hq' := hq
 unfold pgProc at hq'
 rw [ht] at hq'
 simp only [hpe] at hq'
 rw [← hq]
 have HQ := Lib.hid hq'
 have HTX := Lib.hid htx
 have HPE := Lib.hid hpe
 have HSZ := Lib.hid hsz
 have HM := Lib.hid hm
 clear hq hq' htx ht hpe hsz hml hxl hm
 go_enter Tryz.func53, Tryz.ntmps53
 go_wp2_with fail
 refine (HTX.out _ hR).mono ?_; rintro e w1 ⟨rfl, S1⟩
 have D1 := h.rd hR S1 ho
 have R1 := S1.1
 clear h hR HTX S1
 have htb := run_toBytes (P := Tryz.prog) 9 33 5 (ofBs t) Tryz.underlying9 Tryz.underlying33 Tryz.underlying5
 go_wp2_with fail
 have hrs := (Row.str w1 (ofBs t) (grownCap w1 (ofBs t).size 0 5) 5)
 rw [show (ofBs t).data.toList = t from ofBs_data t] at hrs
 refine (pdecode_any _ _ _ t _ hrs.drew HSZ.out (fun h => by simp at h) (by rw [HSZ.out]; exact hml2)).mono ?_; rintro e w5 ⟨A', c', rfl, own, hb⟩
 rw [HPE.out] at own ⊢
 simp only at own ⊢
 have hb2 : Below w1.heap.size w1 w5 := below_then (((Below.refl w1.heap.size w1).alloc (Nat.le_refl _) _).drew) hb (by simp)
 have own4 := owns_mono (base' := w1.heap.size) own (by simp)
 have own5 := owns_mono (base' := w0.heap.size) own4 D1.b.size
 have hsep := sepP_add (X := ⟨⟨pn, pa, pc⟩, A', c'⟩) D1.sep D1.oc own4
 have D5 := D1.below hb2
 have R5 := R1.below hb2
 clear htb hrs hb hb2 own own4 R1 D1
 unfold procCells
 go_upto_region 1 with (fail)
 have D6 := D5.alloc (.cells #[.string pn, .int .i64 pa, .slice A' pc.length c'] 54)
 have L6 := Loc.new w5 #[.string pn, .int .i64 pa, .slice A' pc.length c'] 54
 have R6 := R5.alloc (.cells #[.string pn, .int .i64 pa, .slice A' pc.length c'] 54)
 have own6 := owns_mono' own5 ((Below.refl w5.heap.size w5).alloc (Nat.le_refl _) (.cells #[.string pn, .int .i64 pa, .slice A' pc.length c'] 54))
 obtain ⟨k0, k1, k2, k3, k4, k5, k6, k7⟩ := D6.c0
 have kp := L6.cell 0
 simp only [List.getElem?_toArray, List.getElem?_cons_zero] at kp
 obtain ⟨f, hf⟩ : ∃ f, f = m.s.frames := ⟨_, rfl⟩
 obtain ⟨ne, hne⟩ : ∃ ne, ne = m.s.entries.length := ⟨_, rfl⟩
 have hq := HQ.out
 rw [← hf, ← hne] at hq
 rw [← hf] at k4
 rw [← hne] at k3
 have HFF := Lib.hid hf
 have HQ2 := Lib.hid hq
 have HSEP := Lib.hid hsep
 obtain ⟨w6, hw6⟩ : ∃ w6, w6 = w5.alloc (.cells #[.string pn, .int .i64 pa, .slice A' pc.length c'] 54) := ⟨_, rfl⟩
 rw [← hw6] at D6 L6 R6 own6 k3 k4 k5 kp
 rw [← hw6]
 clear hw6 D5 R5 own5 hq hf hne HQ hsep k0 k1 k2 k6 k7
 rcases Classical.em (0 < f ∧ pe = 0 ∧ ne = 0 ∧ leS pn m.s.name = false) with hc | hc
 ·have hq := HQ2.out
  rw [if_pos hc] at hq
  have HQ3 := Lib.hid hq
  obtain ⟨hf0, hpe0, hne0, hl⟩ := hc
  subst hpe0 hne0
  have t0 : (0 : Int) < (f : Int) := by omega
  unfold leS at hl
  clear hq HQ2
  go_quiet ((go_at_call 27; exact quiet_eq (may_yes _)))
  have D7 := (D6.drewN nq).put (m' := { m with s := { m.s with name := pn } }) 5 (.string pn) rfl rfl rfl rfl rfl rfl rfl rfl
  have f5 := D6.l.free 5
  have hne6 : w5.heap.size ≠ rb := L6.ne D6.l (by decide)
  have L7 := (L6.drewN nq).other (a := ⟨rb, 5, none⟩) hne6 (.string pn)
  have own7 := owns_setCell (a := ⟨rb, 5, none⟩) (show (w6.drewN nq).ownsRow w0.heap.size 109 8 (.slice A' pc.length c') pc.length (codeCells pc) from own6) (owns_ne (show (w6.drewN nq).ownsRow w0.heap.size 109 8 (.slice A' pc.length c') pc.length (codeCells pc) from own6) (D6.drewN nq).l (by decide)) (.string pn)
  have R7 := (R6.drewN nq).other (D6.drewN nq).l (by decide) (by decide) 5 (.string pn)
  go_upto_region 3 with (fail)
  obtain ⟨w7, hw7⟩ : ∃ w7, w7 = (w6.drewN nq).setCell ⟨rb, 5, none⟩ (.string pn) := ⟨_, rfl⟩
  rw [← hw7] at D7 L7 own7 R7
  rw [← hw7]
  clear hw7 D6 L6 own6 R6 kp k5 k4 k3 f5
  have p2 : w7.cell? ⟨rb, 2, none⟩ = some (.slice m.P m.pl.length m.cp) := D7.c0.2.2.1
  have x0 := L7.cell 0; have x1 := L7.cell 1; have x2 := L7.cell 2
  simp only [List.getElem?_toArray, List.getElem?_cons_zero, List.getElem?_cons_succ] at x0 x1 x2
  have f2 := D7.l.free 2
  have D8 := (D7.alloc (.cells #[.string pn, .int .i64 pa, .slice A' pc.length c'] 54)).drew
  have hba := ((Below.refl w7.heap.size w7).alloc (Nat.le_refl _) (.cells #[.string pn, .int .i64 pa, .slice A' pc.length c'] 54)).drew
  have hown8 : (w7.alloc (.cells #[.string pn, .int .i64 pa, .slice A' pc.length c'] 54)).drew.ownsRow 0 54 3 (.slice m.P m.pl.length m.cp) m.pl.length (prcsCells m.pl) := owns_base (base' := 0) D8.op (fun _ _ => Nat.zero_le _)
  have hsrc := Row.src (P := Tryz.prog) (c := 1) (size := 3) (n := 1) (tx := 36) (Row.drew (Row.of_loc (Loc.new w7 #[.string pn, .int .i64 pa, .slice A' pc.length c'] 54))) Tryz.underlying36 rfl (by simp [Value.oneCell']) (fun h => by simp at h)
  have hX := owns_mono' own7 hba
  have R8 := (R7.alloc (.cells #[.string pn, .int .i64 pa, .slice A' pc.length c'] 54)).drewN 1
  have p2a : (w7.alloc (.cells #[.string pn, .int .i64 pa, .slice A' pc.length c'] 54)).cell? ⟨rb, 2, none⟩ = some (.slice m.P m.pl.length m.cp) := (D7.alloc (.cells #[.string pn, .int .i64 pa, .slice A' pc.length c'] 54)).c0.2.2.1
  have HX := Lib.hid hX
  obtain ⟨np, hnp'⟩ : ∃ np, np = m.pl.length := ⟨_, rfl⟩
  have HD8 := Lib.hid D8
  have HR8 := Lib.hid R8
  have HNP := Lib.hid hnp'
  rw [← hnp'] at p2 hown8 p2a hnp
  clear hba hX hnp' D8 R8 own7 R7 D7 L7
  go_region_law ((refine step_append_mine _ rfl _ _ 36 36 rfl 54 (.agg #[.string ⟨#[]⟩, .int .i64 0, .slice none 0 0]) 3 48 Tryz.underlying36 infoProc rfl (by decide) _ _ _ rfl hown8 _ _ _ rfl hsrc (by simp only [maxLen]; omega) (by omega) ?_; intro A3 c3 w8 hown9 hg8 hb8 hx8; have HG8 : Hid ((w7.alloc (.cells #[.string pn, .int .i64 pa, .slice A' pc.length c'] 54)).drew.grownBy w8 (Value.slice m.P m.pl.length m.cp).ownBlock) := Lib.hid (by rw [← HNP.out]; exact hg8); have HB8 : Hid (∀ k, (Value.slice A3 (np + 1) c3).ownBlock = some k → (Value.slice m.P m.pl.length m.cp).ownBlock = some k ∨ k = ((w7.alloc (.cells #[.string pn, .int .i64 pa, .slice A' pc.length c'] 54)).drew).heap.size) := Lib.hid (by rw [← HNP.out]; exact hb8); have HL9 := (HD8.out.grownP HG8.out).1; have p2b : w8.cell? ⟨rb, 2, none⟩ = some (.slice m.P m.pl.length m.cp) := HL9.cell 2; have f2b := HL9.free 2; clear hg8 hb8 hx8))
  all_goals
   clear p2b p2 p2a x0 x1 x2
   rw [HNP.out] at hown9 HB8
   have D9 := HD8.out.addP (X := ⟨⟨pn, pa, pc⟩, A', c'⟩) HX.out HSEP.out hown9 HG8.out HB8.out
   have R9 := (HR8.out.grown HD8.out.op HG8.out (by decide) (by decide)).other (HD8.out.grownP HG8.out).1 (by decide) (by decide) 2 (.slice A3 (m.pl.length + 1) c3)
   rw [← HNP.out] at D9 R9
   go_end0
   refine RPost.yes HQ3.out ?_ ?_ D9 R9
   ·have e := HFF.out
    subst e
    rfl
   ·exact HM.out
 ·have hq := HQ2.out
  rw [if_neg hc] at hq
  have HQ3 := Lib.hid hq
  clear hq HQ2
  by_cases hf0 : 0 < f
  ·have t0 : (0 : Int) < (f : Int) := by omega
   by_cases hpe0 : pe = 0
   ·subst hpe0
    by_cases hne0 : ne = 0
    ·subst hne0
     have hl : leS pn m.s.name = true := by
      cases hl : leS pn m.s.name with
      | true => rfl
      | false => exact absurd ⟨hf0, rfl, rfl, hl⟩ hc
     unfold leS at hl
     clear hc
     refine wp_region_held_drew (S := fun W => W.cell? ⟨rb, 4, none⟩ = some (.int .i64 f) ∧ W.cell? ⟨rb, 3, none⟩ = some (.slice m.E 0 m.ce) ∧ W.cell? ⟨w5.heap.size, 0, none⟩ = some (.string pn) ∧ W.cell? ⟨rb, 5, none⟩ = some (.string m.s.name)) (by kernel_rfl) ⟨k4, k3, kp, k5⟩ (fun hH => ?_)
     refine take_at1 0 16 (v := ?_) rfl rfl (by kernel_rfl) (by kernel_rfl) (by kernel_rfl) (fun _ _ _ h => h) (Or.inl ⟨by rfl, ?_⟩) hH ?_
     rotate_left
     ·intro W hW
      obtain ⟨e0, e1, e2, e3⟩ := hW
      go_simp
      try with_reducible rfl
     try simp only [Act.put, List.setIfInBounds_toArray, List.set_cons_zero, List.set_cons_succ]
     refine take_at1 1 17 (v := ?_) rfl rfl (by kernel_rfl) (by kernel_rfl) (by kernel_rfl) (fun _ _ _ h => h) (Or.inl ⟨by rfl, ?_⟩) hH ?_
     rotate_left
     ·intro W hW
      obtain ⟨e0, e1, e2, e3⟩ := hW
      go_simp
      try with_reducible rfl
     try simp only [Act.put, List.setIfInBounds_toArray, List.set_cons_zero, List.set_cons_succ]
     refine take_at1 2 18 (v := ?_) rfl rfl (by kernel_rfl) (by kernel_rfl) (by kernel_rfl) (fun _ _ _ h => h) (Or.inl ⟨by rfl, ?_⟩) hH ?_
     rotate_left
     ·intro W hW
      obtain ⟨e0, e1, e2, e3⟩ := hW
      go_simp
      try with_reducible rfl
     try simp only [Act.put, List.setIfInBounds_toArray, List.set_cons_zero, List.set_cons_succ]
     refine take_at1 3 19 (v := ?_) rfl rfl (by kernel_rfl) (by kernel_rfl) (by kernel_rfl) (fun _ _ _ h => h) (Or.inl ⟨by rfl, ?_⟩) hH ?_
     rotate_left
     ·intro W hW
      obtain ⟨e0, e1, e2, e3⟩ := hW
      go_simp
      try with_reducible rfl
     try simp only [Act.put, List.setIfInBounds_toArray, List.set_cons_zero, List.set_cons_succ]
     refine take_at1 4 20 (v := .bool true) rfl rfl (by kernel_rfl) (by kernel_rfl) (by kernel_rfl) (fun _ _ _ h => h) (Or.inl ⟨by rfl, ?_⟩) hH ?_
     ·intro W hW
      obtain ⟨e0, e1, e2, e3⟩ := hW
      go_simp
      try with_reducible rfl
     try simp only [Act.put, List.setIfInBounds_toArray, List.set_cons_zero, List.set_cons_succ]
     refine take_at1 5 21 (v := .bool true) rfl rfl (by kernel_rfl) (by kernel_rfl) (by kernel_rfl) (fun _ _ _ h => h) (Or.inl ⟨by rfl, ?_⟩) hH ?_
     ·intro W hW
      obtain ⟨e0, e1, e2, e3⟩ := hW
      go_simp
      try with_reducible rfl
     try simp only [Act.put, List.setIfInBounds_toArray, List.set_cons_zero, List.set_cons_succ]
     refine take_at1 6 22 (v := ?_) rfl rfl (by kernel_rfl) (by kernel_rfl) (by kernel_rfl) (fun _ _ _ h => h) (Or.inl ⟨by rfl, ?_⟩) hH ?_
     rotate_left
     ·intro W hW
      obtain ⟨e0, e1, e2, e3⟩ := hW
      go_simp
      try with_reducible rfl
     try simp only [Act.put, List.setIfInBounds_toArray, List.set_cons_zero, List.set_cons_succ]
     refine take_at1 7 23 (v := .bool true) rfl rfl (by kernel_rfl) (by kernel_rfl) (by kernel_rfl) (fun _ _ _ h => h) (Or.inl ⟨by rfl, ?_⟩) hH ?_
     ·intro W hW
      obtain ⟨e0, e1, e2, e3⟩ := hW
      go_simp
      try with_reducible rfl
     try simp only [Act.put, List.setIfInBounds_toArray, List.set_cons_zero, List.set_cons_succ]
     refine take_at1 8 24 (v := .bool true) rfl rfl (by kernel_rfl) (by kernel_rfl) (by kernel_rfl) (fun _ _ _ h => h) (Or.inl ⟨by rfl, ?_⟩) hH ?_
     ·intro W hW
      obtain ⟨e0, e1, e2, e3⟩ := hW
      go_simp
      try with_reducible rfl
     try simp only [Act.put, List.setIfInBounds_toArray, List.set_cons_zero, List.set_cons_succ]
     refine take_at1 9 25 (v := .bool true) rfl rfl (by kernel_rfl) (by kernel_rfl) (by kernel_rfl) (fun _ _ _ h => h) (Or.inl ⟨by rfl, ?_⟩) hH ?_
     ·intro W hW
      obtain ⟨e0, e1, e2, e3⟩ := hW
      go_simp
      try with_reducible rfl
     try simp only [Act.put, List.setIfInBounds_toArray, List.set_cons_zero, List.set_cons_succ]
     refine take_at1 10 26 (v := ?_) rfl rfl (by kernel_rfl) (by kernel_rfl) (by kernel_rfl) (fun _ _ _ h => h) (Or.inl ⟨by rfl, ?_⟩) hH ?_
     rotate_left
     ·intro W hW
      obtain ⟨e0, e1, e2, e3⟩ := hW
      go_simp
      try with_reducible rfl
     try simp only [Act.put, List.setIfInBounds_toArray, List.set_cons_zero, List.set_cons_succ]
     refine take_at1 11 27 (v := ?_) rfl rfl (by kernel_rfl) (by kernel_rfl) (by kernel_rfl) (fun _ _ _ h => h) (Or.inl ⟨by rfl, ?_⟩) hH ?_
     rotate_left
     ·intro W hW
      obtain ⟨e0, e1, e2, e3⟩ := hW
      go_simp
      try with_reducible rfl
     try simp only [Act.put, List.setIfInBounds_toArray, List.set_cons_zero, List.set_cons_succ]
     refine take_at1 12 28 (v := ?_) rfl rfl (by kernel_rfl) (by kernel_rfl) (by kernel_rfl) (fun _ _ _ h => h) (Or.inl ⟨by rfl, ?_⟩) hH ?_
     rotate_left
     ·intro W hW
      obtain ⟨e0, e1, e2, e3⟩ := hW
      go_simp
      try with_reducible rfl
     try simp only [Act.put, List.setIfInBounds_toArray, List.set_cons_zero, List.set_cons_succ]
     refine take_at1 13 29 (v := ?_) rfl rfl (by kernel_rfl) (by kernel_rfl) (by kernel_rfl) (fun _ _ _ h => h) (Or.inl ⟨by rfl, ?_⟩) hH ?_
     rotate_left
     ·intro W hW
      obtain ⟨e0, e1, e2, e3⟩ := hW
      go_simp
      try with_reducible rfl
     try simp only [Act.put, List.setIfInBounds_toArray, List.set_cons_zero, List.set_cons_succ]
     refine take_at1 14 30 (v := ?_) rfl rfl (by kernel_rfl) (by kernel_rfl) (by kernel_rfl) (fun _ _ _ h => h) (Or.inl ⟨by rfl, ?_⟩) hH ?_
     rotate_left
     ·intro W hW
      obtain ⟨e0, e1, e2, e3⟩ := hW
      go_simp
      try with_reducible rfl
     try simp only [Act.put, List.setIfInBounds_toArray, List.set_cons_zero, List.set_cons_succ]
     refine take_at1 15 31 (v := ?_) rfl rfl (by kernel_rfl) (by kernel_rfl) (by kernel_rfl) (fun _ _ _ h => h) (Or.inl ⟨by rfl, ?_⟩) hH ?_
     rotate_left
     ·intro W hW
      obtain ⟨e0, e1, e2, e3⟩ := hW
      go_simp
      try with_reducible rfl
     try simp only [Act.put, List.setIfInBounds_toArray, List.set_cons_zero, List.set_cons_succ]
     refine take_at1 16 32 (v := .bool true) rfl rfl (by kernel_rfl) (by kernel_rfl) (by kernel_rfl) (fun _ _ _ h => h) (Or.inl ⟨by rfl, ?_⟩) hH ?_
     ·intro W hW
      obtain ⟨e0, e1, e2, e3⟩ := hW
      go_simp
      try with_reducible rfl
     try simp only [Act.put, List.setIfInBounds_toArray, List.set_cons_zero, List.set_cons_succ]
     refine take_at1 17 33 (v := .bool true) rfl rfl (by kernel_rfl) (by kernel_rfl) (by kernel_rfl) (fun _ _ _ h => h) (Or.inl ⟨by rfl, ?_⟩) hH ?_
     ·intro W hW
      obtain ⟨e0, e1, e2, e3⟩ := hW
      go_simp
      try with_reducible rfl
     try simp only [Act.put, List.setIfInBounds_toArray, List.set_cons_zero, List.set_cons_succ]
     refine take_at1 18 34 (v := .bool true) rfl rfl (by kernel_rfl) (by kernel_rfl) (by kernel_rfl) (fun _ _ _ h => h) (Or.inl ⟨by rfl, ?_⟩) hH ?_
     ·intro W hW
      obtain ⟨e0, e1, e2, e3⟩ := hW
      go_simp
      try with_reducible rfl
     try simp only [Act.put, List.setIfInBounds_toArray, List.set_cons_zero, List.set_cons_succ]
     refine take_at1 19 35 (v := ?_) rfl rfl (by kernel_rfl) (by kernel_rfl) (by kernel_rfl) (fun _ _ _ h => h) (Or.inl ⟨by rfl, ?_⟩) hH ?_
     rotate_left
     ·intro W hW
      obtain ⟨e0, e1, e2, e3⟩ := hW
      go_simp
      try with_reducible rfl
     try simp only [Act.put, List.setIfInBounds_toArray, List.set_cons_zero, List.set_cons_succ]
     refine take_at1 20 36 (v := ?_) rfl rfl (by kernel_rfl) (by kernel_rfl) (by kernel_rfl) (fun _ _ _ h => h) (Or.inl ⟨by rfl, ?_⟩) hH ?_
     rotate_left
     ·intro W hW
      obtain ⟨e0, e1, e2, e3⟩ := hW
      go_simp
      try with_reducible rfl
     try simp only [Act.put, List.setIfInBounds_toArray, List.set_cons_zero, List.set_cons_succ]
     refine take_at1 21 37 (v := ?_) rfl rfl (by kernel_rfl) (by kernel_rfl) (by kernel_rfl) (fun _ _ _ h => h) (Or.inl ⟨by rfl, ?_⟩) hH ?_
     rotate_left
     ·intro W hW
      obtain ⟨e0, e1, e2, e3⟩ := hW
      go_simp
      try with_reducible rfl
     try simp only [Act.put, List.setIfInBounds_toArray, List.set_cons_zero, List.set_cons_succ]
     refine take_at1 22 38 (v := ?_) rfl rfl (by kernel_rfl) (by kernel_rfl) (by kernel_rfl) (fun _ _ _ h => h) (Or.inl ⟨by rfl, ?_⟩) hH ?_
     rotate_left
     ·intro W hW
      obtain ⟨e0, e1, e2, e3⟩ := hW
      go_simp
      try with_reducible rfl
     try simp only [Act.put, List.setIfInBounds_toArray, List.set_cons_zero, List.set_cons_succ]
     refine take_at1 23 39 (v := ?_) rfl rfl (by kernel_rfl) (by kernel_rfl) (by kernel_rfl) (fun _ _ _ h => h) (Or.inl ⟨by rfl, ?_⟩) hH ?_
     rotate_left
     ·intro W hW
      obtain ⟨e0, e1, e2, e3⟩ := hW
      go_simp
      try with_reducible rfl
     try simp only [Act.put, List.setIfInBounds_toArray, List.set_cons_zero, List.set_cons_succ]
     refine take_at1 24 40 (v := ?_) rfl rfl (by kernel_rfl) (by kernel_rfl) (by kernel_rfl) (fun _ _ _ h => h) (Or.inl ⟨by rfl, ?_⟩) hH ?_
     rotate_left
     ·intro W hW
      obtain ⟨e0, e1, e2, e3⟩ := hW
      go_simp
      try with_reducible rfl
     try simp only [Act.put, List.setIfInBounds_toArray, List.set_cons_zero, List.set_cons_succ]
     refine take_at1 25 41 (v := .bool false) rfl rfl (by kernel_rfl) (by kernel_rfl) (by kernel_rfl) (fun _ _ _ h => h) (Or.inl ⟨by rfl, ?_⟩) hH ?_
     ·intro W hW
      obtain ⟨e0, e1, e2, e3⟩ := hW
      go_simp
      try with_reducible rfl
     try simp only [Act.put, List.setIfInBounds_toArray, List.set_cons_zero, List.set_cons_succ]
     refine take_at1 26 42 (v := .bool false) rfl rfl (by kernel_rfl) (by kernel_rfl) (by kernel_rfl) (fun _ _ _ h => h) (Or.inl ⟨by rfl, ?_⟩) hH ?_
     ·intro W hW
      obtain ⟨e0, e1, e2, e3⟩ := hW
      go_simp
      try with_reducible rfl
     try simp only [Act.put, List.setIfInBounds_toArray, List.set_cons_zero, List.set_cons_succ]
     refine wpAnyH_ready (rs := [27]) (by kernel_rfl) (by simp) ?_
     refine AllReadyH.cons rfl (fun K hK => ?_) AllReadyH.nil
     go_simp
     refine (may_no _).mono ?_; rintro e w9 ⟨rfl, rfl⟩
     exact ⟨rfl, .no HQ3.out D6.drew.b⟩
    ·have t2 : ((ne : Int) == 0) = false := by simpa using hne0
     clear hc hne0
     refine wp_region_held_drew (S := fun W => W.cell? ⟨rb, 4, none⟩ = some (.int .i64 f) ∧ W.cell? ⟨rb, 3, none⟩ = some (.slice m.E ne m.ce) ∧ W.cell? ⟨w5.heap.size, 0, none⟩ = some (.string pn) ∧ W.cell? ⟨rb, 5, none⟩ = some (.string m.s.name)) (by kernel_rfl) ⟨k4, k3, kp, k5⟩ (fun hH => ?_)
     refine take_at1 0 16 (v := ?_) rfl rfl (by kernel_rfl) (by kernel_rfl) (by kernel_rfl) (fun _ _ _ h => h) (Or.inl ⟨by rfl, ?_⟩) hH ?_
     rotate_left
     ·intro W hW
      obtain ⟨e0, e1, e2, e3⟩ := hW
      go_simp
      try with_reducible rfl
     try simp only [Act.put, List.setIfInBounds_toArray, List.set_cons_zero, List.set_cons_succ]
     refine take_at1 1 17 (v := ?_) rfl rfl (by kernel_rfl) (by kernel_rfl) (by kernel_rfl) (fun _ _ _ h => h) (Or.inl ⟨by rfl, ?_⟩) hH ?_
     rotate_left
     ·intro W hW
      obtain ⟨e0, e1, e2, e3⟩ := hW
      go_simp
      try with_reducible rfl
     try simp only [Act.put, List.setIfInBounds_toArray, List.set_cons_zero, List.set_cons_succ]
     refine take_at1 2 18 (v := ?_) rfl rfl (by kernel_rfl) (by kernel_rfl) (by kernel_rfl) (fun _ _ _ h => h) (Or.inl ⟨by rfl, ?_⟩) hH ?_
     rotate_left
     ·intro W hW
      obtain ⟨e0, e1, e2, e3⟩ := hW
      go_simp
      try with_reducible rfl
     try simp only [Act.put, List.setIfInBounds_toArray, List.set_cons_zero, List.set_cons_succ]
     refine take_at1 3 19 (v := ?_) rfl rfl (by kernel_rfl) (by kernel_rfl) (by kernel_rfl) (fun _ _ _ h => h) (Or.inl ⟨by rfl, ?_⟩) hH ?_
     rotate_left
     ·intro W hW
      obtain ⟨e0, e1, e2, e3⟩ := hW
      go_simp
      try with_reducible rfl
     try simp only [Act.put, List.setIfInBounds_toArray, List.set_cons_zero, List.set_cons_succ]
     refine take_at1 4 20 (v := .bool true) rfl rfl (by kernel_rfl) (by kernel_rfl) (by kernel_rfl) (fun _ _ _ h => h) (Or.inl ⟨by rfl, ?_⟩) hH ?_
     ·intro W hW
      obtain ⟨e0, e1, e2, e3⟩ := hW
      go_simp
      try with_reducible rfl
     try simp only [Act.put, List.setIfInBounds_toArray, List.set_cons_zero, List.set_cons_succ]
     refine take_at1 5 21 (v := .bool true) rfl rfl (by kernel_rfl) (by kernel_rfl) (by kernel_rfl) (fun _ _ _ h => h) (Or.inl ⟨by rfl, ?_⟩) hH ?_
     ·intro W hW
      obtain ⟨e0, e1, e2, e3⟩ := hW
      go_simp
      try with_reducible rfl
     try simp only [Act.put, List.setIfInBounds_toArray, List.set_cons_zero, List.set_cons_succ]
     refine take_at1 6 22 (v := ?_) rfl rfl (by kernel_rfl) (by kernel_rfl) (by kernel_rfl) (fun _ _ _ h => h) (Or.inl ⟨by rfl, ?_⟩) hH ?_
     rotate_left
     ·intro W hW
      obtain ⟨e0, e1, e2, e3⟩ := hW
      go_simp
      try with_reducible rfl
     try simp only [Act.put, List.setIfInBounds_toArray, List.set_cons_zero, List.set_cons_succ]
     refine take_at1 7 23 (v := .bool true) rfl rfl (by kernel_rfl) (by kernel_rfl) (by kernel_rfl) (fun _ _ _ h => h) (Or.inl ⟨by rfl, ?_⟩) hH ?_
     ·intro W hW
      obtain ⟨e0, e1, e2, e3⟩ := hW
      go_simp
      try with_reducible rfl
     try simp only [Act.put, List.setIfInBounds_toArray, List.set_cons_zero, List.set_cons_succ]
     refine take_at1 8 24 (v := .bool true) rfl rfl (by kernel_rfl) (by kernel_rfl) (by kernel_rfl) (fun _ _ _ h => h) (Or.inl ⟨by rfl, ?_⟩) hH ?_
     ·intro W hW
      obtain ⟨e0, e1, e2, e3⟩ := hW
      go_simp
      try with_reducible rfl
     try simp only [Act.put, List.setIfInBounds_toArray, List.set_cons_zero, List.set_cons_succ]
     refine take_at1 9 25 (v := .bool true) rfl rfl (by kernel_rfl) (by kernel_rfl) (by kernel_rfl) (fun _ _ _ h => h) (Or.inl ⟨by rfl, ?_⟩) hH ?_
     ·intro W hW
      obtain ⟨e0, e1, e2, e3⟩ := hW
      go_simp
      try with_reducible rfl
     try simp only [Act.put, List.setIfInBounds_toArray, List.set_cons_zero, List.set_cons_succ]
     refine take_at1 10 26 (v := ?_) rfl rfl (by kernel_rfl) (by kernel_rfl) (by kernel_rfl) (fun _ _ _ h => h) (Or.inl ⟨by rfl, ?_⟩) hH ?_
     rotate_left
     ·intro W hW
      obtain ⟨e0, e1, e2, e3⟩ := hW
      go_simp
      try with_reducible rfl
     try simp only [Act.put, List.setIfInBounds_toArray, List.set_cons_zero, List.set_cons_succ]
     refine take_at1 11 27 (v := ?_) rfl rfl (by kernel_rfl) (by kernel_rfl) (by kernel_rfl) (fun _ _ _ h => h) (Or.inl ⟨by rfl, ?_⟩) hH ?_
     rotate_left
     ·intro W hW
      obtain ⟨e0, e1, e2, e3⟩ := hW
      go_simp
      try with_reducible rfl
     try simp only [Act.put, List.setIfInBounds_toArray, List.set_cons_zero, List.set_cons_succ]
     refine take_at1 12 28 (v := ?_) rfl rfl (by kernel_rfl) (by kernel_rfl) (by kernel_rfl) (fun _ _ _ h => h) (Or.inl ⟨by rfl, ?_⟩) hH ?_
     rotate_left
     ·intro W hW
      obtain ⟨e0, e1, e2, e3⟩ := hW
      go_simp
      try with_reducible rfl
     try simp only [Act.put, List.setIfInBounds_toArray, List.set_cons_zero, List.set_cons_succ]
     refine take_at1 13 29 (v := ?_) rfl rfl (by kernel_rfl) (by kernel_rfl) (by kernel_rfl) (fun _ _ _ h => h) (Or.inl ⟨by rfl, ?_⟩) hH ?_
     rotate_left
     ·intro W hW
      obtain ⟨e0, e1, e2, e3⟩ := hW
      go_simp
      try with_reducible rfl
     try simp only [Act.put, List.setIfInBounds_toArray, List.set_cons_zero, List.set_cons_succ]
     refine take_at1 14 30 (v := ?_) rfl rfl (by kernel_rfl) (by kernel_rfl) (by kernel_rfl) (fun _ _ _ h => h) (Or.inl ⟨by rfl, ?_⟩) hH ?_
     rotate_left
     ·intro W hW
      obtain ⟨e0, e1, e2, e3⟩ := hW
      go_simp
      try with_reducible rfl
     try simp only [Act.put, List.setIfInBounds_toArray, List.set_cons_zero, List.set_cons_succ]
     refine take_at1 15 31 (v := ?_) rfl rfl (by kernel_rfl) (by kernel_rfl) (by kernel_rfl) (fun _ _ _ h => h) (Or.inl ⟨by rfl, ?_⟩) hH ?_
     rotate_left
     ·intro W hW
      obtain ⟨e0, e1, e2, e3⟩ := hW
      go_simp
      try with_reducible rfl
     try simp only [Act.put, List.setIfInBounds_toArray, List.set_cons_zero, List.set_cons_succ]
     refine take_at1 16 32 (v := .bool false) rfl rfl (by kernel_rfl) (by kernel_rfl) (by kernel_rfl) (fun _ _ _ h => h) (Or.inl ⟨by rfl, ?_⟩) hH ?_
     ·intro W hW
      obtain ⟨e0, e1, e2, e3⟩ := hW
      go_simp
      try with_reducible rfl
     try simp only [Act.put, List.setIfInBounds_toArray, List.set_cons_zero, List.set_cons_succ]
     refine take_at1 17 33 (v := .bool false) rfl rfl (by kernel_rfl) (by kernel_rfl) (by kernel_rfl) (fun _ _ _ h => h) (Or.inl ⟨by rfl, ?_⟩) hH ?_
     ·intro W hW
      obtain ⟨e0, e1, e2, e3⟩ := hW
      go_simp
      try with_reducible rfl
     try simp only [Act.put, List.setIfInBounds_toArray, List.set_cons_zero, List.set_cons_succ]
     refine take_at1 18 34 (v := .bool false) rfl rfl (by kernel_rfl) (by kernel_rfl) (by kernel_rfl) (fun _ _ _ h => h) (Or.inl ⟨by rfl, ?_⟩) hH ?_
     ·intro W hW
      obtain ⟨e0, e1, e2, e3⟩ := hW
      go_simp
      try with_reducible rfl
     try simp only [Act.put, List.setIfInBounds_toArray, List.set_cons_zero, List.set_cons_succ]
     refine take_at1 19 35 rfl rfl (by kernel_rfl) (by kernel_rfl) (by kernel_rfl) (fun _ _ _ h => h) (Or.inr ⟨by rfl, rfl⟩) hH ?_
     try simp only [Act.put, List.setIfInBounds_toArray, List.set_cons_zero, List.set_cons_succ]
     refine take_at1 20 36 rfl rfl (by kernel_rfl) (by kernel_rfl) (by kernel_rfl) (fun _ _ _ h => h) (Or.inr ⟨by rfl, rfl⟩) hH ?_
     try simp only [Act.put, List.setIfInBounds_toArray, List.set_cons_zero, List.set_cons_succ]
     refine take_at1 21 37 rfl rfl (by kernel_rfl) (by kernel_rfl) (by kernel_rfl) (fun _ _ _ h => h) (Or.inr ⟨by rfl, rfl⟩) hH ?_
     try simp only [Act.put, List.setIfInBounds_toArray, List.set_cons_zero, List.set_cons_succ]
     refine take_at1 22 38 rfl rfl (by kernel_rfl) (by kernel_rfl) (by kernel_rfl) (fun _ _ _ h => h) (Or.inr ⟨by rfl, rfl⟩) hH ?_
     try simp only [Act.put, List.setIfInBounds_toArray, List.set_cons_zero, List.set_cons_succ]
     refine take_at1 23 39 rfl rfl (by kernel_rfl) (by kernel_rfl) (by kernel_rfl) (fun _ _ _ h => h) (Or.inr ⟨by rfl, rfl⟩) hH ?_
     try simp only [Act.put, List.setIfInBounds_toArray, List.set_cons_zero, List.set_cons_succ]
     refine take_at1 24 40 rfl rfl (by kernel_rfl) (by kernel_rfl) (by kernel_rfl) (fun _ _ _ h => h) (Or.inr ⟨by rfl, rfl⟩) hH ?_
     try simp only [Act.put, List.setIfInBounds_toArray, List.set_cons_zero, List.set_cons_succ]
     refine take_at1 25 41 rfl rfl (by kernel_rfl) (by kernel_rfl) (by kernel_rfl) (fun _ _ _ h => h) (Or.inr ⟨by rfl, rfl⟩) hH ?_
     try simp only [Act.put, List.setIfInBounds_toArray, List.set_cons_zero, List.set_cons_succ]
     refine take_at1 26 42 (v := .bool false) rfl rfl (by kernel_rfl) (by kernel_rfl) (by kernel_rfl) (fun _ _ _ h => h) (Or.inl ⟨by rfl, ?_⟩) hH ?_
     ·intro W hW
      obtain ⟨e0, e1, e2, e3⟩ := hW
      go_simp
      try with_reducible rfl
     try simp only [Act.put, List.setIfInBounds_toArray, List.set_cons_zero, List.set_cons_succ]
     refine wpAnyH_ready (rs := [27]) (by kernel_rfl) (by simp) ?_
     refine AllReadyH.cons rfl (fun K hK => ?_) AllReadyH.nil
     go_simp
     refine (may_no _).mono ?_; rintro e w9 ⟨rfl, rfl⟩
     exact ⟨rfl, .no HQ3.out D6.drew.b⟩
   ·have t1 : (pe == 0) = false := by simpa using hpe0
    clear hc hpe0
    refine wp_region_held_drew (S := fun W => W.cell? ⟨rb, 4, none⟩ = some (.int .i64 f) ∧ W.cell? ⟨rb, 3, none⟩ = some (.slice m.E ne m.ce) ∧ W.cell? ⟨w5.heap.size, 0, none⟩ = some (.string pn) ∧ W.cell? ⟨rb, 5, none⟩ = some (.string m.s.name)) (by kernel_rfl) ⟨k4, k3, kp, k5⟩ (fun hH => ?_)
    refine take_at1 0 16 (v := ?_) rfl rfl (by kernel_rfl) (by kernel_rfl) (by kernel_rfl) (fun _ _ _ h => h) (Or.inl ⟨by rfl, ?_⟩) hH ?_
    rotate_left
    ·intro W hW
     obtain ⟨e0, e1, e2, e3⟩ := hW
     go_simp
     try with_reducible rfl
    try simp only [Act.put, List.setIfInBounds_toArray, List.set_cons_zero, List.set_cons_succ]
    refine take_at1 1 17 (v := ?_) rfl rfl (by kernel_rfl) (by kernel_rfl) (by kernel_rfl) (fun _ _ _ h => h) (Or.inl ⟨by rfl, ?_⟩) hH ?_
    rotate_left
    ·intro W hW
     obtain ⟨e0, e1, e2, e3⟩ := hW
     go_simp
     try with_reducible rfl
    try simp only [Act.put, List.setIfInBounds_toArray, List.set_cons_zero, List.set_cons_succ]
    refine take_at1 2 18 (v := ?_) rfl rfl (by kernel_rfl) (by kernel_rfl) (by kernel_rfl) (fun _ _ _ h => h) (Or.inl ⟨by rfl, ?_⟩) hH ?_
    rotate_left
    ·intro W hW
     obtain ⟨e0, e1, e2, e3⟩ := hW
     go_simp
     try with_reducible rfl
    try simp only [Act.put, List.setIfInBounds_toArray, List.set_cons_zero, List.set_cons_succ]
    refine take_at1 3 19 (v := ?_) rfl rfl (by kernel_rfl) (by kernel_rfl) (by kernel_rfl) (fun _ _ _ h => h) (Or.inl ⟨by rfl, ?_⟩) hH ?_
    rotate_left
    ·intro W hW
     obtain ⟨e0, e1, e2, e3⟩ := hW
     go_simp
     try with_reducible rfl
    try simp only [Act.put, List.setIfInBounds_toArray, List.set_cons_zero, List.set_cons_succ]
    refine take_at1 4 20 (v := .bool true) rfl rfl (by kernel_rfl) (by kernel_rfl) (by kernel_rfl) (fun _ _ _ h => h) (Or.inl ⟨by rfl, ?_⟩) hH ?_
    ·intro W hW
     obtain ⟨e0, e1, e2, e3⟩ := hW
     go_simp
     try with_reducible rfl
    try simp only [Act.put, List.setIfInBounds_toArray, List.set_cons_zero, List.set_cons_succ]
    refine take_at1 5 21 (v := .bool true) rfl rfl (by kernel_rfl) (by kernel_rfl) (by kernel_rfl) (fun _ _ _ h => h) (Or.inl ⟨by rfl, ?_⟩) hH ?_
    ·intro W hW
     obtain ⟨e0, e1, e2, e3⟩ := hW
     go_simp
     try with_reducible rfl
    try simp only [Act.put, List.setIfInBounds_toArray, List.set_cons_zero, List.set_cons_succ]
    refine take_at1 6 22 (v := ?_) rfl rfl (by kernel_rfl) (by kernel_rfl) (by kernel_rfl) (fun _ _ _ h => h) (Or.inl ⟨by rfl, ?_⟩) hH ?_
    rotate_left
    ·intro W hW
     obtain ⟨e0, e1, e2, e3⟩ := hW
     go_simp
     try with_reducible rfl
    try simp only [Act.put, List.setIfInBounds_toArray, List.set_cons_zero, List.set_cons_succ]
    refine take_at1 7 23 (v := .bool false) rfl rfl (by kernel_rfl) (by kernel_rfl) (by kernel_rfl) (fun _ _ _ h => h) (Or.inl ⟨by rfl, ?_⟩) hH ?_
    ·intro W hW
     obtain ⟨e0, e1, e2, e3⟩ := hW
     go_simp
     try with_reducible rfl
    try simp only [Act.put, List.setIfInBounds_toArray, List.set_cons_zero, List.set_cons_succ]
    refine take_at1 8 24 (v := .bool false) rfl rfl (by kernel_rfl) (by kernel_rfl) (by kernel_rfl) (fun _ _ _ h => h) (Or.inl ⟨by rfl, ?_⟩) hH ?_
    ·intro W hW
     obtain ⟨e0, e1, e2, e3⟩ := hW
     go_simp
     try with_reducible rfl
    try simp only [Act.put, List.setIfInBounds_toArray, List.set_cons_zero, List.set_cons_succ]
    refine take_at1 9 25 (v := .bool false) rfl rfl (by kernel_rfl) (by kernel_rfl) (by kernel_rfl) (fun _ _ _ h => h) (Or.inl ⟨by rfl, ?_⟩) hH ?_
    ·intro W hW
     obtain ⟨e0, e1, e2, e3⟩ := hW
     go_simp
     try with_reducible rfl
    try simp only [Act.put, List.setIfInBounds_toArray, List.set_cons_zero, List.set_cons_succ]
    refine take_at1 10 26 rfl rfl (by kernel_rfl) (by kernel_rfl) (by kernel_rfl) (fun _ _ _ h => h) (Or.inr ⟨by rfl, rfl⟩) hH ?_
    try simp only [Act.put, List.setIfInBounds_toArray, List.set_cons_zero, List.set_cons_succ]
    refine take_at1 11 27 rfl rfl (by kernel_rfl) (by kernel_rfl) (by kernel_rfl) (fun _ _ _ h => h) (Or.inr ⟨by rfl, rfl⟩) hH ?_
    try simp only [Act.put, List.setIfInBounds_toArray, List.set_cons_zero, List.set_cons_succ]
    refine take_at1 12 28 rfl rfl (by kernel_rfl) (by kernel_rfl) (by kernel_rfl) (fun _ _ _ h => h) (Or.inr ⟨by rfl, rfl⟩) hH ?_
    try simp only [Act.put, List.setIfInBounds_toArray, List.set_cons_zero, List.set_cons_succ]
    refine take_at1 13 29 rfl rfl (by kernel_rfl) (by kernel_rfl) (by kernel_rfl) (fun _ _ _ h => h) (Or.inr ⟨by rfl, rfl⟩) hH ?_
    try simp only [Act.put, List.setIfInBounds_toArray, List.set_cons_zero, List.set_cons_succ]
    refine take_at1 14 30 rfl rfl (by kernel_rfl) (by kernel_rfl) (by kernel_rfl) (fun _ _ _ h => h) (Or.inr ⟨by rfl, rfl⟩) hH ?_
    try simp only [Act.put, List.setIfInBounds_toArray, List.set_cons_zero, List.set_cons_succ]
    refine take_at1 15 31 rfl rfl (by kernel_rfl) (by kernel_rfl) (by kernel_rfl) (fun _ _ _ h => h) (Or.inr ⟨by rfl, rfl⟩) hH ?_
    try simp only [Act.put, List.setIfInBounds_toArray, List.set_cons_zero, List.set_cons_succ]
    refine take_at1 16 32 rfl rfl (by kernel_rfl) (by kernel_rfl) (by kernel_rfl) (fun _ _ _ h => h) (Or.inr ⟨by rfl, rfl⟩) hH ?_
    try simp only [Act.put, List.setIfInBounds_toArray, List.set_cons_zero, List.set_cons_succ]
    refine take_at1 17 33 (v := .bool false) rfl rfl (by kernel_rfl) (by kernel_rfl) (by kernel_rfl) (fun _ _ _ h => h) (Or.inl ⟨by rfl, ?_⟩) hH ?_
    ·intro W hW
     obtain ⟨e0, e1, e2, e3⟩ := hW
     go_simp
     try with_reducible rfl
    try simp only [Act.put, List.setIfInBounds_toArray, List.set_cons_zero, List.set_cons_succ]
    refine take_at1 18 34 (v := .bool false) rfl rfl (by kernel_rfl) (by kernel_rfl) (by kernel_rfl) (fun _ _ _ h => h) (Or.inl ⟨by rfl, ?_⟩) hH ?_
    ·intro W hW
     obtain ⟨e0, e1, e2, e3⟩ := hW
     go_simp
     try with_reducible rfl
    try simp only [Act.put, List.setIfInBounds_toArray, List.set_cons_zero, List.set_cons_succ]
    refine take_at1 19 35 rfl rfl (by kernel_rfl) (by kernel_rfl) (by kernel_rfl) (fun _ _ _ h => h) (Or.inr ⟨by rfl, rfl⟩) hH ?_
    try simp only [Act.put, List.setIfInBounds_toArray, List.set_cons_zero, List.set_cons_succ]
    refine take_at1 20 36 rfl rfl (by kernel_rfl) (by kernel_rfl) (by kernel_rfl) (fun _ _ _ h => h) (Or.inr ⟨by rfl, rfl⟩) hH ?_
    try simp only [Act.put, List.setIfInBounds_toArray, List.set_cons_zero, List.set_cons_succ]
    refine take_at1 21 37 rfl rfl (by kernel_rfl) (by kernel_rfl) (by kernel_rfl) (fun _ _ _ h => h) (Or.inr ⟨by rfl, rfl⟩) hH ?_
    try simp only [Act.put, List.setIfInBounds_toArray, List.set_cons_zero, List.set_cons_succ]
    refine take_at1 22 38 rfl rfl (by kernel_rfl) (by kernel_rfl) (by kernel_rfl) (fun _ _ _ h => h) (Or.inr ⟨by rfl, rfl⟩) hH ?_
    try simp only [Act.put, List.setIfInBounds_toArray, List.set_cons_zero, List.set_cons_succ]
    refine take_at1 23 39 rfl rfl (by kernel_rfl) (by kernel_rfl) (by kernel_rfl) (fun _ _ _ h => h) (Or.inr ⟨by rfl, rfl⟩) hH ?_
    try simp only [Act.put, List.setIfInBounds_toArray, List.set_cons_zero, List.set_cons_succ]
    refine take_at1 24 40 rfl rfl (by kernel_rfl) (by kernel_rfl) (by kernel_rfl) (fun _ _ _ h => h) (Or.inr ⟨by rfl, rfl⟩) hH ?_
    try simp only [Act.put, List.setIfInBounds_toArray, List.set_cons_zero, List.set_cons_succ]
    refine take_at1 25 41 rfl rfl (by kernel_rfl) (by kernel_rfl) (by kernel_rfl) (fun _ _ _ h => h) (Or.inr ⟨by rfl, rfl⟩) hH ?_
    try simp only [Act.put, List.setIfInBounds_toArray, List.set_cons_zero, List.set_cons_succ]
    refine take_at1 26 42 (v := .bool false) rfl rfl (by kernel_rfl) (by kernel_rfl) (by kernel_rfl) (fun _ _ _ h => h) (Or.inl ⟨by rfl, ?_⟩) hH ?_
    ·intro W hW
     obtain ⟨e0, e1, e2, e3⟩ := hW
     go_simp
     try with_reducible rfl
    try simp only [Act.put, List.setIfInBounds_toArray, List.set_cons_zero, List.set_cons_succ]
    refine wpAnyH_ready (rs := [27]) (by kernel_rfl) (by simp) ?_
    refine AllReadyH.cons rfl (fun K hK => ?_) AllReadyH.nil
    go_simp
    refine (may_no _).mono ?_; rintro e w9 ⟨rfl, rfl⟩
    exact ⟨rfl, .no HQ3.out D6.drew.b⟩
  ·obtain rfl : f = 0 := by omega
   rw [show ((0 : Nat) : Int) = 0 from rfl] at k4
   clear hf0 hc
   refine wp_region_held_drew (S := fun W => W.cell? ⟨rb, 4, none⟩ = some (.int .i64 0) ∧ W.cell? ⟨rb, 3, none⟩ = some (.slice m.E ne m.ce) ∧ W.cell? ⟨w5.heap.size, 0, none⟩ = some (.string pn) ∧ W.cell? ⟨rb, 5, none⟩ = some (.string m.s.name)) (by kernel_rfl) ⟨k4, k3, kp, k5⟩ (fun hH => ?_)
   refine take_at1 0 16 (v := ?_) rfl rfl (by kernel_rfl) (by kernel_rfl) (by kernel_rfl) (fun _ _ _ h => h) (Or.inl ⟨by rfl, ?_⟩) hH ?_
   rotate_left
   ·intro W hW
    obtain ⟨e0, e1, e2, e3⟩ := hW
    go_simp
    try with_reducible rfl
   try simp only [Act.put, List.setIfInBounds_toArray, List.set_cons_zero, List.set_cons_succ]
   refine take_at1 1 17 (v := ?_) rfl rfl (by kernel_rfl) (by kernel_rfl) (by kernel_rfl) (fun _ _ _ h => h) (Or.inl ⟨by rfl, ?_⟩) hH ?_
   rotate_left
   ·intro W hW
    obtain ⟨e0, e1, e2, e3⟩ := hW
    go_simp
    try with_reducible rfl
   try simp only [Act.put, List.setIfInBounds_toArray, List.set_cons_zero, List.set_cons_succ]
   refine take_at1 2 18 (v := ?_) rfl rfl (by kernel_rfl) (by kernel_rfl) (by kernel_rfl) (fun _ _ _ h => h) (Or.inl ⟨by rfl, ?_⟩) hH ?_
   rotate_left
   ·intro W hW
    obtain ⟨e0, e1, e2, e3⟩ := hW
    go_simp
    try with_reducible rfl
   try simp only [Act.put, List.setIfInBounds_toArray, List.set_cons_zero, List.set_cons_succ]
   refine take_at1 3 19 (v := ?_) rfl rfl (by kernel_rfl) (by kernel_rfl) (by kernel_rfl) (fun _ _ _ h => h) (Or.inl ⟨by rfl, ?_⟩) hH ?_
   rotate_left
   ·intro W hW
    obtain ⟨e0, e1, e2, e3⟩ := hW
    go_simp
    try with_reducible rfl
   try simp only [Act.put, List.setIfInBounds_toArray, List.set_cons_zero, List.set_cons_succ]
   refine take_at1 4 20 (v := .bool false) rfl rfl (by kernel_rfl) (by kernel_rfl) (by kernel_rfl) (fun _ _ _ h => h) (Or.inl ⟨by rfl, ?_⟩) hH ?_
   ·intro W hW
    obtain ⟨e0, e1, e2, e3⟩ := hW
    go_simp
    try with_reducible rfl
   try simp only [Act.put, List.setIfInBounds_toArray, List.set_cons_zero, List.set_cons_succ]
   refine take_at1 5 21 (v := .bool false) rfl rfl (by kernel_rfl) (by kernel_rfl) (by kernel_rfl) (fun _ _ _ h => h) (Or.inl ⟨by rfl, ?_⟩) hH ?_
   ·intro W hW
    obtain ⟨e0, e1, e2, e3⟩ := hW
    go_simp
    try with_reducible rfl
   try simp only [Act.put, List.setIfInBounds_toArray, List.set_cons_zero, List.set_cons_succ]
   refine take_at1 6 22 rfl rfl (by kernel_rfl) (by kernel_rfl) (by kernel_rfl) (fun _ _ _ h => h) (Or.inr ⟨by rfl, rfl⟩) hH ?_
   try simp only [Act.put, List.setIfInBounds_toArray, List.set_cons_zero, List.set_cons_succ]
   refine take_at1 7 23 rfl rfl (by kernel_rfl) (by kernel_rfl) (by kernel_rfl) (fun _ _ _ h => h) (Or.inr ⟨by rfl, rfl⟩) hH ?_
   try simp only [Act.put, List.setIfInBounds_toArray, List.set_cons_zero, List.set_cons_succ]
   refine take_at1 8 24 (v := .bool false) rfl rfl (by kernel_rfl) (by kernel_rfl) (by kernel_rfl) (fun _ _ _ h => h) (Or.inl ⟨by rfl, ?_⟩) hH ?_
   ·intro W hW
    obtain ⟨e0, e1, e2, e3⟩ := hW
    go_simp
    try with_reducible rfl
   try simp only [Act.put, List.setIfInBounds_toArray, List.set_cons_zero, List.set_cons_succ]
   refine take_at1 9 25 (v := .bool false) rfl rfl (by kernel_rfl) (by kernel_rfl) (by kernel_rfl) (fun _ _ _ h => h) (Or.inl ⟨by rfl, ?_⟩) hH ?_
   ·intro W hW
    obtain ⟨e0, e1, e2, e3⟩ := hW
    go_simp
    try with_reducible rfl
   try simp only [Act.put, List.setIfInBounds_toArray, List.set_cons_zero, List.set_cons_succ]
   refine take_at1 10 26 rfl rfl (by kernel_rfl) (by kernel_rfl) (by kernel_rfl) (fun _ _ _ h => h) (Or.inr ⟨by rfl, rfl⟩) hH ?_
   try simp only [Act.put, List.setIfInBounds_toArray, List.set_cons_zero, List.set_cons_succ]
   refine take_at1 11 27 rfl rfl (by kernel_rfl) (by kernel_rfl) (by kernel_rfl) (fun _ _ _ h => h) (Or.inr ⟨by rfl, rfl⟩) hH ?_
   try simp only [Act.put, List.setIfInBounds_toArray, List.set_cons_zero, List.set_cons_succ]
   refine take_at1 12 28 rfl rfl (by kernel_rfl) (by kernel_rfl) (by kernel_rfl) (fun _ _ _ h => h) (Or.inr ⟨by rfl, rfl⟩) hH ?_
   try simp only [Act.put, List.setIfInBounds_toArray, List.set_cons_zero, List.set_cons_succ]
   refine take_at1 13 29 rfl rfl (by kernel_rfl) (by kernel_rfl) (by kernel_rfl) (fun _ _ _ h => h) (Or.inr ⟨by rfl, rfl⟩) hH ?_
   try simp only [Act.put, List.setIfInBounds_toArray, List.set_cons_zero, List.set_cons_succ]
   refine take_at1 14 30 rfl rfl (by kernel_rfl) (by kernel_rfl) (by kernel_rfl) (fun _ _ _ h => h) (Or.inr ⟨by rfl, rfl⟩) hH ?_
   try simp only [Act.put, List.setIfInBounds_toArray, List.set_cons_zero, List.set_cons_succ]
   refine take_at1 15 31 rfl rfl (by kernel_rfl) (by kernel_rfl) (by kernel_rfl) (fun _ _ _ h => h) (Or.inr ⟨by rfl, rfl⟩) hH ?_
   try simp only [Act.put, List.setIfInBounds_toArray, List.set_cons_zero, List.set_cons_succ]
   refine take_at1 16 32 rfl rfl (by kernel_rfl) (by kernel_rfl) (by kernel_rfl) (fun _ _ _ h => h) (Or.inr ⟨by rfl, rfl⟩) hH ?_
   try simp only [Act.put, List.setIfInBounds_toArray, List.set_cons_zero, List.set_cons_succ]
   refine take_at1 17 33 (v := .bool false) rfl rfl (by kernel_rfl) (by kernel_rfl) (by kernel_rfl) (fun _ _ _ h => h) (Or.inl ⟨by rfl, ?_⟩) hH ?_
   ·intro W hW
    obtain ⟨e0, e1, e2, e3⟩ := hW
    go_simp
    try with_reducible rfl
   try simp only [Act.put, List.setIfInBounds_toArray, List.set_cons_zero, List.set_cons_succ]
   refine take_at1 18 34 (v := .bool false) rfl rfl (by kernel_rfl) (by kernel_rfl) (by kernel_rfl) (fun _ _ _ h => h) (Or.inl ⟨by rfl, ?_⟩) hH ?_
   ·intro W hW
    obtain ⟨e0, e1, e2, e3⟩ := hW
    go_simp
    try with_reducible rfl
   try simp only [Act.put, List.setIfInBounds_toArray, List.set_cons_zero, List.set_cons_succ]
   refine take_at1 19 35 rfl rfl (by kernel_rfl) (by kernel_rfl) (by kernel_rfl) (fun _ _ _ h => h) (Or.inr ⟨by rfl, rfl⟩) hH ?_
   try simp only [Act.put, List.setIfInBounds_toArray, List.set_cons_zero, List.set_cons_succ]
   refine take_at1 20 36 rfl rfl (by kernel_rfl) (by kernel_rfl) (by kernel_rfl) (fun _ _ _ h => h) (Or.inr ⟨by rfl, rfl⟩) hH ?_
   try simp only [Act.put, List.setIfInBounds_toArray, List.set_cons_zero, List.set_cons_succ]
   refine take_at1 21 37 rfl rfl (by kernel_rfl) (by kernel_rfl) (by kernel_rfl) (fun _ _ _ h => h) (Or.inr ⟨by rfl, rfl⟩) hH ?_
   try simp only [Act.put, List.setIfInBounds_toArray, List.set_cons_zero, List.set_cons_succ]
   refine take_at1 22 38 rfl rfl (by kernel_rfl) (by kernel_rfl) (by kernel_rfl) (fun _ _ _ h => h) (Or.inr ⟨by rfl, rfl⟩) hH ?_
   try simp only [Act.put, List.setIfInBounds_toArray, List.set_cons_zero, List.set_cons_succ]
   refine take_at1 23 39 rfl rfl (by kernel_rfl) (by kernel_rfl) (by kernel_rfl) (fun _ _ _ h => h) (Or.inr ⟨by rfl, rfl⟩) hH ?_
   try simp only [Act.put, List.setIfInBounds_toArray, List.set_cons_zero, List.set_cons_succ]
   refine take_at1 24 40 rfl rfl (by kernel_rfl) (by kernel_rfl) (by kernel_rfl) (fun _ _ _ h => h) (Or.inr ⟨by rfl, rfl⟩) hH ?_
   try simp only [Act.put, List.setIfInBounds_toArray, List.set_cons_zero, List.set_cons_succ]
   refine take_at1 25 41 rfl rfl (by kernel_rfl) (by kernel_rfl) (by kernel_rfl) (fun _ _ _ h => h) (Or.inr ⟨by rfl, rfl⟩) hH ?_
   try simp only [Act.put, List.setIfInBounds_toArray, List.set_cons_zero, List.set_cons_succ]
   refine take_at1 26 42 (v := .bool false) rfl rfl (by kernel_rfl) (by kernel_rfl) (by kernel_rfl) (fun _ _ _ h => h) (Or.inl ⟨by rfl, ?_⟩) hH ?_
   ·intro W hW
    obtain ⟨e0, e1, e2, e3⟩ := hW
    go_simp
    try with_reducible rfl
   try simp only [Act.put, List.setIfInBounds_toArray, List.set_cons_zero, List.set_cons_succ]
   refine wpAnyH_ready (rs := [27]) (by kernel_rfl) (by simp) ?_
   refine AllReadyH.cons rfl (fun K hK => ?_) AllReadyH.nil
   go_simp
   refine (may_no _).mono ?_; rintro e w9 ⟨rfl, rfl⟩
   exact ⟨rfl, .no HQ3.out D6.drew.b⟩
end Go.Proofs.YtnieminnnkbneaaGreat

namespace Go.Proofs.YtnieminnnkbneaaGreat
open Go.RowKit

theorem disKey_any (s : ByteArray) (w : World) : Calls Tryz.prog 76 #[.string s] w fun e w' => e = .returned (.bool (isKey s)) ∧ w = w' := by
 by_cases h1 : 1 ≤ s.size
 ·by_cases h2 : s.size ≤ 64
  ·have hk : isKey s = true := by unfold isKey; simp; omega
   rw [hk]
   have t1 : (0 : Int) < (s.size : Int) := by omega
   have t2 : (s.size : Int) ≤ 64 := by omega
   clear hk
   go_enter Tryz.func76, Tryz.ntmps76
   go_wp2
   go_ret
   exact ⟨rfl, rfl⟩
  ·have hk : isKey s = false := by unfold isKey; simp; omega
   rw [hk]
   have t1 : (0 : Int) < (s.size : Int) := by omega
   have t2 : ¬ (s.size : Int) ≤ 64 := by omega
   clear hk
   go_enter Tryz.func76, Tryz.ntmps76
   go_wp2
   go_ret
   exact ⟨rfl, rfl⟩
 ·have hk : isKey s = false := by unfold isKey; simp; omega
  rw [hk]
  have h0 : s.size = 0 := by omega
  have t1 : ¬ (0 : Int) < (s.size : Int) := by omega
  clear hk h0
  go_enter Tryz.func76, Tryz.ntmps76
  go_wp2
  go_ret
  exact ⟨rfl, rfl⟩
theorem disKey_is (s : ByteArray) (b : Bool) (h : isKey s = b) (w : World) : Calls Tryz.prog 76 #[.string s] w fun e w' => e = .returned (.bool b) ∧ w = w' := by
 subst h
 exact disKey_any s w

theorem pgEnts_step (all n : Nat) (s : RS) (r : Rdr) : pgEnts all (n + 1) s r = (pgEnt all s r).bind (fun q => pgEnts all n q.1 q.2) := by
 rw [pgEnts]
 cases pgEnt all s r <;> rfl

set_option maxRecDepth 100000 in
set_option maxHeartbeats 4000000 in
theorem rpage_any (w0 : World) (rb ob : Nat) (m : RM) (r : Rdr) (all : Nat) (W : World) (h : RSt w0 W rb m) (hR : Rd W ob r) (ho : w0.heap.size ≤ ob) (hm : m.over = false) (hal : all ≤ 140737488355328) (hne : m.s.entries.length ≤ 100000000000) :
  Calls Tryz.prog 54 #[.pointer (some ⟨rb, 0, none⟩), .pointer (some ⟨ob, 0, none⟩), .int .i64 all] W (RPost w0 rb ob false (pgPage all m.s r)) := by
 obtain ⟨n, r1, h1⟩ : ∃ n r1, r.number = (n, r1) := ⟨_, _, rfl⟩
 have n1 := fun W hW => rnumber_any ob r W hW
 have g1 := number_nonneg r
 rw [h1] at n1 g1
 simp only at n1 g1
 obtain ⟨q, hq⟩ : ∃ q, q = pgPage all m.s r := ⟨_, rfl⟩
 have hq' := hq
 unfold pgPage at hq'
 rw [h1] at hq'
 simp only at hq'
 rw [← hq]
 have N1 := Lib.hid n1
 have HM := Lib.hid hm
 obtain ⟨f, hf⟩ : ∃ f, f = m.s.frames := ⟨_, rfl⟩
 rw [← hf] at hq'
 have HQ := Lib.hid hq'
 have HFF := Lib.hid hf
 have HL : Hid (m.s.entries.length ≤ 100000000000) := Lib.hid hne
 clear hq hq' n1 h1 hm hf hne
 go_enter Tryz.func54, Tryz.ntmps54
 go_wp2_with fail
 refine (N1.out _ hR).mono ?_; rintro e w1 ⟨rfl, S1⟩
 have D1 := h.rd hR S1 ho
 have R1 := S1.1
 clear h hR N1 S1
 have k4 := D1.c0.2.2.2.2.1
 rw [← HFF.out] at k4
 rcases Classical.em (0 < f ∧ 1 ≤ n ∧ n ≤ 128) with hc | hc
 ·have hq := HQ.out
  rw [if_pos hc] at hq
  obtain ⟨hf0, hn1, hn2⟩ := hc
  obtain ⟨N, rfl⟩ := Int.eq_ofNat_of_zero_le g1.1
  rw [Int.toNat_natCast] at hq
  have HQ2 := Lib.hid hq
  have hN : N ≤ 128 := by omega
  clear hq HQ g1
  go_wp2_with fail
  refine (may_yes _).mono ?_; rintro e w2 ⟨rfl, rfl⟩
  clear k4 hf0 hn1 hn2
  go_wp2
  go_loopw [27] (fun i wr => ∃ (k : Nat) (m' : RM) (r' : Rdr), k ≤ N ∧ i = .int .i64 k ∧ RSt w0 wr rb m' ∧ Rd wr ob r' ∧ Hid (m'.over = false) ∧ Hid (m'.s.entries.length = m.s.entries.length + k) ∧ Hid (pgEnts all N m.s r1 = pgEnts all (N - k) m'.s r')) (fun i _ => N - (intOf i).toNat)
  case atStart => exact ⟨0, m, r1, Nat.zero_le _, rfl, D1, R1, HM, Lib.hid rfl, Lib.hid rfl⟩
  case round =>
   obtain ⟨wi, rfl⟩ : ∃ wi, wi = wr := ⟨_, rfl⟩
   obtain ⟨k, m', r', hk, rfl, DI, RI, HMI, HEI, HPI⟩ := hrel
   clear D1 R1
   by_cases hkN : k < N
   ·have hkN' : (k : Int) < (N : Int) := by omega
    obtain ⟨ks, ra, hta⟩ : ∃ ks ra, r'.text (all : Int) = (ks, ra) := ⟨_, _, rfl⟩
    obtain ⟨t, rc, htc⟩ : ∃ t rc, ra.text (all : Int) = (t, rc) := ⟨_, _, rfl⟩
    obtain ⟨⟨vk, vn, vt⟩, ve, hve⟩ : ∃ v e, datumDecode t = (v, e) := ⟨_, _, rfl⟩
    have hst := HPI.out
    rw [show N - k = (N - (k + 1)) + 1 by omega, pgEnts_step] at hst
    unfold pgEnt at hst
    rw [hta] at hst
    simp only [htc, hve] at hst
    have tx1 := fun W (hh : Rd W ob r') => rtext_any ob r' (all : Int) (by omega) (by omega) W hh
    have tx2 := fun W (hh : Rd W ob ra) => rtext_any ob ra (all : Int) (by omega) (by omega) W hh
    have hml := text_len ra (all : Int)
    rw [hta] at tx1
    rw [htc] at tx2 hml
    simp only at tx1 tx2 hml
    have hsz : (ofBs t).size = t.length := by rw [← size_data, ofBs_data]
    obtain ⟨kb, hkb⟩ : ∃ kb, kb = ofBs ks := ⟨_, rfl⟩
    rw [← hkb] at hst tx1
    have HST := Lib.hid hst
    have TX1 := Lib.hid tx1
    have TX2 := Lib.hid tx2
    have HVE := Lib.hid hve
    have HSZ := Lib.hid hsz
    have HML := Lib.hid hml
    clear hta htc hve hst tx1 tx2 hml hsz hkb HPI
    go_wp2_with fail
    refine (TX1.out _ RI).mono ?_; rintro e w3 ⟨rfl, S3⟩
    have D3 := DI.rd RI S3 ho
    have R3 := S3.1
    clear DI RI S3 TX1
    go_wp2_with fail
    refine (TX2.out _ R3).mono ?_; rintro e w4 ⟨rfl, S4⟩
    have D4 := D3.rd R3 S4 ho
    have R4 := S4.1
    have hxl : ra.xs.length ≤ 140737488355328 := by
     obtain ⟨_, _, _, _, h5⟩ := R3
     exact h5
    have hml2 : t.length ≤ 140737488355328 := by have := HML.out; omega
    clear D3 R3 S4 TX2 hxl
    have htb := run_toBytes (P := Tryz.prog) 9 33 5 (ofBs t) Tryz.underlying9 Tryz.underlying33 Tryz.underlying5
    go_wp2_with fail
    have hrs := (Row.str w4 (ofBs t) (grownCap w4 (ofBs t).size 0 5) 5)
    rw [show (ofBs t).data.toList = t from ofBs_data t] at hrs
    refine (ddecode_any _ _ _ t _ hrs.drew HSZ.out (fun h => by simp at h) (by rw [HSZ.out]; exact hml2)).mono ?_; rintro e w5 ⟨rfl, hb⟩
    rw [HVE.out]
    have hb2 : Below w4.heap.size w4 w5 := below_then (((Below.refl w4.heap.size w4).alloc (Nat.le_refl _) _).drew) hb (by simp)
    have D5 := D4.below hb2
    have R5 := R4.below hb2
    clear htb hrs hb hb2 D4 R4
    unfold valCells
    simp only
    have D6 := D5.alloc (.cells #[.int .i64 vk, .int .i64 vn, .string vt] 60)
    have L6 := Loc.new w5 #[.int .i64 vk, .int .i64 vn, .string vt] 60
    have R6 := R5.alloc (.cells #[.int .i64 vk, .int .i64 vn, .string vt] 60)
    go_upto_region 6 with (fail)
    obtain ⟨w6, hw6⟩ : ∃ w6, w6 = w5.alloc (.cells #[.int .i64 vk, .int .i64 vn, .string vt] 60) := ⟨_, rfl⟩
    rw [← hw6] at D6 L6 R6
    rw [← hw6]
    clear hw6 D5 R5
    have k6 := D6.c0.2.2.2.2.2.2.1
    have x0 := L6.cell 0
    simp only [List.getElem?_toArray, List.getElem?_cons_zero] at x0
    rcases Classical.em (ve = 0 ∧ isKey kb = true ∧ leS kb m'.s.key = false ∧ vk ≠ 0) with hc | hc
    ·have hst := HST.out
     rw [if_pos hc] at hst
     have HST2 := Lib.hid hst
     obtain ⟨rfl, hkk, hl, hvk⟩ := hc
     have HKK := Lib.hid hkk
     unfold leS at hl
     have t3 : (vk != 0) = true := by simpa using hvk
     clear hst HST hkk hvk
     go_wp2_with (go_at_call 76; refine (disKey_is kb true HKK.out _).mono ?_; rintro e w9 ⟨rfl, rfl⟩)
     refine (may_yes _).mono ?_; rintro e w9 ⟨rfl, rfl⟩
     have f6 := D6.l.free 6
     have D7 := D6.put (m' := { m' with s := { m'.s with key := kb } }) 6 (.string kb) rfl rfl rfl rfl rfl rfl rfl rfl
     have hne6 : w5.heap.size ≠ rb := L6.ne D6.l (by decide)
     have L7 := L6.other (a := ⟨rb, 6, none⟩) hne6 (.string kb)
     have R7 := R6.other D6.l (by decide) (by decide) 6 (.string kb)
     go_upto_region 8 with (fail)
     obtain ⟨w7, hw7⟩ : ∃ w7, w7 = w6.setCell ⟨rb, 6, none⟩ (.string kb) := ⟨_, rfl⟩
     rw [← hw7] at D7 L7 R7
     rw [← hw7]
     clear hw7 D6 L6 R6 k6 x0 f6
     have p3 : w7.cell? ⟨rb, 3, none⟩ = some (.slice m'.E m'.s.entries.length m'.ce) := D7.c0.2.2.2.1
     have x0 := L7.cell 0; have x1 := L7.cell 1; have x2 := L7.cell 2
     simp only [List.getElem?_toArray, List.getElem?_cons_zero, List.getElem?_cons_succ] at x0 x1 x2
     have f3 := D7.l.free 3
     have D8 := (D7.alloc (.cells #[.string kb, .int .i64 vk, .int .i64 vn, .string vt] 62)).drew
     have hown8 : (w7.alloc (.cells #[.string kb, .int .i64 vk, .int .i64 vn, .string vt] 62)).drew.ownsRow 0 62 4 (.slice m'.E m'.s.entries.length m'.ce) m'.s.entries.length (entsCells m'.s.entries) := owns_base (base' := 0) D8.oe (fun _ _ => Nat.zero_le _)
     have hsrc := Row.src (P := Tryz.prog) (c := 1) (size := 4) (n := 1) (tx := 37) (Row.drew (Row.of_loc (Loc.new w7 #[.string kb, .int .i64 vk, .int .i64 vn, .string vt] 62))) Tryz.underlying37 rfl (by simp [Value.oneCell']) (fun h => by simp at h)
     have R8 := (R7.alloc (.cells #[.string kb, .int .i64 vk, .int .i64 vn, .string vt] 62)).drewN 1
     have p3a : (w7.alloc (.cells #[.string kb, .int .i64 vk, .int .i64 vn, .string vt] 62)).cell? ⟨rb, 3, none⟩ = some (.slice m'.E m'.s.entries.length m'.ce) := (D7.alloc (.cells #[.string kb, .int .i64 vk, .int .i64 vn, .string vt] 62)).c0.2.2.2.1
     obtain ⟨ne, hne'⟩ : ∃ ne, ne = m'.s.entries.length := ⟨_, rfl⟩
     have hneb : ne ≤ 100000000200 := by have := HEI.out; have := HL.out; omega
     have HD8 := Lib.hid D8
     have HR8 := Lib.hid R8
     have HNE := Lib.hid hne'
     rw [← hne'] at p3 hown8 p3a
     clear hne' D8 R8 R7 D7 L7 hne6
     go_region_law ((refine step_append_mine _ rfl _ _ 37 37 rfl 62 (.agg #[.string ⟨#[]⟩, .int .i64 0, .int .i64 0, .string ⟨#[]⟩]) 4 48 Tryz.underlying37 infoEntry rfl (by decide) _ _ _ rfl hown8 _ _ _ rfl hsrc (by simp only [maxLen]; omega) (by omega) ?_; intro A3 c3 w8 hown9 hg8 hb8 hx8; have HG8 : Hid ((w7.alloc (.cells #[.string kb, .int .i64 vk, .int .i64 vn, .string vt] 62)).drew.grownBy w8 (Value.slice m'.E m'.s.entries.length m'.ce).ownBlock) := Lib.hid (by rw [← HNE.out]; exact hg8); have HB8 : Hid (∀ k, (Value.slice A3 (ne + 1) c3).ownBlock = some k → (Value.slice m'.E m'.s.entries.length m'.ce).ownBlock = some k ∨ k = ((w7.alloc (.cells #[.string kb, .int .i64 vk, .int .i64 vn, .string vt] 62)).drew).heap.size) := Lib.hid (by rw [← HNE.out]; exact hb8); have HL9 := (HD8.out.grownE HG8.out).1; have p3b : w8.cell? ⟨rb, 3, none⟩ = some (.slice m'.E m'.s.entries.length m'.ce) := HL9.cell 3; have f3b := HL9.free 3; clear hg8 hb8 hx8))
     all_goals
      clear p3b p3 p3a x0 x1 x2
      rw [HNE.out] at hown9 HB8
      have D9 := HD8.out.addE (y := ⟨kb, ⟨vk, vn, vt⟩⟩) hown9 HG8.out HB8.out
      have R9 := (HR8.out.grown HD8.out.oe HG8.out (by decide) (by decide)).other (HD8.out.grownE HG8.out).1 (by decide) (by decide) 3 (.slice A3 (m'.s.entries.length + 1) c3)
      rw [← HNE.out] at D9 R9
      go_wp2
      go_roundw
      case rel =>
       refine ⟨k + 1, _, rc, by omega, by go_num, D9, R9, HMI, Lib.hid ?_, ?_⟩
       ·show (m'.s.entries ++ [_]).length = _
        rw [List.length_append, HEI.out]
        rfl
       ·exact HST2
      case measure => simp [intOf]; omega
    ·have hst := HST.out
     rw [if_neg hc] at hst
     have hq := HQ2.out
     rw [hst] at hq
     have HQ3 : Hid (q = none) := Lib.hid hq
     clear hst hq HST HQ2
     by_cases hve0 : ve = 0
     ·subst hve0
      by_cases hkk : isKey kb = true
      ·by_cases hl : leS kb m'.s.key = false
       ·have hvk : vk = 0 := by
         by_cases hvk : vk = 0
         ·exact hvk
         ·exact absurd ⟨rfl, hkk, hl, hvk⟩ hc
        subst hvk
        have HKK := Lib.hid hkk
        unfold leS at hl
        clear hkk hc
        go_wp2_with (go_at_call 76; refine (disKey_is kb true HKK.out _).mono ?_; rintro e w9 ⟨rfl, rfl⟩)
        refine (may_no _).mono ?_; rintro e w9 ⟨rfl, rfl⟩
        go_wp2
        exact ⟨rfl, .no HQ3.out D6.b⟩
       ·have hl : leS kb m'.s.key = true := by simpa using hl
        have HKK := Lib.hid hkk
        unfold leS at hl
        clear hkk hc
        go_wp2_with (go_at_call 76; refine (disKey_is kb true HKK.out _).mono ?_; rintro e w9 ⟨rfl, rfl⟩)
        refine (may_no _).mono ?_; rintro e w9 ⟨rfl, rfl⟩
        go_wp2
        exact ⟨rfl, .no HQ3.out D6.b⟩
      ·have HKK : Hid (isKey kb = false) := Lib.hid (by simpa using hkk)
       clear hkk hc
       go_wp2_with (go_at_call 76; refine (disKey_is kb false HKK.out _).mono ?_; rintro e w9 ⟨rfl, rfl⟩)
       refine (may_no _).mono ?_; rintro e w9 ⟨rfl, rfl⟩
       go_wp2
       exact ⟨rfl, .no HQ3.out D6.b⟩
     ·have t1 : (ve == 0) = false := by simpa using hve0
      clear hve0 hc
      go_wp2_with fail
      refine (may_no _).mono ?_; rintro e w9 ⟨rfl, rfl⟩
      go_wp2
      exact ⟨rfl, .no HQ3.out D6.b⟩
   ·obtain rfl : k = N := by omega
    have hst := HPI.out
    rw [Nat.sub_self, pgEnts] at hst
    have hq := HQ2.out
    rw [hst] at hq
    have HQ3 := Lib.hid hq
    clear hst hq HPI HQ2
    go_wp2
    go_end0
    exact RPost.yes HQ3.out rfl HMI.out DI RI
 ·have hq := HQ.out
  rw [if_neg hc] at hq
  have HQ3 := Lib.hid hq
  clear hq HQ
  by_cases hf0 : 0 < f
  ·have t0 : (0 : Int) < (f : Int) := by omega
   by_cases hn1 : 1 ≤ n
   ·have t2 : decide (n ≤ 128) = false := by
     have : ¬ n ≤ 128 := fun h => hc ⟨hf0, hn1, h⟩
     simpa using this
    clear hc
    go_wp2_with fail
    refine (may_no _).mono ?_; rintro e w9 ⟨rfl, rfl⟩
    go_wp2
    exact ⟨rfl, .no HQ3.out D1.b⟩
   ·have t1 : decide (1 ≤ n) = false := by simpa using hn1
    clear hc hn1
    go_wp2_with fail
    refine (may_no _).mono ?_; rintro e w9 ⟨rfl, rfl⟩
    go_wp2
    exact ⟨rfl, .no HQ3.out D1.b⟩
  ·obtain rfl : f = 0 := by omega
   rw [show ((0 : Nat) : Int) = 0 from rfl] at k4
   clear hf0 hc
   go_wp2_with fail
   refine (may_no _).mono ?_; rintro e w9 ⟨rfl, rfl⟩
   go_wp2
   exact ⟨rfl, .no HQ3.out D1.b⟩
end Go.Proofs.YtnieminnnkbneaaGreat
