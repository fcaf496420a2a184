/- Walk of page.reader.page. -/
import Derived.Test.YtnieminnnkbneaaGreatRdp
namespace Go.Proofs.YtnieminnnkbneaaGreat
open Go.RowKit

theorem disKey_any (s : ByteArray) (w : World) : Calls Tryz.prog 76 #[.string s] w fun e w' => e = .returned (.bool (isKey s)) ∧ w = w' := by
  by_cases h1 : 1 ≤ s.size
  · by_cases h2 : s.size ≤ 64
    · have hk : isKey s = true := by unfold isKey; simp; omega
      rw [hk]
      have t1 : (0 : Int) < (s.size : Int) := by omega
      have t2 : (s.size : Int) ≤ 64 := by omega
      clear hk
      go_enter Tryz.func76, Tryz.ntmps76
      go_wp2
      go_ret
      exact ⟨rfl, rfl⟩
    · have hk : isKey s = false := by unfold isKey; simp; omega
      rw [hk]
      have t1 : (0 : Int) < (s.size : Int) := by omega
      have t2 : ¬ (s.size : Int) ≤ 64 := by omega
      clear hk
      go_enter Tryz.func76, Tryz.ntmps76
      go_wp2
      go_ret
      exact ⟨rfl, rfl⟩
  · have hk : isKey s = false := by unfold isKey; simp; omega
    rw [hk]
    have h0 : s.size = 0 := by omega
    have t1 : ¬ (0 : Int) < (s.size : Int) := by omega
    clear hk h0
    go_enter Tryz.func76, Tryz.ntmps76
    go_wp2
    go_ret
    exact ⟨rfl, rfl⟩
theorem disKey_is (s : ByteArray) (b : Bool) (h : isKey s = b) (w : World) : Calls Tryz.prog 76 #[.string s] w fun e w' => e = .returned (.bool b) ∧ w = w' := by
  subst h
  exact disKey_any s w

theorem pgEnts_step (all n : Nat) (s : RS) (r : Rdr) : pgEnts all (n + 1) s r = (pgEnt all s r).bind (fun q => pgEnts all n q.1 q.2) := by
  rw [pgEnts]
  cases pgEnt all s r <;> rfl

set_option maxRecDepth 100000 in
set_option maxHeartbeats 4000000 in
theorem rpage_any (w0 : World) (rb ob : Nat) (m : RM) (r : Rdr) (all : Nat) (W : World) (h : RSt w0 W rb m) (hR : Rd W ob r) (ho : w0.heap.size ≤ ob) (hm : m.over = false) (hal : all ≤ 140737488355328) (hne : m.s.entries.length ≤ 100000000000) :
    Calls Tryz.prog 54 #[.pointer (some ⟨rb, 0, none⟩), .pointer (some ⟨ob, 0, none⟩), .int .i64 all] W (RPost w0 rb ob false (pgPage all m.s r)) := by
  obtain ⟨n, r1, h1⟩ : ∃ n r1, r.number = (n, r1) := ⟨_, _, rfl⟩
  have n1 := fun W hW => rnumber_any ob r W hW
  have g1 := number_nonneg r
  rw [h1] at n1 g1
  simp only at n1 g1
  obtain ⟨q, hq⟩ : ∃ q, q = pgPage all m.s r := ⟨_, rfl⟩
  have hq' := hq
  unfold pgPage at hq'
  rw [h1] at hq'
  simp only at hq'
  rw [← hq]
  have N1 := Lib.hid n1
  have HM := Lib.hid hm
  obtain ⟨f, hf⟩ : ∃ f, f = m.s.frames := ⟨_, rfl⟩
  rw [← hf] at hq'
  have HQ := Lib.hid hq'
  have HFF := Lib.hid hf
  have HL : Hid (m.s.entries.length ≤ 100000000000) := Lib.hid hne
  clear hq hq' n1 h1 hm hf hne
  go_enter Tryz.func54, Tryz.ntmps54
  go_wp2_with fail
  refine (N1.out _ hR).mono ?_; rintro e w1 ⟨rfl, S1⟩
  have D1 := h.rd hR S1 ho
  have R1 := S1.1
  clear h hR N1 S1
  have k4 := D1.c0.2.2.2.2.1
  rw [← HFF.out] at k4
  rcases Classical.em (0 < f ∧ 1 ≤ n ∧ n ≤ 128) with hc | hc
  · have hq := HQ.out
    rw [if_pos hc] at hq
    obtain ⟨hf0, hn1, hn2⟩ := hc
    obtain ⟨N, rfl⟩ := Int.eq_ofNat_of_zero_le g1.1
    rw [Int.toNat_natCast] at hq
    have HQ2 := Lib.hid hq
    have hN : N ≤ 128 := by omega
    clear hq HQ g1
    go_wp2_with fail
    refine (may_yes _).mono ?_; rintro e w2 ⟨rfl, rfl⟩
    clear k4 hf0 hn1 hn2
    go_wp2
    go_loopw [27] (fun i wr => ∃ (k : Nat) (m' : RM) (r' : Rdr), k ≤ N ∧ i = .int .i64 k ∧ RSt w0 wr rb m' ∧ Rd wr ob r' ∧ Hid (m'.over = false) ∧ Hid (m'.s.entries.length = m.s.entries.length + k) ∧ Hid (pgEnts all N m.s r1 = pgEnts all (N - k) m'.s r')) (fun i _ => N - (intOf i).toNat)
    case atStart => exact ⟨0, m, r1, Nat.zero_le _, rfl, D1, R1, HM, Lib.hid rfl, Lib.hid rfl⟩
    case round =>
      obtain ⟨wi, rfl⟩ : ∃ wi, wi = wr := ⟨_, rfl⟩
      obtain ⟨k, m', r', hk, rfl, DI, RI, HMI, HEI, HPI⟩ := hrel
      clear D1 R1
      by_cases hkN : k < N
      · have hkN' : (k : Int) < (N : Int) := by omega
        obtain ⟨ks, ra, hta⟩ : ∃ ks ra, r'.text (all : Int) = (ks, ra) := ⟨_, _, rfl⟩
        obtain ⟨t, rc, htc⟩ : ∃ t rc, ra.text (all : Int) = (t, rc) := ⟨_, _, rfl⟩
        obtain ⟨⟨vk, vn, vt⟩, ve, hve⟩ : ∃ v e, datumDecode t = (v, e) := ⟨_, _, rfl⟩
        have hst := HPI.out
        rw [show N - k = (N - (k + 1)) + 1 by omega, pgEnts_step] at hst
        unfold pgEnt at hst
        rw [hta] at hst
        simp only [htc, hve] at hst
        have tx1 := fun W (hh : Rd W ob r') => rtext_any ob r' (all : Int) (by omega) (by omega) W hh
        have tx2 := fun W (hh : Rd W ob ra) => rtext_any ob ra (all : Int) (by omega) (by omega) W hh
        have hml := text_len ra (all : Int)
        rw [hta] at tx1
        rw [htc] at tx2 hml
        simp only at tx1 tx2 hml
        have hsz : (ofBs t).size = t.length := by rw [← size_data, ofBs_data]
        obtain ⟨kb, hkb⟩ : ∃ kb, kb = ofBs ks := ⟨_, rfl⟩
        rw [← hkb] at hst tx1
        have HST := Lib.hid hst
        have TX1 := Lib.hid tx1
        have TX2 := Lib.hid tx2
        have HVE := Lib.hid hve
        have HSZ := Lib.hid hsz
        have HML := Lib.hid hml
        clear hta htc hve hst tx1 tx2 hml hsz hkb HPI
        go_wp2_with fail
        refine (TX1.out _ RI).mono ?_; rintro e w3 ⟨rfl, S3⟩
        have D3 := DI.rd RI S3 ho
        have R3 := S3.1
        clear DI RI S3 TX1
        go_wp2_with fail
        refine (TX2.out _ R3).mono ?_; rintro e w4 ⟨rfl, S4⟩
        have D4 := D3.rd R3 S4 ho
        have R4 := S4.1
        have hxl : ra.xs.length ≤ 140737488355328 := by
          obtain ⟨_, _, _, _, h5⟩ := R3
          exact h5
        have hml2 : t.length ≤ 140737488355328 := by have := HML.out; omega
        clear D3 R3 S4 TX2 hxl
        have htb := run_toBytes (P := Tryz.prog) 9 33 5 (ofBs t) Tryz.underlying9 Tryz.underlying33 Tryz.underlying5
        go_wp2_with fail
        have hrs := (Row.str w4 (ofBs t) (grownCap w4 (ofBs t).size 0 5) 5)
        rw [show (ofBs t).data.toList = t from ofBs_data t] at hrs
        refine (ddecode_any _ _ _ t _ hrs.drew HSZ.out (fun h => by simp at h) (by rw [HSZ.out]; exact hml2)).mono ?_; rintro e w5 ⟨rfl, hb⟩
        rw [HVE.out]
        have hb2 : Below w4.heap.size w4 w5 := below_then (((Below.refl w4.heap.size w4).alloc (Nat.le_refl _) _).drew) hb (by simp)
        have D5 := D4.below hb2
        have R5 := R4.below hb2
        clear htb hrs hb hb2 D4 R4
        unfold valCells
        simp only
        have D6 := D5.alloc (.cells #[.int .i64 vk, .int .i64 vn, .string vt] 60)
        have L6 := Loc.new w5 #[.int .i64 vk, .int .i64 vn, .string vt] 60
        have R6 := R5.alloc (.cells #[.int .i64 vk, .int .i64 vn, .string vt] 60)
        go_upto_region 6 with (fail)
        obtain ⟨w6, hw6⟩ : ∃ w6, w6 = w5.alloc (.cells #[.int .i64 vk, .int .i64 vn, .string vt] 60) := ⟨_, rfl⟩
        rw [← hw6] at D6 L6 R6
        rw [← hw6]
        clear hw6 D5 R5
        have k6 := D6.c0.2.2.2.2.2.2.1
        have x0 := L6.cell 0
        simp only [List.getElem?_toArray, List.getElem?_cons_zero] at x0
        rcases Classical.em (ve = 0 ∧ isKey kb = true ∧ leS kb m'.s.key = false ∧ vk ≠ 0) with hc | hc
        · have hst := HST.out
          rw [if_pos hc] at hst
          have HST2 := Lib.hid hst
          obtain ⟨rfl, hkk, hl, hvk⟩ := hc
          have HKK := Lib.hid hkk
          unfold leS at hl
          have t3 : (vk != 0) = true := by simpa using hvk
          clear hst HST hkk hvk
          go_wp2_with (go_at_call 76; refine (disKey_is kb true HKK.out _).mono ?_; rintro e w9 ⟨rfl, rfl⟩)
          refine (may_yes _).mono ?_; rintro e w9 ⟨rfl, rfl⟩
          have f6 := D6.l.free 6
          have D7 := D6.put (m' := { m' with s := { m'.s with key := kb } }) 6 (.string kb) rfl rfl rfl rfl rfl rfl rfl rfl
          have hne6 : w5.heap.size ≠ rb := L6.ne D6.l (by decide)
          have L7 := L6.other (a := ⟨rb, 6, none⟩) hne6 (.string kb)
          have R7 := R6.other D6.l (by decide) (by decide) 6 (.string kb)
          go_upto_region 8 with (fail)
          obtain ⟨w7, hw7⟩ : ∃ w7, w7 = w6.setCell ⟨rb, 6, none⟩ (.string kb) := ⟨_, rfl⟩
          rw [← hw7] at D7 L7 R7
          rw [← hw7]
          clear hw7 D6 L6 R6 k6 x0 f6
          have p3 : w7.cell? ⟨rb, 3, none⟩ = some (.slice m'.E m'.s.entries.length m'.ce) := D7.c0.2.2.2.1
          have x0 := L7.cell 0; have x1 := L7.cell 1; have x2 := L7.cell 2
          simp only [List.getElem?_toArray, List.getElem?_cons_zero, List.getElem?_cons_succ] at x0 x1 x2
          have f3 := D7.l.free 3
          have D8 := (D7.alloc (.cells #[.string kb, .int .i64 vk, .int .i64 vn, .string vt] 62)).drew
          have hown8 : (w7.alloc (.cells #[.string kb, .int .i64 vk, .int .i64 vn, .string vt] 62)).drew.ownsRow 0 62 4 (.slice m'.E m'.s.entries.length m'.ce) m'.s.entries.length (entsCells m'.s.entries) := owns_base (base' := 0) D8.oe (fun _ _ => Nat.zero_le _)
          have hsrc := Row.src (P := Tryz.prog) (c := 1) (size := 4) (n := 1) (tx := 37) (Row.drew (Row.of_loc (Loc.new w7 #[.string kb, .int .i64 vk, .int .i64 vn, .string vt] 62))) Tryz.underlying37 rfl (by simp [Value.oneCell']) (fun h => by simp at h)
          have R8 := (R7.alloc (.cells #[.string kb, .int .i64 vk, .int .i64 vn, .string vt] 62)).drewN 1
          have p3a : (w7.alloc (.cells #[.string kb, .int .i64 vk, .int .i64 vn, .string vt] 62)).cell? ⟨rb, 3, none⟩ = some (.slice m'.E m'.s.entries.length m'.ce) := (D7.alloc (.cells #[.string kb, .int .i64 vk, .int .i64 vn, .string vt] 62)).c0.2.2.2.1
          obtain ⟨ne, hne'⟩ : ∃ ne, ne = m'.s.entries.length := ⟨_, rfl⟩
          have hneb : ne ≤ 100000000200 := by have := HEI.out; have := HL.out; omega
          have HD8 := Lib.hid D8
          have HR8 := Lib.hid R8
          have HNE := Lib.hid hne'
          rw [← hne'] at p3 hown8 p3a
          clear hne' D8 R8 R7 D7 L7 hne6
          go_region_law ((refine step_append_mine _ rfl _ _ 37 37 rfl 62 (.agg #[.string ⟨#[]⟩, .int .i64 0, .int .i64 0, .string ⟨#[]⟩]) 4 48 Tryz.underlying37 infoEntry rfl (by decide) _ _ _ rfl hown8 _ _ _ rfl hsrc (by simp only [maxLen]; omega) (by omega) ?_; intro A3 c3 w8 hown9 hg8 hb8 hx8; have HG8 : Hid ((w7.alloc (.cells #[.string kb, .int .i64 vk, .int .i64 vn, .string vt] 62)).drew.grownBy w8 (Value.slice m'.E m'.s.entries.length m'.ce).ownBlock) := Lib.hid (by rw [← HNE.out]; exact hg8); have HB8 : Hid (∀ k, (Value.slice A3 (ne + 1) c3).ownBlock = some k → (Value.slice m'.E m'.s.entries.length m'.ce).ownBlock = some k ∨ k = ((w7.alloc (.cells #[.string kb, .int .i64 vk, .int .i64 vn, .string vt] 62)).drew).heap.size) := Lib.hid (by rw [← HNE.out]; exact hb8); have HL9 := (HD8.out.grownE HG8.out).1; have p3b : w8.cell? ⟨rb, 3, none⟩ = some (.slice m'.E m'.s.entries.length m'.ce) := HL9.cell 3; have f3b := HL9.free 3; clear hg8 hb8 hx8))
          all_goals
            clear p3b p3 p3a x0 x1 x2
            rw [HNE.out] at hown9 HB8
            have D9 := HD8.out.addE (y := ⟨kb, ⟨vk, vn, vt⟩⟩) hown9 HG8.out HB8.out
            have R9 := (HR8.out.grown HD8.out.oe HG8.out (by decide) (by decide)).other (HD8.out.grownE HG8.out).1 (by decide) (by decide) 3 (.slice A3 (m'.s.entries.length + 1) c3)
            rw [← HNE.out] at D9 R9
            go_wp2
            go_roundw
            case rel =>
              refine ⟨k + 1, _, rc, by omega, by go_num, D9, R9, HMI, Lib.hid ?_, ?_⟩
              · show (m'.s.entries ++ [_]).length = _
                rw [List.length_append, HEI.out]
                rfl
              · exact HST2
            case measure => simp [intOf]; omega
        · have hst := HST.out
          rw [if_neg hc] at hst
          have hq := HQ2.out
          rw [hst] at hq
          have HQ3 : Hid (q = none) := Lib.hid hq
          clear hst hq HST HQ2
          by_cases hve0 : ve = 0
          · subst hve0
            by_cases hkk : isKey kb = true
            · by_cases hl : leS kb m'.s.key = false
              · have hvk : vk = 0 := by
                  by_cases hvk : vk = 0
                  · exact hvk
                  · exact absurd ⟨rfl, hkk, hl, hvk⟩ hc
                subst hvk
                have HKK := Lib.hid hkk
                unfold leS at hl
                clear hkk hc
                go_wp2_with (go_at_call 76; refine (disKey_is kb true HKK.out _).mono ?_; rintro e w9 ⟨rfl, rfl⟩)
                refine (may_no _).mono ?_; rintro e w9 ⟨rfl, rfl⟩
                go_wp2
                exact ⟨rfl, .no HQ3.out D6.b⟩
              · have hl : leS kb m'.s.key = true := by simpa using hl
                have HKK := Lib.hid hkk
                unfold leS at hl
                clear hkk hc
                go_wp2_with (go_at_call 76; refine (disKey_is kb true HKK.out _).mono ?_; rintro e w9 ⟨rfl, rfl⟩)
                refine (may_no _).mono ?_; rintro e w9 ⟨rfl, rfl⟩
                go_wp2
                exact ⟨rfl, .no HQ3.out D6.b⟩
            · have HKK : Hid (isKey kb = false) := Lib.hid (by simpa using hkk)
              clear hkk hc
              go_wp2_with (go_at_call 76; refine (disKey_is kb false HKK.out _).mono ?_; rintro e w9 ⟨rfl, rfl⟩)
              refine (may_no _).mono ?_; rintro e w9 ⟨rfl, rfl⟩
              go_wp2
              exact ⟨rfl, .no HQ3.out D6.b⟩
          · have t1 : (ve == 0) = false := by simpa using hve0
            clear hve0 hc
            go_wp2_with fail
            refine (may_no _).mono ?_; rintro e w9 ⟨rfl, rfl⟩
            go_wp2
            exact ⟨rfl, .no HQ3.out D6.b⟩
      · obtain rfl : k = N := by omega
        have hst := HPI.out
        rw [Nat.sub_self, pgEnts] at hst
        have hq := HQ2.out
        rw [hst] at hq
        have HQ3 := Lib.hid hq
        clear hst hq HPI HQ2
        go_wp2
        go_end0
        exact RPost.yes HQ3.out rfl HMI.out DI RI
  · have hq := HQ.out
    rw [if_neg hc] at hq
    have HQ3 := Lib.hid hq
    clear hq HQ
    by_cases hf0 : 0 < f
    · have t0 : (0 : Int) < (f : Int) := by omega
      by_cases hn1 : 1 ≤ n
      · have t2 : decide (n ≤ 128) = false := by
          have : ¬ n ≤ 128 := fun h => hc ⟨hf0, hn1, h⟩
          simpa using this
        clear hc
        go_wp2_with fail
        refine (may_no _).mono ?_; rintro e w9 ⟨rfl, rfl⟩
        go_wp2
        exact ⟨rfl, .no HQ3.out D1.b⟩
      · have t1 : decide (1 ≤ n) = false := by simpa using hn1
        clear hc hn1
        go_wp2_with fail
        refine (may_no _).mono ?_; rintro e w9 ⟨rfl, rfl⟩
        go_wp2
        exact ⟨rfl, .no HQ3.out D1.b⟩
    · obtain rfl : f = 0 := by omega
      rw [show ((0 : Nat) : Int) = 0 from rfl] at k4
      clear hf0 hc
      go_wp2_with fail
      refine (may_no _).mono ?_; rintro e w9 ⟨rfl, rfl⟩
      go_wp2
      exact ⟨rfl, .no HQ3.out D1.b⟩
end Go.Proofs.YtnieminnnkbneaaGreat
