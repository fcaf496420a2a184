/- Walk of treadlelaw12.stands. -/
import Derived.Test.YtnmcdifkknphgaaBu
namespace Go.Proofs.Ytnmcdifkknphgaa
open Go.RowKit

theorem Twin.ok {W : World} {base : Nat} {y : TxnC} (h : Twin W base y) : y.ok W := by
  have ra := Row.of_owns h.a
  have rb := Row.of_owns h.b
  rw [valsCells_append] at ra
  rw [codeCells_append] at rb
  obtain ⟨ga, ea, _⟩ := owns_some h.a (by omega)
  obtain ⟨gb, eb, _⟩ := owns_some h.b (by omega)
  exact ⟨ra.fore, (fun h => by rw [ea] at h; cases h), rb.fore, (fun h => by rw [eb] at h; cases h)⟩

theorem fit_of {l lt : List TxnC} (h : lt.map (·.t) = l.map (·.t)) (hf : ∀ x ∈ l, x.fit) : ∀ y ∈ lt, y.fit := fun y hy => by
  have h1 : y.t ∈ l.map (·.t) := by rw [← h]; exact List.mem_map_of_mem hy
  obtain ⟨x, hx, he⟩ := List.mem_map.1 h1
  have hx' := hf x hx
  exact ⟨he ▸ hx'.r, he ▸ hx'.c, he ▸ hx'.a⟩

set_option maxRecDepth 100000 in
set_option maxHeartbeats 4000000 in
theorem bstands_any (f : Int) (l lt : List TxnC) (A : Option Addr) (cap G d base : Nat) (w : World) (hr : Row w A (txnsCells l)) (hok : ∀ x ∈ l, x.ok w) (h300 : l.length ≤ 300) (hall : ∀ x ∈ l, x.t.args.length ≤ 300 ∧ x.t.proc.code.length ≤ 300) (hfit : ∀ x ∈ l, x.fit)
    (hm : lt.map (·.t) = l.map (·.t)) (hown : w.ownsRow base 30 6 (.slice (some ⟨G, 0, none⟩) (l.length + 5) d) (l.length + 5) (txnsCells (lt ++ tmarks 5))) (hT : ∀ y ∈ lt, Twin w base y) :
    Calls Try.prog 13 #[.agg #[.int .i64 f, .slice (some ⟨G, 0, none⟩) l.length d], .agg #[.int .i64 f, .slice A l.length cap]] w fun e w' => e = .returned (.bool true) ∧ Below w.heap.size w w' := by
  have hll : lt.length = l.length := by have := congrArg List.length hm; simpa using this
  have hsm := fun W (b : Below w.heap.size w W) => brefSame_any f f lt l (some ⟨G, 0, none⟩) A d cap W (by have := (Row.of_owns hown).of_below b (Nat.le_refl _); rw [txnsCells_append] at this; exact this.fore) (hr.of_below b (Nat.le_refl _)) (by omega) (by omega) (fun y hy => (hT y hy).ok.below b) (fun x hx => (hok x hx).below b) (fit_of hm hfit) hfit
  rw [hll] at hsm
  have hszT : (Try.prog.info? 30).map (·.size) = some 6 := by kernel_rfl
  have hszV : (Try.prog.info? 57).map (·.size) = some 3 := by kernel_rfl
  have hszI : (Try.prog.info? 59).map (·.size) = some 8 := by kernel_rfl
  obtain ⟨g', hg', hcd⟩ := owns_some hown (by omega)
  clear hg'
  obtain ⟨N, hN⟩ : ∃ N, N = l.length := ⟨_, rfl⟩
  rw [← hN] at hsm hown h300 hcd hll ⊢
  have hup : ∀ W, (Instr.slice 22 (.slice (some ⟨G, 0, none⟩) N d) none (some (.int .i64 ((N : Int) + 5))) none).run Try.prog W = .ok (.slice (some ⟨G, 0, none⟩) (N + 5) d) W := fun W => by
    have h := run_upto2 (P := Try.prog) 22 30 6 Try.underlying22 hszT G N d (N + 5) (by omega) (by omega) W
    rw [show (((N + 5 : Nat) : Int)) = (N : Int) + 5 from by omega] at h
    exact h
  have hw5 : IntKind.i64.wrap ((N : Int) + 5) = (N : Int) + 5 := by simp [IntKind.bits, IntKind.wrap, IntKind.signed]; omega
  have HSM := Lib.hid hsm
  have HR := Lib.hid hr
  have HOK := Lib.hid hok
  have HALL := Lib.hid hall
  have HN := Lib.hid hN
  have HM := Lib.hid hm
  have HLL := Lib.hid hll
  have HOWN := Lib.hid hown
  have HT := Lib.hid hT
  clear hsm hr hok hall hN hm hown hT hfit hll
  go_enter Try.func13, Try.ntmps13
  have b0 : Below w.heap.size w ((w.alloc (.cells #[.int .i64 f, .slice (some ⟨G, 0, none⟩) N d] 24)).alloc (.cells #[.int .i64 f, .slice A N cap] 24)) := ((Below.refl w.heap.size w).alloc (Nat.le_refl _) _).alloc (by simp) _
  have L0 := (Loc.new w #[.int .i64 f, .slice (some ⟨G, 0, none⟩) N d] 24).alloc (.cells #[.int .i64 f, .slice A N cap] 24)
  have Z0 := Loc.new (w.alloc (.cells #[.int .i64 f, .slice (some ⟨G, 0, none⟩) N d] 24)) #[.int .i64 f, .slice A N cap] 24
  simp only [World.size_alloc] at Z0
  go_wp2_with fail
  refine (HSM.out _ b0).mono ?_; rintro e w1 ⟨⟨res, rfl, hres⟩, hb⟩
  obtain rfl : res = true := hres.2 ⟨rfl, HM.out⟩
  have L1 := L0.below hb L0.lt
  have Z1 := Z0.below hb Z0.lt
  have b1 := below_then b0 hb b0.size
  have p1 := L1.cell 1; have q1 := Z1.cell 1
  simp at p1 q1
  clear hres b0 L0 Z0 hb
  go_wp2
  go_loopw [6] (fun i wr => ∃ k : Nat, k ≤ N + 5 ∧ i = .int .i64 (k : Nat) ∧ ∃ n, wr = w1.drewN n) (fun i _ => N + 5 - (intOf i).toNat)
  case atStart => exact ⟨0, Nat.zero_le _, rfl, 0, rfl⟩
  case round =>
    obtain ⟨wi, rfl⟩ : ∃ wi, wi = wr := ⟨_, rfl⟩
    obtain ⟨k, hk, rfl, n, rfl⟩ := hrel
    have own1 := owns_mono' HOWN.out b1
    by_cases hk5 : k < N + 5
    · have hk5' : (k : Int) < (N : Int) + 5 := by omega
      have hlen : (lt ++ tmarks 5).length = N + 5 := by rw [List.length_append, HLL.out]; simp [tmarks]
      obtain ⟨b, off, hb, hbl, hc⟩ := (Row.of_owns own1).txns (by rw [hlen]; omega)
      cases hb
      have hck := hc k (by rw [hlen]; exact hk5)
      by_cases hkN : k < N
      · have hkl : k < l.length := by rw [← HN.out]; exact hkN
        have hkt : k < lt.length := by rw [HLL.out]; exact hkN
        have hel : (lt ++ tmarks 5)[k]'(by rw [hlen]; exact hk5) = lt[k] := List.getElem_append_left hkt
        rw [hel] at hck
        obtain ⟨b', off', rfl, _, hc'⟩ := (HR.out.of_below b1 (Nat.le_refl _)).txns (by omega)
        have hcx := hc' k hkl
        have htt : (lt[k]).t = (l[k]).t := by
          have h1 : (lt.map (·.t))[k]? = (l.map (·.t))[k]? := by rw [HM.out]
          simpa [hkl, hkt] using h1
        have hTw := (HT.out _ (List.getElem_mem hkt)).below b1
        have hal := HALL.out _ (List.getElem_mem hkl)
        generalize lt[k] = Y at *
        generalize l[k] = X at *
        obtain ⟨⟨xk, ⟨xn, xa, xc⟩, xm, xv⟩, XA, xca, XB, xcb⟩ := X
        obtain ⟨yt, YA, yca, YB, ycb⟩ := Y
        simp only at htt
        subst htt
        obtain ⟨ha, hb2⟩ := hTw
        simp only at ha hb2 hal
        have y3 := hck 3 (by decide); have y5 := hck 5 (by decide)
        have x3 := hcx 3 (by decide); have x5 := hcx 5 (by decide)
        simp only [TxnC.cells, List.getElem?_toArray, List.getElem?_cons_zero, List.getElem?_cons_succ, Nat.zero_add] at x3 x5 y3 y5
        obtain ⟨na, hna⟩ : ∃ na, na = xv.length := ⟨_, rfl⟩
        obtain ⟨nc, hnc⟩ : ∃ nc, nc = xc.length := ⟨_, rfl⟩
        rw [← hna] at x5 y5 ha hal
        rw [← hnc] at x3 y3 hb2 hal
        obtain ⟨ga, rfl, hca⟩ := owns_some ha (by omega)
        obtain ⟨gb, rfl, hcb⟩ := owns_some hb2 (by omega)
        have hvl : (xv ++ vmarks 5).length = na + 5 := by rw [List.length_append, hna]; simp [vmarks]
        have hil : (xc ++ cmarks 5).length = nc + 5 := by rw [List.length_append, hnc]; simp [cmarks]
        obtain ⟨_, _, hb3, _, hcv⟩ := (Row.of_owns ha).vals (by rw [hvl]; omega)
        cases hb3
        obtain ⟨_, _, hb4, hci⟩ := (Row.of_owns hb2).ins (by rw [hil]; omega)
        cases hb4
        have hvj : ∀ j, j < 5 → w1.cell? ⟨ga, (na + j) * 3, none⟩ = some (.int .i64 (50 + (j : Int))) := fun j hj => by
          have h := hcv (na + j) (by rw [hvl]; omega) 0 (by decide)
          have he : (xv ++ vmarks 5)[na + j]'(by rw [hvl]; omega) = markV j := by
            rw [List.getElem_append_right (by omega)]
            simp [vmarks, hna]
          rw [he] at h
          simpa [valCells, markV] using h
        have hij : ∀ j, j < 5 → w1.cell? ⟨gb, (nc + j) * 8, none⟩ = some (.int .i64 (60 + (j : Int))) := fun j hj => by
          have h := hci (nc + j) (by rw [hil]; omega) 0 (by decide)
          have he : (xc ++ cmarks 5)[nc + j]'(by rw [hil]; omega) = markC j := by
            rw [List.getElem_append_right (by omega)]
            simp [cmarks, hnc]
          rw [he] at h
          simpa [insCells, markC] using h
        have hupV : ∀ W, (Instr.slice 28 (.slice (some ⟨ga, 0, none⟩) na yca) none (some (.int .i64 ((na : Int) + 5))) none).run Try.prog W = .ok (.slice (some ⟨ga, 0, none⟩) (na + 5) yca) W := fun W => by
          have h := run_upto2 (P := Try.prog) 28 57 3 Try.underlying28 hszV ga na yca (na + 5) (by omega) (by omega) W
          rw [show (((na + 5 : Nat) : Int)) = (na : Int) + 5 from by omega] at h
          exact h
        have hupI : ∀ W, (Instr.slice 25 (.slice (some ⟨gb, 0, none⟩) nc ycb) none (some (.int .i64 ((nc : Int) + 5))) none).run Try.prog W = .ok (.slice (some ⟨gb, 0, none⟩) (nc + 5) ycb) W := fun W => by
          have h := run_upto2 (P := Try.prog) 25 59 8 Try.underlying25 hszI gb nc ycb (nc + 5) (by omega) (by omega) W
          rw [show (((nc + 5 : Nat) : Int)) = (nc : Int) + 5 from by omega] at h
          exact h
        have wa5 : IntKind.i64.wrap ((na : Int) + 5) = (na : Int) + 5 := by simp [IntKind.bits, IntKind.wrap, IntKind.signed]; omega
        have wc5 : IntKind.i64.wrap ((nc : Int) + 5) = (nc : Int) + 5 := by simp [IntKind.bits, IntKind.wrap, IntKind.signed]; omega
        have hkN' : (k : Int) < (N : Int) := by omega
        have HVJ := Lib.hid hvj
        have HIJ := Lib.hid hij
        clear hc hck hel hlen own1 hc' hcx ha hb2 hna hnc hvl hil hcv hci hvj hij
        go_wp2
        go_quiet (fail)
        go_wp2
        go_quiet (fail)
        go_wp2
        go_loop [9] (fun i => ∃ j : Nat, j ≤ 5 ∧ i = .int .i64 (j : Nat)) (fun i => 5 - (intOf i).toNat)
        case atStart => exact ⟨0, Nat.zero_le _, rfl⟩
        case round =>
          obtain ⟨j, hj, rfl⟩ := hrel
          by_cases hj5 : j < 5
          · have hj5' : (j : Int) < 5 := by omega
            have v0 := HVJ.out j hj5
            have i0 := HIJ.out j hj5
            have wa : IntKind.i64.wrap ((na : Int) + (j : Int)) = (na : Int) + (j : Int) := by simp [IntKind.bits, IntKind.wrap, IntKind.signed]; omega
            have wc : IntKind.i64.wrap ((nc : Int) + (j : Int)) = (nc : Int) + (j : Int) := by simp [IntKind.bits, IntKind.wrap, IntKind.signed]; omega
            have wa0 : IntKind.i64.wrap (na : Int) = (na : Int) := by simp [IntKind.bits, IntKind.wrap, IntKind.signed]; omega
            have wc0 : IntKind.i64.wrap (nc : Int) = (nc : Int) := by simp [IntKind.bits, IntKind.wrap, IntKind.signed]; omega
            have w50 : IntKind.i64.wrap (50 + (j : Int)) = 50 + (j : Int) := by simp [IntKind.bits, IntKind.wrap, IntKind.signed]; omega
            have w60 : IntKind.i64.wrap (60 + (j : Int)) = 60 + (j : Int) := by simp [IntKind.bits, IntKind.wrap, IntKind.signed]; omega
            go_wp2
            go_round
            case rel => exact ⟨j + 1, by omega, by go_num⟩
            case measure => simp [intOf]; omega
          · obtain rfl : j = 5 := by omega
            go_wp2
            go_roundw
            case rel => exact ⟨k + 1, by omega, by go_num, _, rfl⟩
            case measure => simp [intOf]; omega
      · have hkN' : ¬ (k : Int) < (N : Int) := by omega
        have hel : (lt ++ tmarks 5)[k]'(by rw [hlen]; exact hk5) = markT (k - N) := by
          rw [List.getElem_append_right (by rw [HLL.out]; omega)]
          simp [tmarks, HLL.out]
        rw [hel] at hck
        have x0 := hck 0 (by decide)
        simp only [TxnC.cells, markT, List.getElem?_toArray, List.getElem?_cons_zero, Nat.add_zero, Nat.zero_add] at x0
        have hv : (70 : Int) + ((k - N : Nat) : Int) = 70 + (k : Int) - (N : Int) := by omega
        rw [hv] at x0
        have w70 : IntKind.i64.wrap (70 + (k : Int)) = 70 + (k : Int) := by simp [IntKind.bits, IntKind.wrap, IntKind.signed]; omega
        have w71 : IntKind.i64.wrap (70 + (k : Int) - (N : Int)) = 70 + (k : Int) - (N : Int) := by simp [IntKind.bits, IntKind.wrap, IntKind.signed]; omega
        clear hc hck hel hv hlen own1
        go_wp2
        go_quiet (fail)
        go_wp2
        go_roundw
        case rel => exact ⟨k + 1, by omega, by go_num, _, rfl⟩
        case measure => simp [intOf]; omega
    · obtain rfl : k = N + 5 := by omega
      go_wp2
      go_ret
      exact ⟨rfl, below_drewN b1 _⟩
end Go.Proofs.Ytnmcdifkknphgaa
