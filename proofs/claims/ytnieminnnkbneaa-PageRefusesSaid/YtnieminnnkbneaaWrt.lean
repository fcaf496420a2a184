/- Walk of treadlelaw14.written. -/
import Derived.Test.YtnieminnnkbneaaFil
import Derived.Test.YtnieminnnkbneaaSrw
import Derived.Test.YtnieminnnkbneaaRdm
import Derived.Deep.CutRange
import Derived.Deep.RegionHeld3
namespace Go.Proofs.Ytnieminnnkbneaa
open Go.RowKit
set_option linter.unusedVariables false

def intCells (l : List Nat) : List Value := l.map fun (e : Nat) => Value.int .i64 (e : Int)
theorem intCells_add (l : List Nat) (e : Nat) : intCells (l ++ [e]) = intCells l ++ (#[.int .i64 (e : Int)] : Array Value).toList := by simp [intCells]
theorem infoInt : (Try.prog.info? 3).map (fun i => (i.zero, i.size, i.bytes)) = some (some (.int .i64 0), 1, 8) := by kernel_rfl
theorem prcs_split (l : List PrcC) (p : Nat) : prcsCells l = prcsCells (l.take p) ++ prcsCells (l.drop p) := by unfold prcsCells; rw [← List.flatMap_append, List.take_append_drop]
theorem ents_split (l : List Ent) (p : Nat) : entsCells l = entsCells (l.take p) ++ entsCells (l.drop p) := by unfold entsCells; rw [← List.flatMap_append, List.take_append_drop]
theorem prcs_drop (l : List PrcC) (p : Nat) (h : p ≤ l.length) : (prcsCells l).drop (p * 3) = prcsCells (l.drop p) := by
  rw [prcs_split l p, List.drop_left' (by rw [prcsCells_length, List.length_take]; congr 1; omega)]
theorem prcs_take (l : List PrcC) (p : Nat) (h : p ≤ l.length) : (prcsCells l).take (p * 3) = prcsCells (l.take p) := by
  rw [prcs_split l p, List.take_left' (by rw [prcsCells_length, List.length_take]; congr 1; omega)]
theorem ents_drop (l : List Ent) (p : Nat) (h : p ≤ l.length) : (entsCells l).drop (p * 4) = entsCells (l.drop p) := by
  rw [ents_split l p, List.drop_left' (by rw [entsCells_length, List.length_take]; congr 1; omega)]
theorem ents_take (l : List Ent) (p : Nat) (h : p ≤ l.length) : (entsCells l).take (p * 4) = entsCells (l.take p) := by
  rw [ents_split l p, List.take_left' (by rw [entsCells_length, List.length_take]; congr 1; omega)]
theorem Row.prcsTo {w : World} {A : Option Addr} {l : List PrcC} {c p : Nat} (h : Row w A (prcsCells l)) (hc : l.length ≤ c) (hp : p ≤ l.length) : Row w (subAddr A 0 c 3) (prcsCells (l.take p)) := by
  have := h.subs 3 0 (p * 3) c (by rw [prcsCells_length]; omega) (by rw [prcsCells_length]; omega)
  rw [Nat.zero_mul, List.drop_zero, prcs_take l p hp] at this
  exact this
theorem Row.prcsFrom {w : World} {A : Option Addr} {l : List PrcC} {c p : Nat} (h : Row w A (prcsCells l)) (hc : l.length ≤ c) (hp : p ≤ l.length) : Row w (subAddr A p c 3) (prcsCells (l.drop p)) := by
  have := h.subs 3 p ((l.length - p) * 3) c (by rw [prcsCells_length]; omega) (by rw [prcsCells_length]; omega)
  rw [prcs_drop l p hp, List.take_of_length_le (by rw [prcsCells_length, List.length_drop]; omega)] at this
  exact this
theorem Row.entsTo {w : World} {A : Option Addr} {l : List Ent} {c p : Nat} (h : Row w A (entsCells l)) (hc : l.length ≤ c) (hp : p ≤ l.length) : Row w (subAddr A 0 c 4) (entsCells (l.take p)) := by
  have := h.subs 4 0 (p * 4) c (by rw [entsCells_length]; omega) (by rw [entsCells_length]; omega)
  rw [Nat.zero_mul, List.drop_zero, ents_take l p hp] at this
  exact this
theorem Row.entsFrom {w : World} {A : Option Addr} {l : List Ent} {c p : Nat} (h : Row w A (entsCells l)) (hc : l.length ≤ c) (hp : p ≤ l.length) : Row w (subAddr A p c 4) (entsCells (l.drop p)) := by
  have := h.subs 4 p ((l.length - p) * 4) c (by rw [entsCells_length]; omega) (by rw [entsCells_length]; omega)
  rw [ents_drop l p hp, List.take_of_length_le (by rw [entsCells_length, List.length_drop]; omega)] at this
  exact this
theorem i64v_of {v : Val} (h : i64R v.num) : i64v v := by unfold i64R at h; unfold i64v; omega

/-- What lies behind some pieces. -/
structure WrS (w wr : World) (n m : Nat) (pl : List PrcC) (es : List Ent) (pd al : List PrcC) (ed bl : List Ent) (x : PW) (out : Bs) (ends : List Nat) (A B O Q : Option Addr) (ca cb co cq : Nat) : Prop where
  hp : pl = pd ++ al
  he : es = ed ++ bl
  ra : Row w A (prcsCells al)
  rb : Row w B (entsCells bl)
  la : al.length ≤ ca
  lb : bl.length ≤ cb
  L : Loc wr w.heap.size (x.cells nilS) 27
  o : wr.ownsRow w.heap.size 5 1 (.slice O out.length co) out.length (cellsB out)
  q : wr.ownsRow w.heap.size 3 1 (.slice Q ends.length cq) ends.length (intCells ends)
  I : WI n m (pd.map (·.p)) ed (al.map (·.p)) bl x out ends
  b : Below w.heap.size w wr

/-- What written answers. -/
def WrPost (w : World) (n m : Nat) (pl : List PrcC) (es : List Ent) (e : Ending) (w' : World) : Prop :=
  ∃ (xs : Bs) (ends : List Nat) (O Q : Option Addr) (co cq : Nat), e = .returned (.tuple #[.slice O xs.length co, .slice Q ends.length cq, .bool true]) ∧ File n m (pl.map (·.p)) es xs ends ∧ xs.length ≤ 28001000 ∧
    w'.ownsRow w.heap.size 5 1 (.slice O xs.length co) xs.length (cellsB xs) ∧ w'.ownsRow w.heap.size 3 1 (.slice Q ends.length cq) ends.length (intCells ends) ∧ Below w.heap.size w w'

theorem hszP : (Try.prog.info? 56).map (·.size) = some 3 := by kernel_rfl
theorem hszE : (Try.prog.info? 53).map (·.size) = some 4 := by kernel_rfl

set_option maxRecDepth 100000 in
set_option maxHeartbeats 8000000 in
theorem written_any (n m : Nat) (pl : List PrcC) (es : List Ent) (ks : List Int) (A B C : Option Addr) (ca cb cc : Nat) (w : World) (hn : 1 ≤ n) (hn2 : n ≤ 281474976710655) (hm2 : m ≤ 281474976710655)
    (hra : Row w A (prcsCells pl)) (hrb : Row w B (entsCells es)) (hrc : Row w C (ks.map (Value.int .i64 ·))) (hla : pl.length ≤ ca) (hlb : es.length ≤ cb) (hl2 : pl.length ≤ 200) (hl4 : es.length ≤ 400) (hlk : ks.length ≤ 9223372036854775807)
    (hpo : ∀ y ∈ pl, y.ok w) (heo : ∀ y ∈ es, y.inR) (hok : WOk (PW.new n m) (pl.map (·.p)) es) :
    Calls Try.prog 13 #[.int .i64 n, .int .i64 m, .slice A pl.length ca, .slice B es.length cb, .slice C ks.length cc] w (WrPost w n m pl es) := by
  have hN := pnew_any n m hn hn2 hm2 w
  have LW := Loc.new w ((PW.new n m).cells nilS) 27
  have b1 := (Below.refl w.heap.size w).alloc (Nat.le_refl _) (.cells ((PW.new n m).cells nilS) 27)
  obtain ⟨w1, hw1⟩ : ∃ w1, w1 = w.alloc (.cells ((PW.new n m).cells nilS) 27) := ⟨_, rfl⟩
  rw [← hw1] at LW b1
  have hN1 : Calls Try.prog 11 #[.int .i64 n, .int .i64 m] w fun e w' => e = .returned (.tuple #[.pointer (some ⟨w.heap.size, 0, none⟩), .int .i64 0]) ∧ w' = w1 := by rw [hw1]; exact hN
  have hst : WrS w w1 n m pl es [] pl [] es (PW.new n m) [] [] A B none none ca cb 0 0 := ⟨rfl, rfl, hra, hrb, hla, hlb, LW, World.ownsRow_nil _ _ _ _, World.ownsRow_nil _ _ _ _, .new hok, b1⟩
  have HST := Lib.hid hst
  have HN := Lib.hid hN1
  have HPO := Lib.hid hpo
  have HEO := Lib.hid heo
  have HRC := Lib.hid hrc
  obtain ⟨K, hK⟩ : ∃ K, K = ks.length := ⟨_, rfl⟩
  obtain ⟨NP, hNP⟩ : ∃ NP, NP = pl.length := ⟨_, rfl⟩
  obtain ⟨NE, hNE⟩ : ∃ NE, NE = es.length := ⟨_, rfl⟩
  rw [← hK] at hlk ⊢
  rw [← hNP] at hla hl2 ⊢
  rw [← hNE] at hlb hl4 ⊢
  have HK := Lib.hid hK
  have HNP := Lib.hid hNP
  have HNE := Lib.hid hNE
  clear hK hNP hNE hst hN hN1 hw1 LW b1 hra hrb hrc hpo heo hok
  go_enter Try.func13, Try.ntmps13
  go_wp2_with (go_at_call 11; refine HN.out.mono ?_; rintro e w' ⟨rfl, rfl⟩)
  go_loopw [2, 3, 15, 16, 17] (fun a b o q t wr => ∃ (pd al : List PrcC) (ed bl : List Ent) (x : PW) (out : Bs) (ends : List Nat) (A B O Q : Option Addr) (na nb no nq ca cb co cq tt : Nat), a = .slice A na ca ∧ b = .slice B nb cb ∧ o = .slice O no co ∧ q = .slice Q nq cq ∧ t = .int .i64 (tt : Nat) ∧ na ≤ 200 ∧ nb ≤ 400 ∧ tt + na + nb ≤ NP + NE ∧ nq ≤ tt ∧
      Hid (na = al.length ∧ nb = bl.length ∧ no = out.length ∧ nq = ends.length) ∧ Hid (WrS w wr n m pl es pd al ed bl x out ends A B O Q ca cb co cq)) (fun a b _ _ _ _ => (match a, b with | .slice _ i _, .slice _ j _ => i + j | _, _ => 0))
  case atStart => exact ⟨[], pl, [], es, PW.new n m, [], [], A, B, none, none, NP, NE, 0, 0, ca, cb, 0, 0, 0, rfl, rfl, rfl, rfl, rfl, hl2, hl4, by omega, Nat.le_refl _, Lib.hid ⟨HNP.out, HNE.out, rfl, rfl⟩, HST⟩
  case round =>
    obtain ⟨wi, rfl⟩ : ∃ wi, wi = wr := ⟨_, rfl⟩
    obtain ⟨pd, al, ed, bl, x, out, ends, A, B, O, Q, na, nb, no, nq, ca, cb, co, cq, tt, rfl, rfl, rfl, rfl, rfl, ha2, hb4, htt, hqt, HL, HS⟩ := hrel
    clear HST hla hlb
    by_cases hpos : 0 < na + nb
    · have hpos' : (0 : Int) < (na : Int) + (nb : Int) := by omega
      go_upto_if 44 with (fail)
      go_cut [18] from 36 to 99 (fun v wx => ∃ z : Int, v = .int .i64 z ∧ z < 129 ∧ wx = wi)
      case first =>
        by_cases hk : 0 < K
        · have hk' : (0 : Int) < (K : Int) := by omega
          have hbw := HS.out.b
          obtain ⟨kb, koff, rfl, _, hcc⟩ := (HRC.out.of_below hbw (Nat.le_refl _)).at (by rw [List.length_map]; have := HK.out; omega)
          have hRK : tt % K < K := Nat.mod_lt _ hk
          have hcell := hcc (tt % K) (by rw [List.length_map]; have := HK.out; omega)
          have hks : tt % K < ks.length := by have := HK.out; omega
          rw [List.getElem?_map, List.getElem?_eq_getElem hks, Option.map_some] at hcell
          have htm : Int.tmod (tt : Int) (K : Int) = ((tt % K : Nat) : Int) := rfl
          generalize ks[tt % K] = z at hcell
          generalize tt % K = R at *
          have hz1 : Int.tmod z 129 < 129 := Int.tmod_lt_of_pos z (by decide)
          have HZ := Lib.hid hz1
          clear hcc hbw hz1
          go_wp2
          go_meet
          case rel => exact ⟨_, rfl, HZ.out, rfl⟩
        · obtain rfl : K = 0 := by omega
          go_wp2
          go_meet
          case rel => exact ⟨1, rfl, by decide, rfl⟩
      case rest =>
      obtain ⟨z, rfl, hz, hwc⟩ := hcut
      have hwc' := hwc.symm
      subst hwc'
      clear hwc
      go_upto_if 56 with (fail)
      go_cut [18] from 36 to 99 (fun v wx => ∃ N : Nat, v = .int .i64 (N : Nat) ∧ 1 ≤ N ∧ N ≤ 128 ∧ wx = wi)
      case first =>
        by_cases hz1 : z < 1
        · go_wp2
          go_meet
          case rel => exact ⟨1, rfl, by decide, by decide, rfl⟩
        · obtain ⟨N, rfl⟩ : ∃ N : Nat, z = N := ⟨z.toNat, by omega⟩
          have hN1 : Hid (1 ≤ N ∧ N ≤ 128) := Lib.hid (by omega)
          go_wp2
          go_meet
          case rel => exact ⟨N, rfl, hN1.out.1, hN1.out.2, rfl⟩
      case rest =>
      obtain ⟨N, rfl, hN1, hN2, hwc⟩ := hcut
      have hwc' := hwc.symm
      subst hwc'
      clear hwc hz z
      go_upto_if 61 with (fail)
      go_cut [19] from 36 to 99 (fun v wx => ∃ P : Nat, v = .int .i64 (P : Nat) ∧ P ≤ na ∧ P ≤ N ∧ (P = N ∨ P = na) ∧ wx = wi)
      case first =>
        by_cases hz1 : na < N
        · have t1 : (na : Int) < (N : Int) := by omega
          go_wp2
          go_meet
          case rel => exact ⟨na, rfl, Nat.le_refl _, by omega, .inr rfl, rfl⟩
        · have t1 : ¬ (na : Int) < (N : Int) := by omega
          go_wp2
          go_meet
          case rel => exact ⟨N, rfl, by omega, Nat.le_refl _, .inl rfl, rfl⟩
      case rest =>
      obtain ⟨P, rfl, hP1, hP2, hP3, hwc⟩ := hcut
      have hwc' := hwc.symm
      subst hwc'
      clear hwc
      have HP3 := Lib.hid hP3
      clear hP3
      go_upto_if 70 with (fail)
      go_cut [20] from 36 to 99 (fun v wx => ∃ R : Nat, v = .int .i64 (R : Nat) ∧ R ≤ nb ∧ Hid (1 ≤ P + R ∧ P + R ≤ 128 ∧ (R = 0 ∨ P = na)) ∧ wx = wi)
      case first =>
        by_cases hz1 : nb < N - P
        · have t1 : (nb : Int) < (N : Int) - (P : Int) := by omega
          have hf : Hid (1 ≤ P + nb ∧ P + nb ≤ 128 ∧ (nb = 0 ∨ P = na)) := Lib.hid (by have := HP3.out; omega)
          go_wp2
          go_meet
          case rel => exact ⟨nb, rfl, Nat.le_refl _, hf, rfl⟩
        · have t1 : ¬ (nb : Int) < (N : Int) - (P : Int) := by omega
          obtain ⟨R, hR⟩ : ∃ R, R = N - P := ⟨_, rfl⟩
          have tR : (N : Int) - (P : Int) = (R : Int) := by omega
          have hf : Hid (R ≤ nb ∧ 1 ≤ P + R ∧ P + R ≤ 128 ∧ (R = 0 ∨ P = na)) := Lib.hid (by have := HP3.out; omega)
          clear hR
          go_wp2
          go_meet
          case rel => exact ⟨R, rfl, hf.out.1, Lib.hid hf.out.2, rfl⟩
      case rest =>
      obtain ⟨R, rfl, hR1, hR2, hwc⟩ := hcut
      have hwc' := hwc.symm
      subst hwc'
      clear hwc HP3
      obtain ⟨hna, hnb, hno, hnq⟩ := HL.out
      have hPl : P ≤ al.length := by omega
      have hRl : R ≤ bl.length := by omega
      have hIP : WI n m (pd.map (·.p)) ed ((al.take P).map (·.p) ++ (al.drop P).map (·.p)) (bl.take R ++ bl.drop R) x out ends := by
        rw [← List.map_append, List.take_append_drop, List.take_append_drop]
        exact HS.out.I
      have hpl2 : pl.length = NP := HNP.out.symm
      have hel2 : es.length = NE := HNE.out.symm
      have hsp : pl.length = pd.length + al.length := by rw [HS.out.hp, List.length_append]
      have hse : es.length = ed.length + bl.length := by rw [HS.out.he, List.length_append]
      have hokA : ∀ y ∈ al, y.ok w := fun y hy => HPO.out y (by rw [HS.out.hp]; exact List.mem_append_right _ hy)
      have hokB : ∀ y ∈ bl, y.inR := fun y hy => HEO.out y (by rw [HS.out.he]; exact List.mem_append_right _ hy)
      obtain ⟨ys, x', hpq, hI2⟩ := hIP.page (by rw [List.length_map, List.length_take, List.length_take]; have := hR2.out; omega) (by rw [List.length_map, List.length_take, List.length_take]; have := hR2.out; omega)
        (by
          rcases hR2.out.2.2 with h | h
          · exact .inl (by rw [h]; rfl)
          · exact .inr (by rw [List.drop_of_length_le (by omega)]; rfl)) hn hn2 hm2
        (fun p hp i hi => by
          obtain ⟨y, hy, rfl⟩ := List.mem_map.1 hp
          exact i64v_of ((hokA y (List.mem_of_mem_take hy)).i.2 i hi).2.2.2.2.2.2)
        (fun y hy => i64v_of (hokB y (List.mem_of_mem_take hy)).2) (by rw [List.length_map]; omega)
      have hfrm := HS.out.I.ff
      have hxn := HS.out.I.num
      have hxm := HS.out.I.mark
      have hxpe : x.procs ≤ 200 ∧ x.entries ≤ 400 := by
        obtain ⟨bs, s, _, _, T, r1, r2, _⟩ := HS.out.I.run
        rw [← T.p, ← T.e, r1, r2, List.length_map]
        omega
      rw [List.length_map] at hfrm
      have hPg : ∀ W, Below wi.heap.size wi W → Calls Try.prog 8 #[.pointer (some ⟨w.heap.size, 0, none⟩), .slice (subAddr A 0 ca 3) P ca, .slice (subAddr B 0 cb 4) R cb] W (PgPost W w.heap.size ((ys, x'), 0)) := fun W hW => by
        have h := ppage_any w.heap.size x (al.take P) (bl.take R) (subAddr A 0 ca 3) (subAddr B 0 cb 4) ca cb W (HS.out.L.below hW HS.out.L.lt)
          (((HS.out.ra.of_below HS.out.b (Nat.le_refl _)).of_below hW (Nat.le_refl _)).prcsTo HS.out.la hPl) (fun y hy => ((hokA y (List.mem_of_mem_take hy)).below HS.out.b).below hW)
          (((HS.out.rb.of_below HS.out.b (Nat.le_refl _)).of_below hW (Nat.le_refl _)).entsTo HS.out.lb hRl) (fun y hy => hokB y (List.mem_of_mem_take hy))
          (by rw [List.length_take]; omega) (by rw [List.length_take]; omega) (by omega) (by omega) (by omega) (by omega) (by omega)
        rw [List.length_take, List.length_take, Nat.min_eq_left hPl, Nat.min_eq_left hRl, List.map_take, ] at h
        rw [List.map_take] at hpq
        rw [hpq] at h
        exact h
      have hs1 : ∀ W, (Instr.slice 31 (.slice A na ca) none (some (.int .i64 (P : Int))) none).run Try.prog W = .ok (.slice (subAddr A 0 ca 3) P ca) W := fun W => run_subTo (P := Try.prog) 31 56 3 Try.underlying31 hszP A na ca P (by have := HS.out.la; omega) W
      have hs2 : ∀ W, (Instr.slice 32 (.slice B nb cb) none (some (.int .i64 (R : Int))) none).run Try.prog W = .ok (.slice (subAddr B 0 cb 4) R cb) W := fun W => run_subTo (P := Try.prog) 32 53 4 Try.underlying32 hszE B nb cb R (by have := HS.out.lb; omega) W
      have hs3 : ∀ W, (Instr.slice 31 (.slice A na ca) (some (.int .i64 (P : Int))) none none).run Try.prog W = .ok (.slice (subAddr A P ca 3) (na - P) (ca - P)) W := fun W => run_subFrom (P := Try.prog) 31 56 3 Try.underlying31 hszP A na ca P hP1 W
      have hs4 : ∀ W, (Instr.slice 32 (.slice B nb cb) (some (.int .i64 (R : Int))) none none).run Try.prog W = .ok (.slice (subAddr B R cb 4) (nb - R) (cb - R)) W := fun W => run_subFrom (P := Try.prog) 32 53 4 Try.underlying32 hszE B nb cb R hR1 W
      have HPg := Lib.hid hPg
      have HI2 := Lib.hid hI2
      have HPQ := Lib.hid hpq
      have hno' := hno
      have hnq' := hnq
      have HLN : Hid (no = out.length ∧ nq = ends.length) := Lib.hid ⟨hno, hnq⟩
      clear hPg hI2 hpq hIP hokA hokB hfrm hxn hxm hxpe hna hnb hno hnq hpl2 hel2 hno' hnq'
      go_upto_region 20 with (fail)
      have bd : Below wi.heap.size wi wi.drew := below_drewN (Below.refl _ _) 1
      go_region_held3 (fun W => True) (trivial) ((go_at_call 8; refine (HPg.out _ bd).mono ?_; rintro e w3 ⟨A3, n3, c3, hn3, rfl, o3, L3, K3⟩; have HN3 := Lib.hid hn3; clear hn3))
      have bw := below_then HS.out.b bd HS.out.b.size
      have b3 := below_keep bw K3 bw.size (fun k hk => by omega)
      have Ld := HS.out.L.drew
      have od := owns_mono' HS.out.o bd
      have qd := owns_mono' HS.out.q bd
      have o3' := owns_keep od K3 (Nat.le_refl _) (fun k hk e => owns_ne od Ld (by decide) (e ▸ hk))
      have q3' := owns_keep qd K3 (Nat.le_refl _) (fun k hk e => owns_ne qd Ld (by decide) (e ▸ hk))
      obtain ⟨hno', hnq'⟩ := HLN.out
      rw [← hno'] at o3'
      rw [← hnq'] at q3'
      have hnoI := HS.out.I.len
      rw [List.length_map, ← hno'] at hnoI
      have hysI := pwPage_len HPQ.out
      rw [List.length_map, List.length_take, List.length_take] at hysI
      have hsrc := (Row.of_owns o3).src (P := Try.prog) (c := c3) (n := n3) (size := 1) Try.underlying25 (by rw [cellsB_length, HN3.out]; simp) (cellsB_one _) (owns_none o3)
      have hn3l : n3 ≤ 28000 * 128 := by rw [HN3.out]; have := hR2.out; omega
      have hnol : no ≤ 28000 * 600 := by have := HNP.out; have := HNE.out; omega
      have HSRC := Lib.hid hsrc
      have HB3 := Lib.hid b3
      have HL3 := Lib.hid L3
      have HQ3 := Lib.hid q3'
      have HO3 := Lib.hid o3'
      clear hsrc bw b3 Ld od qd o3' q3' hnoI hysI hno' hnq' o3 L3 K3 bd HPg HPQ hs1 hs2
      go_upto_region 26 with (at_builtin; refine wpList_append_mine _ rfl _ _ 25 25 rfl 5 (.int .u8 0) 1 1 Try.underlying25 infoU8 rfl (by decide) (.slice O no co) no (cellsB out) rfl (owns_base (base' := 0) HO3.out (fun _ _ => Nat.zero_le _)) (.slice A3 n3 c3) n3 (cellsB ys) rfl HSRC.out (by unfold maxLen; omega) (by omega) ?_; intro A4 c4 w4 hown4 hg4 hbl4 hx4; have HX4 : Hid (w4.ownsRow w.heap.size 5 1 (.slice A4 (no + n3) c4) (no + n3) (cellsB (out ++ ys)) ∧ Below w.heap.size w w4 ∧ Loc w4 w.heap.size (x'.cells nilS) 27 ∧ w4.ownsRow w.heap.size 3 1 (.slice Q nq cq) nq (intCells ends)) := Lib.hid (by
        obtain ⟨o4, b4⟩ := own_next0 HO3.out hown4 hg4 hbl4 HB3.out.size HB3.out
        rw [← cellsB_append] at o4
        exact ⟨o4, b4, HL3.out.grown hg4 (owns_ne HO3.out HL3.out (by decide)), owns_two HO3.out HQ3.out (by decide) hg4⟩); clear hx4 hg4 hbl4 hown4)
      have hlit := World.ownsRow_lit (base := w4.heap.size) (e := 3) (size := 1) w4 #[.int .i64 ((no : Int) + (n3 : Int))] 1 (Nat.le_refl _) (by decide) rfl
      have ba := (Below.refl w4.heap.size w4).alloc (Nat.le_refl _) (.cells #[.int .i64 ((no : Int) + (n3 : Int))] 3)
      have q5 := owns_mono' HX4.out.2.2.2 ba
      have b5 := below_then HX4.out.2.1 ba HX4.out.2.1.size
      have hsrc := Row.src (P := Try.prog) (c := 1) (size := 1) (n := 1) (tx := 37) (Row.of_loc (Loc.new w4 #[.int .i64 ((no : Int) + (n3 : Int))] 3)) Try.underlying37 rfl (by simp [Value.oneCell']) (fun h => by simp at h)
      have HSRC5 := Lib.hid hsrc
      have HQ5 := Lib.hid q5
      have HB5 := Lib.hid b5
      have hnql : nq ≤ 1000 := by omega
      clear hlit ba q5 b5 hsrc
      go_wp2_with (at_builtin; refine wpList_append_mine _ rfl _ _ 37 37 rfl 3 (.int .i64 0) 1 8 Try.underlying37 infoInt rfl (by decide) (.slice Q nq cq) nq (intCells ends) rfl (owns_base (base' := 0) HQ5.out (fun _ _ => Nat.zero_le _)) _ 1 _ rfl HSRC5.out (by unfold maxLen; omega) (by omega) ?_; intro A5 c5 w5 hown5 hg5 hbl5 hx5; have HX5 : Hid (w5.ownsRow w.heap.size 3 1 (.slice A5 (nq + 1) c5) (nq + 1) (intCells (ends ++ [no + n3])) ∧ Below w.heap.size w w5 ∧ Loc w5 w.heap.size (x'.cells nilS) 27 ∧ w5.ownsRow w.heap.size 5 1 (.slice A4 (no + n3) c4) (no + n3) (cellsB (out ++ ys))) := Lib.hid (by
        obtain ⟨o6, b6⟩ := own_next0 HQ5.out hown5 hg5 hbl5 HB5.out.size HB5.out
        have ba := (Below.refl w4.heap.size w4).alloc (Nat.le_refl _) (.cells #[.int .i64 ((no : Int) + (n3 : Int))] 3)
        have L5 := HX4.out.2.2.1.alloc (.cells #[.int .i64 ((no : Int) + (n3 : Int))] 3)
        rw [intCells_add]
        refine ⟨?_, b6, L5.grown hg5 (owns_ne HQ5.out L5 (by decide)), owns_two HQ5.out (owns_mono' HX4.out.1 ba) (by decide) hg5⟩
        rw [Int.natCast_add]
        exact o6); clear hx5 hg5 hbl5 hown5)
      go_roundw
      case rel =>
        obtain ⟨hno', hnq'⟩ := HLN.out
        obtain ⟨hna, hnb, _, _⟩ := HL.out
        have hlen : (out ++ ys).length = no + n3 := by rw [List.length_append, HN3.out, hno']
        have hlen2 : (ends ++ [no + n3]).length = nq + 1 := by rw [List.length_append, hnq']; rfl
        have hI := HI2.out
        rw [hlen, ← List.map_append] at hI
        have hR3 := hR2.out
        refine ⟨pd ++ al.take P, al.drop P, ed ++ bl.take R, bl.drop R, x', out ++ ys, ends ++ [no + n3], subAddr A P ca 3, subAddr B R cb 4, A4, A5, na - P, nb - R, no + n3, nq + 1, ca - P, cb - R, c4, c5, tt + 1, rfl, rfl, rfl, rfl, by go_num, by omega, by omega, by omega, by omega, Lib.hid ⟨by rw [List.length_drop, hna], by rw [List.length_drop, hnb], hlen.symm, hlen2.symm⟩, Lib.hid ⟨?_, ?_, HS.out.ra.prcsFrom HS.out.la hPl, HS.out.rb.entsFrom HS.out.lb hRl, ?_, ?_, HX5.out.2.2.1, ?_, ?_, hI, HX5.out.2.1⟩⟩
        · rw [List.append_assoc, List.take_append_drop]; exact HS.out.hp
        · rw [List.append_assoc, List.take_append_drop]; exact HS.out.he
        · rw [List.length_drop]; have := HS.out.la; omega
        · rw [List.length_drop]; have := HS.out.lb; omega
        · rw [hlen]; exact HX5.out.2.2.2
        · rw [hlen2]; exact HX5.out.1
      case measure => have := hR2.out; simp only; omega
    · have hpos' : ¬ (0 : Int) < (na : Int) + (nb : Int) := by omega
      obtain ⟨hna, hnb, hno, hnq⟩ := HL.out
      have hal : al = [] := List.length_eq_zero_iff.1 (by omega)
      have hbl : bl = [] := List.length_eq_zero_iff.1 (by omega)
      have hI := HS.out.I
      have hhp := HS.out.hp
      have hhe := HS.out.he
      rw [hal, List.append_nil] at hhp
      rw [hbl, List.append_nil] at hhe
      rw [hal, hbl, List.map_nil, ← hhp, ← hhe] at hI
      have hfrm := hI.ff
      have hxn := hI.num
      have hxm := hI.mark
      have hpl2 : pl.length = NP := HNP.out.symm
      have hel2 : es.length = NE := HNE.out.symm
      have hxpe : x.procs ≤ 200 ∧ x.entries ≤ 400 := by
        obtain ⟨bs, s, _, _, T, r1, r2, _⟩ := hI.run
        rw [← T.p, ← T.e, r1, r2, List.length_map]
        omega
      rw [List.length_map] at hfrm
      obtain ⟨hE1, hF, hFl⟩ := hI.fin hn hn2 hm2 (by rw [List.length_map]; omega)
      have hpe := pend_any w.heap.size x wi HS.out.L (by omega) (by omega) (by omega) (by omega) (by omega)
      rw [hE1] at hpe
      obtain ⟨zs, hzs⟩ : ∃ zs, zs = (pwHead x).1 ++ endFrame (pwHead x).2 := ⟨_, rfl⟩
      rw [← hzs] at hpe hF hFl
      have HPE := Lib.hid hpe
      have HFF := Lib.hid hF
      have HNO := Lib.hid hno
      have HNQ := Lib.hid hnq
      rw [List.length_append] at hFl
      have hnol : no ≤ 28001000 := by omega
      have hzl : zs.length ≤ 28001000 := by omega
      have HFL := Lib.hid hFl
      clear hna hnb hno hnq hal hbl hI hhp hhe hfrm hxn hxm hpl2 hel2 hxpe hE1 hF hpe hzs hFl
      go_upto_region 28 with (go_at_call 9; refine HPE.out.mono ?_; rintro e w3 ⟨A3, n3, c3, hn3, rfl, o3, L3, K3⟩; have HN3 := Lib.hid hn3; clear hn3)
      have b3 := below_keep HS.out.b K3 HS.out.b.size (fun k hk => by omega)
      have o3' := owns_keep HS.out.o K3 (Nat.le_refl _) (fun k hk e => owns_ne HS.out.o HS.out.L (by decide) (e ▸ hk))
      have q3' := owns_keep HS.out.q K3 (Nat.le_refl _) (fun k hk e => owns_ne HS.out.q HS.out.L (by decide) (e ▸ hk))
      rw [← HNO.out] at o3'
      rw [← HNQ.out] at q3'
      have hsrc := (Row.of_owns o3).src (P := Try.prog) (c := c3) (n := n3) (size := 1) Try.underlying25 (by rw [cellsB_length, HN3.out]; simp) (cellsB_one _) (owns_none o3)
      have hn3l : n3 ≤ 28001000 := by rw [HN3.out]; exact hzl
      have HSRC := Lib.hid hsrc
      have HB3 := Lib.hid b3
      have HQ3 := Lib.hid q3'
      have HO3 := Lib.hid o3'
      clear hsrc b3 o3' q3' o3 L3 K3 HPE
      go_wp2_with (at_builtin; refine wpList_append_mine _ rfl _ _ 25 25 rfl 5 (.int .u8 0) 1 1 Try.underlying25 infoU8 rfl (by decide) (.slice O no co) no (cellsB out) rfl (owns_base (base' := 0) HO3.out (fun _ _ => Nat.zero_le _)) (.slice A3 n3 c3) n3 (cellsB zs) rfl HSRC.out (by unfold maxLen; omega) (by omega) ?_; intro A4 c4 w4 hown4 hg4 hbl4 hx4; have HX4 : Hid (w4.ownsRow w.heap.size 5 1 (.slice A4 (no + n3) c4) (no + n3) (cellsB (out ++ zs)) ∧ Below w.heap.size w w4 ∧ w4.ownsRow w.heap.size 3 1 (.slice Q nq cq) nq (intCells ends)) := Lib.hid (by
        obtain ⟨o4, b4⟩ := own_next0 HO3.out hown4 hg4 hbl4 HB3.out.size HB3.out
        rw [← cellsB_append] at o4
        exact ⟨o4, b4, owns_two HO3.out HQ3.out (by decide) hg4⟩); clear hx4 hg4 hbl4 hown4)
      go_ret3
      have hlen : (out ++ zs).length = no + n3 := by rw [List.length_append, HN3.out, HNO.out]
      have hle := HFL.out
      refine ⟨out ++ zs, ends, A4, Q, c4, cq, ?_, HFF.out, by rw [List.length_append]; exact hle, ?_, ?_, HX4.out.2.1⟩
      · rw [hlen, ← HNQ.out]; rfl
      · rw [hlen]; exact HX4.out.1
      · rw [← HNQ.out]; exact HX4.out.2.2
end Go.Proofs.Ytnieminnnkbneaa
