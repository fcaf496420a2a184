/- Walk of treadlelaw14.sorted: the procedures. -/
import Derived.Test.YtnieminnnkbneaaSrw
import Derived.Test.YtnieminnnkbneaaLcm
import Derived.Test.YtnieminnnkbneaaRef3
import Derived.Deep.CutRange
namespace Go.Proofs.Ytnieminnnkbneaa
open Go.RowKit
set_option linter.unusedVariables false

def PrcC.nm (y : PrcC) : ByteArray := y.p.name
/-- What the sorted procedures are. -/
structure SrtP (w : World) (a : List PrcC) : Prop where
  v : ∀ y ∈ a, (procCheck y.p).2 = 0
  r : Rise PrcC.nm a
  c : ∀ y ∈ a, y.ok w
theorem SrtP.nil (w : World) : SrtP w [] := ⟨fun _ h => (by simp at h), Rise.nil _, fun _ h => (by simp at h)⟩

/-- The procedures' half, as the walk meets it: names that are there already. -/
def twiceP (a : List PrcC) (k : Nat) (X : PrcC) : Bool := (a.take k).any (fun y => y.p.name.toList == X.p.name.toList)

def twiceE (a : List Ent) (k : Nat) (X : Ent) : Bool := (a.take k).any (fun y => y.key.toList == X.key.toList)
/-- What the sorted entries are. -/
structure SrtE (w : World) (a : List Ent) : Prop where
  v : ∀ y ∈ a, isKey y.key = true ∧ datumCheck y.v = 0 ∧ y.v.kind ≠ 0
  r : Rise Ent.key a
  c : ∀ y ∈ a, y.inR
theorem SrtE.nil (w : World) : SrtE w [] := ⟨fun _ h => (by simp at h), Rise.nil _, fun _ h => (by simp at h)⟩
theorem risKey_any (s : ByteArray) (w : World) : Calls Try.prog 28 #[.string s] w fun e w' => e = .returned (.bool (isKey s)) ∧ w = w' := by
  by_cases h1 : 1 ≤ s.size
  · by_cases h2 : s.size ≤ 64
    · have hk : isKey s = true := by unfold isKey; simp; omega
      rw [hk]
      have t1 : (0 : Int) < (s.size : Int) := by omega
      have t2 : (s.size : Int) ≤ 64 := by omega
      clear hk
      go_enter Try.func28, Try.ntmps28
      go_wp2
      go_ret
      exact ⟨rfl, rfl⟩
    · have hk : isKey s = false := by unfold isKey; simp; omega
      rw [hk]
      have t1 : (0 : Int) < (s.size : Int) := by omega
      have t2 : ¬ (s.size : Int) ≤ 64 := by omega
      clear hk
      go_enter Try.func28, Try.ntmps28
      go_wp2
      go_ret
      exact ⟨rfl, rfl⟩
  · have hk : isKey s = false := by unfold isKey; simp; omega
    rw [hk]
    have h0 : s.size = 0 := by omega
    have t1 : ¬ (0 : Int) < (s.size : Int) := by omega
    clear hk h0
    go_enter Try.func28, Try.ntmps28
    go_wp2
    go_ret
    exact ⟨rfl, rfl⟩
theorem risKey_is (s : ByteArray) (b : Bool) (h : isKey s = b) (w : World) : Calls Try.prog 28 #[.string s] w fun e w' => e = .returned (.bool b) ∧ w = w' := by
  subst h
  exact risKey_any s w

def SrtPost (w : World) (e : Ending) (w' : World) : Prop :=
  ∃ (a : List PrcC) (b : List Ent) (A B : Option Addr) (ca cb : Nat), e = .returned (.tuple #[.slice A a.length ca, .slice B b.length cb]) ∧ SrtP w a ∧ a.length ≤ 200 ∧ SrtE w b ∧ b.length ≤ 400 ∧
    w'.ownsRow w.heap.size 56 3 (.slice A a.length ca) a.length (prcsCells a) ∧ w'.ownsRow w.heap.size 53 4 (.slice B b.length cb) b.length (entsCells b) ∧ Below w.heap.size w w'

set_option maxRecDepth 100000 in
set_option maxHeartbeats 12000000 in
theorem sorted_any (ps : List PrcC) (P : Option Addr) (cp : Nat) (es : List Ent) (E : Option Addr) (ce : Nat) (w : World) (hrp : Row w P (prcsCells ps)) (hpo : ∀ y ∈ ps, y.came w) (hpl : ps.length ≤ 9223372036854775807)
    (hre : Row w E (entsCells es)) (heo : ∀ y ∈ es, y.inR) (hel : es.length ≤ 9223372036854775807) :
    Calls Try.prog 12 #[.slice P ps.length cp, .slice E es.length ce] w (SrtPost w) := by
  obtain ⟨N, hN⟩ : ∃ N, N = ps.length := ⟨_, rfl⟩
  obtain ⟨M, hM⟩ : ∃ M, M = es.length := ⟨_, rfl⟩
  rw [← hN] at hpl ⊢
  rw [← hM] at hel ⊢
  have HN := Lib.hid hN
  have HM := Lib.hid hM
  have HRP := Lib.hid hrp
  have HPO := Lib.hid hpo
  have HRE := Lib.hid hre
  have HEO := Lib.hid heo
  clear hN hM hrp hpo hre heo
  go_enter Try.func12, Try.ntmps12
  go_wp2
  go_loopw [6, 7] (fun a i wr => ∃ (k : Nat) (la : List PrcC) (A : Option Addr) (n c : Nat), n = la.length ∧ k ≤ N ∧ n ≤ k ∧ k ≤ 200 ∧ i = .int .i64 k ∧ a = .slice A n c ∧ wr.ownsRow w.heap.size 56 3 (.slice A n c) n (prcsCells la) ∧ Hid (SrtP w la) ∧ Below w.heap.size w wr) (fun _ i _ => N - (intOf i).toNat)
  case atStart => exact ⟨0, [], none, 0, 0, rfl, Nat.zero_le _, Nat.le_refl _, Nat.zero_le _, rfl, rfl, World.ownsRow_nil _ _ _ _, Lib.hid (.nil w), Below.refl _ _⟩
  case round =>
    obtain ⟨wi, rfl⟩ : ∃ wi, wi = wr := ⟨_, rfl⟩
    obtain ⟨k, la, A, n, c, hn, hkN, hnk, hk2, rfl, rfl, own, HS, bw⟩ := hrel
    have HN0 := Lib.hid hn
    clear hn
    go_upto_region 3 with (fail)
    go_cut [27] from 20 to 107 (fun v wx => v = .bool (decide (k < N ∧ k < 200)) ∧ wx = wi)
    case first =>
      by_cases hk1 : k < N
      · have t1 : (k : Int) < (N : Int) := by omega
        by_cases hk2' : k < 200
        · have t2 : (k : Int) < 200 := by omega
          have hd : decide (k < N ∧ k < 200) = true := by simp; omega
          have HD := Lib.hid hd
          clear hd
          go_wp2
          go_meet
          case rel => exact ⟨by rw [HD.out], rfl⟩
        · have t2 : ¬ (k : Int) < 200 := by omega
          have hd : decide (k < N ∧ k < 200) = false := by simp; omega
          have HD := Lib.hid hd
          clear hd
          go_wp2
          go_meet
          case rel => exact ⟨by rw [HD.out], rfl⟩
      · have t1 : ¬ (k : Int) < (N : Int) := by omega
        have hd : decide (k < N ∧ k < 200) = false := by simp; omega
        have HD := Lib.hid hd
        clear hd
        go_wp2
        go_meet
        case rel => exact ⟨by rw [HD.out], rfl⟩
    case rest =>
    obtain ⟨rfl, hwc⟩ := hcut
    have hwc' := hwc.symm
    subst hwc'
    clear hwc
    have hn := HN0.out
    clear HN0
    by_cases hend : k < N ∧ k < 200
    · rw [show decide (k < N ∧ k < 200) = true by simp; omega]
      obtain ⟨hk1, hk3⟩ := hend
      have hkp : k < ps.length := by rw [← HN.out]; exact hk1
      obtain ⟨b, off, rfl, hblt, hcc⟩ := (HRP.out.of_below bw (Nat.le_refl _)).prcs (by omega)
      have hcx := hcc k hkp
      have hXo := HPO.out ps[k] (List.getElem_mem hkp)
      generalize ps[k] = X at *
      have x0 := hcx 0 (by decide); have x1 := hcx 1 (by decide); have x2 := hcx 2 (by decide)
      have hck := fun W (h : Below w.heap.size w W) => refCheck_any X.p X.A X.c W (hXo.r.of_below h (Nat.le_refl _)) (by have h1 := hXo.l; have h2 := hXo.m; unfold maxLen at h2; omega)
      simp only [PrcC.cells, procCells, List.getElem?_toArray, List.getElem?_cons_zero, List.getElem?_cons_succ, Nat.add_zero] at x0 x1 x2 hck
      have HCK := Lib.hid hck
      have HXO := Lib.hid hXo
      have HN2 := Lib.hid hn
      clear hck hcc hXo hcx hn
      obtain ⟨ck1, ck2, hck⟩ : ∃ ck1 ck2, procCheck X.p = (ck1, ck2) := ⟨_, _, rfl⟩
      rw [hck] at HCK
      simp only at HCK
      have HC := Lib.hid hck
      clear hck
      go_wp2_with fail
      refine (HCK.out _ bw).mono ?_; rintro e w1 ⟨rfl, hb1⟩
      have b1 := below_then bw hb1 bw.size
      have own1 := owns_mono' own hb1
      obtain ⟨z0, z1, z2⟩ : w1.cell? ⟨b, off + k * 3, none⟩ = some (.string X.p.name) ∧ w1.cell? ⟨b, off + k * 3 + 1, none⟩ = some (.int .i64 X.p.args) ∧ w1.cell? ⟨b, off + k * 3 + 2, none⟩ = some (.slice X.A X.p.code.length X.c) :=
        ⟨by rw [hb1.cell (p := ⟨b, off + k * 3, none⟩) hblt]; exact x0, by rw [hb1.cell (p := ⟨b, off + k * 3 + 1, none⟩) hblt]; exact x1, by rw [hb1.cell (p := ⟨b, off + k * 3 + 2, none⟩) hblt]; exact x2⟩
      clear HCK hb1 own bw x0 x1 x2 hblt
      go_wp2
      go_loopw [10, 11] (fun t j wr => ∃ m : Nat, m ≤ n ∧ j = .int .i64 m ∧ t = .bool (twiceP la m X) ∧ ∃ d, wr = w1.drewN d) (fun _ j _ => n - (intOf j).toNat)
      case atStart => exact ⟨0, Nat.zero_le _, rfl, rfl, 0, rfl⟩
      case round =>
        obtain ⟨wj, rfl⟩ : ∃ wj, wj = wr := ⟨_, rfl⟩
        obtain ⟨m, hm, rfl, rfl, d, rfl⟩ := hrel
        by_cases hmn : m < n
        · have t3 : (m : Int) < (n : Int) := by omega
          have hml : m < la.length := by have := HN2.out; omega
          obtain ⟨g, rfl, hnc⟩ := owns_some own1 (by omega)
          have ya := (owns_atP3 own1 (List.getElem?_eq_getElem hml) 0 (by decide)).1
          have htw : twiceP la (m + 1) X = (twiceP la m X || (la[m].p.name.toList == X.p.name.toList)) := by
            unfold twiceP
            rw [List.take_succ_eq_append_getElem hml, List.any_append]
            simp
          generalize la[m] = Y at *
          simp only [PrcC.cells, procCells, List.getElem?_toArray, List.getElem?_cons_zero, Nat.add_zero] at ya
          have HTW := Lib.hid htw
          clear htw
          generalize twiceP la m X = tb at *
          cases tb with
          | true =>
            go_wp2
            go_quiet (fail)
            go_wp2
            go_roundw
            case rel => exact ⟨m + 1, by omega, by go_num, by rw [HTW.out]; simp, _, rfl⟩
            case measure => simp [intOf]; omega
          | false =>
            by_cases hYX : Y.p.name.toList = X.p.name.toList
            · have t4 : (Y.p.name.toList == X.p.name.toList) = true := by simpa using hYX
              rw [t4] at HTW
              go_wp2
              go_quiet (fail)
              go_wp2
              go_roundw
              case rel => exact ⟨m + 1, by omega, by go_num, by rw [HTW.out]; rfl, _, rfl⟩
              case measure => simp [intOf]; omega
            · have t4 : (Y.p.name.toList == X.p.name.toList) = false := by simpa using hYX
              rw [t4] at HTW
              go_wp2
              go_quiet (fail)
              go_wp2
              go_roundw
              case rel => exact ⟨m + 1, by omega, by go_num, by rw [HTW.out]; rfl, _, rfl⟩
              case measure => simp [intOf]; omega
        · obtain rfl : m = n := by omega
          have own2 := owns_mono' own1 (below_drewN (Below.refl _ _) d)
          have b2 := below_drewN b1 d
          have y0 : (w1.drewN d).cell? ⟨b, off + k * 3, none⟩ = some (.string X.p.name) := z0
          have y1 : (w1.drewN d).cell? ⟨b, off + k * 3 + 1, none⟩ = some (.int .i64 X.p.args) := z1
          have y2 : (w1.drewN d).cell? ⟨b, off + k * 3 + 2, none⟩ = some (.slice X.A X.p.code.length X.c) := z2
          clear own1 b1 z0 z1 z2
          generalize w1.drewN d = w2 at own2 b2 y0 y1 y2 ⊢

          have t3 : ¬ (m : Int) < (m : Int) := by omega
          by_cases hc0 : ck2 = 0
          · subst hc0
            have HTWB : Hid (twiceP la m X = twiceP la m X) := Lib.hid rfl
            obtain ⟨tb, htb⟩ : ∃ tb, twiceP la m X = tb := ⟨_, rfl⟩
            rw [htb]
            have HTB := Lib.hid htb
            clear htb HTWB
            cases tb with
            | true =>
              go_wp2
              go_roundw
              case rel => exact ⟨k + 1, la, A, m, c, HN2.out, by omega, by omega, by omega, by go_num, rfl, own2, HS, b2⟩
              case measure => simp [intOf]; omega
            | false =>
              have LX := Loc.new w2 #[.string X.p.name, .int .i64 X.p.args, .slice X.A X.p.code.length X.c] 56
              have ba := (Below.refl w2.heap.size w2).alloc (Nat.le_refl _) (.cells #[.string X.p.name, .int .i64 X.p.args, .slice X.A X.p.code.length X.c] 56)
              have own3 := owns_mono' own2 ba
              have b3 := below_then b2 ba b2.size
              have hsrc := Row.src (P := Try.prog) (c := 1) (size := 3) (n := 1) (tx := 31) (Row.of_loc LX) Try.underlying31 rfl (by simp [Value.oneCell']) (fun h => by simp at h)
              have hcl : prcsCells (la ++ [X]) = prcsCells la ++ (#[.string X.p.name, .int .i64 X.p.args, .slice X.A X.p.code.length X.c] : Array Value).toList := by simp [prcsCells, PrcC.cells, procCells]
              have HSRC := Lib.hid hsrc
              have HCL := Lib.hid hcl
              clear hsrc hcl LX ba own2 b2
              go_wp2_with (at_builtin; refine wpList_append_mine _ rfl _ _ 31 31 rfl 56 (.agg #[.string ⟨#[]⟩, .int .i64 0, .slice none 0 0]) 3 48 Try.underlying31 infoProc rfl (by decide) (.slice A m c) m _ rfl (owns_base (base' := 0) own3 (fun _ _ => Nat.zero_le _)) _ 1 _ rfl HSRC.out (by unfold maxLen; omega) (by omega) ?_; intro A2 c2' w3 hown4 hg4 hb4 hx4; obtain ⟨o4, b4⟩ := own_next0 own3 hown4 hg4 hb4 b3.size b3; clear hx4 hg4 hb4 hown4 own3 b3 y0 y1 y2)
              obtain ⟨G, rfl, hc2⟩ := owns_some o4 (by omega)
              have hGw : w.heap.size ≤ G := (owns_cap o4 (by omega)).2.1
              have hml : la.length = m := HN2.out.symm
              have o5 : w3.ownsRow w.heap.size 56 3 (.slice (some ⟨G, 0, none⟩) (m + 1) c2') (m + 1) (prcsCells (putAt la m X)) := by
                rw [← hml, putAt_end, HCL.out, hml]; exact o4
              clear o4
              go_loopw [12] (fun q wr => ∃ j : Nat, j ≤ m ∧ q = .int .i64 j ∧ wr.ownsRow w.heap.size 56 3 (.slice (some ⟨G, 0, none⟩) (m + 1) c2') (m + 1) (prcsCells (putAt la j X)) ∧ Hid (∀ y ∈ la.drop j, ltS X.nm y.nm = true) ∧ Below w.heap.size w wr) (fun q _ => (intOf q).toNat)
              case atStart => exact ⟨m, Nat.le_refl _, by go_num, o5, Lib.hid (fun y hy => by rw [List.drop_of_length_le (by omega)] at hy; simp at hy), b4⟩
              case round =>
                obtain ⟨wq, rfl⟩ : ∃ wq, wq = wr := ⟨_, rfl⟩
                obtain ⟨j, hjm, rfl, oj, HB, bj⟩ := hrel
                clear o5 b4
                have hfin : Hid ((∀ i (hi : i < la.length), i + 1 = j → ltS X.nm (la[i]).nm = false) → SrtP w (putAt la j X)) := Lib.hid (fun he =>
                  ⟨fun y hy => by
                    rcases putAt_mem hy with h | h
                    · rw [h, HC.out]
                    · exact HS.out.v y h, putAt_rise HS.out.r (fun y hy e => by
                      have h1 := HTB.out
                      unfold twiceP at h1
                      rw [List.take_of_length_le (by omega)] at h1
                      have h2 := List.any_eq_false.1 h1 y hy
                      unfold PrcC.nm at e
                      rw [e] at h2
                      simp at h2) (by omega) HB.out he, fun y hy => by
                    rcases putAt_mem hy with h | h
                    · rw [h]; exact ⟨HXO.out.r, by have h := (procCheck_zero (p := X.p) (by rw [HC.out])).2.2.1; omega, HXO.out.i⟩
                    · exact HS.out.c y h⟩)
                cases j with
                | zero =>
                  have HF := Lib.hid (hfin.out (fun i _ h => by omega))
                  clear hfin
                  have own9 := owns_mono' oj (below_drewN (Below.refl _ _) 1)
                  go_wp2
                  go_quiet (fail)
                  go_wp2
                  go_roundw
                  case rel => exact ⟨k + 1, putAt la 0 X, _, m + 1, c2', by rw [putAt_length, HN2.out], by omega, by omega, by omega, by go_num, rfl, owns_mono' oj (below_drewN (Below.refl _ _) _), HF, below_drewN bj _⟩
                  case measure => simp [intOf]; omega
                | succ j =>
                  have hjl : j < la.length := by omega
                  have hY : la[j]? = some la[j] := List.getElem?_eq_getElem hjl
                  have hjX : (putAt la (j + 1) X)[j + 1]? = some X := putAt_at X (by omega)
                  have hjY : (putAt la (j + 1) X)[j]? = some la[j] := by rw [putAt_below X (by omega) (by omega), hY]
                  have cx := fun r hr => owns_atP3 oj hjX r hr
                  have cy := fun r hr => owns_atP3 oj hjY r hr
                  have hsw := putAt_swap X hjl
                  have hdr : la.drop j = la[j] :: la.drop (j + 1) := List.drop_eq_getElem_cons hjl
                  have HLJ : Hid (ltS X.nm (la[j]).nm = false → SrtP w (putAt la (j + 1) X)) := Lib.hid (fun h => hfin.out (fun i hi e => by
                    have : i = j := by omega
                    subst this
                    exact h))
                  clear hfin
                  generalize la[j] = Y at *
                  have x0 := (cx 0 (by decide)).1; have x1 := (cx 1 (by decide)).1; have x2 := (cx 2 (by decide)).1
                  have y0 := (cy 0 (by decide)).1; have y1 := (cy 1 (by decide)).1; have y2 := (cy 2 (by decide)).1
                  have fx0 := (cx 0 (by decide)).2; have fx1 := (cx 1 (by decide)).2; have fx2 := (cx 2 (by decide)).2
                  have fy0 := (cy 0 (by decide)).2; have fy1 := (cy 1 (by decide)).2; have fy2 := (cy 2 (by decide)).2
                  simp only [PrcC.cells, procCells, List.getElem?_toArray, List.getElem?_cons_zero, List.getElem?_cons_succ, Nat.add_zero] at x0 x1 x2 y0 y1 y2 fx0 fy0
                  clear cx cy hY
                  obtain ⟨J, hJ⟩ : ∃ J, J = j + 1 := ⟨_, rfl⟩
                  rw [← hJ] at x0 x1 x2 fx0 fx1 fx2 oj HLJ hsw hjm hjX hjY ⊢
                  have tj : 0 < J := by omega
                  have tJm : J < m + 1 := by omega
                  have tjm : j < m + 1 := by omega
                  have tj1 : (J : Int) - 1 = (j : Int) := by omega
                  have HJ := Lib.hid hJ
                  have hjJ : j < J := by omega
                  clear hJ
                  cases hlt : Op.bytesLess X.p.name.toList Y.p.name.toList with
                  | false =>
                    have HF := Lib.hid (HLJ.out hlt)
                    clear HLJ
                    go_wp2
                    go_quiet (fail)
                    go_wp2
                    go_roundw
                    case rel => exact ⟨k + 1, putAt la J X, _, m + 1, c2', by rw [putAt_length, HN2.out], by omega, by omega, by omega, by go_num, rfl, owns_mono' oj (below_drewN (Below.refl _ _) _), HF, below_drewN bj _⟩
                    case measure => simp [intOf]; omega
                  | true =>
                    go_wp2
                    go_quiet (fail)
                    have hGq := (owns_cap oj (by omega)).2.2
                    have LZ : Loc ((wq.drewN nq).alloc (.cells #[.string ⟨#[]⟩, .int .i64 0, .slice none 0 0] 56)) wq.heap.size #[.string ⟨#[]⟩, .int .i64 0, .slice none 0 0] 56 := Loc.new (wq.drewN nq) #[.string ⟨#[]⟩, .int .i64 0, .slice none 0 0] 56
                    have z0 := LZ.free 0; have z1 := LZ.free 1; have z2 := LZ.free 2
                    have u0 := LZ.cell 0; have u1 := LZ.cell 1; have u2 := LZ.cell 2
                    simp only [List.getElem?_toArray, List.getElem?_cons_zero, List.getElem?_cons_succ] at u0 u1 u2
                    have bz : Below wq.heap.size wq ((wq.drewN nq).alloc (.cells #[.string ⟨#[]⟩, .int .i64 0, .slice none 0 0] 56)) := (below_drewN (Below.refl wq.heap.size wq) nq).alloc (by simp) _
                    have hnG : (Value.slice (some ⟨G, 0, none⟩) (m + 1) c2').ownBlock ≠ some wq.heap.size := by simp [Value.ownBlock]; omega
                    have o9 := owns_setCell (a := ⟨wq.heap.size, 2, none⟩) (owns_setCell (a := ⟨wq.heap.size, 1, none⟩) (owns_setCell (a := ⟨wq.heap.size, 0, none⟩) (owns_mono' oj bz) hnG (.string X.p.name)) hnG (.int .i64 X.p.args)) hnG (.slice X.A X.p.code.length X.c)
                    have L9 := ((LZ.set 0 (.string X.p.name)).set 1 (.int .i64 X.p.args)).set 2 (.slice X.A X.p.code.length X.c)
                    simp only [List.setIfInBounds_toArray, List.set_cons_zero, List.set_cons_succ] at L9
                    have b9 := below_then bj (((bz.setCell (p := ⟨wq.heap.size, 0, none⟩) (Nat.le_refl _) (.string X.p.name)).setCell (p := ⟨wq.heap.size, 1, none⟩) (Nat.le_refl _) (.int .i64 X.p.args)).setCell (p := ⟨wq.heap.size, 2, none⟩) (Nat.le_refl _) (.slice X.A X.p.code.length X.c)) bj.size
                    clear bz LZ bj
                    go_upto_region 17 with (fail)
                    clear x0 x1 x2 y0 y1 y2 z0 z1 z2 u0 u1 u2 fx0 fx1 fx2 fy0 fy1 fy2
                    generalize (((((wq.drewN nq).alloc (.cells #[.string ⟨#[]⟩, .int .i64 0, .slice none 0 0] 56)).setCell ⟨wq.heap.size, 0, none⟩ (.string X.p.name)).setCell ⟨wq.heap.size, 1, none⟩ (.int .i64 X.p.args)).setCell ⟨wq.heap.size, 2, none⟩ (.slice X.A X.p.code.length X.c)) = w5 at o9 L9 b9 ⊢
                    generalize wq.heap.size = B at *
                    have y0 := (owns_atP3 o9 hjY 0 (by decide)).1; have y1 := (owns_atP3 o9 hjY 1 (by decide)).1; have y2 := (owns_atP3 o9 hjY 2 (by decide)).1
                    have fx0 := (owns_atP3 o9 hjX 0 (by decide)).2; have fx1 := (owns_atP3 o9 hjX 1 (by decide)).2; have fx2 := (owns_atP3 o9 hjX 2 (by decide)).2
                    have x0 := (owns_atP3 o9 hjX 0 (by decide)).1; have x1 := (owns_atP3 o9 hjX 1 (by decide)).1; have x2 := (owns_atP3 o9 hjX 2 (by decide)).1
                    simp only [PrcC.cells, procCells, List.getElem?_toArray, List.getElem?_cons_zero, List.getElem?_cons_succ, Nat.add_zero] at x0 x1 x2 y0 y1 y2 fx0
                    have hGb : w.heap.size ≤ G := hGw
                    have hGB : B ≠ G := by omega
                    have o10 := owns_putP3 o9 J (by rw [putAt_length]; omega) Y (.string Y.p.name) (.int .i64 Y.p.args) (.slice Y.A Y.p.code.length Y.c) rfl
                    have L10 := putP3_loc (k := J) (v0 := .string Y.p.name) (v1 := .int .i64 Y.p.args) (v2 := .slice Y.A Y.p.code.length Y.c) L9 hGB
                    have b10 := putP3_below (k := J) (v0 := .string Y.p.name) (v1 := .int .i64 Y.p.args) (v2 := .slice Y.A Y.p.code.length Y.c) b9 hGw
                    go_upto_region 18 with (fail)
                    unfold putP3 at o10 L10 b10
                    generalize (((w5.setCell ⟨G, J * 3, none⟩ (.string Y.p.name)).setCell ⟨G, J * 3 + 1, none⟩ (.int .i64 Y.p.args)).setCell ⟨G, J * 3 + 2, none⟩ (.slice Y.A Y.p.code.length Y.c)) = w6 at o10 L10 b10 ⊢
                    clear x0 x1 x2 y0 y1 y2 fx0 fx1 fx2 o9 L9 b9
                    have hjj : j < ((putAt la J X).set J Y).length := by rw [List.length_set, putAt_length]; omega
                    have q0 := L10.cell 0; have q1 := L10.cell 1; have q2 := L10.cell 2
                    have fy := fun r hr => (owns_atP3 o10 (List.getElem?_eq_getElem hjj) r hr).2
                    have fy0 := fy 0 (by decide); have fy1 := fy 1 (by decide); have fy2 := fy 2 (by decide)
                    have hsY : ((putAt la J X).set J Y)[j]? = some Y := by rw [List.getElem?_set_ne (by omega)]; exact hjY
                    have y0 := (owns_atP3 o10 hsY 0 (by decide)).1; have y1 := (owns_atP3 o10 hsY 1 (by decide)).1; have y2 := (owns_atP3 o10 hsY 2 (by decide)).1
                    simp only [PrcC.cells, procCells, List.getElem?_toArray, List.getElem?_cons_zero, List.getElem?_cons_succ, Nat.add_zero] at q0 q1 q2 fy0 y0 y1 y2
                    have o11 := owns_putP3 o10 j hjj X (.string X.p.name) (.int .i64 X.p.args) (.slice X.A X.p.code.length X.c) rfl
                    have b11 := putP3_below (k := j) (v0 := .string X.p.name) (v1 := .int .i64 X.p.args) (v2 := .slice X.A X.p.code.length X.c) b10 hGw
                    rw [hsw] at o11
                    unfold putP3 at o11 b11
                    clear fy
                    go_wp2
                    go_roundw
                    case rel => exact ⟨j, by omega, by go_num, o11, Lib.hid (fun y hy => by
                      rw [hdr] at hy
                      rcases List.mem_cons.1 hy with h | h
                      · rw [h]; exact hlt
                      · exact HB.out y h), b11⟩
                    case measure => simp [intOf]; omega
          · have t4 : (ck2 == 0) = false := by simpa using hc0
            go_wp2
            go_roundw
            case rel => exact ⟨k + 1, la, A, m, c, HN2.out, by omega, by omega, by omega, by go_num, rfl, own2, HS, b2⟩
            case measure => simp [intOf]; omega
    · rw [show decide (k < N ∧ k < 200) = false by simp; omega]
      have hpk : n ≤ 200 := by omega
      obtain ⟨pa, hpa⟩ : ∃ pa, pa = la := ⟨_, rfl⟩
      obtain ⟨PA, hPA⟩ : ∃ PA, PA = A := ⟨_, rfl⟩
      obtain ⟨pn, hpn⟩ : ∃ pn, pn = n := ⟨_, rfl⟩
      obtain ⟨pc, hpc⟩ : ∃ pc, pc = c := ⟨_, rfl⟩
      obtain ⟨wp, hwp⟩ : ∃ wp, wp = wi := ⟨_, rfl⟩
      rw [← hpa, ← hpn, ← hPA, ← hpc, ← hwp] at own
      rw [← hpa] at HS hn
      rw [← hpn] at hn hpk
      rw [← hwp] at bw
      rw [← hpn, ← hPA, ← hpc, ← hwp]
      have HPS := Lib.hid HS.out
      have HPN := Lib.hid hn
      have ownp := own
      have bwp := bw
      have hrew := HRE.out.of_below bw (Nat.le_refl _)
      have HREW := Lib.hid hrew
      clear HS hn own bw hpa hPA hpn hpc hwp hrew hnk hk2 HRP HPO hend
      go_wp2
      go_loopw [14, 15] (fun a i wr => ∃ (k : Nat) (la : List Ent) (A : Option Addr) (n c : Nat), n = la.length ∧ k ≤ M ∧ n ≤ k ∧ k ≤ 400 ∧ i = .int .i64 k ∧ a = .slice A n c ∧ wr.ownsRow wp.heap.size 53 4 (.slice A n c) n (entsCells la) ∧ Hid (SrtE w la) ∧ Below wp.heap.size wp wr) (fun _ i _ => M - (intOf i).toNat)
      case atStart => exact ⟨0, [], none, 0, 0, rfl, Nat.zero_le _, Nat.le_refl _, Nat.zero_le _, rfl, rfl, World.ownsRow_nil _ _ _ _, Lib.hid (SrtE.nil w), Below.refl _ _⟩
      case round =>
        obtain ⟨wi, rfl⟩ : ∃ wi, wi = wr := ⟨_, rfl⟩
        obtain ⟨k, la, A, n, c, hn, hkN, hnk, hk2, rfl, rfl, own, HS, bw⟩ := hrel
        by_cases hend : k < M ∧ k < 400
        · obtain ⟨hk1, hk3⟩ := hend
          have t1 : (k : Int) < (M : Int) := by omega
          have t2 : (k : Int) < 400 := by omega
          have hkp : k < es.length := by rw [← HM.out]; exact hk1
          obtain ⟨b, off, rfl, hblt, hcc⟩ := (HREW.out.of_below bw (Nat.le_refl _)).ents (by omega)
          have hcx := hcc k hkp
          have hXo := HEO.out es[k] (List.getElem_mem hkp)
          generalize es[k] = X at *
          have x0 := hcx 0 (by decide); have x1 := hcx 1 (by decide); have x2 := hcx 2 (by decide); have x3 := hcx 3 (by decide)
          simp only [Ent.cells, List.getElem?_toArray, List.getElem?_cons_zero, List.getElem?_cons_succ, Nat.add_zero] at x0 x1 x2 x3
          have HXO := Lib.hid hXo
          have HN2 := Lib.hid hn
          clear hcc hXo hcx hn
          go_wp2
          go_loopw [16, 17] (fun t j wr => ∃ m : Nat, m ≤ n ∧ j = .int .i64 m ∧ t = .bool (twiceE la m X) ∧ ∃ d, wr = wi.drewN d) (fun _ j _ => n - (intOf j).toNat)
          case atStart => exact ⟨0, Nat.zero_le _, rfl, rfl, 0, rfl⟩
          case round =>
            obtain ⟨wj, rfl⟩ : ∃ wj, wj = wr := ⟨_, rfl⟩
            obtain ⟨m, hm, rfl, rfl, d, rfl⟩ := hrel
            by_cases hmn : m < n
            · have t3 : (m : Int) < (n : Int) := by omega
              have hml : m < la.length := by have := HN2.out; omega
              obtain ⟨g, rfl, hnc⟩ := owns_some own (by omega)
              have ya := (owns_atE4 own (List.getElem?_eq_getElem hml) 0 (by decide)).1
              have htw : twiceE la (m + 1) X = (twiceE la m X || (la[m].key.toList == X.key.toList)) := by
                unfold twiceE
                rw [List.take_succ_eq_append_getElem hml, List.any_append]
                simp
              generalize la[m] = Y at *
              simp only [Ent.cells, List.getElem?_toArray, List.getElem?_cons_zero, Nat.add_zero] at ya
              have HTW := Lib.hid htw
              clear htw
              generalize twiceE la m X = tb at *
              cases tb with
              | true =>
                go_wp2
                go_quiet (fail)
                go_wp2
                go_roundw
                case rel => exact ⟨m + 1, by omega, by go_num, by rw [HTW.out]; simp, _, rfl⟩
                case measure => simp [intOf]; omega
              | false =>
                by_cases hYX : Y.key.toList = X.key.toList
                · have t4 : (Y.key.toList == X.key.toList) = true := by simpa using hYX
                  rw [t4] at HTW
                  go_wp2
                  go_quiet (fail)
                  go_wp2
                  go_roundw
                  case rel => exact ⟨m + 1, by omega, by go_num, by rw [HTW.out]; rfl, _, rfl⟩
                  case measure => simp [intOf]; omega
                · have t4 : (Y.key.toList == X.key.toList) = false := by simpa using hYX
                  rw [t4] at HTW
                  go_wp2
                  go_quiet (fail)
                  go_wp2
                  go_roundw
                  case rel => exact ⟨m + 1, by omega, by go_num, by rw [HTW.out]; rfl, _, rfl⟩
                  case measure => simp [intOf]; omega
            · obtain rfl : m = n := by omega
              have own2 := owns_mono' own (below_drewN (Below.refl _ _) d)
              have b2 := below_drewN bw d
              have y0 : (wi.drewN d).cell? ⟨b, off + k * 4, none⟩ = some (.string X.key) := x0
              have y1 : (wi.drewN d).cell? ⟨b, off + k * 4 + 1, none⟩ = some (.int .i64 X.v.kind) := x1
              have y2 : (wi.drewN d).cell? ⟨b, off + k * 4 + 2, none⟩ = some (.int .i64 X.v.num) := x2
              have y3 : (wi.drewN d).cell? ⟨b, off + k * 4 + 3, none⟩ = some (.string X.v.text) := x3
              have hbl2 : b < (wi.drewN d).heap.size := hblt
              clear own bw x0 x1 x2 x3 hblt
              generalize wi.drewN d = w2 at own2 b2 y0 y1 y2 y3 hbl2 ⊢
              have t3 : ¬ (m : Int) < (m : Int) := by omega
              obtain ⟨tb, htb⟩ : ∃ tb, twiceE la m X = tb := ⟨_, rfl⟩
              rw [htb]
              have HTB := Lib.hid htb
              clear htb
              cases tb with
              | true =>
                go_wp2
                go_roundw
                case rel => exact ⟨k + 1, la, A, m, c, HN2.out, by omega, by omega, by omega, by go_num, rfl, own2, HS, b2⟩
                case measure => simp [intOf]; omega
              | false =>
                cases hkey : isKey X.key with
                | false =>
                  have HKEY := Lib.hid hkey
                  clear hkey
                  go_wp2_with (go_at_call 28; refine (risKey_is X.key false HKEY.out _).mono ?_; rintro e w9 ⟨rfl, rfl⟩)
                  go_roundw
                  case rel => exact ⟨k + 1, la, A, m, c, HN2.out, by omega, by omega, by omega, by go_num, rfl, own2, HS, b2⟩
                  case measure => simp [intOf]; omega
                | true =>
                have HKEY := Lib.hid hkey
                have hdc := fun W => refDCheck_any X.v W
                simp only [valCells] at hdc
                obtain ⟨dc, hdce⟩ : ∃ dc, datumCheck X.v = dc := ⟨_, rfl⟩
                rw [hdce] at hdc
                have HDC := Lib.hid hdc
                have HDE := Lib.hid hdce
                clear hkey hdc hdce
                by_cases hd0 : dc = 0
                · subst hd0
                  by_cases hk0 : X.v.kind = 0
                  · have hdc0 := HDC.out
                    rw [hk0] at hdc0 y1
                    have HDC0 := Lib.hid hdc0
                    clear hdc0 hk0 HDC
                    go_wp2_with (first | (go_at_call 28; refine (risKey_is X.key true HKEY.out _).mono ?_; rintro e w9 ⟨rfl, rfl⟩) | (go_at_call 29; refine (HDC0.out _).mono ?_; rintro e w9 ⟨rfl, hb9⟩; have y1' := (hb9.cell (p := ⟨b, off + k * 4 + 1, none⟩) hbl2).trans y1))
                    go_roundw
                    case rel => exact ⟨k + 1, la, A, m, c, HN2.out, by omega, by omega, by omega, by go_num, rfl, owns_mono' own2 hb9, HS, below_then b2 hb9 b2.size⟩
                    case measure => simp [intOf]; omega
                  have t5 : (X.v.kind == 0) = false := by simpa using hk0
                  go_upto_region 29 with (first | (go_at_call 28; refine (risKey_is X.key true HKEY.out _).mono ?_; rintro e w9 ⟨rfl, rfl⟩) | (go_at_call 29; refine (HDC.out _).mono ?_; rintro e w9 ⟨rfl, hb9⟩; have z1 := (hb9.cell (p := ⟨b, off + k * 4 + 1, none⟩) hbl2).trans y1; have z0 := (hb9.cell (p := ⟨b, off + k * 4, none⟩) hbl2).trans y0; have z2 := (hb9.cell (p := ⟨b, off + k * 4 + 2, none⟩) hbl2).trans y2; have z3 := (hb9.cell (p := ⟨b, off + k * 4 + 3, none⟩) hbl2).trans y3; have own9 := owns_mono' own2 hb9; have b9 := below_then b2 hb9 b2.size; clear y0 y1 y2 y3 own2 b2 hb9))
                  have HK0 := Lib.hid hk0
                  clear hk0
                  have LX := Loc.new w9 #[.string X.key, .int .i64 X.v.kind, .int .i64 X.v.num, .string X.v.text] 53
                  have ba := (Below.refl w9.heap.size w9).alloc (Nat.le_refl _) (.cells #[.string X.key, .int .i64 X.v.kind, .int .i64 X.v.num, .string X.v.text] 53)
                  have own3 := owns_mono' own9 ba
                  have b3 := below_then b9 ba b9.size
                  have hsrc := Row.src (P := Try.prog) (c := 1) (size := 4) (n := 1) (tx := 32) (Row.of_loc LX) Try.underlying32 rfl (by simp [Value.oneCell']) (fun h => by simp at h)
                  have hcl : entsCells (la ++ [X]) = entsCells la ++ (#[.string X.key, .int .i64 X.v.kind, .int .i64 X.v.num, .string X.v.text] : Array Value).toList := by simp [entsCells, Ent.cells]
                  have HSRC := Lib.hid hsrc
                  have HCL := Lib.hid hcl
                  clear hsrc hcl LX ba own9 b9
                  go_wp2_with (at_builtin; refine wpList_append_mine _ rfl _ _ 32 32 rfl 53 (.agg #[.string ⟨#[]⟩, .int .i64 0, .int .i64 0, .string ⟨#[]⟩]) 4 48 Try.underlying32 infoEntry rfl (by decide) (.slice A m c) m _ rfl (owns_base (base' := 0) own3 (fun _ _ => Nat.zero_le _)) _ 1 _ rfl HSRC.out (by unfold maxLen; omega) (by omega) ?_; intro A2 c2' w3 hown4 hg4 hb4 hx4; obtain ⟨o4, b4⟩ := own_next0 own3 hown4 hg4 hb4 b3.size b3; clear hx4 hg4 hb4 hown4 own3 b3 z0 z1 z2 z3)
                  obtain ⟨G, rfl, hc2⟩ := owns_some o4 (by omega)
                  have hGw : wp.heap.size ≤ G := (owns_cap o4 (by omega)).2.1
                  have hml : la.length = m := HN2.out.symm
                  have o5 : w3.ownsRow wp.heap.size 53 4 (.slice (some ⟨G, 0, none⟩) (m + 1) c2') (m + 1) (entsCells (putAt la m X)) := by
                    rw [← hml, putAt_end, HCL.out, hml]; exact o4
                  clear o4
                  go_loopw [18] (fun q wr => ∃ j : Nat, j ≤ m ∧ q = .int .i64 j ∧ wr.ownsRow wp.heap.size 53 4 (.slice (some ⟨G, 0, none⟩) (m + 1) c2') (m + 1) (entsCells (putAt la j X)) ∧ Hid (∀ y ∈ la.drop j, ltS X.key y.key = true) ∧ Below wp.heap.size wp wr) (fun q _ => (intOf q).toNat)
                  case atStart => exact ⟨m, Nat.le_refl _, by go_num, o5, Lib.hid (fun y hy => by rw [List.drop_of_length_le (by omega)] at hy; simp at hy), b4⟩
                  case round =>
                    obtain ⟨wq, rfl⟩ : ∃ wq, wq = wr := ⟨_, rfl⟩
                    obtain ⟨j, hjm, rfl, oj, HB, bj⟩ := hrel
                    clear o5 b4
                    have hfin : Hid ((∀ i (hi : i < la.length), i + 1 = j → ltS X.key (la[i]).key = false) → SrtE w (putAt la j X)) := Lib.hid (fun he =>
                      ⟨fun y hy => by
                        rcases putAt_mem hy with h | h
                        · rw [h]; exact ⟨HKEY.out, HDE.out, HK0.out⟩
                        · exact HS.out.v y h, putAt_rise HS.out.r (fun y hy e => by
                          have h1 := HTB.out
                          unfold twiceE at h1
                          rw [List.take_of_length_le (by omega)] at h1
                          have h2 := List.any_eq_false.1 h1 y hy
                          rw [e] at h2
                          simp at h2) (by omega) HB.out he, fun y hy => by
                        rcases putAt_mem hy with h | h
                        · rw [h]; exact HXO.out
                        · exact HS.out.c y h⟩)
                    cases j with
                    | zero =>
                      have HF := Lib.hid (hfin.out (fun i _ h => by omega))
                      clear hfin
                      have own9 := owns_mono' oj (below_drewN (Below.refl _ _) 1)
                      go_wp2
                      go_quiet (fail)
                      go_wp2
                      go_roundw
                      case rel => exact ⟨k + 1, putAt la 0 X, _, m + 1, c2', by rw [putAt_length, HN2.out], by omega, by omega, by omega, by go_num, rfl, owns_mono' oj (below_drewN (Below.refl _ _) _), HF, below_drewN bj _⟩
                      case measure => simp [intOf]; omega
                    | succ j =>
                      have hjl : j < la.length := by omega
                      have hY : la[j]? = some la[j] := List.getElem?_eq_getElem hjl
                      have hjX : (putAt la (j + 1) X)[j + 1]? = some X := putAt_at X (by omega)
                      have hjY : (putAt la (j + 1) X)[j]? = some la[j] := by rw [putAt_below X (by omega) (by omega), hY]
                      have cx := fun r hr => owns_atE4 oj hjX r hr
                      have cy := fun r hr => owns_atE4 oj hjY r hr
                      have hsw := putAt_swap X hjl
                      have hdr : la.drop j = la[j] :: la.drop (j + 1) := List.drop_eq_getElem_cons hjl
                      have HLJ : Hid (ltS X.key (la[j]).key = false → SrtE w (putAt la (j + 1) X)) := Lib.hid (fun h => hfin.out (fun i hi e => by
                        have : i = j := by omega
                        subst this
                        exact h))
                      clear hfin
                      generalize la[j] = Y at *
                      have x0 := (cx 0 (by decide)).1; have x1 := (cx 1 (by decide)).1; have x2 := (cx 2 (by decide)).1; have x3 := (cx 3 (by decide)).1
                      have y0 := (cy 0 (by decide)).1; have y1 := (cy 1 (by decide)).1; have y2 := (cy 2 (by decide)).1; have y3 := (cy 3 (by decide)).1
                      have fx0 := (cx 0 (by decide)).2; have fx1 := (cx 1 (by decide)).2; have fx2 := (cx 2 (by decide)).2; have fx3 := (cx 3 (by decide)).2
                      have fy0 := (cy 0 (by decide)).2; have fy1 := (cy 1 (by decide)).2; have fy2 := (cy 2 (by decide)).2; have fy3 := (cy 3 (by decide)).2
                      simp only [Ent.cells, List.getElem?_toArray, List.getElem?_cons_zero, List.getElem?_cons_succ, Nat.add_zero] at x0 x1 x2 x3 y0 y1 y2 y3 fx0 fy0
                      clear cx cy hY
                      obtain ⟨J, hJ⟩ : ∃ J, J = j + 1 := ⟨_, rfl⟩
                      rw [← hJ] at x0 x1 x2 x3 fx0 fx1 fx2 fx3 oj HLJ hsw hjm hjX hjY ⊢
                      have tj : 0 < J := by omega
                      have tJm : J < m + 1 := by omega
                      have tjm : j < m + 1 := by omega
                      have tj1 : (J : Int) - 1 = (j : Int) := by omega
                      have HJ := Lib.hid hJ
                      have hjJ : j < J := by omega
                      clear hJ
                      cases hlt : Op.bytesLess X.key.toList Y.key.toList with
                      | false =>
                        have HF := Lib.hid (HLJ.out hlt)
                        clear HLJ
                        go_wp2
                        go_quiet (fail)
                        go_wp2
                        go_roundw
                        case rel => exact ⟨k + 1, putAt la J X, _, m + 1, c2', by rw [putAt_length, HN2.out], by omega, by omega, by omega, by go_num, rfl, owns_mono' oj (below_drewN (Below.refl _ _) _), HF, below_drewN bj _⟩
                        case measure => simp [intOf]; omega
                      | true =>
                        go_wp2
                        go_quiet (fail)
                        have hGq := (owns_cap oj (by omega)).2.2
                        have LZ : Loc ((wq.drewN nq).alloc (.cells #[.string ⟨#[]⟩, .int .i64 0, .int .i64 0, .string ⟨#[]⟩] 53)) wq.heap.size #[.string ⟨#[]⟩, .int .i64 0, .int .i64 0, .string ⟨#[]⟩] 53 := Loc.new (wq.drewN nq) #[.string ⟨#[]⟩, .int .i64 0, .int .i64 0, .string ⟨#[]⟩] 53
                        have z0 := LZ.free 0; have z1 := LZ.free 1; have z2 := LZ.free 2; have z3 := LZ.free 3
                        have u0 := LZ.cell 0; have u1 := LZ.cell 1; have u2 := LZ.cell 2; have u3 := LZ.cell 3
                        simp only [List.getElem?_toArray, List.getElem?_cons_zero, List.getElem?_cons_succ] at u0 u1 u2 u3
                        have bz : Below wq.heap.size wq ((wq.drewN nq).alloc (.cells #[.string ⟨#[]⟩, .int .i64 0, .int .i64 0, .string ⟨#[]⟩] 53)) := (below_drewN (Below.refl wq.heap.size wq) nq).alloc (by simp) _
                        have hnG : (Value.slice (some ⟨G, 0, none⟩) (m + 1) c2').ownBlock ≠ some wq.heap.size := by simp [Value.ownBlock]; omega
                        have o9 := owns_setCell (a := ⟨wq.heap.size, 3, none⟩) (owns_setCell (a := ⟨wq.heap.size, 2, none⟩) (owns_setCell (a := ⟨wq.heap.size, 1, none⟩) (owns_setCell (a := ⟨wq.heap.size, 0, none⟩) (owns_mono' oj bz) hnG (.string X.key)) hnG (.int .i64 X.v.kind)) hnG (.int .i64 X.v.num)) hnG (.string X.v.text)
                        have L9 := (((LZ.set 0 (.string X.key)).set 1 (.int .i64 X.v.kind)).set 2 (.int .i64 X.v.num)).set 3 (.string X.v.text)
                        simp only [List.setIfInBounds_toArray, List.set_cons_zero, List.set_cons_succ] at L9
                        have b9 := below_then bj ((((bz.setCell (p := ⟨wq.heap.size, 0, none⟩) (Nat.le_refl _) (.string X.key)).setCell (p := ⟨wq.heap.size, 1, none⟩) (Nat.le_refl _) (.int .i64 X.v.kind)).setCell (p := ⟨wq.heap.size, 2, none⟩) (Nat.le_refl _) (.int .i64 X.v.num)).setCell (p := ⟨wq.heap.size, 3, none⟩) (Nat.le_refl _) (.string X.v.text)) bj.size
                        clear bz LZ bj
                        go_upto_region 34 with (fail)
                        clear x0 x1 x2 x3 y0 y1 y2 y3 z0 z1 z2 z3 u0 u1 u2 u3 fx0 fx1 fx2 fx3 fy0 fy1 fy2 fy3
                        generalize ((((((wq.drewN nq).alloc (.cells #[.string ⟨#[]⟩, .int .i64 0, .int .i64 0, .string ⟨#[]⟩] 53)).setCell ⟨wq.heap.size, 0, none⟩ (.string X.key)).setCell ⟨wq.heap.size, 1, none⟩ (.int .i64 X.v.kind)).setCell ⟨wq.heap.size, 2, none⟩ (.int .i64 X.v.num)).setCell ⟨wq.heap.size, 3, none⟩ (.string X.v.text)) = w5 at o9 L9 b9 ⊢
                        generalize wq.heap.size = B at *
                        have y0 := (owns_atE4 o9 hjY 0 (by decide)).1; have y1 := (owns_atE4 o9 hjY 1 (by decide)).1; have y2 := (owns_atE4 o9 hjY 2 (by decide)).1; have y3 := (owns_atE4 o9 hjY 3 (by decide)).1
                        have fx0 := (owns_atE4 o9 hjX 0 (by decide)).2; have fx1 := (owns_atE4 o9 hjX 1 (by decide)).2; have fx2 := (owns_atE4 o9 hjX 2 (by decide)).2; have fx3 := (owns_atE4 o9 hjX 3 (by decide)).2
                        have x0 := (owns_atE4 o9 hjX 0 (by decide)).1; have x1 := (owns_atE4 o9 hjX 1 (by decide)).1; have x2 := (owns_atE4 o9 hjX 2 (by decide)).1; have x3 := (owns_atE4 o9 hjX 3 (by decide)).1
                        simp only [Ent.cells, List.getElem?_toArray, List.getElem?_cons_zero, List.getElem?_cons_succ, Nat.add_zero] at x0 x1 x2 x3 y0 y1 y2 y3 fx0
                        have hGb : wp.heap.size ≤ G := hGw
                        have hGB : B ≠ G := by omega
                        have o10 := owns_putE4 o9 J (by rw [putAt_length]; omega) Y (.string Y.key) (.int .i64 Y.v.kind) (.int .i64 Y.v.num) (.string Y.v.text) rfl
                        have L10 := putE4_loc (k := J) (v0 := .string Y.key) (v1 := .int .i64 Y.v.kind) (v2 := .int .i64 Y.v.num) (v3 := .string Y.v.text) L9 hGB
                        have b10 := putE4_below (k := J) (v0 := .string Y.key) (v1 := .int .i64 Y.v.kind) (v2 := .int .i64 Y.v.num) (v3 := .string Y.v.text) b9 hGw
                        go_upto_region 35 with (fail)
                        unfold putE4 at o10 L10 b10
                        generalize ((((w5.setCell ⟨G, J * 4, none⟩ (.string Y.key)).setCell ⟨G, J * 4 + 1, none⟩ (.int .i64 Y.v.kind)).setCell ⟨G, J * 4 + 2, none⟩ (.int .i64 Y.v.num)).setCell ⟨G, J * 4 + 3, none⟩ (.string Y.v.text)) = w6 at o10 L10 b10 ⊢
                        clear x0 x1 x2 x3 y0 y1 y2 y3 fx0 fx1 fx2 fx3 o9 L9 b9
                        have hjj : j < ((putAt la J X).set J Y).length := by rw [List.length_set, putAt_length]; omega
                        have q0 := L10.cell 0; have q1 := L10.cell 1; have q2 := L10.cell 2; have q3 := L10.cell 3
                        have fy := fun r hr => (owns_atE4 o10 (List.getElem?_eq_getElem hjj) r hr).2
                        have fy0 := fy 0 (by decide); have fy1 := fy 1 (by decide); have fy2 := fy 2 (by decide); have fy3 := fy 3 (by decide)
                        have hsY : ((putAt la J X).set J Y)[j]? = some Y := by rw [List.getElem?_set_ne (by omega)]; exact hjY
                        have y0 := (owns_atE4 o10 hsY 0 (by decide)).1; have y1 := (owns_atE4 o10 hsY 1 (by decide)).1; have y2 := (owns_atE4 o10 hsY 2 (by decide)).1; have y3 := (owns_atE4 o10 hsY 3 (by decide)).1
                        simp only [Ent.cells, List.getElem?_toArray, List.getElem?_cons_zero, List.getElem?_cons_succ, Nat.add_zero] at q0 q1 q2 q3 fy0 y0 y1 y2 y3
                        have o11 := owns_putE4 o10 j hjj X (.string X.key) (.int .i64 X.v.kind) (.int .i64 X.v.num) (.string X.v.text) rfl
                        have b11 := putE4_below (k := j) (v0 := .string X.key) (v1 := .int .i64 X.v.kind) (v2 := .int .i64 X.v.num) (v3 := .string X.v.text) b10 hGw
                        rw [hsw] at o11
                        unfold putE4 at o11 b11
                        clear fy
                        go_wp2
                        go_roundw
                        case rel => exact ⟨j, by omega, by go_num, o11, Lib.hid (fun y hy => by
                          rw [hdr] at hy
                          rcases List.mem_cons.1 hy with h | h
                          · rw [h]; exact hlt
                          · exact HB.out y h), b11⟩
                        case measure => simp [intOf]; omega
                · have t4 : (dc == 0) = false := by simpa using hd0
                  go_wp2_with (first | (go_at_call 28; refine (risKey_is X.key true HKEY.out _).mono ?_; rintro e w9 ⟨rfl, rfl⟩) | (go_at_call 29; refine (HDC.out _).mono ?_; rintro e w9 ⟨rfl, hb9⟩))
                  go_roundw
                  case rel => exact ⟨k + 1, la, A, m, c, HN2.out, by omega, by omega, by omega, by go_num, rfl, owns_mono' own2 hb9, HS, below_then b2 hb9 b2.size⟩
                  case measure => simp [intOf]; omega
        · have tend : Hid (¬ (k < M ∧ k < 400)) := Lib.hid hend
          have hfin : SrtPost w (.returned (.tuple #[.slice PA pn pc, .slice A n c])) wi := by
            refine ⟨pa, la, PA, A, pc, c, ?_, HPS.out, by rw [← HPN.out]; omega, HS.out, by omega, ?_, ?_, below_then bwp bw bwp.size⟩
            · rw [hn, HPN.out]
            · rw [← HPN.out]; exact owns_mono' ownp bw
            · rw [← hn]; exact owns_mono own bwp.size
          have HFIN := Lib.hid hfin
          clear hfin hn own HS bw ownp bwp
          by_cases hk1 : k < M
          · have t1 : (k : Int) < (M : Int) := by omega
            have t2 : ¬ (k : Int) < 400 := by omega
            go_wp2
            go_ret2
            exact HFIN.out
          · have t1 : ¬ (k : Int) < (M : Int) := by omega
            go_wp2
            go_ret2
            exact HFIN.out
end Go.Proofs.Ytnieminnnkbneaa
