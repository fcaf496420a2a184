/- Walk of ProcEdges. -/
import Derived.Test.YtkggjjipgjijbaaChk
import Derived.Deep.CutBlock
import Derived.Deep.DeepCutAuto
namespace Go.Proofs.Ytkggjjipgjijbaa
open Go.RowKit

def stopI : Ins := ⟨16, 0, 0, 0, 0, .zero⟩
def tellI : Ins := ⟨15, 15, 0, 0, 0, .zero⟩
def oneP (args : Int) (y : Ins) (b : Nat) : Prc := ⟨⟨#[112]⟩, args, y :: List.replicate b stopI⟩
def twoP (args : Int) (y : Ins) (b : Nat) : Prc := ⟨⟨#[113, 46, 45, 95, 57]⟩, args, tellI :: y :: List.replicate b stopI⟩
theorem stop_ok (args len place : Int) : insCheck args len place stopI = 0 := by
  simp [insCheck, stopI, fieldsOf, insRest, clearF, hasVal, Ins.isZero, Val.zero, emptyB]
  rfl
theorem tell_ok (args len place : Int) : insCheck args len place tellI = 0 := by
  simp [insCheck, tellI, fieldsOf, insRest, clearF, hasVal, Ins.isZero, Val.zero, emptyB, Fld.may, Fld.get, Fld.put]
  rfl
theorem stops_ok (args len : Int) : ∀ (b i : Nat), codeCheck args len i (List.replicate b stopI) = (0, 0)
  | 0, _ => rfl
  | b + 1, i => by rw [List.replicate_succ, codeCheck, stop_ok]; simp [stops_ok args len b (i + 1)]
theorem may_shift (f : Fld) (args len place v : Int) : f.may args (len + 1) (place + 1) v = f.may args len place v := by
  cases f <;> simp [Fld.may]
  congr 1
  rw [decide_eq_decide]
  omega
theorem ins_shift (args len place : Int) (x : Ins) : insCheck args (len + 1) (place + 1) x = insCheck args len place x := by
  unfold insCheck
  simp only [may_shift]
theorem ins_or {args len place : Int} {x : Ins} (h : x.v = .zero) : insCheck args len place x = 0 ∨ insCheck args len place x = 16 := by
  unfold insCheck
  rw [h]
  have e : datumCheck .zero = 0 := by kernel_rfl
  rw [e]
  split
  · exact .inr rfl
  · split
    · exact .inr rfl
    · split
      · exact .inr rfl
      · split <;> exact .inl rfl
theorem one_check {args : Int} {y : Ins} {b : Nat} (h0 : 0 ≤ args) (h1 : args ≤ 16) (hb : b ≤ 60) : procCheck (oneP args y b) = (0, insCheck args ((b : Int) + 1) 0 y) := by
  have hn : isName ⟨#[112]⟩ = true := by kernel_rfl
  unfold procCheck oneP
  simp only [hn]
  rw [if_neg (by simp), if_neg (by omega), if_neg (by simp; omega)]
  simp only [List.length_cons, List.length_replicate, codeCheck]
  by_cases h : insCheck args ((b : Int) + 1) 0 y = 0
  · have h' : insCheck args ((b + 1 : Nat) : Int) ((0 : Nat) : Int) y = 0 := by simpa using h
    rw [if_neg (by rw [h']; simp), stops_ok, h]
  · have h' : insCheck args ((b + 1 : Nat) : Int) ((0 : Nat) : Int) y = insCheck args ((b : Int) + 1) 0 y := by simp
    rw [h', if_pos h]
    rfl
theorem two_check {args : Int} {y : Ins} {b : Nat} (h0 : 0 ≤ args) (h1 : args ≤ 16) (hb : b ≤ 60) :
    procCheck (twoP args y b) = (if insCheck args ((b : Int) + 1) 0 y = 0 then 0 else 1, insCheck args ((b : Int) + 1) 0 y) := by
  have hn : isName ⟨#[113, 46, 45, 95, 57]⟩ = true := by kernel_rfl
  unfold procCheck twoP
  simp only [hn]
  rw [if_neg (by simp), if_neg (by omega), if_neg (by simp; omega)]
  simp only [List.length_cons, List.length_replicate, codeCheck, tell_ok]
  have e : insCheck args ((b + 1 + 1 : Nat) : Int) ((0 + 1 : Nat) : Int) y = insCheck args ((b : Int) + 1) 0 y := by
    have := ins_shift args ((b : Int) + 1) 0 y
    simpa using this
  rw [if_neg (by simp), e]
  by_cases h : insCheck args ((b : Int) + 1) 0 y = 0
  · rw [if_neg (by rw [h]; simp), stops_ok, if_pos h, h]
  · rw [if_pos h, if_neg h]
    rfl

set_option maxRecDepth 100000 in
set_option maxHeartbeats 8000000 in
theorem edges_any (op which v args behind : Int) (w : World) (ho : i64R op) (hv : i64R v) :
    Calls Try.prog 8 #[.int .i64 op, .int .i64 which, .int .i64 v, .int .i64 args, .int .i64 behind] w fun e w' => e = .returned (.bool true) ∧ Below w.heap.size w w' := by
  by_cases g1 : args < 0
  · clear ho hv
    go_enter Try.func8, Try.ntmps8
    go_wp2
    go_ret
    exact ⟨rfl, Below.refl _ _⟩
  by_cases g2 : 16 < args
  · clear ho hv
    go_enter Try.func8, Try.ntmps8
    go_wp2
    go_ret
    exact ⟨rfl, Below.refl _ _⟩
  by_cases g3 : behind < 0
  · clear ho hv
    go_enter Try.func8, Try.ntmps8
    go_wp2
    go_ret
    exact ⟨rfl, Below.refl _ _⟩
  by_cases g4 : 60 < behind
  · clear ho hv
    go_enter Try.func8, Try.ntmps8
    go_wp2
    go_ret
    exact ⟨rfl, Below.refl _ _⟩
  obtain ⟨b, rfl⟩ : ∃ b : Nat, behind = b := ⟨behind.toNat, by omega⟩
  have hb60 : b ≤ 60 := by omega
  have HO := Lib.hid ho
  have HV := Lib.hid hv
  clear ho hv
  go_enter Try.func8, Try.ntmps8
  go_upto_block 0 with fail
  go_cut [] (fun wx => ∃ n, i64R n ∧ Loc wx w.heap.size #[.int .i64 op, .int .i64 0, .int .i64 0, .int .i64 0, .int .i64 n, .int .i64 0, .int .i64 0, .string ⟨#[]⟩] 28 ∧ Below w.heap.size w wx)
  case first =>
    have hb := fun n => (Below.refl w.heap.size w).alloc (Nat.le_refl _) (.cells #[.int .i64 op, .int .i64 0, .int .i64 0, .int .i64 0, .int .i64 n, .int .i64 0, .int .i64 0, .string ⟨#[]⟩] 28)
    have HB := Lib.hid hb
    clear hb
    rcases Bool.eq_false_or_eq_true (op == 10) with h10 | h10
    · go_wp2
      go_meet
      case rel => exact ⟨3, by unfold i64R; omega, Loc.new _ _ _, HB.out 3⟩
    rcases Bool.eq_false_or_eq_true (op == 11) with h11 | h11
    · go_wp2
      go_meet
      case rel => exact ⟨3, by unfold i64R; omega, Loc.new _ _ _, HB.out 3⟩
    rcases Bool.eq_false_or_eq_true (op == 12) with h12 | h12
    · go_wp2
      go_meet
      case rel => exact ⟨64, by unfold i64R; omega, Loc.new _ _ _, HB.out 64⟩
    rcases Bool.eq_false_or_eq_true (op == 13) with h13 | h13
    · go_wp2
      go_meet
      case rel => exact ⟨64, by unfold i64R; omega, Loc.new _ _ _, HB.out 64⟩
    go_wp2
    go_meet
    case rel => exact ⟨0, by unfold i64R; omega, Loc.new _ _ _, HB.out 0⟩
  case rest =>
    obtain ⟨n, hn, LX, b1⟩ := hcut
    have x4 := LX.cell 4; have x1 := LX.cell 1; have y1 := LX.free 1
    simp at x4 x1
    have HN := Lib.hid hn
    clear hn
    go_upto_if 48 with fail
    go_cut [] (fun wx => ∃ a, i64R a ∧ Loc wx w.heap.size #[.int .i64 op, .int .i64 a, .int .i64 0, .int .i64 0, .int .i64 n, .int .i64 0, .int .i64 0, .string ⟨#[]⟩] 28 ∧ Below w.heap.size w wx)
    case first =>
      rcases Bool.eq_false_or_eq_true (op == 11) with h11 | h11
      · go_wp2
        go_meet
        case rel => exact ⟨1, by unfold i64R; omega, by simpa using LX.set 1 (.int .i64 1), b1.setCell (Nat.le_refl _) _⟩
      · go_wp2
        go_meet
        case rel => exact ⟨0, by unfold i64R; omega, LX, b1⟩
    case rest =>
      obtain ⟨a, ha, LX2, b2⟩ := hcut
      have HA := Lib.hid ha
      clear ha LX b1 x4 x1 y1
      go_upto_block 1 with fail
      go_cut [] (fun wx => ∃ y : Ins, y.inR ∧ y.v = .zero ∧ Loc wx w.heap.size (insCells y) 28 ∧ Below w.heap.size w wx)
      case first =>
        have x1 := LX2.cell 1; have x2 := LX2.cell 2; have x3 := LX2.cell 3; have x4 := LX2.cell 4
        have y1 := LX2.free 1; have y2 := LX2.free 2; have y3 := LX2.free 3; have y4 := LX2.free 4
        simp at x1 x2 x3 x4
        have hz : i64R 0 := by unfold i64R; omega
        have HZ := Lib.hid hz
        clear hz
        rcases Bool.eq_false_or_eq_true (which.tmod 4 == 0) with f0 | f0
        · go_wp2
          go_meet
          case rel => exact ⟨⟨op, v, 0, 0, n, .zero⟩, ⟨HO.out, HV.out, HZ.out, HZ.out, HN.out, HZ.out, HZ.out⟩, rfl, LX2.set 1 (.int .i64 v), b2.setCell (Nat.le_refl _) _⟩
        rcases Bool.eq_false_or_eq_true (which.tmod 4 == 1) with f1 | f1
        · go_wp2
          go_meet
          case rel => exact ⟨⟨op, a, v, 0, n, .zero⟩, ⟨HO.out, HA.out, HV.out, HZ.out, HN.out, HZ.out, HZ.out⟩, rfl, LX2.set 2 (.int .i64 v), b2.setCell (Nat.le_refl _) _⟩
        rcases Bool.eq_false_or_eq_true (which.tmod 4 == 2) with f2 | f2
        · go_wp2
          go_meet
          case rel => exact ⟨⟨op, a, 0, v, n, .zero⟩, ⟨HO.out, HA.out, HZ.out, HV.out, HN.out, HZ.out, HZ.out⟩, rfl, LX2.set 3 (.int .i64 v), b2.setCell (Nat.le_refl _) _⟩
        go_wp2
        go_meet
        case rel => exact ⟨⟨op, a, 0, 0, v, .zero⟩, ⟨HO.out, HA.out, HZ.out, HZ.out, HV.out, HZ.out, HZ.out⟩, rfl, LX2.set 4 (.int .i64 v), b2.setCell (Nat.le_refl _) _⟩
      case rest =>
        obtain ⟨y, hy, hyv, LX3, b3⟩ := hcut
        clear LX2 b2 HA HN HO HV
        obtain ⟨yo, ya, yb, yc, yn, yv⟩ := y
        simp only at hyv
        subst hyv
        have x0 := LX3.cell 0; have x1 := LX3.cell 1; have x2 := LX3.cell 2; have x3 := LX3.cell 3; have x4 := LX3.cell 4; have x5 := LX3.cell 5; have x6 := LX3.cell 6; have x7 := LX3.cell 7
        simp [insCells] at x0 x1 x2 x3 x4 x5 x6 x7
        obtain ⟨y, hyy⟩ : ∃ y : Ins, y = ⟨yo, ya, yb, yc, yn, .zero⟩ := ⟨_, rfl⟩
        have HY := Lib.hid hyy
        have HYR := Lib.hid hy
        clear hyy hy
        obtain ⟨r, q, hrq, hr, hq⟩ : ∃ r q : Int, ((r = 0 ∧ q = 0) ∨ (r = 16 ∧ q = 1)) ∧ insCheck args ((b : Int) + 1) 0 y = r ∧ (if insCheck args ((b : Int) + 1) 0 y = 0 then 0 else 1) = q := by
          rcases ins_or (args := args) (len := (b : Int) + 1) (place := 0) (x := y) (by rw [HY.out]) with h | h
          · exact ⟨0, 0, .inl ⟨rfl, rfl⟩, h, by rw [if_pos h]⟩
          · exact ⟨16, 1, .inr ⟨rfl, rfl⟩, h, by rw [if_neg (by rw [h]; decide)]⟩
        have hyR : y.inR := by rw [HY.out]; exact HYR.out
        have hsR : stopI.inR := by unfold Ins.inR i64R stopI Val.zero; decide
        have htR : tellI.inR := by unfold Ins.inR i64R tellI Val.zero; decide
        have hA64 : i64R args := by unfold i64R; omega
        have hin1 : (oneP args y b).inR := ⟨hA64, fun z hz => by
          rcases List.mem_cons.1 hz with h | h
          · rw [h]; exact hyR
          · rw [(List.mem_replicate.1 h).2]; exact hsR⟩
        have hin2 : (twoP args y b).inR := ⟨hA64, fun z hz => by
          rcases List.mem_cons.1 hz with h | h
          · rw [h]; exact htR
          · exact hin1.2 z h⟩
        have hl1 : (oneP args y b).code.length = 1 + b := by simp [oneP]; omega
        have hl2 : (twoP args y b).code.length = 1 + (1 + b) := by simp [twoP]; omega
        have hck1 := fun A c W (h : Row W A (codeCells (oneP args y b).code)) => pcheck_any (oneP args y b) A c W h (by rw [hl1]; omega) hin1
        have hck2 := fun A c W (h : Row W A (codeCells (twoP args y b).code)) => pcheck_any (twoP args y b) A c W h (by rw [hl2]; omega) hin2
        have hrk1 := fun A c W (h : Row W A (codeCells (oneP args y b).code)) => refCheck_any (oneP args y b) A c W h (by rw [hl1]; omega)
        rw [one_check (by omega) (by omega) hb60, hr, hl1] at hck1 hrk1
        rw [two_check (by omega) (by omega) hb60, hq, hr, hl2] at hck2
        simp only [procCells] at hck1 hck2 hrk1
        have e1 : ∀ k, codeCells (y :: List.replicate (k + 1) stopI) = codeCells (y :: List.replicate k stopI) ++ (#[.int .i64 16, .int .i64 0, .int .i64 0, .int .i64 0, .int .i64 0, .int .i64 0, .int .i64 0, .string ⟨#[]⟩] : Array Value).toList := fun k => by
          have : y :: List.replicate (k + 1) stopI = (y :: List.replicate k stopI) ++ [stopI] := by rw [List.replicate_succ', List.cons_append]
          rw [this, codeCells_append, codeCells_one]
          rfl
        have e2 : codeCells (twoP args y b).code = (#[.int .i64 15, .int .i64 15, .int .i64 0, .int .i64 0, .int .i64 0, .int .i64 0, .int .i64 0, .string ⟨#[]⟩] : Array Value).toList ++ codeCells (oneP args y b).code := by
          have : (twoP args y b).code = [tellI] ++ (oneP args y b).code := rfl
          rw [this, codeCells_append, codeCells_one]
          rfl
        have e0 : codeCells (y :: List.replicate 0 stopI) = (#[.int .i64 yo, .int .i64 ya, .int .i64 yb, .int .i64 yc, .int .i64 yn, .int .i64 Val.zero.kind, .int .i64 Val.zero.num, .string Val.zero.text] : Array Value).toList := by rw [HY.out]; rfl
        have HRQ := Lib.hid hrq
        have HCK1 := Lib.hid hck1
        have HCK2 := Lib.hid hck2
        have HRK1 := Lib.hid hrk1
        have E1 := Lib.hid e1
        have E2 := Lib.hid e2
        have LP0 := Loc.new (wc.alloc (.cells #[.int .i64 yo, .int .i64 ya, .int .i64 yb, .int .i64 yc, .int .i64 yn, .int .i64 Val.zero.kind, .int .i64 Val.zero.num, .string Val.zero.text] 28)) #[.string ⟨#[112]⟩, .int .i64 args, .slice (some ⟨wc.heap.size, 0, none⟩) 1 1] 24
        have bs := b3.size
        have b4 := (b3.alloc bs (.cells #[.int .i64 yo, .int .i64 ya, .int .i64 yb, .int .i64 yc, .int .i64 yn, .int .i64 Val.zero.kind, .int .i64 Val.zero.num, .string Val.zero.text] 28)).alloc (by simp only [World.size_alloc]; omega) (.cells #[.string ⟨#[112]⟩, .int .i64 args, .slice (some ⟨wc.heap.size, 0, none⟩) 1 1] 24)
        have o0 := owns_mono' (World.ownsRow_lit (base := w.heap.size) (e := 28) (size := 8) wc #[.int .i64 yo, .int .i64 ya, .int .i64 yb, .int .i64 yc, .int .i64 yn, .int .i64 Val.zero.kind, .int .i64 Val.zero.num, .string Val.zero.text] 1 bs (by decide) rfl) ((Below.refl (wc.alloc (.cells #[.int .i64 yo, .int .i64 ya, .int .i64 yb, .int .i64 yc, .int .i64 yn, .int .i64 Val.zero.kind, .int .i64 Val.zero.num, .string Val.zero.text] 28)).heap.size _).alloc (Nat.le_refl _) (.cells #[.string ⟨#[112]⟩, .int .i64 args, .slice (some ⟨wc.heap.size, 0, none⟩) 1 1] 24))
        rw [← e0] at o0
        simp only [World.size_alloc] at LP0
        obtain ⟨pb, hpb⟩ : ∃ pb, pb = wc.heap.size + 1 := ⟨_, rfl⟩
        have hpw : w.heap.size ≤ pb := by omega
        clear hrq hr hq hyR hsR htR hA64 hin1 hin2 hl1 hl2 hck1 hck2 hrk1 e1 e2 e0 HY HYR b3 LX3
        go_wp2_with fail
        rw [← hpb] at LP0 ⊢
        clear hpb x0 x1 x2 x3 x4 x5 x6 x7
        go_loopw [14] (fun i wr => ∃ (k : Nat) (A' : Option Addr) (c' : Nat), k ≤ b ∧ i = .int .i64 k ∧ Loc wr pb #[.string ⟨#[112]⟩, .int .i64 args, .slice A' (1 + k) c'] 24 ∧ wr.ownsRow w.heap.size 28 8 (.slice A' (1 + k) c') (1 + k) (codeCells (y :: List.replicate k stopI)) ∧ Below w.heap.size w wr) (fun i _ => b - (intOf i).toNat)
        case atStart => exact ⟨0, _, _, Nat.zero_le _, rfl, LP0, o0, b4⟩
        case round =>
          obtain ⟨wi, rfl⟩ : ∃ wi, wi = wr := ⟨_, rfl⟩
          obtain ⟨k, A', c', hk, rfl, LPi, hown, bi⟩ := hrel
          clear LP0 o0 b4 bs
          have c2 := LPi.cell 2
          simp at c2
          by_cases hkb : k < b
          · have hkb' : (k : Int) < (b : Int) := by omega
            have hown3 := owns_mono' hown ((Below.refl wi.heap.size wi).alloc (Nat.le_refl _) (.cells #[.int .i64 16, .int .i64 0, .int .i64 0, .int .i64 0, .int .i64 0, .int .i64 0, .int .i64 0, .string ⟨#[]⟩] 28))
            have LP3 := LPi.alloc (.cells #[.int .i64 16, .int .i64 0, .int .i64 0, .int .i64 0, .int .i64 0, .int .i64 0, .int .i64 0, .string ⟨#[]⟩] 28)
            have b4 := bi.alloc bi.size (.cells #[.int .i64 16, .int .i64 0, .int .i64 0, .int .i64 0, .int .i64 0, .int .i64 0, .int .i64 0, .string ⟨#[]⟩] 28)
            have hsrc := Row.src (P := Try.prog) (c := 1) (size := 8) (n := 1) (tx := 22) (Row.of_loc (Loc.new wi #[.int .i64 16, .int .i64 0, .int .i64 0, .int .i64 0, .int .i64 0, .int .i64 0, .int .i64 0, .string ⟨#[]⟩] 28)) Try.underlying22 rfl (by simp [Value.oneCell']) (fun h => by simp at h)
            have HSRC := Lib.hid hsrc
            clear hsrc
            go_wp2_with (at_builtin; refine wpList_append_mine _ rfl _ _ 22 22 rfl 28 (.agg #[.int .i64 0, .int .i64 0, .int .i64 0, .int .i64 0, .int .i64 0, .int .i64 0, .int .i64 0, .string ⟨#[]⟩]) 8 72 Try.underlying22 infoIns rfl (by decide) (.slice A' (1 + k) c') (1 + k) _ rfl (owns_base (base' := 0) hown3 (fun _ _ => Nat.zero_le _)) _ 1 _ rfl HSRC.out (by unfold maxLen; omega) (by omega) ?_; intro A2 c2' w3 hown4 hg4 hb4 hx4; have LP4 := LP3.grown hg4 (owns_ne hown3 LP3 (by decide)); obtain ⟨o4, b5⟩ := own_next0 hown3 hown4 hg4 hb4 b4.size b4; have q2 := LP4.cell 2; have f2 := LP4.free 2; simp at q2; clear hx4 hg4 hb4 hown4)
            go_roundw
            case rel =>
              refine ⟨k + 1, A2, c2', by omega, by go_num, ?_, ?_, b5.setCell (p := ⟨pb, 2, none⟩) hpw _⟩
              · rw [← Nat.add_assoc]
                exact LP4.set 2 _
              · rw [← Nat.add_assoc, E1.out]
                exact owns_setCell (a := ⟨pb, 2, none⟩) o4 (owns_ne o4 LP4 (by decide)) _
            case measure => simp [intOf]; omega
          · obtain rfl : k = b := by omega
            have hlt := LPi.lt
            have lit := World.ownsRow_lit (base := wi.heap.size) (e := 28) (size := 8) wi #[.int .i64 15, .int .i64 15, .int .i64 0, .int .i64 0, .int .i64 0, .int .i64 0, .int .i64 0, .string ⟨#[]⟩] 1 (Nat.le_refl _) (by decide) rfl
            have d1 := (Below.refl wi.heap.size wi).alloc (Nat.le_refl _) (.cells #[.int .i64 15, .int .i64 15, .int .i64 0, .int .i64 0, .int .i64 0, .int .i64 0, .int .i64 0, .string ⟨#[]⟩] 28)
            have hsrc := (Row.of_owns (owns_mono' hown d1)).src (P := Try.prog) (size := 8) (n := 1 + k) (c := c') (tx := 22) Try.underlying22 (by rw [codeCells_length, List.length_cons, List.length_replicate]; omega) (codeCells_cell _) (owns_none hown)
            have HSRC := Lib.hid hsrc
            clear hsrc
            go_wp2_with (at_builtin; refine wpList_append_mine _ rfl _ _ 22 22 rfl 28 (.agg #[.int .i64 0, .int .i64 0, .int .i64 0, .int .i64 0, .int .i64 0, .int .i64 0, .int .i64 0, .string ⟨#[]⟩]) 8 72 Try.underlying22 infoIns rfl (by decide) (.slice (some ⟨wi.heap.size, 0, none⟩) 1 1) 1 _ rfl (owns_base (base' := 0) lit (fun _ _ => Nat.zero_le _)) (.slice A' (1 + k) c') (1 + k) _ rfl HSRC.out (by unfold maxLen; omega) (by omega) ?_; intro A2 c2' w3 hown4 hg4 hb4 hx4; obtain ⟨o4, d2⟩ := own_next0 lit hown4 hg4 hb4 d1.size d1; have LP4 := LPi.below d2 LPi.lt; have q0 := LP4.cell 0; have q1 := LP4.cell 1; have q2 := LP4.cell 2; have hlt4 := LP4.lt; simp at q0 q1 q2; clear hx4 hg4 hb4 hown4)
            have d3 := d2.alloc d2.size (.cells #[.string ⟨#[113, 46, 45, 95, 57]⟩, .int .i64 args, .slice A2 (1 + (1 + k)) c2'] 24)
            have o5 := owns_mono' o4 ((Below.refl w3.heap.size w3).alloc (Nat.le_refl _) (.cells #[.string ⟨#[113, 46, 45, 95, 57]⟩, .int .i64 args, .slice A2 (1 + (1 + k)) c2'] 24))
            have LT5 := Loc.new w3 #[.string ⟨#[113, 46, 45, 95, 57]⟩, .int .i64 args, .slice A2 (1 + (1 + k)) c2'] 24
            refine (HCK1.out A' c' _ (Row.of_owns (owns_mono' hown d3))).mono ?_; rintro e w5 ⟨rfl, hb⟩
            have d5 := below_then d3 hb d3.size
            have LT6 := LT5.below hb LT5.lt
            have o6 := owns_mono' o5 hb
            have t0 := LT6.cell 0; have t1 := LT6.cell 1; have t2 := LT6.cell 2
            simp at t0 t1 t2
            clear d1 d2 d3 o4 o5 LT5 LP4 q0 q1 q2 hlt4 hb lit HSRC
            go_wp2_with fail
            refine (HCK2.out A2 c2' _ (by rw [E2.out]; exact Row.of_owns o6)).mono ?_; rintro e w6 ⟨rfl, hb⟩
            have d6 := below_then d5 hb d5.size
            have LP6 := LPi.below d6 LPi.lt
            have q0 := LP6.cell 0; have q1 := LP6.cell 1; have q2 := LP6.cell 2
            simp at q0 q1 q2
            clear hb d5 LT6 o6 t0 t1 t2 c2
            have hrk := HRK1.out A' c' w6 (Row.of_owns (owns_mono' hown d6))
            have HRK := Lib.hid hrk
            have b6 := below_then bi d6 bi.size
            clear hrk HRK1 HCK1 HCK2 E1 E2 bi d6 LPi LP6 hown
            rcases HRQ.out with ⟨rfl, rfl⟩ | ⟨rfl, rfl⟩
            all_goals
              go_wp2_with fail
              refine HRK.out.mono ?_; rintro e w7 ⟨rfl, hb⟩
              have b7 := below_then b6 hb b6.size
              clear hb b6 q0 q1 q2
              go_wp2_with fail
              refine (known_any _).mono ?_; rintro e w8 ⟨rfl, hb⟩
              go_wp2
              go_ret
              exact ⟨rfl, below_then b7 hb b7.size⟩
end Go.Proofs.Ytkggjjipgjijbaa
