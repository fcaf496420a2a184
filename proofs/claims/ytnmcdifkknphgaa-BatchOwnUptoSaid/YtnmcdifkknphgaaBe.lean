/- Walk of batch.Encode. -/
import Derived.Test.YtnmcdifkknphgaaBck
import Derived.Test.YtnmcdifkknphgaaProc4
namespace Go.Proofs.Ytnmcdifkknphgaa
open Go.RowKit

theorem procBytes_small {p : Prc} (h : (procCheck p).2 = 0) : (procBytes p).length ≤ 30000 := by
  obtain ⟨hn, ha, hl, hall⟩ := procCheck_zero h
  have h1 := encText_le p.name.data.toList
  have h2 := isName_le hn
  have h3 : p.name.data.toList.length = p.name.size := by simp
  have h4 := encNumber_le p.args
  have h5 := encNumber_le (p.code.length : Int)
  have h6 : (p.code.flatMap insBytes).length ≤ 400 * p.code.length := codeBytes_le (fun x hx => by
    obtain ⟨j, hj, rfl⟩ := List.getElem_of_mem hx
    exact (insCheck_zero (hall j hj)).2.2)
  unfold procBytes
  simp only [List.length_append]
  omega

theorem valBytes_le {v : Val} (h : datumCheck v = 0) : (valBytes v).length ≤ 310 := by
  have h1 := encText_le (datumBytes v)
  have h2 := datumBytes_le h
  unfold valBytes
  omega

theorem valsBytes_le {l : List Val} (h : ∀ v ∈ l, datumCheck v = 0) : (l.flatMap valBytes).length ≤ 310 * l.length := by
  induction l with
  | nil => simp
  | cons x l ih =>
    have h1 := valBytes_le (h x (by simp))
    have h2 := ih (fun v hv => h v (by simp [hv]))
    simp only [List.flatMap_cons, List.length_append, List.length_cons]
    omega

/-- What a transaction that may stand is. -/
theorem txnCheck_zero {t : Txn} (h : txnCheck t = 0) : (t.kind = 1 ∧ (procCheck t.proc).2 = 0) ∨ (t.kind = 2 ∧ isName t.name = true ∧ t.args.length ≤ 16 ∧ ∀ v ∈ t.args, datumCheck v = 0) ∨ (t.kind = 3 ∧ isName t.name = true) := by
  unfold txnCheck at h
  by_cases k1 : t.kind = 1
  · rw [if_pos k1] at h
    by_cases hx : t.name.size ≠ 0 ∨ 0 < t.args.length
    · rw [if_pos hx] at h; cases h
    · rw [if_neg hx] at h; exact .inl ⟨k1, h⟩
  rw [if_neg k1] at h
  by_cases k2 : t.kind = 2
  · rw [if_pos k2] at h
    split at h
    · cases h
    · cases hn : isName t.name with
      | false => rw [hn] at h; simp at h
      | true =>
        rw [hn, if_neg (by simp)] at h
        by_cases ha : 16 < t.args.length
        · rw [if_pos ha] at h; cases h
        · rw [if_neg ha] at h
          exact .inr (.inl ⟨k2, rfl, by omega, valsCheck_zero h⟩)
  rw [if_neg k2] at h
  by_cases k3 : t.kind = 3
  · rw [if_pos k3] at h
    split at h
    · cases h
    · cases hn : isName t.name with
      | false => rw [hn] at h; simp at h
      | true => exact .inr (.inr ⟨k3, rfl⟩)
  · rw [if_neg k3] at h; cases h

theorem txnBytes_le {t : Txn} (h : txnCheck t = 0) : (txnBytes t).length ≤ 31000 := by
  have h1 := encText_le t.name.data.toList
  have h3 : t.name.data.toList.length = t.name.size := by simp
  have h4 := encNumber_le (t.args.length : Int)
  have h5 := encText_le (procBytes t.proc)
  unfold txnBytes
  rcases txnCheck_zero h with ⟨k, hp⟩ | ⟨k, hn, ha, hv⟩ | ⟨k, hn⟩
  · have h2 := procBytes_small hp
    rw [if_pos k]
    simp only [List.length_cons]
    omega
  · have h2 := isName_le hn
    have h6 := valsBytes_le hv
    rw [if_neg (by omega), if_neg (by omega)]
    simp only [List.length_cons, List.length_append]
    omega
  · have h2 := isName_le hn
    rw [if_neg (by omega), if_pos k]
    simp only [List.length_cons]
    omega

theorem txnsBytes_le {l : List Txn} (h : ∀ t ∈ l, txnCheck t = 0) : (l.flatMap txnBytes).length ≤ 31000 * l.length := by
  induction l with
  | nil => simp
  | cons x l ih =>
    have h1 := txnBytes_le (h x (by simp))
    have h2 := ih (fun v hv => h v (by simp [hv]))
    simp only [List.flatMap_cons, List.length_append, List.length_cons]
    omega

theorem ta_definition_definition (c : Array Value) : ∀ W, (Instr.typeAssert (.iface 73 (.agg c)) 62 73 true).run Try.prog W = .ok (.tuple #[.agg c, .bool true]) W := fun W => by kernel_rfl
theorem ta_definition_drop (c : Array Value) : ∀ W, (Instr.typeAssert (.iface 73 (.agg c)) 62 76 true).run Try.prog W = .ok (.tuple #[.agg #[.int .i64 0, .string ⟨#[]⟩, .int .i64 0, .slice none 0 0, .string ⟨#[]⟩, .slice none 0 0], .bool false]) W := fun W => by kernel_rfl
theorem ta_definition_call (c : Array Value) : ∀ W, (Instr.typeAssert (.iface 73 (.agg c)) 62 77 true).run Try.prog W = .ok (.tuple #[.agg #[.int .i64 0, .string ⟨#[]⟩, .int .i64 0, .slice none 0 0, .string ⟨#[]⟩, .slice none 0 0], .bool false]) W := fun W => by kernel_rfl
theorem ta_call_definition (c : Array Value) : ∀ W, (Instr.typeAssert (.iface 77 (.agg c)) 62 73 true).run Try.prog W = .ok (.tuple #[.agg #[.int .i64 0, .string ⟨#[]⟩, .int .i64 0, .slice none 0 0, .string ⟨#[]⟩, .slice none 0 0], .bool false]) W := fun W => by kernel_rfl
theorem ta_call_drop (c : Array Value) : ∀ W, (Instr.typeAssert (.iface 77 (.agg c)) 62 76 true).run Try.prog W = .ok (.tuple #[.agg #[.int .i64 0, .string ⟨#[]⟩, .int .i64 0, .slice none 0 0, .string ⟨#[]⟩, .slice none 0 0], .bool false]) W := fun W => by kernel_rfl
theorem ta_call_call (c : Array Value) : ∀ W, (Instr.typeAssert (.iface 77 (.agg c)) 62 77 true).run Try.prog W = .ok (.tuple #[.agg c, .bool true]) W := fun W => by kernel_rfl
theorem ta_drop_definition (c : Array Value) : ∀ W, (Instr.typeAssert (.iface 76 (.agg c)) 62 73 true).run Try.prog W = .ok (.tuple #[.agg #[.int .i64 0, .string ⟨#[]⟩, .int .i64 0, .slice none 0 0, .string ⟨#[]⟩, .slice none 0 0], .bool false]) W := fun W => by kernel_rfl
theorem ta_drop_drop (c : Array Value) : ∀ W, (Instr.typeAssert (.iface 76 (.agg c)) 62 76 true).run Try.prog W = .ok (.tuple #[.agg c, .bool true]) W := fun W => by kernel_rfl
theorem ta_drop_call (c : Array Value) : ∀ W, (Instr.typeAssert (.iface 76 (.agg c)) 62 77 true).run Try.prog W = .ok (.tuple #[.agg #[.int .i64 0, .string ⟨#[]⟩, .int .i64 0, .slice none 0 0, .string ⟨#[]⟩, .slice none 0 0], .bool false]) W := fun W => by kernel_rfl

theorem Lay.bel' {q : Nat} {N : Nat → Prop} {w w0 W : World} {xs : Bs} (h : Lay q N w0 W xs) (hb : Below w.heap.size w w0) (hq : w.heap.size ≤ q) : Below w.heap.size w W := below_then hb h.bel hq

set_option maxRecDepth 100000 in
set_option maxHeartbeats 4000000 in
theorem bencode_any (first : Int) (l : List TxnC) (L : Option Addr) (cap : Nat) (w : World) (hr : Row w L (txnsCells l)) (hok : ∀ x ∈ l, x.ok w) (hfit : ∀ x ∈ l, x.fit) (hnum : ∀ x ∈ l, ∀ v ∈ x.t.args, i64v v) (hlen : l.length ≤ 140737488355328) (hf : i64R first) :
    Calls Try.prog 15 #[.agg #[.int .i64 first, .slice L l.length cap]] w fun e w' => ∃ A' c', e = .returned (.tuple #[.slice A' (batEncode ⟨first, l.map (·.t)⟩).1.length c', .int .i64 (batEncode ⟨first, l.map (·.t)⟩).2]) ∧
      w'.ownsRow w.heap.size 5 1 (.slice A' (batEncode ⟨first, l.map (·.t)⟩).1.length c') (batEncode ⟨first, l.map (·.t)⟩).1.length (cellsB (batEncode ⟨first, l.map (·.t)⟩).1) ∧ Below w.heap.size w w' := by
  have hck := fun W (hb : Below w.heap.size w W) => bcheck_any first l L cap W (hr.of_below hb (Nat.le_refl _)) (fun x hx => (hok x hx).below hb) hfit hlen hf
  have b0 := (Below.refl w.heap.size w).alloc (Nat.le_refl _) (.cells #[.int .i64 first, .slice L l.length cap] 24)
  have L0 := Loc.new w #[.int .i64 first, .slice L l.length cap] 24
  by_cases hz : batCheck ⟨first, l.map (·.t)⟩ = 0
  · rw [hz] at hck
    obtain ⟨⟨hf0, hf1⟩, ⟨hn1, hn2⟩, hall⟩ := batCheck_zero hz
    simp only [List.length_map] at hf0 hf1 hn1 hn2 hall
    have hall' : ∀ x ∈ l, txnCheck x.t = 0 := fun x hx => hall x.t (List.mem_map_of_mem hx)
    obtain ⟨q, hq⟩ : ∃ q, q = batEncode ⟨first, l.map (·.t)⟩ := ⟨_, rfl⟩
    rw [← hq]
    have hq1 : q = if 65536 < (batBytes ⟨first, l.map (·.t)⟩).length then ([], 4) else (batBytes ⟨first, l.map (·.t)⟩, 0) := by rw [hq]; unfold batEncode; rw [if_neg (by simpa using hz)]
    obtain ⟨h1, hh1⟩ : ∃ h1, h1 = [] ++ encNumber first := ⟨_, rfl⟩
    obtain ⟨hd, hhd⟩ : ∃ hd, hd = h1 ++ encNumber (l.length : Int) := ⟨_, rfl⟩
    have g1 := encNumber_le first
    have g2 := encNumber_le (l.length : Int)
    have hl1 : h1.length ≤ 10 := by rw [hh1]; simpa using g1
    have hl2 : hd.length ≤ 20 := by rw [hhd, List.length_append]; omega
    obtain ⟨zj, hzj⟩ : ∃ zj : Nat → Bs, zj = fun j => hd ++ (l.take j).flatMap (fun x => txnBytes x.t) := ⟨_, rfl⟩
    have z0 : zj 0 = hd := by rw [hzj]; simp
    have zl : zj l.length = batBytes ⟨first, l.map (·.t)⟩ := by rw [hzj, hhd, hh1]; simp [batBytes, List.flatMap_map]
    have zs : ∀ j (h : j < l.length), zj (j + 1) = zj j ++ txnBytes l[j].t := fun j h => by
      have htake : l.take (j + 1) = l.take j ++ [l[j]] := List.take_succ_eq_append_getElem h
      rw [hzj]
      simp only [htake, List.flatMap_append, List.flatMap_cons, List.flatMap_nil, List.append_nil, List.append_assoc]
    have zb : ∀ j, j ≤ l.length → (zj j).length ≤ 20 + 31000 * 64 := fun j hj => by
      have h2 := txnsBytes_le (l := (l.take j).map (·.t)) (fun t ht => by
        obtain ⟨x, hx, rfl⟩ := List.mem_map.1 ht
        exact hall' x (List.mem_of_mem_take hx))
      rw [List.flatMap_map] at h2
      rw [hzj]
      simp only [List.length_append, List.length_map, List.length_take] at *; omega
    have Z0 := Lib.hid z0
    have ZL := Lib.hid zl
    have ZS := Lib.hid zs
    have ZB := Lib.hid zb
    have HQ := Lib.hid hq1
    have HCK := Lib.hid hck
    have HROW := Lib.hid hr
    have HOK := Lib.hid hok
    have HFIT := Lib.hid hfit
    have HNUM := Lib.hid hnum
    have HALL := Lib.hid hall'
    have HH1 := Lib.hid hh1
    have HHD := Lib.hid hhd
    obtain ⟨n, hn⟩ : ∃ n, n = l.length := ⟨_, rfl⟩
    have HN := Lib.hid hn
    rw [← hn] at HCK L0 b0 hn1 hn2 ⊢
    obtain ⟨b, off, rfl, hbl, hc⟩ := hr.txns (by omega)
    have HC := Lib.hid hc
    clear hck hr hok hfit hnum hall hall' hq1 hq hz hzj z0 zl zs zb hh1 hhd hf g1 g2 hn hlen hc
    go_enter Try.func15, Try.ntmps15
    go_wp2_with fail
    refine (HCK.out _ b0).mono ?_; rintro e w2 ⟨rfl, hb⟩
    have L2 := L0.below hb L0.lt
    have bw := below_then b0 hb b0.size
    have hq0 := bw.size
    have p0 := L2.cell 0; have p1 := L2.cell 1
    simp at p0 p1
    have hpq := L2.lt
    have LB := L2.alloc (.cells #[.slice none 0 0, .int .i64 0] 69)
    have LY : Lay w2.heap.size (fun _ => False) w2 (w2.alloc (.cells #[.slice none 0 0, .int .i64 0] 69)) [] := ⟨_, Wr.fresh w2, fun k hk => ⟨by omega, fun f => f⟩, Below.alloc' (Nat.le_refl _) _ (Below.refl _ _)⟩
    clear L0 b0 hb L2
    go_wp2_with fail
    refine (LY.call (by simp) (fun _ f => f.elim) (fun F hW => wnumber_any _ F [] first _ hW (by omega) (by omega) (by simp))).mono ?_; rintro e w3 ⟨rfl, LY3, hk3, hs3⟩
    rw [← HH1.out] at LY3
    have LB3 := hk3 _ _ _ (.inl (by omega)) LB
    simp only [World.size_alloc] at hs3
    have q1 := LB3.cell 1
    simp at q1
    clear LY LB hk3 p0 p1
    go_wp2_with fail
    refine (LY3.call (by omega) (fun _ f => f.elim) (fun F hW => wnumber_any _ F h1 (n : Int) _ hW (by omega) (by omega) (by omega))).mono ?_; rintro e w4 ⟨rfl, LY4, hk4, hs4⟩
    have LB4 := hk4 _ _ _ (.inl (by omega)) LB3
    rw [HN.out, ← HHD.out] at LY4
    have q2 := LB4.cell 1
    simp at q2
    clear LY3 LB3 hk4 q1
    go_wp2
    go_loopw [37] (fun i wr => ∃ k : Nat, k ≤ n ∧ i = .int .i64 k ∧ Lay w2.heap.size (fun _ => False) w2 wr (zj k) ∧ w2.heap.size < wr.heap.size) (fun i _ => n - (intOf i).toNat)
    case atStart => exact ⟨0, Nat.zero_le _, rfl, by rw [Z0.out]; exact LY4, by omega⟩
    case round =>
      obtain ⟨wo, rfl⟩ : ∃ wo, wo = wr := ⟨_, rfl⟩
      obtain ⟨k, hk, rfl, LY, hqk⟩ := hrel
      clear LY4 LB4 q2
      by_cases hkn : k < n
      · have hkl : k < l.length := by rw [← HN.out]; exact hkn
        have hq : w2.heap.size ≤ wo.heap.size := by omega
        have hx := HC.out k hkl
        have hok := HOK.out l[k] (List.getElem_mem hkl)
        have hfit := HFIT.out l[k] (List.getElem_mem hkl)
        have hnum := HNUM.out l[k] (List.getElem_mem hkl)
        have htz := txnCheck_zero (HALL.out l[k] (List.getElem_mem hkl))
        have hzs := ZS.out k hkl
        have hzb := ZB.out k (by omega)
        have bwo := LY.bel' bw hq0
        generalize l[k] = x at *
        have hxi : ∀ i, i < 6 → wo.cell? ⟨b, off + k * 6 + i, none⟩ = x.cells[i]? := fun i hi => (bwo.cell (p := ⟨b, off + k * 6 + i, none⟩) hbl).trans (hx i hi)
        obtain ⟨⟨kk, p, nm, vs⟩, A, c, B, d⟩ := x
        have y0 := hxi 0 (by decide); have y1 := hxi 1 (by decide); have y2 := hxi 2 (by decide); have y3 := hxi 3 (by decide); have y4 := hxi 4 (by decide); have y5 := hxi 5 (by decide)
        simp only [TxnC.cells, List.getElem?_toArray, List.getElem?_cons_zero, List.getElem?_cons_succ, Nat.add_zero] at y0 y1 y2 y3 y4 y5
        simp only at htz hzs hnum
        have hkI : (k : Int) < (n : Int) := by omega
        obtain ⟨zk, hzk⟩ : ∃ zk, zk = zj k := ⟨_, rfl⟩
        rw [← hzk] at LY hzb hzs
        clear hx hxi bwo hzk
        rcases htz with ⟨hk, hp⟩ | ⟨hk, hp, hvl, hv⟩ | ⟨hk, hp⟩
        · subst hk
          have hkv : kindV ⟨⟨1, p, nm, vs⟩, A, c, B, d⟩ = .iface 73 (.agg #[.int .i64 1, .string p.name, .int .i64 p.args, .slice B p.code.length d, .string nm, .slice A vs.length c]) := rfl
          have hkin := fun W => kindOf_any ⟨⟨1, p, nm, vs⟩, A, c, B, d⟩ W
          rw [hkv] at hkin
          unfold TxnC.cells at hkin
          simp only at hkin
          have HKI := Lib.hid hkin
          have X1 := Loc.new wo #[.int .i64 1, .string p.name, .int .i64 p.args, .slice B p.code.length d, .string nm, .slice A vs.length c] 30
          have LY1 := (LY.also (N' := (· = wo.heap.size)) (fun k hk => .inr (by omega))).alloc hq (.cells #[.int .i64 1, .string p.name, .int .i64 p.args, .slice B p.code.length d, .string nm, .slice A vs.length c] 30)
          clear hkv hkin LY
          go_wp2_with fail
          refine (LY1.call (by simp; omega) (fun k hk => by simp; omega) (fun F hW => wbyte_num _ F zk 1 _ hW (by omega) (by omega) (by omega))).mono ?_; rintro e w5 ⟨rfl, LY2, hk5, hs5⟩
          have X2 := hk5 _ _ _ (.inr rfl) X1
          simp only [World.size_alloc] at hs5
          have x0 := X2.cell 0; have x1 := X2.cell 1; have x2 := X2.cell 2; have x3 := X2.cell 3; have x4 := X2.cell 4; have x5 := X2.cell 5
          simp at x0 x1 x2 x3 x4 x5
          clear hk5 X1 LY1 y0 y1 y2 y3 y4 y5
          go_wp2_with fail
          refine (HKI.out _).mono ?_; rintro e w6 ⟨rfl, hb⟩
          have LY3 := (LY2.also (N' := fun _ => False) (fun _ f => f.elim)).below (by omega) hb
          have hs6 := hb.size
          clear hb HKI LY2 X2 x0 x1 x2 x3 x4 x5
          have ta0 := ta_definition_definition #[.int .i64 1, .string p.name, .int .i64 p.args, .slice B p.code.length d, .string nm, .slice A vs.length c]
          have hpe : procEncode p = (procBytes p, 0) := by unfold procEncode; rw [if_pos hp]
          have hpn := fun W (h : Below w.heap.size w W) => pencode_any p B d W (hok.b.of_below h (Nat.le_refl _)) hfit.c hfit.r
          rw [hpe] at hpn
          simp only [procCells] at hpn
          have hpl := procBytes_small hp
          obtain ⟨pb, hpb⟩ : ∃ pb, pb = procBytes p := ⟨_, rfl⟩
          rw [← hpb] at hpn hpl
          have hzz : zj (k + 1) = zk ++ [UInt8.ofNat (1 : Int).toNat] ++ encText pb := by rw [hzs, hpb]; unfold txnBytes; simp
          have HZZ := Lib.hid hzz
          have HPN := Lib.hid hpn
          have LY4 := LY3.alloc (by omega) (.cells #[.int .i64 1, .string p.name, .int .i64 p.args, .slice B p.code.length d, .string nm, .slice A vs.length c] 73)
          clear hpe hpn hpb hzz hzs LY3
          go_wp2_with fail
          refine (HPN.out _ (LY4.bel' bw hq0)).mono ?_; rintro e w7 ⟨A', c', rfl, own, hb⟩
          have LY5 := LY4.below (by simp; omega) hb
          have hs7 := hb.size
          simp only [World.size_alloc] at hs7
          have hcv := run_ofBytes (P := Try.prog) 39 9 5 Try.underlying39 Try.underlying5 Try.underlying9 (W := w7) (A := A') (xs := pb) pb.length c' rfl (Row.of_owns own) (owns_none own)
          clear hb LY4 own
          go_wp2_with fail
          refine (LY5.call (by omega) (fun _ f => f.elim) (fun F hW => wtext_any _ F (zk ++ [UInt8.ofNat (1 : Int).toNat]) ⟨pb.toArray⟩ _ hW (by rw [← bsize]; show (zk ++ [UInt8.ofNat (1 : Int).toNat]).length + pb.length + 10 ≤ _; simp only [List.length_append, List.length_singleton]; omega))).mono ?_; rintro e w8 ⟨rfl, LY6, hk8, hs8⟩
          clear hcv LY5
          go_wp2
          go_roundw
          case rel => exact ⟨k + 1, by omega, by go_num, by rw [HZZ.out]; exact LY6, by omega⟩
          case measure => simp [intOf]; omega
        · subst hk
          have hkv : kindV ⟨⟨2, p, nm, vs⟩, A, c, B, d⟩ = .iface 77 (.agg #[.int .i64 2, .string p.name, .int .i64 p.args, .slice B p.code.length d, .string nm, .slice A vs.length c]) := rfl
          have hkin := fun W => kindOf_any ⟨⟨2, p, nm, vs⟩, A, c, B, d⟩ W
          rw [hkv] at hkin
          unfold TxnC.cells at hkin
          simp only at hkin
          have HKI := Lib.hid hkin
          have X1 := Loc.new wo #[.int .i64 2, .string p.name, .int .i64 p.args, .slice B p.code.length d, .string nm, .slice A vs.length c] 30
          have LY1 := (LY.also (N' := (· = wo.heap.size)) (fun k hk => .inr (by omega))).alloc hq (.cells #[.int .i64 2, .string p.name, .int .i64 p.args, .slice B p.code.length d, .string nm, .slice A vs.length c] 30)
          clear hkv hkin LY
          go_wp2_with fail
          refine (LY1.call (by simp; omega) (fun k hk => by simp; omega) (fun F hW => wbyte_num _ F zk 2 _ hW (by omega) (by omega) (by omega))).mono ?_; rintro e w5 ⟨rfl, LY2, hk5, hs5⟩
          have X2 := hk5 _ _ _ (.inr rfl) X1
          simp only [World.size_alloc] at hs5
          have x0 := X2.cell 0; have x1 := X2.cell 1; have x2 := X2.cell 2; have x3 := X2.cell 3; have x4 := X2.cell 4; have x5 := X2.cell 5
          simp at x0 x1 x2 x3 x4 x5
          clear hk5 X1 LY1 y0 y1 y2 y3 y4 y5
          go_wp2_with fail
          refine (HKI.out _).mono ?_; rintro e w6 ⟨rfl, hb⟩
          have LY3 := (LY2.also (N' := fun _ => False) (fun _ f => f.elim)).below (by omega) hb
          have hs6 := hb.size
          clear hb HKI LY2 X2 x0 x1 x2 x3 x4 x5
          have ta0 := ta_call_definition #[.int .i64 2, .string p.name, .int .i64 p.args, .slice B p.code.length d, .string nm, .slice A vs.length c]
          have ta1 := ta_call_drop #[.int .i64 2, .string p.name, .int .i64 p.args, .slice B p.code.length d, .string nm, .slice A vs.length c]
          have ta2 := ta_call_call #[.int .i64 2, .string p.name, .int .i64 p.args, .slice B p.code.length d, .string nm, .slice A vs.length c]
          have hnl := isName_le hp
          obtain ⟨pre, hpre⟩ : ∃ pre, pre = zk ++ [UInt8.ofNat (2 : Int).toNat] ++ encText nm.data.toList ++ encNumber (vs.length : Int) := ⟨_, rfl⟩
          have hprl : pre.length ≤ zk.length + 60 := by
            have g1 := encText_le nm.data.toList
            have g2 := encNumber_le (vs.length : Int)
            have g3 : nm.data.toList.length = nm.size := by simp
            rw [hpre]; simp only [List.length_append, List.length_singleton]; omega
          have hzz : zj (k + 1) = pre ++ vs.flatMap valBytes := by rw [hzs, hpre]; unfold txnBytes; simp
          have HZZ := Lib.hid hzz
          have HPRE := Lib.hid hpre
          have HV := Lib.hid hv
          have HNM := Lib.hid hnum
          have K1 := Loc.new w6 #[.int .i64 2, .string p.name, .int .i64 p.args, .slice B p.code.length d, .string nm, .slice A vs.length c] 77
          have LY4 := (LY3.also (N' := (· = w6.heap.size)) (fun k hk => .inr (by omega))).alloc (by omega) (.cells #[.int .i64 2, .string p.name, .int .i64 p.args, .slice B p.code.length d, .string nm, .slice A vs.length c] 77)
          clear hzz hzs hpre LY3 hv hnum
          go_wp2_with fail
          refine (LY4.call (by simp; omega) (fun k hk => by simp; omega) (fun F hW => wtext_any _ F (zk ++ [UInt8.ofNat (2 : Int).toNat]) nm _ hW (by simp only [List.length_append, List.length_singleton]; omega))).mono ?_; rintro e w8 ⟨rfl, LY5, hk8, hs8⟩
          have K2 := hk8 _ _ _ (.inr rfl) K1
          simp only [World.size_alloc] at hs8
          have c5 := K2.cell 5
          simp at c5
          clear LY4 K1 hk8
          have hbd : (zk ++ [UInt8.ofNat (2 : Int).toNat] ++ encText nm.data.toList).length ≤ zk.length + 50 := by
            have g1 := encText_le nm.data.toList
            have g3 : nm.data.toList.length = nm.size := by simp
            simp only [List.length_append, List.length_singleton]; omega
          go_wp2_with fail
          refine (LY5.call (by omega) (fun k hk => by omega) (fun F hW => wnumber_any _ F _ (vs.length : Int) _ hW (by omega) (by omega) (by omega))).mono ?_; rintro e w9 ⟨rfl, LY6, hk9, hs9⟩
          have K3 := hk9 _ _ _ (.inr rfl) K2
          rw [← HPRE.out] at LY6
          have LY7 := LY6.also (N' := fun _ => False) (fun _ f => f.elim)
          have d5 := K3.cell 5
          simp at d5
          clear LY5 LY6 K2 hk9 c5
          go_wp2
          go_loopw [88] (fun i wy => ∃ j : Nat, j ≤ vs.length ∧ i = .int .i64 j ∧ Lay w2.heap.size (fun _ => False) w2 wy (pre ++ (vs.take j).flatMap valBytes) ∧ w2.heap.size < wy.heap.size) (fun i _ => vs.length - (intOf i).toNat)
          case atStart => exact ⟨0, Nat.zero_le _, rfl, by simpa using LY7, by omega⟩
          case round =>
            obtain ⟨wj, rfl⟩ : ∃ wj, wj = wr := ⟨_, rfl⟩
            obtain ⟨j, hj, rfl, LZ, hqj⟩ := hrel
            clear LY7 K3 d5
            by_cases hjl : j < vs.length
            · obtain ⟨b2, off2, rfl, hb2l, hvc⟩ := hok.a.vals (show 0 < vs.length by omega)
              have hvc := hvc j hjl
              have bwj := LZ.bel' bw hq0
              simp only at hvc
              have hvi : ∀ i, i < 3 → wj.cell? ⟨b2, off2 + j * 3 + i, none⟩ = (valCells vs[j])[i]? := fun i hi => (bwj.cell (p := ⟨b2, off2 + j * 3 + i, none⟩) hb2l).trans (hvc i hi)
              have hd0 := HV.out vs[j] (List.getElem_mem hjl)
              have hnu := HNM.out vs[j] (List.getElem_mem hjl)
              have hde := fun W => dencode_ok vs[j] hd0 hnu.1 hnu.2 W
              have hdl := datumBytes_le hd0
              have htk : (vs.take (j + 1)).flatMap valBytes = (vs.take j).flatMap valBytes ++ valBytes vs[j] := by
                rw [List.take_succ_eq_append_getElem hjl, List.flatMap_append]
                simp only [List.flatMap_cons, List.flatMap_nil, List.append_nil]
              have hsl : ((vs.take j).flatMap valBytes).length ≤ 310 * 16 := by
                have := valsBytes_le (l := vs.take j) (fun v hv => HV.out v (List.mem_of_mem_take hv))
                have h2 : (vs.take j).length ≤ 16 := by rw [List.length_take]; omega
                omega
              obtain ⟨zz, hzz⟩ : ∃ zz, zz = pre ++ (vs.take j).flatMap valBytes := ⟨_, rfl⟩
              have hzzl : zz.length ≤ pre.length + 310 * 16 := by rw [hzz, List.length_append]; omega
              rw [← hzz] at LZ
              have v0 := hvi 0 (by decide); have v1 := hvi 1 (by decide); have v2 := hvi 2 (by decide)
              have HTK := Lib.hid htk
              have HZ2 := Lib.hid hzz
              clear htk hzz hsl hvc hvi hd0 hnu bwj
              generalize vs[j] = u at *
              obtain ⟨uk, un, ut⟩ := u
              obtain ⟨db, hdb⟩ : ∃ db, db = datumBytes ⟨uk, un, ut⟩ := ⟨_, rfl⟩
              rw [← hdb] at hde hdl
              have HDB := Lib.hid hdb
              simp only [valCells, List.getElem?_toArray, List.getElem?_cons_zero, List.getElem?_cons_succ, Nat.add_zero] at v0 v1 v2 hde
              have HDE := Lib.hid hde
              have hjI : (j : Int) < (vs.length : Int) := by omega
              have LZ1 := LZ.alloc (by omega) (.cells #[.int .i64 uk, .int .i64 un, .string ut] 57)
              clear hde hdb LZ
              go_wp2_with fail
              refine (HDE.out _).mono ?_; rintro e w10 ⟨A', c', rfl, own, hb⟩
              have LZ2 := LZ1.below (by simp; omega) hb
              have hs10 := hb.size
              simp only [World.size_alloc] at hs10
              have hcv := run_ofBytes (P := Try.prog) 39 9 5 Try.underlying39 Try.underlying5 Try.underlying9 (W := w10) (A := A') (xs := db) db.length c' rfl (Row.of_owns own) (owns_none own)
              clear hb LZ1 own v0 v1 v2
              go_wp2_with fail
              refine (LZ2.call (by omega) (fun _ f => f.elim) (fun F hW => wtext_any _ F zz ⟨db.toArray⟩ _ hW (by rw [← bsize]; show zz.length + db.length + 10 ≤ _; omega))).mono ?_; rintro e w11 ⟨rfl, LZ3, hk11, hs11⟩
              clear hcv LZ2
              go_wp2
              go_roundw
              case rel =>
                refine ⟨j + 1, by omega, by go_num, ?_, by omega⟩
                rw [HTK.out, ← List.append_assoc, ← HZ2.out, valBytes, ← HDB.out]
                exact LZ3
              case measure => simp [intOf]; omega
            · obtain rfl : j = vs.length := by omega
              rw [List.take_length] at LZ
              go_wp2
              go_roundw
              case rel => exact ⟨k + 1, by omega, by go_num, by rw [HZZ.out]; exact LZ, hqj⟩
              case measure => simp [intOf]; omega
        · subst hk
          have hkv : kindV ⟨⟨3, p, nm, vs⟩, A, c, B, d⟩ = .iface 76 (.agg #[.int .i64 3, .string p.name, .int .i64 p.args, .slice B p.code.length d, .string nm, .slice A vs.length c]) := rfl
          have hkin := fun W => kindOf_any ⟨⟨3, p, nm, vs⟩, A, c, B, d⟩ W
          rw [hkv] at hkin
          unfold TxnC.cells at hkin
          simp only at hkin
          have HKI := Lib.hid hkin
          have X1 := Loc.new wo #[.int .i64 3, .string p.name, .int .i64 p.args, .slice B p.code.length d, .string nm, .slice A vs.length c] 30
          have LY1 := (LY.also (N' := (· = wo.heap.size)) (fun k hk => .inr (by omega))).alloc hq (.cells #[.int .i64 3, .string p.name, .int .i64 p.args, .slice B p.code.length d, .string nm, .slice A vs.length c] 30)
          clear hkv hkin LY
          go_wp2_with fail
          refine (LY1.call (by simp; omega) (fun k hk => by simp; omega) (fun F hW => wbyte_num _ F zk 3 _ hW (by omega) (by omega) (by omega))).mono ?_; rintro e w5 ⟨rfl, LY2, hk5, hs5⟩
          have X2 := hk5 _ _ _ (.inr rfl) X1
          simp only [World.size_alloc] at hs5
          have x0 := X2.cell 0; have x1 := X2.cell 1; have x2 := X2.cell 2; have x3 := X2.cell 3; have x4 := X2.cell 4; have x5 := X2.cell 5
          simp at x0 x1 x2 x3 x4 x5
          clear hk5 X1 LY1 y0 y1 y2 y3 y4 y5
          go_wp2_with fail
          refine (HKI.out _).mono ?_; rintro e w6 ⟨rfl, hb⟩
          have LY3 := (LY2.also (N' := fun _ => False) (fun _ f => f.elim)).below (by omega) hb
          have hs6 := hb.size
          clear hb HKI LY2 X2 x0 x1 x2 x3 x4 x5
          have ta0 := ta_drop_definition #[.int .i64 3, .string p.name, .int .i64 p.args, .slice B p.code.length d, .string nm, .slice A vs.length c]
          have ta1 := ta_drop_drop #[.int .i64 3, .string p.name, .int .i64 p.args, .slice B p.code.length d, .string nm, .slice A vs.length c]
          have hnl := isName_le hp
          have hzz : zj (k + 1) = zk ++ [UInt8.ofNat (3 : Int).toNat] ++ encText nm.data.toList := by rw [hzs]; unfold txnBytes; simp
          have HZZ := Lib.hid hzz
          have LY4 := LY3.alloc (by omega) (.cells #[.int .i64 3, .string p.name, .int .i64 p.args, .slice B p.code.length d, .string nm, .slice A vs.length c] 76)
          clear hzz hzs LY3
          go_wp2_with fail
          refine (LY4.call (by simp; omega) (fun _ f => f.elim) (fun F hW => wtext_any _ F (zk ++ [UInt8.ofNat (3 : Int).toNat]) nm _ hW (by simp only [List.length_append, List.length_singleton]; omega))).mono ?_; rintro e w8 ⟨rfl, LY6, hk8, hs8⟩
          simp only [World.size_alloc] at hs8
          clear LY4
          go_wp2
          go_roundw
          case rel => exact ⟨k + 1, by omega, by go_num, by rw [HZZ.out]; exact LY6, by omega⟩
          case measure => simp [intOf]; omega
      · obtain rfl : k = n := by omega
        obtain ⟨F, hW, hF, hbF⟩ := LY
        have hzl : zj k = batBytes ⟨first, l.map (·.t)⟩ := by rw [HN.out, ZL.out]
        have hzb := ZB.out k (Nat.le_of_eq HN.out)
        obtain ⟨ys, hys⟩ : ∃ ys, ys = zj k := ⟨_, rfl⟩
        rw [← hys] at hW hzb
        have HYS : Hid (ys = batBytes ⟨first, l.map (·.t)⟩) := Lib.hid (by rw [hys, hzl])
        have bwo := below_then bw hbF hq0
        clear hys hzl
        go_wp2_with fail
        refine (wdata_any _ _ ys _ hW (by omega)).mono ?_; rintro e w6 ⟨A', c', rfl, hown, hb6⟩
        by_cases hbig : 65536 < ys.length
        · have hqq : q = ([], 4) := by rw [HQ.out, ← HYS.out, if_pos hbig]
          have HQQ := Lib.hid hqq
          have hbI : (65536 : Int) < (ys.length : Int) := by omega
          clear hqq
          go_wp2
          go_ret2
          rw [HQQ.out]
          exact ⟨none, 0, rfl, World.ownsRow_nil _ _ _ _, below_then bwo hb6 bwo.size⟩
        · have hqq : q = (ys, 0) := by rw [HQ.out, ← HYS.out, if_neg hbig]
          have HQQ := Lib.hid hqq
          have hbI : ¬ (65536 : Int) < (ys.length : Int) := by omega
          clear hqq
          go_wp2
          go_ret2
          rw [HQQ.out]
          exact ⟨A', c', rfl, owns_mono hown bwo.size, below_then bwo hb6 bwo.size⟩
  · have he : batEncode ⟨first, l.map (·.t)⟩ = ([], batCheck ⟨first, l.map (·.t)⟩) := by unfold batEncode; rw [if_pos hz]
    rw [he]
    obtain ⟨E, hE⟩ : ∃ E, E = batCheck ⟨first, l.map (·.t)⟩ := ⟨_, rfl⟩
    rw [← hE] at hck hz ⊢
    have HCK := Lib.hid hck
    have hE' : (E != 0) = true := by simpa using hz
    clear hck hE hz he hr hok hfit hnum
    go_enter Try.func15, Try.ntmps15
    go_wp2_with fail
    refine (HCK.out _ b0).mono ?_; rintro e w2 ⟨rfl, hb⟩
    go_wp2
    go_ret2
    exact ⟨none, 0, rfl, World.ownsRow_nil _ _ _ _, below_then b0 hb b0.size⟩
end Go.Proofs.Ytnmcdifkknphgaa
