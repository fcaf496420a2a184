/- Walks of package datum. -/
import Derived.Test.YtnieminnnkbneaaGreatOctT
namespace Go.Proofs.YtnieminnnkbneaaGreat
open Go.RowKit

theorem ret_int {k : IntKind} {a b : Int} (h : a = b) : Ending.returned (.int k a) = .returned (.int k b) := by rw [h]

def valCells (v : Val) : Array Value := #[.int .i64 v.kind, .int .i64 v.num, .string v.text]
theorem size_nil (s : ByteArray) : s.toList = [] ↔ s.size = 0 := by
  have h1 := ByteArray.toList_eq s
  have h2 : s.size = s.data.toList.length := by simp
  rw [h1, h2]
  exact List.length_eq_zero_iff.symm

set_option maxHeartbeats 1000000 in
theorem dcheck_any (v : Val) (w : World) :
    Calls Tryz.prog 77 #[.agg (valCells v)] w fun e w' => e = .returned (.int .i64 (datumCheck v)) ∧ Below w.heap.size w w' := by
  obtain ⟨k, n, s⟩ := v
  unfold valCells
  obtain ⟨r, hr⟩ : ∃ r, r = datumCheck ⟨k, n, s⟩ := ⟨_, rfl⟩
  rw [← hr]
  have HR := Lib.hid hr
  clear hr
  go_enter Tryz.func77, Tryz.ntmps77
  go_wp2
  all_goals
    go_ret
    refine ⟨ret_int ?_, ((Below.refl _ _).alloc (Nat.le_refl _) _).alloc (by simp) _⟩
    have hr := HR.out
    simp only [datumCheck] at hr
    have hsz := size_nil s
    first
      | (simp_all; done)
      | (simp_all; omega)
      | (rw [hr]; simp_all; omega)

/-- What a value is made of: the interface value that thingOf answers. -/
def thingV (v : Val) : Value :=
  if datumCheck v ≠ 0 then .nilIface else if v.kind = 1 then .iface 156 (.int .i64 v.num) else if v.kind = 2 then .iface 158 (.string v.text) else .nilIface

set_option maxHeartbeats 1000000 in
theorem thingOf_any (v : Val) (w : World) :
    Calls Tryz.prog 84 #[.agg (valCells v)] w fun e w' => e = .returned (thingV v) ∧ Below w.heap.size w w' := by
  have hc := fun W => dcheck_any v W
  obtain ⟨k, n, s⟩ := v
  obtain ⟨r, hr⟩ : ∃ r, r = datumCheck ⟨k, n, s⟩ := ⟨_, rfl⟩
  have HV : Hid (thingV ⟨k, n, s⟩ = if r ≠ 0 then .nilIface else if k = 1 then .iface 156 (.int .i64 n) else if k = 2 then .iface 158 (.string s) else .nilIface) := Lib.hid (by rw [hr]; rfl)
  unfold valCells at hc
  simp only at hc
  rw [← hr] at hc
  clear hr
  unfold valCells
  obtain ⟨tv, htv⟩ : ∃ tv, tv = thingV ⟨k, n, s⟩ := ⟨_, rfl⟩
  rw [← htv] at HV ⊢
  clear htv
  have HC := Lib.hid hc
  clear hc
  go_enter Tryz.func84, Tryz.ntmps84
  go_wp2_with (go_at_call 77; refine (HC.out _).mono ?_; rintro e w1 ⟨rfl, hb⟩; have hc0 := fun o => hb.cell (p := ⟨w.heap.size, o, none⟩) (by simp))
  all_goals
    go_ret
    refine ⟨?_, ((Below.refl _ _).alloc (Nat.le_refl _) _).trans (hb.mono (by simp))⟩
    rw [HV.out]
    simp_all

theorem Wr.fresh (w : World) : Wr (w.alloc (.cells #[.slice none 0 0, .int .i64 0] 146)) (· = w.heap.size) w.heap.size [] := by
  refine ⟨.slice none 0 0, heap_alloc_new w _, World.ownsRow_nil _ _ _ _, rfl, by simp [Value.ownBlock], by simp [Value.ownBlock], fun k hk => by simp; omega⟩

theorem wbyte_num (p : Nat) (F : Nat → Prop) (xs : Bs) (n : Int) (w : World) (h : Wr w F p xs) (h0 : 0 ≤ n) (h1 : n < 256) (hlen : xs.length + 1 ≤ 140737488355328) :
    Calls Tryz.prog 78 #[.pointer (some ⟨p, 0, none⟩), .int .u8 n] w fun e w' => e = .returned (.tuple #[]) ∧ WrStep w w' F p (xs ++ [UInt8.ofNat n.toNat]) := by
  have h2 := wbyte_any p F xs (UInt8.ofNat n.toNat) w h hlen
  have e : ((UInt8.ofNat n.toNat).toNat : Int) = n := by simp [UInt8.toNat_ofNat']; omega
  rw [e] at h2
  exact h2

/-- A step of a writer of one's own. -/
theorem below_wr {B : Nat} {a w w' : World} {F : Nat → Prop} {p : Nat} {ys : Bs} (h : Below B a w) (hS : WrStep w w' F p ys) (hB : B ≤ w.heap.size) (hF : ∀ k, F k → B ≤ k) : Below B a w' := below_keep h hS.2 hB hF

theorem Wr.below {w w' : World} {F : Nat → Prop} {p : Nat} {ys : Bs} (h : Wr w F p ys) (hb : Below w.heap.size w w') : Wr w' F p ys :=
  h.keep (Keep.of_below hb (fun _ => False)) (Nat.le_refl _) (fun _ _ f => f)

theorem datum_ok {v : Val} (h : datumCheck v = 0) : (v.kind = 0 ∧ thingV v = .nilIface) ∨ (v.kind = 1 ∧ thingV v = .iface 156 (.int .i64 v.num)) ∨ (v.kind = 2 ∧ v.text.size ≤ 256 ∧ thingV v = .iface 158 (.string v.text)) := by
  have ht : thingV v = if v.kind = 1 then .iface 156 (.int .i64 v.num) else if v.kind = 2 then .iface 158 (.string v.text) else .nilIface := by
    unfold thingV; rw [if_neg (by simp [h])]
  unfold datumCheck at h
  split at h
  · simp at h
  · split at h
    · simp at h
    · split at h
      · simp at h
      · rename_i h1 h2 h3
        rw [ht]
        have h1' : v.kind = 0 ∨ v.kind = 1 ∨ v.kind = 2 := Classical.not_not.1 h1
        rcases h1' with h4 | h4 | h4
        · exact .inl ⟨h4, by simp [h4]⟩
        · exact .inr (.inl ⟨h4, by simp [h4]⟩)
        · exact .inr (.inr ⟨h4, by omega, by simp [h4]⟩)

/- The type switch of thing, asked of each. -/
theorem ta_nil_num : ∀ W, (Instr.typeAssert .nilIface 154 156 true).run Tryz.prog W = .ok (.tuple #[.int .i64 0, .bool false]) W := fun W => by kernel_rfl
theorem ta_nil_wrd : ∀ W, (Instr.typeAssert .nilIface 154 158 true).run Tryz.prog W = .ok (.tuple #[.string ⟨#[]⟩, .bool false]) W := fun W => by kernel_rfl
theorem ta_num_num (n : Int) : ∀ W, (Instr.typeAssert (.iface 156 (.int .i64 n)) 154 156 true).run Tryz.prog W = .ok (.tuple #[.int .i64 n, .bool true]) W := fun W => by kernel_rfl
theorem ta_wrd_num (s : ByteArray) : ∀ W, (Instr.typeAssert (.iface 158 (.string s)) 154 156 true).run Tryz.prog W = .ok (.tuple #[.int .i64 0, .bool false]) W := fun W => by kernel_rfl
theorem ta_wrd_wrd (s : ByteArray) : ∀ W, (Instr.typeAssert (.iface 158 (.string s)) 154 158 true).run Tryz.prog W = .ok (.tuple #[.string s, .bool true]) W := fun W => by kernel_rfl

theorem encInt_le (v : Int) : (encInt v).length ≤ 10 := sevens_le _

set_option maxHeartbeats 2000000 in
theorem dencode_ok (v : Val) (hd : datumCheck v = 0) (h0 : -9223372036854775808 ≤ v.num) (h1 : v.num ≤ 9223372036854775807) (w : World) :
    Calls Tryz.prog 40 #[.agg (valCells v)] w fun e w' => ∃ A c, e = .returned (.tuple #[.slice A (datumBytes v).length c, .int .i64 0]) ∧
      w'.ownsRow w.heap.size 5 1 (.slice A (datumBytes v).length c) (datumBytes v).length (cellsB (datumBytes v)) ∧ Below w.heap.size w w' := by
  have hc := fun W => dcheck_any v W
  have ht := fun W => thingOf_any v W
  rw [hd] at hc
  obtain ⟨ys, hys⟩ : ∃ ys, ys = datumBytes v := ⟨_, rfl⟩
  rw [← hys]
  have hk := datum_ok hd
  obtain ⟨tv, htv⟩ : ∃ tv, tv = thingV v := ⟨_, rfl⟩
  rw [← htv] at ht hk
  clear htv hd
  obtain ⟨k, n, s⟩ := v
  unfold valCells at *
  simp only at *
  have HC := Lib.hid hc
  have HT := Lib.hid ht
  have HY := Lib.hid hys
  have hk01 : 0 ≤ k ∧ k ≤ 2 := by omega
  obtain ⟨hk0, hk2⟩ := hk01
  have HK := Lib.hid hk
  clear hc ht hys hk
  go_enter Tryz.func40, Tryz.ntmps40
  go_wp2_with fail
  refine (HC.out _).mono ?_; rintro e w1 ⟨rfl, hb⟩
  have L1 : Loc w1 w.heap.size _ _ := (Loc.new w _ _).below hb (by simp)
  have k0 := L1.cell 0; have k1 := L1.cell 1; have k2 := L1.cell 2
  have hlt1 := L1.lt
  simp at k0 k1 k2
  have b1 := below_then ((Below.refl w.heap.size w).alloc (Nat.le_refl _) _) hb (by simp)
  go_wp2_with fail
  refine (wbyte_num _ _ [] k _ (Wr.fresh w1) hk0 (by omega) (by simp)).mono ?_; rintro e w2 ⟨rfl, hS⟩
  simp only [List.nil_append] at hS
  have L2 : Loc w2 w.heap.size _ _ := (L1.alloc _).keep hS.2 (by simp; omega) (by omega)
  have j0 := L2.cell 0; have j1 := L2.cell 1; have j2 := L2.cell 2
  simp at j0 j1 j2
  clear k0 k1 k2
  have b2 := below_wr (b1.alloc b1.size _) hS (by simp; omega) (fun k hk => by omega)
  go_wp2_with fail
  refine (HT.out _).mono ?_; rintro e w3 ⟨rfl, hb3⟩
  have hW3 := hS.1.below hb3
  have b3 := below_then b2 hb3 b2.size
  have hF : ∀ k, Grow (· = w1.heap.size) (w1.alloc (.cells #[.slice none 0 0, .int .i64 0] 146)) w2 k → w.heap.size ≤ k := by
    intro k hk
    have := b1.size
    rcases hk with hk | hk
    · omega
    · have := hk.1; simp at this; omega
  clear j0 j1 j2
  rcases HK.out with ⟨rfl, rfl⟩ | ⟨rfl, rfl⟩ | ⟨rfl, hsz, rfl⟩
  · have ta1 := ta_nil_num
    have ta2 := ta_nil_wrd
    have hy : ys = [UInt8.ofNat (0 : Int).toNat] := by rw [HY.out]; rfl
    rw [← hy] at hS hW3
    have HYL : Hid (ys.length ≤ 11) := Lib.hid (by rw [hy]; simp)
    clear hy
    go_wp2_with fail
    refine (wdata_any _ _ ys _ hW3 (by have := HYL.out; omega)).mono ?_; rintro e w4 ⟨A, c, rfl, hown, hb4⟩
    go_wp2
    go_ret2
    exact ⟨A, c, rfl, owns_mono hown b3.size, below_then b3 hb4 b3.size⟩
  · have ta1 := ta_num_num n
    have hl := encInt_le n
    go_wp2_with fail
    refine (wint_any _ _ _ n _ hW3 h0 h1 (by simp)).mono ?_; rintro e w4 ⟨rfl, hS4⟩
    have hy : ys = [UInt8.ofNat (1 : Int).toNat] ++ encInt n := by rw [HY.out]; rfl
    rw [← hy] at hS4
    have HYL : Hid (ys.length ≤ 11) := Lib.hid (by rw [hy]; simp; omega)
    clear hy
    have b4 := below_wr b3 hS4 b3.size hF
    go_wp2_with fail
    refine (wdata_any _ _ ys _ hS4.1 (by have := HYL.out; omega)).mono ?_; rintro e w5 ⟨A, c, rfl, hown, hb5⟩
    go_wp2
    go_ret2
    exact ⟨A, c, rfl, owns_mono hown b4.size, below_then b4 hb5 b4.size⟩
  · have ta1 := ta_wrd_num s
    have ta2 := ta_wrd_wrd s
    go_wp2_with fail
    refine (wtext_any _ _ _ s _ hW3 (by simp; omega)).mono ?_; rintro e w4 ⟨rfl, hS4⟩
    have hy : ys = [UInt8.ofNat (2 : Int).toNat] ++ encText s.data.toList := by rw [HY.out]; rfl
    rw [← hy] at hS4
    have HYL : Hid (ys.length ≤ 300) := Lib.hid (by
      rw [hy]
      have := sevens_le s.data.toList.length
      have h2 : s.data.toList.length = s.size := by simp
      simp only [encText, List.length_append, List.length_singleton]; omega)
    clear hy
    have b4 := below_wr b3 hS4 b3.size hF
    go_wp2_with fail
    refine (wdata_any _ _ ys _ hS4.1 (by have := HYL.out; omega)).mono ?_; rintro e w5 ⟨A, c, rfl, hown, hb5⟩
    go_wp2
    go_ret2
    exact ⟨A, c, rfl, owns_mono hown b4.size, below_then b4 hb5 b4.size⟩

end Go.Proofs.YtnieminnnkbneaaGreat
