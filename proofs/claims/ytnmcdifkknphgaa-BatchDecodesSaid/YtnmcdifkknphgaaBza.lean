/- append(s, make([]byte, k)...) to a row of one's own. -/
import Derived.Test.YtnmcdifkknphgaaBz
import Derived.Lib.AppendZerosOnto
namespace Go.Proofs.Ytnmcdifkknphgaa
open Go.RowKit

theorem zeros_bytes (k : Nat) : Builtin.zeroCells (Value.int .u8 0).cells k = (cellsB (List.replicate k (0 : UInt8))).toArray := by
  unfold Builtin.zeroCells cellsB
  apply Array.ext
  · simp [Value.cells]
  · intro j h1 h2
    simp [Value.cells, Nat.mod_one]

/-- Bytes: a row of one's own and k zeros behind it. -/
theorem run_append_zeros {P : Program} (w : World) (t tn ty e : TypeId) (bytes : Nat) (kq kn : IntKind) (ht : P.underlying t = some (.slice e)) (htn : P.underlying tn = some (.int kn))
    (hinfo : (P.info? e).map (fun i => (i.zero, i.size, i.bytes)) = some (some (.int .u8 0), 1, bytes))
    (v : Value) (n : Nat) (xs : Bs) (hv : v ≠ .slice none 0 0) (hown : w.ownsRow 0 e 1 v n (cellsB xs)) (k : Nat) (h0 : 0 < k) (h63 : n + k ≤ maxLen) (hbytes : (n + k) * bytes ≤ 140737488355328) :
    ∃ A c w', (Builtin.append_ #[t, tn] ty #[v, .int kq k]).run P w = .ok (.slice A (n + k) c) w' ∧ w'.ownsRow 0 e 1 (.slice A (n + k) c) (n + k) (cellsB (xs ++ List.replicate k 0)) ∧ w.grownBy w' v.ownBlock ∧
      (∀ g, (Value.slice A (n + k) c).ownBlock = some g → v.ownBlock = some g ∨ g = w.heap.size) := by
  obtain ⟨i, hi, hz, hsize, hby⟩ := info_parts hinfo
  subst hby
  have hlen : (cellsB (xs ++ List.replicate k 0)).length = (n + k) * 1 := by
    have := hown.1
    rw [cellsB_length] at this ⊢
    simp; omega
  have hnl : (cellsB xs).length = n := by have := hown.1; omega
  rcases hown.2 with ⟨rfl, _⟩ | ⟨g, cap, cur, rfl, hbg, hg, hnc, hcm, hcs, htake⟩
  · exact absurd rfl hv
  · simp only [maxLen] at h63 hcm
    by_cases hroom : n + k ≤ cap
    · have hst := run_storeCells_at P g (n * 1) e (cellsB (List.replicate k (0 : UInt8))) 0 cur w hg (by rw [cellsB_length, List.length_replicate]; omega) (cellsB_one _)
      simp only [Nat.add_zero, Nat.mul_one] at hst
      have hw : IntKind.i64.wrap (k : Int) = k := by rw [IntKind.wrap_i64]; omega
      have hneg : ¬ ((k : Int) < 0) := by omega
      have hkb : k * i.bytes ≤ (n + k) * i.bytes := Nat.mul_le_mul_right _ (by omega)
      have h48i : ¬ (281474976710656 < (k : Int) * (i.bytes : Int)) := by
        rw [← Int.natCast_mul]
        omega
      have hk0 : k ≠ 0 := by omega
      have hrun : (Builtin.append_ #[t, tn] ty #[.slice (some ⟨g, 0, none⟩) n cap, .int kq k]).run P w = .ok (.slice (some ⟨g, 0, none⟩) (n + k) cap) (w.setRow g (cur.toList.take n ++ cellsB (List.replicate k (0 : UInt8)) ++ cur.toList.drop (n + (cellsB (List.replicate k (0 : UInt8))).length)).toArray) := by
        simp [Builtin.append_, run_underlying ht, run_underlying htn, sizeOf, typeInfo, zeroValue, hi, hz, hsize, asInt, asIntOf, hw, hneg, h48i, hk0, hroom, zeros_bytes, Addr.add_lit, hst]
      refine ⟨some ⟨g, 0, none⟩, cap, _, hrun, ⟨hlen, .inr ⟨g, cap, _, rfl, hbg, setRow_heap w g cur _ e _ hg, hroom, by simpa [maxLen] using hcm, ?_, ?_⟩⟩, ⟨rfl, rfl, rfl, by simp, fun k _ hk => setRow_other w g k _ (fun e => hk (by simp [Value.ownBlock, e]))⟩, by simp [Value.ownBlock]⟩
      · simp only [List.size_toArray, List.length_append, List.length_take, List.length_drop, Array.length_toList, cellsB_length, List.length_replicate]
        omega
      · have htk : cur.toList.take n = cellsB xs := by simpa using htake
        rw [htk, ← cellsB_append]
        have : (n + k) * 1 = (cellsB (xs ++ List.replicate k 0)).length := hlen.symm
        rw [this]
        exact List.take_left
    · have holds : ∀ j u, (cellsB xs)[j]? = some u → w.drew.cell? ((⟨g, 0, none⟩ : Addr).add j) = some u := hown.cells (g := g) rfl
      have hold : (Builtin.firstCells i.size n (.slice (some ⟨g, 0, none⟩) n cap)).run P w.drew = .ok (cellsB xs).toArray w.drew := by
        rw [hsize]
        exact run_firstCells_some w.drew 1 n ⟨g, 0, none⟩ n cap (cellsB xs) (by omega) holds
      have hkb : k * i.bytes ≤ (n + k) * i.bytes := Nat.mul_le_mul_right _ (by omega)
      have hr := Lib.run_append_grow_zeros (P := P) w t tn ty e i (.int .u8 0) kq kn ht htn hi hz (some ⟨g, 0, none⟩) n cap (cellsB xs) hold k h0 (by omega) (by omega) (by omega) (by omega) (growslice_fits (by omega) hbytes)
      have hge := grownCap_ge w (n + k) cap e
      have hcl : grownCap w (n + k) cap e ≤ maxLen := grownCap_le_maxLen w (n + k) cap e (by simp only [maxLen]; omega)
      refine ⟨_, _, _, hr, ⟨hlen, .inr ⟨w.heap.size, _, _, rfl, Nat.zero_le _, heap_alloc_new w.drew _, hge, hcl, ?_, ?_⟩⟩, ⟨rfl, rfl, rfl, by simp, fun k hk _ => heap_alloc_old w.drew _ hk⟩, by simp [Value.ownBlock]⟩
      · simp only [zeros_bytes, Array.size_append, List.size_toArray, cellsB_length, List.length_replicate]
        rw [cellsB_length] at hnl
        omega
      · simp only [zeros_bytes, Array.toList_append]
        rw [← cellsB_append, ← hlen]
        exact List.take_left
end Go.Proofs.Ytnmcdifkknphgaa
