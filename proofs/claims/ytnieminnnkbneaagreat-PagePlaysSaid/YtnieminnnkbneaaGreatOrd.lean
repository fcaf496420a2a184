/- A region that draws its order, with a barrier: what is asked of the world is asked until the operation c has come up, and no longer. -/
import Derived.Deep.RegionHeld
import Derived.WalkKit
namespace Go.Proofs.YtnieminnnkbneaaGreat

section
variable {P : Program} {ops : Array Oper} {Q : Exit → Act → World → Prop} {md : Region.Mode} {S : World → Prop} {c : Nat}

/-- Until c has come up, S. -/
def Till (S : World → Prop) (c : Nat) (l : Array Bool) (w : World) : Prop := l.getD c true = false → S w

def wpTill (P : Program) (md : Region.Mode) (ops : Array Oper) (Q : Exit → Act → World → Prop) (S : World → Prop) (c : Nat) : Nat → Array Bool → Act → World → Prop
  | 0, l, a, w => Region.ready md ops l = [] ∧ Q .normal a w
  | f + 1, l, a, w => (Region.ready md ops l = [] → Q .normal a w) ∧
      ∀ i ∈ Region.ready md ops l, wpOp P ops Q i (fun a' w' => Till S c (l.setIfInBounds i true) w' ∧ wpTill P md ops Q S c f (l.setIfInBounds i true) a' w') a w

theorem wpTill_any : ∀ (f : Nat) (l : Array Bool) (a : Act) (w : World), wpTill P md ops Q S c f l a w → wpAny P md ops Q f l a w
  | 0, _, _, _, h => h
  | f + 1, _, _, _, h => ⟨h.1, fun i hi => wpOp_mono (fun a' w' k => wpTill_any f _ a' w' k.2) (h.2 i hi)⟩

theorem wpTill_first {T : World → Prop} {i : Nat} {oi : Oper} {v : Value} (hi : ops[i]? = some oi) (hsel : ∀ (j : Nat) (o : Oper) cs b, ops[j]? = some o → o.op ≠ .select cs b)
    (hQ : ∀ c a w, Q (.panic c) (a.put oi.dst v) w → Q (.panic c) a w)
    (hic : i ≠ c) (hT : (∀ w, T w) ∨ ((∀ w, S w → T w) ∧ ∀ oc, ops[c]? = some oc → ∃ e ∈ oc.after, Region.binds md e = true ∧ e.on = i)) :
    ∀ (f : Nat) (l : Array Bool) (a : Act) (w : World),
      (∀ j oj, ops[j]? = some oj → j ≠ i → l.getD j true = false → (∀ e ∈ oj.after, Region.binds md e = true → e.on ≠ i) → oi.apart ops oj = true) →
      i ∈ Region.ready md ops l → ((∀ w, T w) ∨ l.getD c true = false) → YieldsIf P ops T oi v a → Till S c l w →
      wpTill P md ops Q S c f (l.setIfInBounds i true) (a.put oi.dst v) w → wpTill P md ops Q S c (f + 1) l a w := by
  intro f
  have at_ : ∀ (f : Nat) (l : Array Bool) (a : Act) (w : World), ((∀ w, T w) ∨ l.getD c true = false) → YieldsIf P ops T oi v a → Till S c l w → wpTill P md ops Q S c f (l.setIfInBounds i true) (a.put oi.dst v) w →
      wpOp P ops Q i (fun a' w' => Till S c (l.setIfInBounds i true) w' ∧ wpTill P md ops Q S c f (l.setIfInBounds i true) a' w') a w := by
    intro f l a w hl hy ht H
    refine hy.wpOp hi ?_ ⟨fun h => ht ?_, H⟩
    · rcases hl with h | h
      · exact h w
      · rcases hT with k | k
        · exact k w
        · exact k.1 w (ht h)
    · rwa [getD_set_ne true hic] at h
  induction f with
  | zero =>
    intro l a w _ hr hl hy ht H
    refine ⟨fun h => (by rw [h] at hr; cases hr), fun j hj => ?_⟩
    by_cases hji : j = i
    · subst hji; exact at_ 0 l a w hl hy ht H
    · have := ready_mono hj hji
      rw [H.1] at this
      cases this
  | succ f ih =>
    intro l a w hfree hr hl hy ht H
    refine ⟨fun h => (by rw [h] at hr; cases hr), fun j hj => ?_⟩
    by_cases hji : j = i
    · subst hji; exact at_ _ l a w hl hy ht H
    · have h1 := H.2 j (ready_mono hj hji)
      obtain ⟨hjun, oj, hoj, hall⟩ := mem_ready.1 hj
      have hnot : ∀ e ∈ oj.after, Region.binds md e = true → e.on ≠ i := fun e he hb heq => by
        have k1 := hall e he hb
        have k0 := (mem_ready.1 hr).1
        rw [heq] at k1
        rcases Nat.lt_or_ge i l.size with h' | h'
        · simp [h'] at k0 k1; rw [k0] at k1; cases k1
        · simp [Array.getElem?_eq_none h'] at k1
      have h2 := wpOp_putIf hoj (hfree j oj hoj hji hjun hnot) (fun cs b => hsel i oi cs b hi) (fun cs b => hsel j oj cs b hoj) hQ hy h1
      have hfree' : ∀ k ok, ops[k]? = some ok → k ≠ i → (l.setIfInBounds j true).getD k true = false →
          (∀ e ∈ ok.after, Region.binds md e = true → e.on ≠ i) → oi.apart ops ok = true := fun k ok hk hki hun hno => by
        refine hfree k ok hk hki ?_ hno
        by_cases hjk : j = k
        · subst hjk; exact hjun
        · rw [getD_set_ne true hjk] at hun; exact hun
      have hl' : (∀ w, T w) ∨ (l.setIfInBounds j true).getD c true = false := by
        rcases hl with h | h
        · exact .inl h
        · rcases hT with k | ⟨_, k⟩
          · exact .inl k
          · refine .inr ?_
            by_cases hjc : j = c
            · subst hjc
              obtain ⟨e, he, hb, hon⟩ := k oj hoj
              exact absurd hon (hnot e he hb)
            · rw [getD_set_ne true hjc]; exact h
      refine wpOp_mono (fun a' w' h3 => ?_) h2
      obtain ⟨hy', ht', hw'⟩ := h3
      have ht2 : Till S c (l.setIfInBounds j true) w' := fun h => ht' (by
        rw [Array.setIfInBounds_comm _ _ (Ne.symm hji), getD_set_ne true hic]; exact h)
      refine ⟨ht2, ih (l.setIfInBounds j true) a' w' hfree' (ready_mono hr (Ne.symm hji)) hl' hy' ht2 ?_⟩
      rw [Array.setIfInBounds_comm _ _ hji]
      exact hw'
/-- Take number i first: its value hangs on S, and c waits for it. -/
theorem wpTill_take {i : Nat} (d : Nat) {oi : Oper} {v : Value} {f : Nat} {l : Array Bool} {a : Act} {w : World} (hi : ops[i]? = some oi) (hd : oi.dst = some d)
    (hs : Region.noSelect ops = true) (hf : Region.free md ops l i = true) (hr : (Region.ready md ops l).contains i = true) (hic : (i != c) = true) (hc : l.getD c true = false)
    (hw : (match ops[c]? with | some oc => oc.after.any (fun e => Region.binds md e && e.on == i) | none => false) = true)
    (hQ : ∀ c a w, Q (.panic c) (a.put oi.dst v) w → Q (.panic c) a w) (hy : YieldsIf P ops S oi v a) (hS : S w)
    (h : wpTill P md ops Q S c f (l.setIfInBounds i true) (a.put (some d) v) w) : wpTill P md ops Q S c (f + 1) l a w := by
  refine wpTill_first (T := S) hi (Region.noSelect_spec hs) hQ (by simpa using hic) (.inr ⟨fun _ k => k, fun oc hoc => ?_⟩) f l a w (Region.free_spec hi hf) (by simpa using hr) (.inr hc) hy (fun _ => hS) (by rw [hd]; exact h)
  rw [hoc] at hw
  simp only [Array.any_eq_true] at hw
  obtain ⟨k, hk, h1⟩ := hw
  exact ⟨oc.after[k], Array.getElem_mem hk, by simpa using h1⟩

/-- Take number i first: its value hangs on nothing. -/
theorem wpTill_calm {i : Nat} (d : Nat) {oi : Oper} {v : Value} {f : Nat} {l : Array Bool} {a : Act} {w : World} (hi : ops[i]? = some oi) (hd : oi.dst = some d)
    (hs : Region.noSelect ops = true) (hf : Region.free md ops l i = true) (hr : (Region.ready md ops l).contains i = true) (hic : (i != c) = true)
    (hQ : ∀ c a w, Q (.panic c) (a.put oi.dst v) w → Q (.panic c) a w) (hy : YieldsIf P ops (fun _ => True) oi v a) (hS : Till S c l w)
    (h : wpTill P md ops Q S c f (l.setIfInBounds i true) (a.put (some d) v) w) : wpTill P md ops Q S c (f + 1) l a w :=
  wpTill_first (T := fun _ => True) hi (Region.noSelect_spec hs) hQ (by simpa using hic) (.inl fun _ => trivial) f l a w (Region.free_spec hi hf) (by simpa using hr) (.inl fun _ => trivial) hy hS (by rw [hd]; exact h)

theorem Till.past {l : Array Bool} {w : World} (h : l.getD c true = true) : Till S c l w := fun k => by rw [h] at k; cases k

/-- One alone may come up, and c has come up, or comes up now. -/
theorem wpTill_one {i : Nat} {o : Oper} {f : Nat} {l : Array Bool} {a : Act} {w : World} (hr : Region.ready md ops l = [i]) (ho : ops[i]? = some o) (hc : (l.setIfInBounds i true).getD c true = true)
    (h : ∀ K' : Act → World → Prop, Shut (∀ a w, wpTill P md ops Q S c f (l.setIfInBounds i true) a w → K' a w) → if Region.wanted o (yielded ops a.tmps) = true then Oper.wp P o a w K' Q else K' (a.put o.dst undef) w) : wpTill P md ops Q S c (f + 1) l a w :=
  ⟨(fun h0 => by rw [hr] at h0; cases h0), fun j hj => by
    rw [hr] at hj
    simp at hj
    subst hj
    exact wpOp_step ho (fun K' hK => h K' (fun a w hW => hK a w ⟨Till.past hc, hW⟩))⟩

theorem wpTill_done {l : Array Bool} {a : Act} {w : World} (hr : Region.ready md ops l = []) (h : Q .normal a w) : ∀ f, wpTill P md ops Q S c f l a w
  | 0 => ⟨hr, h⟩
  | _ + 1 => ⟨fun _ => h, by rw [hr]; simp⟩

/-- The beginning. -/
theorem wp_region_till {id : Nat} {a : Act} {w : World} (hm : P.follows .mixedOrders = true)
    (h : wpTill P .any ops Q S c ops.size (Array.replicate ops.size false) a w.drew) : (Code.region id ops true).wp P Q a w :=
  wp_region_any hm (wpTill_any _ _ _ _ h)

end
end Go.Proofs.YtnieminnnkbneaaGreat
