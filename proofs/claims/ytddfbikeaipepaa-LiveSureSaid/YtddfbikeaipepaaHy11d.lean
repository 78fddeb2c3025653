/- Part 11d of a checked reader of Go texts in their model form: it runs a function at terms in the place of numbers, and each part proves that its answers hold of the model. -/
import Derived.Test.YtddfbikeaipepaaHy11c
import Derived.OrdersHeld
import Derived.Stop.Looks
namespace Go.Sy
/-! what only reads, or makes a block: it may be left for later -/
def calmOp : Op → Bool
  | .load _ _ | .alloc _ | .move _ | .assign _ => true
  | _ => false
theorem loadVar_looks [Fs] (t : TypeId) (a : Addr) : (loadVar t a).Looks := by
  unfold loadVar isAgg
  refine Sem.Looks.bind (Sem.Looks.bind (underlying_looks t) fun d => by cases d <;> exact pure_looks _) fun b => ?_
  cases b
  · exact load_looks _ _
  · exact Sem.Looks.bind (sizeOf_looks t) fun n => Sem.Looks.bind (loadCells_looks _ _) fun _ => pure_looks _
theorem loadAt_looks [Fs] (t : TypeId) (v : Value) : (Instr.loadAt t v).Looks := by
  unfold Instr.loadAt
  refine Sem.Looks.bind ?_ fun a => loadVar_looks t a
  unfold Instr.sureAddr
  split
  · exact pure_looks _
  · exact stuck_looks _
theorem zeroValue_looks [Fs] (t : TypeId) : (zeroValue t).Looks := by
  unfold zeroValue
  refine Sem.Looks.bind (typeInfo_looks t) fun i => ?_
  split <;> first | exact pure_looks _ | exact stuck_looks _ | exact unsupported_looks _
theorem heap_alloc_old' [Fs] (w : World) (o : Obj) {r : Nat} (h : r < w.heap.size) : (w.alloc o).heap[r]? = w.heap[r]? := by
  unfold World.alloc
  simp [Array.getElem?_push, Nat.ne_of_lt h]
theorem calm_keeps [Fs] {P : Program} {o : Oper} (h : calmOp o.op = true) {ρ : Operand → Value} {w w' : World} {n : Next} (hr : (execOp ρ o).run P w = .ok n w') : (∃ v, n = .value v) ∧ Keeps w w' := by
  unfold calmOp at h
  split at h
  · rename_i t x ho
    simp only [execOp, ho, Sem.run_bind] at hr
    cases hq : (Instr.loadAt t (ρ x)).run P w with
    | ok v w1 =>
      rw [hq] at hr
      simp at hr
      obtain ⟨rfl, rfl⟩ := hr
      rw [(loadAt_looks t (ρ x)).ok hq]
      exact ⟨⟨v, rfl⟩, Keeps.refl w⟩
    | halt x w1 => rw [hq] at hr; cases hr
  · rename_i e ho
    simp only [execOp, ho, Instr.alloc, Sem.run_bind] at hr
    cases hq : (zeroValue e).run P w with
    | ok v w1 =>
      rw [hq] at hr
      simp [newVar, newRow] at hr
      obtain ⟨rfl, rfl⟩ := hr
      rw [(zeroValue_looks e).ok hq]
      refine ⟨⟨_, rfl⟩, fun k hk => ?_⟩
      exact heap_alloc_old' w _ hk
    | halt x w1 => rw [hq] at hr; cases hr
  · rename_i x ho
    simp [execOp, ho] at hr
    obtain ⟨rfl, rfl⟩ := hr
    exact ⟨⟨_, rfl⟩, Keeps.refl w⟩
  · rename_i x ho
    simp [execOp, ho] at hr
    obtain ⟨rfl, rfl⟩ := hr
    exact ⟨⟨_, rfl⟩, Keeps.refl w⟩
  · cases h
theorem Keeps.trans [Fs] {w1 w2 w3 : World} (h : Keeps w1 w2) (h' : Keeps w2 w3) (hl : w1.heap.size ≤ w2.heap.size) : Keeps w1 w3 := fun k hk => (h' k (Nat.lt_of_lt_of_le hk hl)).trans (h k hk)
section
variable {P : Program} {ops : Array Oper} {md : Region.Mode} {Q : Exit → Act → World → Prop}
theorem Keeps.size [Fs] {w w' : World} (h : Keeps w w') : w.heap.size ≤ w'.heap.size := by
  rcases Nat.eq_zero_or_pos w.heap.size with h0 | h0
  · omega
  · have := h (w.heap.size - 1) (by omega)
    rw [Array.getElem?_eq_getElem (by omega : w.heap.size - 1 < w.heap.size)] at this
    have := (Array.getElem?_eq_some_iff.1 this).1
    omega
theorem wpOp_calm [Fs] {j : Nat} {oj : Oper} (hj : ops[j]? = some oj) (hc : calmOp oj.op = true) {K : Act → World → Prop} {a : Act} {w : World} (h : wpOp P ops Q j K a w) : wpOp P ops Q j (fun a' w' => Keeps w w' ∧ K a' w') a w := by
  unfold wpOp at *
  simp only [hj] at *
  split
  · rename_i hw
    rw [if_pos hw] at h
    rcases h with h | h
    · left
      unfold Oper.wp at *
      generalize hr : (execOp a.eval oj).run P w = r at *
      cases r with
      | ok n w1 =>
        obtain ⟨⟨v, rfl⟩, hk⟩ := calm_keeps hc hr
        exact ⟨hk, h⟩
      | halt x w1 => cases x <;> exact h
    · exact .inr h
  · rename_i hw
    rw [if_neg hw] at h
    exact ⟨Keeps.refl w, h⟩
theorem wpAny_calm [Fs] {i : Nat} {oi : Oper} {v : Value} {w0 : World} {W : Nat → Prop} (hW : ∀ j oj, ops[j]? = some oj → W j → ∃ e ∈ oj.after, Region.binds md e = true ∧ (e.on = i ∨ W e.on)) (hi : ops[i]? = some oi) (hsel : ∀ (j : Nat) (o : Oper) cs b, ops[j]? = some o → o.op ≠ .select cs b)
    (hQ : ∀ c a w, Q (.panic c) (a.put oi.dst v) w → Q (.panic c) a w) :
    ∀ (fuel : Nat) (listed : Array Bool) (a : Act) (w : World),
      (∀ j oj, ops[j]? = some oj → j ≠ i → listed.getD j true = false → (∀ e ∈ oj.after, Region.binds md e = true → e.on ≠ i) → ¬ W j → oi.apart ops oj = true ∧ calmOp oj.op = true) → (∀ j, W j → listed.getD j false = false) →
      i ∈ Region.ready md ops listed → YieldsIf P ops (Keeps w0) oi v a → Keeps w0 w →
      wpAny P md ops Q fuel (listed.setIfInBounds i true) (a.put oi.dst v) w → wpAny P md ops Q (fuel + 1) listed a w := by
  intro fuel
  induction fuel with
  | zero =>
    intro listed a w _ _ hr hy hS H
    refine ⟨fun h => (by rw [h] at hr; cases hr), fun j hj => ?_⟩
    by_cases hji : j = i
    · subst hji; exact hy.wpOp hi hS H
    · have := ready_mono hj hji
      rw [H.1] at this
      cases this
  | succ fuel ih =>
    intro listed a w hfree hL hr hy hS H
    refine ⟨fun h => (by rw [h] at hr; cases hr), fun j hj => ?_⟩
    by_cases hji : j = i
    · subst hji; exact hy.wpOp hi hS H
    · have h1 := H.2 j (ready_mono hj hji)
      obtain ⟨hjun, oj, hoj, hall⟩ := mem_ready.1 hj
      have hnot : ∀ e ∈ oj.after, Region.binds md e = true → e.on ≠ i := fun e he hb heq => by
        have h1 := hall e he hb
        have h0 := (mem_ready.1 hr).1
        rw [heq] at h1
        rcases Nat.lt_or_ge i listed.size with h' | h'
        · simp [h'] at h0 h1; rw [h0] at h1; cases h1
        · simp [Array.getElem?_eq_none h'] at h1
      have hnw : ¬ W j := fun hwj => by
        obtain ⟨e, he, hb, h2⟩ := hW j oj hoj hwj
        rcases h2 with h2 | h2
        · exact hnot e he hb h2
        · have h3 := hall e he hb
          rw [hL _ h2] at h3
          cases h3
      have h2 := wpOp_calm hoj (hfree j oj hoj hji hjun hnot hnw).2 (wpOp_putIf hoj (hfree j oj hoj hji hjun hnot hnw).1 (fun cs b => hsel i oi cs b hi) (fun cs b => hsel j oj cs b hoj) hQ hy h1)
      have hfree' : ∀ k ok, ops[k]? = some ok → k ≠ i → (listed.setIfInBounds j true).getD k true = false →
          (∀ e ∈ ok.after, Region.binds md e = true → e.on ≠ i) → ¬ W k → oi.apart ops ok = true ∧ calmOp ok.op = true := fun k ok hk hki hun hno hkw => by
        refine hfree k ok hk hki ?_ hno hkw
        by_cases hjk : j = k
        · subst hjk; exact hjun
        · rw [getD_set_ne true hjk] at hun; exact hun
      refine wpOp_mono (fun a' w' h3 => ih (listed.setIfInBounds j true) a' w' hfree' (fun k hk => by
        have hjk : ¬ j = k := by intro he; subst he; exact hnw hk
        rw [getD_set_ne false hjk]; exact hL k hk) (ready_mono hr (Ne.symm hji)) h3.2.1 (hS.trans h3.1 hS.size) ?_) h2
      rw [Array.setIfInBounds_comm _ _ hji]
      exact h3.2.2
end
end Go.Sy
