/- slices.Collect(maps.Keys(m)) at a map of at most one key: what it hands back. -/
import Derived.Test.YtgnfekfikifgiaaGreatCol
import Derived.Test.YtgnfekfikifgiaaGreatWyZf1
namespace Go.Col
open Go Go.Proofs Go.RowKit Go.Maps Go.E3
open Go.WideElems (rd rg)
theorem one_le : 1 ≤ maxLen := by decide
theorem one_b : 1 * 4 ≤ 140737488355328 := by decide
def Rany : Value → Option (DataW Unit × List MemPlace) := fun _ => some (.lit (.bool true), [])
theorem colOk : ColOk Tryz.prog .u32 244 245 24 where
  body := ⟨_, _, Tryz.func244, rfl, of_decide_eq_true (by kernel_rfl)⟩
  none_ w Bm b clock hm hb := by
    have hBm : Bm < w.heap.size := by
      cases h : w.heap[Bm]? with
      | none => simp [World.cell?, h] at hm
      | some o => exact (Array.getElem?_eq_some_iff.1 h).1
    have hown : w.ownsMap Tryz.prog 24 Rany b 0 (.map []) := ⟨#[], clock, hb, ⟨Nat.zero_le _, ⟨(fun _ h => by cases h), List.nodup_nil, List.nodup_nil⟩, (fun _ h => by cases h)⟩, Nat.le_refl _, rfl⟩
    refine Calls.mono (Uk.collect Bm b 0 (.map []) w hBm hm hown (Nat.zero_le _) (by decide)) fun e w' ⟨v, ss, h1, h2, _, h4, h5⟩ => ?_
    have hs : ss = [] := List.eq_nil_iff_forall_not_mem.2 fun x hx => by have := (h2.2 x).1 hx; cases this
    exact ⟨h1.trans (by rw [h4.2 hs]), h5⟩
  one w Bm b clock a v born hm hb hlt h0 h1 := by
    have hBm : Bm < w.heap.size := by
      cases h : w.heap[Bm]? with
      | none => simp [World.cell?, h] at hm
      | some o => exact (Array.getElem?_eq_some_iff.1 h).1
    have wf : (Lit.int .u32 a).wf = true := by have h0' := h0; have h1' := h1; rw [Sy.kmin_eq] at h0'; rw [Sy.kmax_eq] at h1'; simp [Lit.wf]; exact ⟨h0', h1'⟩
    have hk : keyOf Tryz.prog 24 (.int .u32 a) = some (.int .u32 a) := Maps.keyOf_int_mk Tryz.underlying24 wf
    have hrd : rd Tryz.prog 24 Rany { key := .int .u32 a, val := v, born := born } = some (.int .u32 a, .lit (.bool true)) := by simp [rd, hk, Rany]
    have hown : w.ownsMap Tryz.prog 24 Rany b 1 (.map [(.int .u32 a, .lit (.bool true))]) := by
      refine ⟨_, clock, hb, ⟨one_le, ⟨fun x hx => ?_, by simp, by simp⟩, fun x hx => ?_⟩, Nat.le_refl _, ?_⟩
      · simp at hx; subst hx; exact hlt
      · simp at hx; subst hx; exact ⟨_, hrd⟩
      · simp [rg, hrd, DataW.insert]
    refine Calls.mono (Uk.collect Bm b 1 _ w hBm hm hown one_le one_b) fun e w' ⟨v', ss, h1, h2, h3, h4, h5⟩ => ⟨?_, h5⟩
    have hs : ss = [a] := by
      have mem : ∀ x, x ∈ ss ↔ x = a := fun x => by
        rw [h2.2 x]
        simp [Maps.has, Lit.sameKey]
        exact ⟨fun h => h.symm, fun h => h.symm⟩
      have nd := h2.1
      match ss, mem, nd with
      | [], mem, _ => exact absurd ((mem a).2 rfl) (by simp)
      | [x], mem, _ => rw [(mem x).1 List.mem_cons_self]
      | x :: y :: r, mem, nd =>
        have hx := (mem x).1 List.mem_cons_self
        have hy := (mem y).1 (List.mem_cons_of_mem _ List.mem_cons_self)
        rw [hx, hy] at nd
        simp at nd
    subst hs
    rcases h3.2 with ⟨_, h0⟩ | ⟨g, cap, cur, rfl, hbase, hg, r1, r2, r3, r4⟩
    · cases h0
    · refine ⟨g, cap, cur, h1, hbase, hg, r1, r2, by omega, ?_⟩
      have : cur.toList.take 1 = [Value.int .u32 a] := by simpa using r4
      have h6 : (cur.toList.take 1)[0]? = some (Value.int .u32 a) := by rw [this]; rfl
      rw [List.getElem?_take_of_lt (by decide)] at h6
      rw [← Array.getElem?_toList]; exact h6
theorem two_b : 2 * 4 ≤ 140737488355328 := by decide
theorem two_le : 2 ≤ maxLen := by decide
theorem colOk2 : ColOk2 Tryz.prog .u32 244 245 24 where
  body := ⟨_, _, Tryz.func244, rfl, of_decide_eq_true (by kernel_rfl)⟩
  two w Bm b clock a a' v v' born born' hm hb hlt hlt' hbn hne h0 h1 h0' h1' := by
    have hBm : Bm < w.heap.size := by
      cases h : w.heap[Bm]? with
      | none => simp [World.cell?, h] at hm
      | some o => exact (Array.getElem?_eq_some_iff.1 h).1
    have wf : (Lit.int .u32 a).wf = true := by rw [Sy.kmin_eq] at h0; rw [Sy.kmax_eq] at h1; simp [Lit.wf]; exact ⟨h0, h1⟩
    have wf' : (Lit.int .u32 a').wf = true := by rw [Sy.kmin_eq] at h0'; rw [Sy.kmax_eq] at h1'; simp [Lit.wf]; exact ⟨h0', h1'⟩
    have hk : keyOf Tryz.prog 24 (.int .u32 a) = some (.int .u32 a) := Maps.keyOf_int_mk Tryz.underlying24 wf
    have hk' : keyOf Tryz.prog 24 (.int .u32 a') = some (.int .u32 a') := Maps.keyOf_int_mk Tryz.underlying24 wf'
    have hrd : rd Tryz.prog 24 Rany { key := .int .u32 a, val := v, born := born } = some (.int .u32 a, .lit (.bool true)) := by simp [rd, hk, Rany]
    have hrd' : rd Tryz.prog 24 Rany { key := .int .u32 a', val := v', born := born' } = some (.int .u32 a', .lit (.bool true)) := by simp [rd, hk', Rany]
    generalize hD : (.map (DataW.insert (Lit.int .u32 a, DataW.lit (.bool true)) [(Lit.int .u32 a', DataW.lit (.bool true))]) : DataW Unit) = D0
    have hsz : Maps.size D0 = 2 := by
      rw [← hD]; simp only [DataW.insert]; split <;> rfl
    have hhas : ∀ x, Maps.has D0 (.int .u32 x) = true ↔ x = a ∨ x = a' := fun x => by
      rw [← hD]
      simp only [DataW.insert]
      split
      · simp [Maps.has, Lit.sameKey]
        exact ⟨fun h => h.elim (fun h => .inl h.symm) fun h => .inr h.symm, fun h => h.elim (fun h => .inl h.symm) fun h => .inr h.symm⟩
      · simp [Maps.has, Lit.sameKey]
        exact ⟨fun h => h.elim (fun h => .inr h.symm) fun h => .inl h.symm, fun h => h.elim (fun h => .inr h.symm) fun h => .inl h.symm⟩
    have hown : w.ownsMap Tryz.prog 24 Rany b 2 D0 := by
      refine ⟨_, clock, hb, ⟨two_le, ⟨fun x hx => ?_, by simp [hbn], ?_⟩, fun x hx => ?_⟩, Nat.le_refl _, ?_⟩
      · simp at hx; rcases hx with rfl | rfl
        · exact hlt
        · exact hlt'
      · simp [hne]
      · simp at hx; rcases hx with rfl | rfl
        · exact ⟨_, hrd⟩
        · exact ⟨_, hrd'⟩
      · rw [← hD]; simp [rg, hrd, hrd', DataW.insert]
    refine Calls.mono (Uk.collect Bm b 2 _ w hBm hm hown (by rw [hsz]; exact two_le) (by rw [hsz]; exact two_b)) fun e w' ⟨v', ss, h1, h2, h3, h4, h5⟩ => ⟨?_, h5⟩
    have hs : ss = [a, a'] ∨ ss = [a', a] := by
      have mem : ∀ x, x ∈ ss ↔ x = a ∨ x = a' := fun x => by
        rw [h2.2 x]; exact hhas x
      have nd := h2.1
      match ss, mem, nd with
      | [], mem, _ => exact absurd ((mem a).2 (.inl rfl)) (by simp)
      | [x], mem, _ =>
        have e1 := (mem a).2 (.inl rfl)
        have e2 := (mem a').2 (.inr rfl)
        simp at e1 e2
        exact absurd (e1.trans e2.symm) hne
      | [x, y], mem, nd =>
        have hx := (mem x).1 List.mem_cons_self
        have hy := (mem y).1 (List.mem_cons_of_mem _ List.mem_cons_self)
        have hxy : x ≠ y := by simpa using nd
        rcases hx with rfl | rfl <;> rcases hy with rfl | rfl
        · exact absurd rfl hxy
        · exact .inl rfl
        · exact .inr rfl
        · exact absurd rfl hxy
      | x :: y :: z :: r, mem, nd =>
        have hx := (mem x).1 List.mem_cons_self
        have hy := (mem y).1 (List.mem_cons_of_mem _ List.mem_cons_self)
        have hz := (mem z).1 (List.mem_cons_of_mem _ (List.mem_cons_of_mem _ List.mem_cons_self))
        simp only [List.nodup_cons, List.mem_cons, not_or] at nd
        obtain ⟨⟨n1, n2, _⟩, ⟨n3, _⟩, _⟩ := nd
        rcases hx with hx | hx <;> rcases hy with hy | hy <;> rcases hz with hz | hz <;> first
          | exact absurd (hx.trans hy.symm) n1
          | exact absurd (hx.trans hz.symm) n2
          | exact absurd (hy.trans hz.symm) n3
    have hlen : ss.length = 2 := by rcases hs with rfl | rfl <;> rfl
    rcases h3.2 with ⟨_, h0⟩ | ⟨g, cap, cur, rfl, hbase, hg, r1, r2, r3, r4⟩
    · rw [hlen] at h0; cases h0
    · refine ⟨g, cap, cur, by rw [h1, hlen], hbase, hg, by omega, r2, by omega, ?_⟩
      have h6 : ∀ (i : Nat) (x : Int), ss[i]? = some x → cur[i]? = some (Value.int .u32 x) := fun i x hi => by
        have h7 : (cur.toList.take (ss.length * 1))[i]? = some (Value.int .u32 x) := by
          have e : cur.toList.take (ss.length * 1) = ss.map encU := by simpa using r4
          rw [e, List.getElem?_map, hi]; rfl
        have hlt : i < ss.length * 1 := by
          have := (List.getElem?_eq_some_iff.1 hi).1
          omega
        rw [List.getElem?_take_of_lt hlt] at h7
        rw [← Array.getElem?_toList]; exact h7
      rcases hs with rfl | rfl
      · exact .inl ⟨h6 0 _ rfl, h6 1 _ rfl⟩
      · exact .inr ⟨h6 0 _ rfl, h6 1 _ rfl⟩
end Go.Col
