/- Part 8e of a checked reader of Go texts in their model form: it runs a function at terms in the place of numbers, and each part proves that its answers hold of the model. -/
import Derived.Test.YtddfbikeaipepaaHy8d
import Derived.Laws.AppendOwn
namespace Go.Sy
section run
variable {P : Program} {w : World}
/-- 'append' onto a row's slice. -/
theorem run_app [Fs] {t ty e : TypeId} {inf : TypeInfo} {zv : Value} {sz : Nat} (ht : P.underlying t = some (.slice e)) (hi : P.info? e = some inf) (hz : inf.zero = some zv) (hsize : inf.size = sz) (hzs : zv.cells.size = sz) (hpos : 0 < sz)
    {n cap k c : Nat} {a x : Option Addr} {olds news : List Value} (hn : n ≤ cap) (hcap : n = 0 → cap = 0) (hcm : cap ≤ maxLen)
    (hv : 0 < n → ∃ g cur, a = some ⟨g, 0, none⟩ ∧ w.heap[g]? = some (.cells cur e (0, 0)) ∧ cur.size = cap * sz ∧ cur.toList.take (n * sz) = olds) (hlo : olds.length = n * sz)
    (hx : 0 < k → ∃ ad, x = some ad ∧ ∀ j u, news[j]? = some u → w.cell? (ad.add j) = some u) (hl : news.length = k * sz) (h1 : ∀ u ∈ news, u.oneCell' = true)
    (hb : (n + k) * inf.bytes ≤ 140737488355328) (h63 : n + k ≤ 4611686018427387904) :
    ∃ v' w', (Builtin.append_ #[t, t] ty #[.slice a n cap, .slice x k c]).run P w = .ok v' w' ∧
      ((n + k = 0 ∧ v' = .slice a 0 0 ∧ w' = w) ∨
       (0 < n + k ∧ ∃ g' cap' cur', v' = .slice (some ⟨g', 0, none⟩) (n + k) cap' ∧ n + k ≤ cap' ∧ cap' ≤ maxLen ∧ w'.heap[g']? = some (.cells cur' e (0, 0)) ∧ cur'.size = cap' * sz ∧ cur'.toList.take ((n + k) * sz) = olds ++ news ∧
         ((w.heap.size ≤ g' ∧ w.grownBy w' none) ∨ (0 < n ∧ a = some ⟨g', 0, none⟩ ∧ w.grownBy w' (some g'))))) := by
  subst hsize
  have hml : n + k ≤ maxLen := by simp only [maxLen]; omega
  have hf0 : ∀ y : Option Addr, (Builtin.firstCells inf.size 0 (.slice y 0 c)).run P w = .ok #[] w := by
    intro y; cases y <;> simp [Builtin.firstCells, loadCells, loadCellsFrom]
  -- a new row
  have grown : ∀ (old : Nat) (cs : List Value), cs = olds ++ news → old < n + k → ∃ g' cap' cur', Value.slice (some ⟨w.heap.size, 0, none⟩) (n + k) (grownCap w (n + k) old e) = .slice (some ⟨g', 0, none⟩) (n + k) cap' ∧ n + k ≤ cap' ∧ cap' ≤ maxLen ∧
      (w.drew.alloc (.cells (cs.toArray ++ Builtin.zeroCells zv.cells (grownCap w (n + k) old e - (n + k))) e)).heap[g']? = some (.cells cur' e (0, 0)) ∧ cur'.size = cap' * inf.size ∧ cur'.toList.take ((n + k) * inf.size) = olds ++ news ∧
         ((w.heap.size ≤ g' ∧ w.grownBy (w.drew.alloc (.cells (cs.toArray ++ Builtin.zeroCells zv.cells (grownCap w (n + k) old e - (n + k))) e)) none) ∨ (0 < n ∧ a = some ⟨g', 0, none⟩ ∧ w.grownBy (w.drew.alloc (.cells (cs.toArray ++ Builtin.zeroCells zv.cells (grownCap w (n + k) old e - (n + k))) e)) (some g'))) := by
    intro old cs hcs ho
    subst hcs
    have hge := grownCap_ge w (n + k) old e
    have hcm' : grownCap w (n + k) old e ≤ maxLen := grownCap_le_maxLen w (n + k) old e hml
    have hlen : (olds ++ news).length = (n + k) * inf.size := by rw [List.length_append, hlo, hl, Nat.add_mul]
    refine ⟨_, _, _, rfl, hge, hcm', heap_alloc_new w.drew _, ?_, ?_, .inl ⟨Nat.le_refl _, ⟨rfl, rfl, rfl, by simp, fun k hk _ => heap_alloc_old w.drew _ hk⟩⟩⟩
    · simp only [Array.size_append, List.size_toArray, size_zeroCells, hzs, hlen, ← Nat.add_mul]
      congr 1
      omega
    · simp only [Array.toList_append]
      rw [← hlen]
      exact List.take_left
  by_cases hk : k = 0
  · subst hk
    have hnews : news = [] := List.eq_nil_of_length_eq_zero (by simpa using hl)
    subst hnews
    have hrun : (Builtin.append_ #[t, t] ty #[.slice a n cap, .slice x 0 c]).run P w = .ok (.slice a n cap) w := by
      cases a <;> simp [Builtin.append_, run_underlying ht, sizeOf, typeInfo, hi, Builtin.lenOf, hn, hf0, storeCells]
    refine ⟨_, _, hrun, ?_⟩
    by_cases hn0 : n = 0
    · left
      have := hcap hn0
      subst hn0; subst this
      exact ⟨rfl, rfl, rfl⟩
    · right
      obtain ⟨g, cur, rfl, hg, hs, ht'⟩ := hv (by omega)
      exact ⟨by omega, g, cap, cur, rfl, hn, hcm, hg, hs, by simpa using ht', .inr ⟨by omega, rfl, ⟨rfl, rfl, rfl, Nat.le_refl _, fun _ _ _ => rfl⟩⟩⟩
  · obtain ⟨ad, rfl, hcell⟩ := hx (by omega)
    by_cases hn0 : n = 0
    · have hc0 := hcap hn0
      subst hn0; subst hc0
      have ho : olds = [] := List.eq_nil_of_length_eq_zero (by simpa using hlo)
      subst ho
      cases a with
      | none =>
        have hr := run_append_nil (P := P) w t ty e inf zv ht hi hz ad k c news hl hcell (by omega) (by omega) (by simp only [Nat.zero_add] at hb; omega)
        refine ⟨_, _, hr, .inr ⟨by omega, ?_⟩⟩
        have := grown 0 news (by simp) (by omega)
        simpa only [Nat.zero_add] using this
      | some b =>
        have hr := run_append_grow (P := P) w t ty e inf zv ht hi hz b 0 0 [] (by simp) (fun j v hj => by simp at hj) ad k c news hl hcell (by omega) (by omega) (growslice_fits (by omega) hb)
        refine ⟨_, _, hr, .inr ⟨by omega, ?_⟩⟩
        have := grown 0 news (by simp) (by omega)
        simpa only [Nat.zero_add, Array.empty_append] using this
    · obtain ⟨g, cur, rfl, hg, hs, htake⟩ := hv (by omega)
      by_cases hroom : n + k ≤ cap
      · have hfit : n * inf.size + news.length ≤ cur.size := by rw [hl, hs, ← Nat.add_mul]; exact Nat.mul_le_mul_right _ hroom
        have hr := run_append_room (P := P) w t ty e inf ht hi g n cap cur hg ad k c news hl hcell h1 hroom hfit
        refine ⟨_, _, hr, .inr ⟨by omega, g, cap, _, rfl, hroom, hcm, setRow_heap w g cur _ e _ hg, ?_, ?_, .inr ⟨by omega, rfl, ⟨rfl, rfl, rfl, by simp, fun k _ hk => setRow_other w g k _ (fun e => hk (by rw [e]))⟩⟩⟩⟩
        · simp only [List.size_toArray, List.length_append, List.length_take, List.length_drop, Array.length_toList]
          omega
        · rw [htake]
          have hlen : (olds ++ news).length = (n + k) * inf.size := by rw [List.length_append, hlo, hl, Nat.add_mul]
          rw [← hlen]
          exact List.take_left
      · have holds : ∀ j u, olds[j]? = some u → w.cell? ((⟨g, 0, none⟩ : Addr).add j) = some u := by
          intro j u hj
          rw [addr_add, Nat.zero_add, cell_of_row w g j cur e (0, 0) hg]
          rw [← htake, List.getElem?_take] at hj
          split at hj
          · simpa using hj
          · cases hj
        have hr := run_append_grow (P := P) w t ty e inf zv ht hi hz ⟨g, 0, none⟩ n cap olds hlo holds ad k c news hl hcell (by omega) (by omega) (growslice_fits (by omega) hb)
        refine ⟨_, _, hr, .inr ⟨by omega, ?_⟩⟩
        have := grown cap (olds ++ news) rfl (by omega)
        simpa using this
end run
end Go.Sy
