/- Part 8g of a checked reader of Go texts in their model form: it runs a function at terms in the place of numbers, and each part proves that its answers hold of the model. -/
import Derived.Test.YtpjmhngcdbpmpaaLy8e
namespace Go.Sy
/-! slices whose cells are known one by one -/
section run
variable {P : Program} {w : World}
/-- 'append' onto a block's slice, of whatever length. -/
theorem run_app2 [Fs] {t ty e : TypeId} {inf : TypeInfo} {zv : Value} {sz : Nat} (ht : P.underlying t = some (.slice e)) (hi : P.info? e = some inf) (hz : inf.zero = some zv) (hsize : inf.size = sz) (hzs : zv.cells.size = sz)
    {n cap k c g : Nat} {x : Option Addr} {cur : Array Value} {news : List Value} (hn : n ≤ cap) (hcm : cap ≤ maxLen)
    (hg : w.heap[g]? = some (.cells cur e (0, 0))) (hs : cur.size = cap * sz)
    (hx : 0 < k → ∃ ad, x = some ad ∧ ∀ j u, news[j]? = some u → w.cell? (ad.add j) = some u) (hl : news.length = k * sz) (h1 : ∀ u ∈ news, u.oneCell' = true)
    (hb : (n + k) * inf.bytes ≤ 140737488355328) (h63 : n + k ≤ 4611686018427387904) :
    ∃ g' cap' cur' w', (Builtin.append_ #[t, t] ty #[.slice (some ⟨g, 0, none⟩) n cap, .slice x k c]).run P w = .ok (.slice (some ⟨g', 0, none⟩) (n + k) cap') w' ∧
      n + k ≤ cap' ∧ cap' ≤ maxLen ∧ w'.heap[g']? = some (.cells cur' e (0, 0)) ∧ cur'.size = cap' * sz ∧ cur'.toList.take ((n + k) * sz) = cur.toList.take (n * sz) ++ news ∧
      ((w.heap.size ≤ g' ∧ w.grownBy w' none) ∨ (g' = g ∧ w.grownBy w' (some g))) := by
  subst hsize
  have hml : n + k ≤ maxLen := by simp only [maxLen]; omega
  have hfit0 : n * inf.size ≤ cur.size := by rw [hs]; exact Nat.mul_le_mul_right _ hn
  have hlo : (cur.toList.take (n * inf.size)).length = n * inf.size := by rw [List.length_take, Array.length_toList]; omega
  by_cases hk : k = 0
  · subst hk
    have hnews : news = [] := List.eq_nil_of_length_eq_zero (by simpa using hl)
    subst hnews
    have hf0 : ∀ y : Option Addr, (Builtin.firstCells inf.size 0 (.slice y 0 c)).run P w = .ok #[] w := by
      intro y; cases y <;> simp [Builtin.firstCells, loadCells, loadCellsFrom]
    have hrun : (Builtin.append_ #[t, t] ty #[.slice (some ⟨g, 0, none⟩) n cap, .slice x 0 c]).run P w = .ok (.slice (some ⟨g, 0, none⟩) n cap) w := by
      simp [Builtin.append_, run_underlying ht, sizeOf, typeInfo, hi, Builtin.lenOf, hn, hf0, storeCells]
    exact ⟨g, cap, cur, w, hrun, hn, hcm, hg, hs, by simp, .inr ⟨rfl, ⟨rfl, rfl, rfl, Nat.le_refl _, fun _ _ _ => rfl⟩⟩⟩
  · obtain ⟨ad, rfl, hcell⟩ := hx (by omega)
    by_cases hroom : n + k ≤ cap
    · have hfit : n * inf.size + news.length ≤ cur.size := by rw [hl, hs, ← Nat.add_mul]; exact Nat.mul_le_mul_right _ hroom
      have hr := run_append_room (P := P) w t ty e inf ht hi g n cap cur hg ad k c news hl hcell h1 hroom hfit
      refine ⟨g, cap, _, _, hr, hroom, hcm, setRow_heap w g cur _ e _ hg, ?_, ?_, .inr ⟨rfl, ⟨rfl, rfl, rfl, by simp, fun k _ hk => setRow_other w g k _ (fun e => hk (by rw [e]))⟩⟩⟩
      · simp only [List.size_toArray, List.length_append, List.length_take, List.length_drop, Array.length_toList]
        omega
      · have hlen : (cur.toList.take (n * inf.size) ++ news).length = (n + k) * inf.size := by rw [List.length_append, hlo, hl, Nat.add_mul]
        rw [← hlen]
        exact List.take_left
    · have holds : ∀ j u, (cur.toList.take (n * inf.size))[j]? = some u → w.cell? ((⟨g, 0, none⟩ : Addr).add j) = some u := by
        intro j u hj
        rw [addr_add, Nat.zero_add, cell_of_row w g j cur e (0, 0) hg]
        rw [List.getElem?_take] at hj
        split at hj
        · simpa using hj
        · cases hj
      have hr := run_append_grow (P := P) w t ty e inf zv ht hi hz ⟨g, 0, none⟩ n cap _ hlo holds ad k c news hl hcell (by omega) (by omega) (growslice_fits (by omega) hb)
      have hge := grownCap_ge w (n + k) cap e
      have hcm' : grownCap w (n + k) cap e ≤ maxLen := grownCap_le_maxLen w (n + k) cap e hml
      have hlen : (cur.toList.take (n * inf.size) ++ news).length = (n + k) * inf.size := by rw [List.length_append, hlo, hl, Nat.add_mul]
      have harr : (cur.toList.take (n * inf.size)).toArray ++ news.toArray = (cur.toList.take (n * inf.size) ++ news).toArray := by simp
      refine ⟨_, _, _, _, hr, hge, hcm', heap_alloc_new w.drew _, ?_, ?_, .inl ⟨Nat.le_refl _, ⟨rfl, rfl, rfl, by simp, fun k hk _ => heap_alloc_old w.drew _ hk⟩⟩⟩
      · rw [harr]
        simp only [Array.size_append, List.size_toArray, size_zeroCells, hzs, hlen, ← Nat.add_mul]
        congr 1
        omega
      · rw [harr]
        simp only [Array.toList_append]
        rw [← hlen]
        exact List.take_left
end run
/-- The cells of what is appended, copied. -/
def rowCells (pc : Pc) (cols : List Col) (z : Nat) : Nat → T → Option (List C)
  | 0, _ => some []
  | n + 1, i => match rdAs pc cols i 0 z, rowCells pc cols z n (mk2 .add i (.lit 1)) with
    | some a, some b => some (a ++ b)
    | _, _ => none
def cellsSrc (st : St) (sz : Nat) (x : C) : Option (Nat × List C) :=
  match x with
  | .nils => some (0, [])
  | .slr _ _ _ (.lit 0) => some (0, [])
  | x => match srcOf st sz x with
    | some (.cs n ys) => some (n, ys)
    | some (.row o (.lit n) cols) => bif leb 0 n && leb n 4096 then (rowCells st.pc cols sz n.toNat o).map fun ys => (n.toNat, ys) else none
    | _ => none
section ops
variable {P : Program} {X : Cx} {ρ : Nat → Rb} {st : St} {a : Act} {w : World} {o : Oper}
theorem rowCells_ok [Fs] {E : Env} {N : Nat} {pc : Pc} (hp : pcOk E pc) {cols : List Col} {z : Nat} {news : List Value} {S : Nat} (hw : wid cols = z) {K : Nat}
    (hc : ∀ (j p r : Nat) (d : Col), j < K → colAt cols p = some (d, r) → news[j * z + p]? = some (d.k.val (d.s.row E ((S + j) * d.m + r : Nat)))) (hl : news.length = K * z) :
    ∀ {n : Nat} {i : T} {ys : List C} {q : Nat}, rowCells pc cols z n i = some ys → i.den E = (S + q : Nat) → q + n ≤ K → ys.length = n * z ∧ ∀ (p : Nat) (y : C), ys[p]? = some y → ∃ u, news[q * z + p]? = some u ∧ Cr E ρ N y u := by
  intro n
  induction n with
  | zero => intro i ys q h _ _; cases h; exact ⟨by simp, fun p y hy => by simp at hy⟩
  | succ n ih =>
    intro i ys q h hi hq
    simp only [rowCells] at h
    split at h
    · rename_i as bs ha hb
      cases h
      obtain ⟨h1, h2⟩ := ih (q := q + 1) hb (by simp only [mk2_den, O2.den, T.den, hi]; omega) (by omega)
      -- one element
      have one : as.length = z ∧ ∀ (p : Nat) (y : C), as[p]? = some y → ∃ u, news[q * z + p]? = some u ∧ Cr E ρ N y u := by
        obtain ⟨cs, hcs⟩ : ∃ cs : Array Value, cs = Array.ofFn fun j : Fin ((S + K) * z) => if h : S * z ≤ j.val then news.getD (j.val - S * z) undef else match colAt cols (j.val % z) with
          | some (d, r) => d.k.val (d.s.row E ((j.val / z) * d.m + r : Nat))
          | none => undef := ⟨_, rfl⟩
        have hC : Cells E (S + K : Nat) cols cs := by
          intro j p r d hj hd
          have hp := (colAt_lt hd).2.2.1
          rw [hw] at hp ⊢
          have hlt : j * z + p < (S + K) * z := by
            have : (j + 1) * z ≤ (S + K) * z := Nat.mul_le_mul_right _ (by omega)
            rw [Nat.add_mul] at this; omega
          have e1 : (j * z + p) / z = j := by
            rw [Nat.mul_comm, Nat.mul_add_div (by omega), Nat.div_eq_of_lt hp]; omega
          have e2 : (j * z + p) % z = p := by
            rw [Nat.mul_comm, Nat.mul_add_mod, Nat.mod_eq_of_lt hp]
          rw [hcs, Array.getElem?_ofFn, dif_pos hlt]
          by_cases hs : S * z ≤ j * z + p
          · have hSj : S ≤ j := by
              rcases Nat.lt_or_ge j S with hlt' | hge
              · have : (j + 1) * z ≤ S * z := Nat.mul_le_mul_right _ hlt'
                rw [Nat.add_mul] at this; omega
              · exact hge
            obtain ⟨j', rfl⟩ : ∃ j', j = S + j' := ⟨j - S, by omega⟩
            have := hc j' p r d (by omega) hd
            have e : (S + j') * z + p - S * z = j' * z + p := by rw [Nat.add_mul]; omega
            simp only [hs, dif_pos, e, List.getD_eq_getElem?_getD, this, Option.getD_some]
          · simp only [hs, dif_neg, not_false_eq_true, e1, e2, hd]
        obtain ⟨g1, g2⟩ := rdAs_ok (ρ := ρ) (N := N) hp hC (by omega) (by rw [hi]; omega) ha
        refine ⟨g1, fun p y hy => ?_⟩
        obtain ⟨v, g3, g4⟩ := g2 p y hy
        have hpz : p < z := by rw [← g1]; exact (List.getElem?_eq_some_iff.1 hy).1
        refine ⟨v, ?_, g4⟩
        rw [hi, Int.toNat_natCast, hw, Nat.zero_add, hcs, Array.getElem?_ofFn] at g3
        split at g3
        · rename_i hlt
          have e : (S + q) * z + p - S * z = q * z + p := by rw [Nat.add_mul]; omega
          have hle : S * z ≤ (S + q) * z + p := by rw [Nat.add_mul]; omega
          simp only [hle, dif_pos, e, List.getD_eq_getElem?_getD] at g3
          have hlt2 : q * z + p < news.length := by
            rw [hl]
            have : (q + 1) * z ≤ K * z := Nat.mul_le_mul_right _ (by omega)
            rw [Nat.add_mul] at this; omega
          rw [List.getElem?_eq_getElem hlt2] at g3 ⊢
          exact g3
        · cases g3
      refine ⟨by rw [List.length_append, one.1, h1, Nat.add_mul]; omega, fun p y hy => ?_⟩
      by_cases hpz : p < z
      · rw [List.getElem?_append_left (by rw [one.1]; exact hpz)] at hy
        exact one.2 p y hy
      · rw [List.getElem?_append_right (by rw [one.1]; omega), one.1] at hy
        obtain ⟨u, g1, g2⟩ := h2 _ y hy
        refine ⟨u, ?_, g2⟩
        rw [← g1]; congr 1; rw [Nat.add_mul]; omega
    · cases h
theorem cellsSrc_ok [Fs] (h : Rel X ρ st a w) {sz : Nat} {c : C} {v : Value} (hv : Cr X.E ρ st.m.length c v) {k : Nat} {ys : List C} (hs : cellsSrc st sz c = some (k, ys)) :
    ∃ ad cap, ∃ news : List Value, v = .slice ad k cap ∧ news.length = k * sz ∧ (∀ u ∈ news, u.oneCell' = true) ∧ ys.length = k * sz ∧ (∀ (p : Nat) (y : C), ys[p]? = some y → ∃ u, news[p]? = some u ∧ Cr X.E ρ st.m.length y u) ∧
      (0 < k → ∃ d, ad = some d ∧ ∀ j u, news[j]? = some u → w.cell? (d.add j) = some u) := by
  have gen : ∀ c', (match srcOf st sz c' with
      | some (.cs n ys) => some (n, ys)
      | some (.row o (.lit n) cols) => bif leb 0 n && leb n 4096 then (rowCells st.pc cols sz n.toNat o).map fun ys => (n.toNat, ys) else none
      | _ => none) = some (k, ys) → Cr X.E ρ st.m.length c' v → ∃ ad cap, ∃ news : List Value, v = .slice ad k cap ∧ news.length = k * sz ∧ (∀ u ∈ news, u.oneCell' = true) ∧ ys.length = k * sz ∧ (∀ (p : Nat) (y : C), ys[p]? = some y → ∃ u, news[p]? = some u ∧ Cr X.E ρ st.m.length y u) ∧
      (0 < k → ∃ d, ad = some d ∧ ∀ j u, news[j]? = some u → w.cell? (d.add j) = some u) := by
    intro c' hs hv
    split at hs
    · rename_i n ys' hsrc
      cases hs
      obtain ⟨s1, ad, cap, news, s3, s4, s5, s6, s7, s8⟩ := srcOf_ok h hv hsrc
      simp only [Src.len, T.den, Int.toNat_natCast] at s3 s4 s6
      exact ⟨ad, cap, news, s3, s4, s5, s7, s8, s6⟩
    · rename_i o' n cols hsrc
      cases hq : leb 0 n && leb n 4096 <;> simp only [hq, cond_true, cond_false] at hs
      · cases hs
      rw [Option.map_eq_some_iff] at hs
      obtain ⟨ys', hys, e⟩ := hs
      cases e
      obtain ⟨s1, ad, cap, news, s3, s4, s5, s6, s7, s8, s9⟩ := srcOf_ok h hv hsrc
      simp only [Src.len, T.den] at s1 s3 s4 s6 s9
      obtain ⟨g1, g2⟩ := rowCells_ok (ρ := ρ) (N := st.m.length) (S := (o'.den X.E).toNat) (K := n.toNat) (q := 0) h.pc s7 s9 s4 hys (by omega) (by omega)
      exact ⟨ad, cap, news, s3, s4, s5, g1, fun p y hy => by simpa using g2 p y hy, s6⟩
    · cases hs
  unfold cellsSrc at hs
  split at hs
  · cases hs
    simp only [Cr] at hv
    exact ⟨none, 0, [], hv, by simp, fun _ h => (nomatch h), by simp, fun p y hy => by simp at hy, fun h => absurd h (Nat.lt_irrefl _)⟩
  · cases hs
    obtain ⟨_, _, _, ad, cap, h1, _⟩ := hv
    exact ⟨ad, cap, [], by rw [h1]; rfl, by simp, fun _ h => (nomatch h), by simp, fun p y hy => by simp at hy, fun h => absurd h (Nat.lt_irrefl _)⟩
  · exact gen _ hs hv
end ops
end Go.Sy
namespace Go.Sy
/-- Onto what: the block, its cells. -/
def destC (st : St) (e : TypeId) (sz : Nat) : C → Option (Nat × Nat × List C)
  | .sle b z n => match st.m[b]? with
    | some (.cells ty xs) => bif Nat.beq z sz && Nat.beq ty (Nat.mul 2 e) && Nat.ble (n * sz) xs.length then some (b, n, xs.take (n * sz)) else none
    | _ => none
  | .nils => some (st.m.length, 0, [])
  | _ => none
/-- 'append', cell by cell. -/
def evApp2 (P : Program) (st : St) (c : Call) : Option OpR :=
  match c.callee, c.args.toList, c.argTypes.toList with
  | .builtin .append, [s, x], [t, t'] => bif Nat.beq t t' then match P.underlying t with
    | some (.slice e) => match P.info? e with
      | some inf => match inf.zero, opC st s, opC st x with
        | some zv, some cs, some cx => bif Nat.beq zv.cells.size inf.size && Nat.blt 0 inf.size && Nat.ble inf.bytes 65536 then match cellsSrc st inf.size cx.nrm with
          | some (k, ys) => match destC st e inf.size cs with
            | some (b, n, olds) => bif Nat.ble (n + k) 65536 then
                match cs, k with
                | .nils, 0 => some ⟨.a (.c .nils), st.m, []⟩
                | _, _ => some ⟨.a (.c (.sle st.m.length inf.size (n + k))), st.m.set b .dead ++ [.cells (Nat.mul 2 e) (olds ++ ys)], []⟩
              else none
            | none => none
          | none => none
          else none
        | _, _, _ => none
      | none => none
    | _ => none
    else none
  | _, _, _ => none
section ops
variable {P : Program} {X : Cx} {ρ : Nat → Rb} {st : St} {a : Act} {w : World} {o : Oper}
theorem evApp2_ok [Fs] (h : Rel X ρ st a w) {c : Call} (ho : o.op = .call c) {r : OpR} (hr : evApp2 P st c = some r) : OpOk P X ρ st a w o r := by
  unfold evApp2 at hr
  split at hr
  case h_2 => cases hr
  rename_i s x t t' hcal hargs hty
  cases ht' : Nat.beq t t' <;> simp only [ht', cond_true, cond_false] at hr
  · cases hr
  have ht' := Nat.eq_of_beq_eq_true ht'
  subst ht'
  split at hr
  case h_2 => cases hr
  rename_i e hu
  split at hr
  case h_2 => cases hr
  rename_i inf hinf
  split at hr
  case h_2 => cases hr
  rename_i zv cs cx hz hs hx
  cases hq : Nat.beq zv.cells.size inf.size && Nat.blt 0 inf.size && Nat.ble inf.bytes 65536 <;> simp only [hq, cond_true, cond_false] at hr
  · cases hr
  simp only [Bool.and_eq_true, Nat.blt_eq, Nat.ble_eq] at hq
  obtain ⟨⟨hzs, hpos⟩, hby⟩ := hq
  have hzs := Nat.eq_of_beq_eq_true hzs
  split at hr
  case h_2 => cases hr
  rename_i k ys hsrc
  split at hr
  case h_2 => cases hr
  rename_i b n olds hdst
  cases hle : Nat.ble (n + k) 65536 <;> simp only [hle, cond_true, cond_false] at hr
  · cases hr
  rw [Nat.ble_eq] at hle
  obtain ⟨bd, c', news, s3, s4, s5, s6, s7, s8⟩ := cellsSrc_ok h (C.nrm_ok (opC_ok h.toSRel hx)) hsrc
  have hexec : ∀ v s0, a.eval s = s0 → ∀ v' w', (Builtin.append_ #[t, t] o.type #[s0, .slice bd k c']).run P w = .ok v' w' → v = v' → (execOp a.eval o).run P w = .ok (.value v) w' := by
    intro v s0 hs0 v' w' hrun hv
    subst hv
    have e1 : c.args = #[s, x] := by apply Array.ext'; simpa using hargs
    have e2 : c.argTypes = #[t, t] := by apply Array.ext'; simpa using hty
    simp only [execOp, ho, resolve, invoke, builtin, hcal, e1, e2, Sem.run_bind, Sem.run_pure, Result.andThen_ok, List.map_toArray, List.map_cons, List.map_nil, hs0, s3, hrun]
  have hb47 : (n + k) * inf.bytes ≤ 140737488355328 := by
    have : (n + k) * inf.bytes ≤ 65536 * 65536 := Nat.mul_le_mul hle hby
    omega
  have hsv := opC_ok h.toSRel hs
  -- the end
  have fin : ∀ (g' cap' : Nat) (cur' : Array Value) (w' : World) (oldv : List Value), (execOp a.eval o).run P w = .ok (.value (.slice (some ⟨g', 0, none⟩) (n + k) cap')) w' → n + k ≤ cap' → cap' ≤ maxLen → w'.heap[g']? = some (.cells cur' e (0, 0)) → cur'.size = cap' * inf.size →
      cur'.toList.take ((n + k) * inf.size) = oldv ++ news → oldv.length = olds.length → olds.length = n * inf.size → (∀ (p : Nat) (y : C), olds[p]? = some y → ∃ u, oldv[p]? = some u ∧ Cr X.E ρ st.m.length y u) →
      (∀ bk, (∀ ρ' n', st.m.length ≤ n' → (∀ i, i < st.m.length → ρ' i = ρ i) → Br X.E ρ' n' ⟨g', cur'.size, 0⟩ bk w'.heap[g']?) → MemR X (upd ρ st.m.length ⟨g', cur'.size, 0⟩) (st.m.set b .dead ++ [bk]) w') →
      OpOk P X ρ st a w o ⟨.a (.c (.sle st.m.length inf.size (n + k))), st.m.set b .dead ++ [.cells (Nat.mul 2 e) (olds ++ ys)], []⟩ := by
    intro g' cap' cur' w' oldv hrun q3 q4 q5 q6 q7 l1 l2 hol hmv _
    refine ⟨_, w', upd ρ st.m.length ⟨g', cur'.size, 0⟩, .inl hrun, ?_, ?_, fun i hi => upd_ne _ _ (Nat.ne_of_lt hi), by simp⟩
    · exact ⟨by simp, cap', by simp only [upd_same], q3, q4, by simp only [upd_same]; exact q6.symm⟩
    · refine hmv _ fun ρ' n' hn' hρ' => ⟨cur', by rw [tyw]; exact q5, rfl, ?_⟩
      have hsz : (olds ++ ys).length ≤ cur'.size := by
        have := congrArg List.length q7
        rw [List.length_take, List.length_append, Array.length_toList, l1, s4] at this
        rw [List.length_append, s6]; omega
      refine ⟨hsz, fun p y hy => ?_⟩
      have hp := (List.getElem?_eq_some_iff.1 hy).1
      have hall : cur'[p]? = (oldv ++ news)[p]? := by
        rw [← q7, List.getElem?_take, if_pos (by rw [List.length_append, l2, s6, ← Nat.add_mul] at hp; exact hp)]; simp
      rw [hall]
      by_cases hpo : p < olds.length
      · rw [List.getElem?_append_left hpo] at hy
        obtain ⟨u, h1, h2⟩ := hol p y hy
        exact ⟨u, by rw [List.getElem?_append_left (by omega)]; exact h1, h2.mono hρ' hn'⟩
      · rw [List.getElem?_append_right (by omega)] at hy
        obtain ⟨u, h1, h2⟩ := s7 _ y hy
        exact ⟨u, by rw [List.getElem?_append_right (by omega), l1]; exact h1, h2.mono hρ' hn'⟩
  unfold destC at hdst
  split at hdst
  · rename_i b' z n'
    split at hdst
    · rename_i ty xs hm
      cases hc : Nat.beq z inf.size && Nat.beq ty (Nat.mul 2 e) && Nat.ble (n' * inf.size) xs.length <;> simp only [hc, cond_true, cond_false] at hdst
      · cases hdst
      simp only [Bool.and_eq_true, Nat.ble_eq] at hc
      obtain ⟨⟨c1, c2⟩, c3⟩ := hc
      have c1 := Nat.eq_of_beq_eq_true c1
      have c2 := Nat.eq_of_beq_eq_true c2
      subst c1; subst c2
      cases hdst
      cases hr
      obtain ⟨d1, cap, d2, d3, d4, d5⟩ := hsv
      obtain ⟨cur, m1, m2, m3⟩ := h.mr.mem _ _ hm
      rw [tyw] at m1
      obtain ⟨g', cap', cur', w', hrun, q3, q4, q5, q6, q7, q8⟩ := run_app2 (P := P) (w := w) (t := t) (ty := o.type) (x := bd) (c := c') hu hinf hz rfl hzs d3 d4 m1 (by rw [m2, d5]) s8 s4 s5 hb47 (by omega)
      have hxl : (xs.take (n * inf.size)).length = n * inf.size := by rw [List.length_take]; omega
      have hcur : n * inf.size ≤ cur.size := by rw [m2, ← d5]; exact Nat.mul_le_mul_right _ d3
      refine fin g' cap' cur' w' (cur.toList.take (n * inf.size)) (hexec _ _ d2 _ _ hrun rfl) q3 q4 q5 q6 q7 (by rw [hxl, List.length_take, Array.length_toList]; omega) hxl (fun p y hy => ?_) fun bk hbk => ?_
      · rw [List.getElem?_take] at hy
        split at hy
        · rename_i hlt
          obtain ⟨u, h1, h2⟩ := m3.2 p y hy
          exact ⟨u, by rw [List.getElem?_take, if_pos hlt]; simpa using h1, h2⟩
        · cases hy
      · rcases q8 with ⟨hge, hgr⟩ | ⟨rfl, hgr⟩
        · refine h.mr.move (fun i c hne hi hc => ?_) (Fr.grown h.mr hgr (fun g hg => by cases hg)) (.inl (Nat.le_trans h.mr.fr.size hge)) hbk
          have := h.mr.live_lt hi hc
          exact ⟨hgr.block _ this (by simp), by simp only; omega⟩
        · have hth : (Bk.cells (Nat.mul 2 e) xs).there X.E := trivial
          refine h.mr.move (fun i c hne hi hc => ?_) (Fr.grown h.mr hgr (fun g hg => ⟨b, _, hm, ro_two e, hth, by cases hg; rfl⟩)) ?_ hbk
          · have hne' : (ρ i).g ≠ (ρ b).g := fun e => hne (h.mr.inj i b _ _ hi hm hc hth e)
            exact ⟨hgr.block _ (h.mr.live_lt hi hc) (by simp [hne']), hne'⟩
          · by_cases hin : b < X.n0
            · exact .inr ⟨b, hin, by rw [h.mr.old b hin]⟩
            · exact h.mr.new b _ (by omega) hm (ro_two e) hth
    · cases hdst
  · cases hdst
    simp only [Cr] at hsv
    cases k with
    | zero =>
      cases hr
      have hn0 : news = [] := List.eq_nil_of_length_eq_zero (by simpa using s4)
      have hf0 : (Builtin.firstCells inf.size 0 (.slice bd 0 c')).run P w = .ok #[] w := by
        cases bd <;> simp [Builtin.firstCells, loadCells, loadCellsFrom]
      have hrun : (Builtin.append_ #[t, t] o.type #[.slice none 0 0, .slice bd 0 c']).run P w = .ok (.slice none 0 0) w := by
        simp [Builtin.append_, run_underlying hu, sizeOf, typeInfo, hinf, Builtin.lenOf, hf0]
      exact OpOk.pure h (v := .slice none 0 0) fun _ => ⟨hexec _ _ hsv _ _ hrun rfl, rfl⟩
    | succ k =>
      cases hr
      obtain ⟨ad, rfl, hcell⟩ := s8 (by omega)
      have hr2 := run_append_nil (P := P) w t o.type e inf zv hu hinf hz ad (k + 1) c' news s4 hcell (by omega) (by omega) (by simp only [Nat.zero_add] at hb47; omega)
      have hge := grownCap_ge w (k + 1) 0 e
      have hcm' : grownCap w (k + 1) 0 e ≤ maxLen := grownCap_le_maxLen w (k + 1) 0 e (by simp only [maxLen]; omega)
      refine fin w.heap.size _ _ _ [] (hexec _ _ hsv _ _ hr2 (by simp)) (by simpa using hge) hcm' (heap_alloc_new w.drew _) ?_ ?_ rfl (by simp) (fun p y hy => by simp at hy) fun bk hbk => ?_
      · simp only [Array.size_append, List.size_toArray, size_zeroCells, hzs, s4, ← Nat.add_mul]
        congr 1; omega
      · simp only [Array.toList_append, List.nil_append, Nat.zero_add]
        rw [← s4]
        exact List.take_left
      · have hgr : w.grownBy (w.drew.alloc (.cells (news.toArray ++ Builtin.zeroCells zv.cells (grownCap w (k + 1) 0 e - (k + 1))) e)) none := ⟨rfl, rfl, rfl, by simp, fun k hk _ => heap_alloc_old w.drew _ hk⟩
        refine h.mr.move (fun i c hne hi hc => ?_) (Fr.grown h.mr hgr (fun g hg => by cases hg)) (.inl h.mr.fr.size) hbk
        have := h.mr.live_lt hi hc
        exact ⟨hgr.block _ this (by simp), by simp only; omega⟩
  · cases hdst
end ops
end Go.Sy
