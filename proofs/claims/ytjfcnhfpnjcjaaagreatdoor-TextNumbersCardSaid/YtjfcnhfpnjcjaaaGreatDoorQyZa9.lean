/- Part Za9 of a checked reader of Go texts in their model form: it runs a function at terms in the place of numbers, and each part proves that its answers hold of the model. -/
import Derived.Test.YtjfcnhfpnjcjaaaGreatDoorQyZa6
namespace Go.E3
open Go.Sy
noncomputable section
variable {P : Program} {pc : Pc} {o : Oper}

/-! 'append', 'copy' -/
/-- A slice's cells. -/
def srcC (sz : Nat) (m : Tri B) : C → Option (Nat × List C)
  | .nils => some (0, [])
  | .slc b o n _ => bif Nat.beq (Nat.mul n sz) 0 then (bif Nat.beq n 0 then some (0, []) else none) else match blkR (m.get b) with
    | some (k, d, t) => match rdCells k d t (Nat.mul n sz) o with
      | some xs => some (n, xs)
      | none => none
    | _ => none
  | _ => none
structure Src (E : Env) (ρ : Pt → Rb) (D : Pt → Prop) (w : World) (sz : Nat) (v : Value) (k : Nat) (ys : List C) : Prop where
  ok : ∀ y ∈ ys, y.ok E ρ D
  len : ys.length = k * sz
  val : ∃ ad cap, v = .slice ad k cap ∧ (0 < k → ∃ d, ad = some d ∧ ∀ j u, (ys.map (C.val E ρ))[j]? = some u → w.cell? (d.add j) = some u)
theorem srcC_ok {E : Env} {ρ : Pt → Rb} {D : Pt → Prop} {m : Tri B} {w : World} (hm : MR E ρ D m w) {sz : Nat} {c : C} (hc : c.ok E ρ D) {k : Nat} {ys : List C} (h : srcC sz m c = some (k, ys)) : Src E ρ D w sz (c.val E ρ) k ys := by
  cases c <;> try (cases h; done)
  case nils =>
    cases h
    exact ⟨(fun _ h => nomatch h), by simp, none, 0, rfl, fun h => absurd h (Nat.lt_irrefl _)⟩
  case slc b o n cp =>
    simp only [srcC] at h
    cases hz : Nat.beq (Nat.mul n sz) 0 <;> simp only [hz, cond_true, cond_false] at h
    · split at h
      · rename_i k' d t hb
        split at h
        · rename_i xs hxs
          cases h
          obtain ⟨cs, ty, fz, g1, g5⟩ := blkR_ok hm hc.1 hb
          have hpos : 0 < Nat.mul k sz := Nat.pos_of_ne_zero (Nat.ne_of_beq_eq_false hz)
          obtain ⟨p1, p2, p3⟩ := rdCells_val g5 hpos hxs
          refine ⟨p2, (rdCells_ok hxs).1, some ⟨(ρ b).g, o, none⟩, _, rfl, fun _ => ⟨_, rfl, fun j u hu => ?_⟩⟩
          rw [addr_add, cell_of_row w _ _ cs _ _ g1]
          have hj : j < ys.length := by have := (List.getElem?_eq_some_iff.1 hu).1; simpa using this
          obtain ⟨q1, q2⟩ := rdCells_ok hxs
          have := (g5 _ _ (q2 j ys[j] (List.getElem?_eq_getElem hj))).2
          rw [this]
          rw [List.getElem?_map, List.getElem?_eq_getElem hj] at hu
          exact hu
        · cases h
      · cases h
    · cases hn : Nat.beq n 0 <;> simp only [hn, cond_true, cond_false] at h
      · cases h
      · cases h
        have := Nat.eq_of_beq_eq_true hn
        subst this
        exact ⟨(fun _ h => nomatch h), by simp, some _, _, rfl, fun h => absurd h (Nat.lt_irrefl _)⟩
/-- A block that grows: under a new number. -/
theorem MR.grown {E : Env} {ρ : Pt → Rb} {D : Pt → Prop} {m : Tri B} {w w' : World} (h : MR E ρ D m w) {b nx : Pt} {x : B} (hb : D b) (hbm : ∃ y, m.get b = some y) (hnx : ¬ D nx) {g' z : Nat}
    (hx : BR E (upd ρ nx ⟨g', z⟩) (Un D (Rg nx nx.succ)) z x w'.heap[g']?) (hg : (w.heap.size ≤ g' ∧ w.grownBy w' none) ∨ (g' = (ρ b).g ∧ w.grownBy w' (some g'))) (ho : w'.os = w.os) (ht : w'.tape = w.tape) (hout : w'.output = w.output) :
    Turn E ρ D m nx w (upd ρ nx ⟨g', z⟩) ((m.put b none).put nx (some x)) nx.succ w' := by
  have hne : b ≠ nx := fun e => hnx (e ▸ hb)
  have hsize : w.heap.size ≤ w'.heap.size := by rcases hg with ⟨_, hg⟩ | ⟨_, hg⟩ <;> exact hg.size
  have hheap : ∀ k, k < w.heap.size → k ≠ (ρ b).g → w'.heap[k]? = w.heap[k]? := by
    intro k hk hkb
    rcases hg with ⟨_, hg⟩ | ⟨e, hg⟩
    · exact hg.block k hk (by simp)
    · exact hg.block k hk (by rw [e]; simp; exact hkb)
  have g : Grow ρ D (upd ρ nx ⟨g', z⟩) (Un D (Rg nx nx.succ)) := grow_upd hnx _ _
  have old : ∀ p, Un D (Rg nx nx.succ) p → p ≠ nx → D p := fun p hp hne => hp.elim id fun hp => (hne ((rg_succ _ _).1 hp)).elim
  have get' : ∀ p y, p ≠ nx → ((m.put b none).put nx (some x)).get p = some y → p ≠ b ∧ m.get p = some y := by
    intro p y hp hy
    rw [Tri.get_put, if_neg fun e => hp e.symm, Tri.get_put] at hy
    split at hy
    · cases hy
    · rename_i e; exact ⟨fun h => e h.symm, hy⟩
  obtain ⟨y0, hy0⟩ := hbm
  refine ⟨by rw [Pt.succ_num]; omega, g.rb, ⟨h.gl.turn (fun k hk hkb => hheap k hk fun e => hkb b hb e.symm) (fun p hp => ?_), fun p y hp hy => ?_, fun p q y y' hp hq hy hy' hgg => ?_⟩, fun p hp hr => ?_, fun p hp => ?_, ho, ht, hout, hsize, fun k hk hkb => hheap k hk fun e => hkb b hb e.symm⟩
  · rcases hp with hp | hp
    · exact .inl ⟨hp, by rw [g.rb p hp]⟩
    · rw [(rg_succ _ _).1 hp, upd_same]
      rcases hg with ⟨hg, _⟩ | ⟨hg, _⟩
      · exact .inr (.inl hg)
      · exact .inr (.inr ⟨b, hb, hg⟩)
  · by_cases e : p = nx
    · subst e
      rw [Tri.get_put_same] at hy
      cases hy
      rw [upd_same]; exact hx
    · obtain ⟨h1, h2⟩ := get' p y e hy
      have hD := old p hp e
      have h3 := h.mem p y hD h2
      rw [upd_ne _ _ e, hheap _ h3.lt fun hc => h1 (h.inj p b y y0 hD hb h2 hy0 hc)]
      exact h3.grow g
  · have one : ∀ p y, Un D (Rg nx nx.succ) p → p ≠ nx → ((m.put b none).put nx (some x)).get p = some y → (ρ p).g ≠ g' := by
      intro p y hp hpn hy hc
      obtain ⟨h1, h2⟩ := get' p y hpn hy
      have hD := old p hp hpn
      rcases hg with ⟨hg, _⟩ | ⟨hg, _⟩
      · have := (h.mem p y hD h2).lt; omega
      · exact h1 (h.inj p b y y0 hD hb h2 hy0 (hc.trans hg))
    by_cases e1 : p = nx
    · by_cases e2 : q = nx
      · rw [e1, e2]
      · rw [e1, upd_same, upd_ne _ _ e2] at hgg
        exact (one q y' hq e2 hy' hgg.symm).elim
    · by_cases e2 : q = nx
      · rw [e2, upd_same, upd_ne _ _ e1] at hgg
        exact (one p y hp e1 hy hgg).elim
      · rw [upd_ne _ _ e1, upd_ne _ _ e2] at hgg
        exact h.inj p q y y' (old p hp e1) (old q hq e2) (get' p y e1 hy).2 (get' q y' e2 hy').2 hgg
  · have e1 : nx ≠ p := fun e => hr ((rg_succ _ _).2 e.symm)
    have e2 : b ≠ p := fun e => hp (e ▸ hb)
    rw [Tri.get_put, if_neg e1, Tri.get_put, if_neg e2]
  · rw [(rg_succ _ _).1 hp, upd_same]
    rcases hg with ⟨hg, _⟩ | ⟨hg, _⟩
    · exact .inl hg
    · exact .inr ⟨b, hb, hg⟩
theorem Turn.undraw {E : Env} {ρ ρ' : Pt → Rb} {D : Pt → Prop} {m m' : Tri B} {nx nx' : Pt} {w w' : World} (h : Turn E ρ D m nx w.drew ρ' m' nx' w') : Turn E ρ D m nx w ρ' m' nx' w' :=
  ⟨h.le, h.rb, h.mr, h.off, h.new, h.os, h.tape, h.output, h.size, h.heap⟩
theorem MR.drew {E : Env} {ρ : Pt → Rb} {D : Pt → Prop} {m : Tri B} {w : World} (h : MR E ρ D m w) : MR E ρ D m w.drew := ⟨h.gl.sub rfl fun _ hb => ⟨hb, rfl⟩, h.mem, h.inj⟩

section
variable {w : World}
/-- 'append' onto a block's slice, of whatever length. -/
theorem run_app2 {t ty e : TypeId} {inf : TypeInfo} {zv : Value} {sz : Nat} (ht : P.underlying t = some (.slice e)) (hi : P.info? e = some inf) (hz : inf.zero = some zv) (hsize : inf.size = sz) (hzs : zv.cells.size = sz)
    {n cap k c g : Nat} {x : Option Addr} {cur : Array Value} {news : List Value} (hn : n ≤ cap) (hcm : cap ≤ maxLen)
    (hg : w.heap[g]? = some (.cells cur e (0, 0))) (hs : cur.size = cap * sz)
    (hx : 0 < k → ∃ ad, x = some ad ∧ ∀ j u, news[j]? = some u → w.cell? (ad.add j) = some u) (hl : news.length = k * sz) (h1 : ∀ u ∈ news, u.oneCell' = true)
    (hb : (n + k) * inf.bytes ≤ 140737488355328) (h63 : n + k ≤ 4611686018427387904) :
    ∃ g' cap' cur' w', (Builtin.append_ #[t, t] ty #[.slice (some ⟨g, 0, none⟩) n cap, .slice x k c]).run P w = .ok (.slice (some ⟨g', 0, none⟩) (n + k) cap') w' ∧
      n + k ≤ cap' ∧ cap' ≤ maxLen ∧ w'.heap[g']? = some (.cells cur' e (0, 0)) ∧ cur'.size = cap' * sz ∧ cur'.toList.take ((n + k) * sz) = cur.toList.take (n * sz) ++ news ∧
      ((w.heap.size ≤ g' ∧ w.grownBy w' none) ∨ (g' = g ∧ w.grownBy w' (some g))) := by
  subst hsize
  have hml : n + k ≤ maxLen := by simp only [maxLen]; omega
  have hfit0 : n * inf.size ≤ cur.size := by rw [hs]; exact Nat.mul_le_mul_right _ hn
  have hlo : (cur.toList.take (n * inf.size)).length = n * inf.size := by rw [List.length_take, Array.length_toList]; omega
  by_cases hk : k = 0
  · subst hk
    have hnews : news = [] := List.eq_nil_of_length_eq_zero (by simpa using hl)
    subst hnews
    have hf0 : ∀ y : Option Addr, (Builtin.firstCells inf.size 0 (.slice y 0 c)).run P w = .ok #[] w := by
      intro y; cases y <;> simp [Builtin.firstCells, loadCells, loadCellsFrom]
    have hrun : (Builtin.append_ #[t, t] ty #[.slice (some ⟨g, 0, none⟩) n cap, .slice x 0 c]).run P w = .ok (.slice (some ⟨g, 0, none⟩) n cap) w := by
      simp [Builtin.append_, run_underlying ht, sizeOf, typeInfo, hi, Builtin.lenOf, hn, hf0, storeCells]
    exact ⟨g, cap, cur, w, hrun, hn, hcm, hg, hs, by simp, .inr ⟨rfl, ⟨rfl, rfl, rfl, Nat.le_refl _, fun _ _ _ => rfl⟩⟩⟩
  · obtain ⟨ad, rfl, hcell⟩ := hx (by omega)
    by_cases hroom : n + k ≤ cap
    · have hfit : n * inf.size + news.length ≤ cur.size := by rw [hl, hs, ← Nat.add_mul]; exact Nat.mul_le_mul_right _ hroom
      have hr := run_append_room (P := P) w t ty e inf ht hi g n cap cur hg ad k c news hl hcell h1 hroom hfit
      refine ⟨g, cap, _, _, hr, hroom, hcm, setRow_heap w g cur _ e _ hg, ?_, ?_, .inr ⟨rfl, ⟨rfl, rfl, rfl, by simp, fun k _ hk => setRow_other w g k _ (fun e => hk (by rw [e]))⟩⟩⟩
      · simp only [List.size_toArray, List.length_append, List.length_take, List.length_drop, Array.length_toList]
        omega
      · have hlen : (cur.toList.take (n * inf.size) ++ news).length = (n + k) * inf.size := by rw [List.length_append, hlo, hl, Nat.add_mul]
        rw [← hlen]
        exact List.take_left
    · have holds : ∀ j u, (cur.toList.take (n * inf.size))[j]? = some u → w.cell? ((⟨g, 0, none⟩ : Addr).add j) = some u := by
        intro j u hj
        rw [addr_add, Nat.zero_add, cell_of_row w g j cur e (0, 0) hg]
        rw [List.getElem?_take] at hj
        split at hj
        · simpa using hj
        · cases hj
      have hr := run_append_grow (P := P) w t ty e inf zv ht hi hz ⟨g, 0, none⟩ n cap _ hlo holds ad k c news hl hcell (by omega) (by omega) (growslice_fits (by omega) hb)
      have hge := grownCap_ge w (n + k) cap e
      have hcm' : grownCap w (n + k) cap e ≤ maxLen := grownCap_le_maxLen w (n + k) cap e hml
      have hlen : (cur.toList.take (n * inf.size) ++ news).length = (n + k) * inf.size := by rw [List.length_append, hlo, hl, Nat.add_mul]
      have harr : (cur.toList.take (n * inf.size)).toArray ++ news.toArray = (cur.toList.take (n * inf.size) ++ news).toArray := by simp
      refine ⟨_, _, _, _, hr, hge, hcm', heap_alloc_new w.drew _, ?_, ?_, .inl ⟨Nat.le_refl _, ⟨rfl, rfl, rfl, by simp, fun k hk _ => heap_alloc_old w.drew _ hk⟩⟩⟩
      · rw [harr]
        simp only [Array.size_append, List.size_toArray, size_zeroCells, hzs, hlen, ← Nat.add_mul]
        congr 1
        omega
      · rw [harr]
        simp only [Array.toList_append]
        rw [← hlen]
        exact List.take_left
end
def evApp (pc : Pc) (e : TypeId) (sz : Nat) (x y : Operand) (s : Tri L) (m : Tri B) (nx : Pt) : Option (Option L × Tri B × Pt) := match opC pc s y with
  | none => none
  | some cy => match srcC sz m cy with
    | none => none
    | some (k, ys) => match opC pc s x with
      | some .nils => bif Nat.beq k 0 then some (some (.a (.c .nils)), m, nx) else bif Nat.ble k 65536 then putsK ys .e 0 fun t => m.putK nx (some (.cells e (Nat.mul k sz) false [] t)) fun m => nx.sucK fun nx' => some (some (.a (.c (.slc nx 0 k (.r sz 0)))), m, nx') else none
      | some (.slc b o n cp) => bif Nat.beq k 0 then some (some (.a (.c (.slc b o n cp))), m, nx) else bif Nat.ble (Nat.add n k) 65536 then match cp with
        | .r z 0 => bif Nat.beq z sz && Nat.beq o 0 then match m.get b with
          | some (.cells ty q _ d t) => bif Nat.beq ty e && Nat.ble (Nat.mul n sz) q then
              putsK ys t (Nat.mul n sz) fun t => m.putK b none fun m => m.putK nx (some (.cells e (Nat.mul (Nat.add n k) sz) false d t)) fun m => nx.sucK fun nx' => some (some (.a (.c (.slc nx 0 (Nat.add n k) (.r sz 0)))), m, nx') else none
          | _ => none
          else none
        | .k cap => bif Nat.ble (Nat.add n k) cap then (bif Nat.beq o 0 then match m.get b with
            | some (.cells ty q kk d t) => bif Nat.beq ty e && Nat.ble (Nat.mul (Nat.add n k) sz) q then
                putsK ys t (Nat.mul n sz) fun t => m.putK b (some (.cells e q kk d t)) fun m => some (some (.a (.c (.slc b 0 (Nat.add n k) (.k cap)))), m, nx) else none
            | _ => none
            else none)
          else match srcC sz m (.slc b o n cp) with
            | some (_, xs) => putsK xs .e 0 fun t => putsK ys t (Nat.mul n sz) fun t => m.putK nx (some (.cells e (Nat.mul (Nat.add n k) sz) false [] t)) fun m => nx.sucK fun nx' => some (some (.a (.c (.slc nx 0 (Nat.add n k) (.r sz 0)))), m, nx')
            | none => none
        | _ => none
        else none
      | _ => none
section
variable {E : Env} {ρ : Pt → Rb} {D : Pt → Prop} {m : Tri B} {w : World}
/-- A new block of cells that are told. -/
theorem app_new (hm : MR E ρ D m w) {nx : Pt} (hnx : ¬ D nx) {e : TypeId} {sz n cap : Nat} (hpos : 0 < sz) {t : Tri C} {cur : Array Value} (hcur : cur.size = cap * sz) (hn : n ≤ cap) (hml : cap ≤ maxLen)
    (hc : ∀ i x, cellAt (n * sz) [] t i = some x → x.ok E ρ D ∧ cur[i]? = some (x.val E ρ)) :
    Turn E ρ D m nx w (upd ρ nx ⟨w.heap.size, cap * sz⟩) (m.put nx (some (.cells e (n * sz) false [] t))) nx.succ (w.drew.alloc (.cells cur e)) ∧
    (C.slc nx 0 n (.r sz 0)).ok E (upd ρ nx ⟨w.heap.size, cap * sz⟩) (Un D (Rg nx nx.succ)) ∧ (C.slc nx 0 n (.r sz 0)).val E (upd ρ nx ⟨w.heap.size, cap * sz⟩) = .slice (some ⟨w.heap.size, 0, none⟩) n cap := by
  have hd : cap * sz / sz = cap := Nat.mul_div_cancel _ hpos
  refine ⟨(hm.drew.alloc (z := cap * sz) (x := .cells e (n * sz) false [] t) (ob := .cells cur e) hnx ⟨cur, rfl, hcur, Nat.mul_le_mul_right _ hn, fun h => by simp at h, fun i x hx => ?_⟩).undraw, ⟨.inr ((rg_succ _ _).2 rfl), ?_, ?_⟩, ?_⟩
  · obtain ⟨h1, h2⟩ := hc i x hx
    obtain ⟨h3, h4⟩ := x.grow (grow_upd hnx ⟨w.heap.size, cap * sz⟩ (Rg nx nx.succ)) h1
    exact ⟨h3, by rw [h2, ← h4]; rfl⟩
  · simp only [Cp.val, upd_same, hd]; omega
  · simp only [Cp.fit, upd_same, hd]; exact ⟨trivial, hml⟩
  · simp only [C.val, Cp.val, upd_same, hd, Nat.sub_zero]
end
theorem cellAt_to {n1 n2 : Nat} {d : List C} {t : Tri C} {i : Nat} {x : C} (h : cellAt n1 d t i = some x) (hi : i < n2) : cellAt n2 d t i = some x := by
  unfold cellAt at h ⊢
  cases hb : Nat.ble n1 i <;> simp only [hb, cond_true, cond_false] at h
  · cases hb2 : Nat.ble n2 i <;> simp only [cond_true, cond_false]
    · exact h
    · rw [Nat.ble_eq] at hb2; omega
  · cases h
theorem evApp_ok {c : Call} (ho : o.op = .call c) (hcal : c.callee = .builtin .append) {x y : Operand} (hargs : c.args.toList = [x, y]) {t e : TypeId} (hty : c.argTypes.toList = [t, t]) (hu : P.underlying t = some (.slice e)) {inf : TypeInfo} (hinf : P.info? e = some inf) {zv : Value} (hz : inf.zero = some zv) (hzs : zv.cells.size = inf.size) (hpos : 0 < inf.size) (hby : inf.bytes ≤ 65536) :
    EffOk P pc o (evApp pc e inf.size x y) := by
  intro s m nx l m' nx' hf E ρ D ev w hp hops hm hfr
  have mx : x ∈ o.op.operands.toList := by simp [ho, Op.operands, Call.operands, args2 hargs]
  have my : y ∈ o.op.operands.toList := by simp [ho, Op.operands, Call.operands, args2 hargs]
  have hexec : ∀ v1 v2, ev x = v1 → ev y = v2 → ∀ v' w', (Builtin.append_ #[t, t] o.type #[v1, v2]).run P w = .ok v' w' → (execOp ev o).run P w = .ok (.value v') w' := by
    intro v1 v2 h1 h2 v' w' hrun
    have e2 : c.argTypes = #[t, t] := by apply Array.ext'; simpa using hty
    simp only [execOp, ho, resolve, invoke, builtin, hcal, args2 hargs, e2, Sem.run_bind, Sem.run_pure, Result.andThen_ok, List.map_toArray, List.map_cons, List.map_nil, h1, h2, hrun]
  unfold evApp at hf
  split at hf
  · cases hf
  · rename_i cy hy
    obtain ⟨y1, y2⟩ := opC_ok hp hops my hy
    split at hf
    · cases hf
    · rename_i k ys hsrc
      obtain ⟨s1, s2, ad, scap, s3, s4⟩ := srcC_ok hm y1 hsrc
      have hone : ∀ u ∈ ys.map (C.val E ρ), u.oneCell' = true := fun u hu => by
        obtain ⟨z, hz', rfl⟩ := List.mem_map.1 hu
        exact C.one (s1 z hz')
      have hnl : (ys.map (C.val E ρ)).length = k * inf.size := by rw [List.length_map, s2]
      rw [s3] at y2
      split at hf
      · rename_i hx
        obtain ⟨x1, x2⟩ := opC_ok hp hops mx hx
        cases hk : Nat.beq k 0 <;> simp only [hk, cond_true, cond_false] at hf
        · have hk0 : k ≠ 0 := Nat.ne_of_beq_eq_false hk
          cases hle : Nat.ble k 65536 <;> simp only [hle, cond_true, cond_false] at hf
          · cases hf
          rw [Nat.ble_eq] at hle
          rw [putsK_eq, Tri.putK_eq, Pt.sucK_eq] at hf
          cases hf
          obtain ⟨d, hd, hcell⟩ := s4 (by omega)
          have hnx : ¬ D nx := hfr nx ((rg_succ _ _).2 rfl)
          have hb47 : k * inf.bytes ≤ 281474976710656 := by
            have : k * inf.bytes ≤ 65536 * 65536 := Nat.mul_le_mul hle hby
            omega
          have hrun := run_append_nil (P := P) w t o.type e inf zv hu hinf hz d k scap _ hnl hcell (by omega) (by omega) hb47
          have hge := grownCap_ge w k 0 e
          have hcs : ((ys.map (C.val E ρ)).toArray ++ Builtin.zeroCells zv.cells (grownCap w k 0 e - k)).size = grownCap w k 0 e * inf.size := by
            simp only [Array.size_append, List.size_toArray, size_zeroCells, hzs, hnl, ← Nat.add_mul]
            congr 1; omega
          obtain ⟨q1, q2, q3⟩ := app_new (e := e) (t := puts ys .e 0) hm hnx hpos hcs hge (grownCap_le_maxLen w k 0 e (by simp only [maxLen]; omega)) fun i z hz' => by
            have := cellAt_list hz'
            refine ⟨s1 z (List.mem_of_getElem? this), ?_⟩
            have hi : i < (ys.map (C.val E ρ)).toArray.size := by simp; exact (List.getElem?_eq_some_iff.1 this).1
            rw [Array.getElem?_append_left hi]; simp [this]
          refine ⟨_, _, _, hexec _ _ x2 (by rw [y2, hd]) _ _ hrun, q1, ?_, q2⟩
          simp only [L.val, A.val]; exact congrArg _ q3.symm
        · cases hf
          have := Nat.eq_of_beq_eq_true hk
          subst this
          have hf0 : ∀ y : Option Addr, (Builtin.firstCells inf.size 0 (.slice y 0 scap)).run P w = .ok #[] w := by
            intro y; cases y <;> simp [Builtin.firstCells, loadCells, loadCellsFrom]
          have hrun : (Builtin.append_ #[t, t] o.type #[.slice none 0 0, .slice ad 0 scap]).run P w = .ok (.slice none 0 0) w := by
            simp [Builtin.append_, run_underlying hu, sizeOf, typeInfo, hinf, Builtin.lenOf, hf0]
          exact ⟨_, w, ρ, hexec _ _ x2 y2 _ _ hrun, Turn.refl hm, rfl, trivial⟩
      · rename_i b o' n cp hx
        obtain ⟨x1, x2⟩ := opC_ok hp hops mx hx
        obtain ⟨hbD, hncap, hfit⟩ := x1
        cases hk : Nat.beq k 0 <;> simp only [hk, cond_true, cond_false] at hf
        · have hk0 : k ≠ 0 := Nat.ne_of_beq_eq_false hk
          cases hle : Nat.ble (Nat.add n k) 65536 <;> simp only [hle, cond_true, cond_false] at hf
          · cases hf
          rw [Nat.ble_eq] at hle
          change n + k ≤ 65536 at hle
          obtain ⟨d, hd, hcell⟩ := s4 (by omega)
          have hb47 : (n + k) * inf.bytes ≤ 140737488355328 := by
            have : (n + k) * inf.bytes ≤ 65536 * 65536 := Nat.mul_le_mul hle hby
            omega
          split at hf
          · rename_i z
            cases hq : Nat.beq z inf.size && Nat.beq o' 0 <;> simp only [hq, cond_true, cond_false] at hf
            · cases hf
            rw [Bool.and_eq_true] at hq
            have hq1 := Nat.eq_of_beq_eq_true hq.1
            have hq2 := Nat.eq_of_beq_eq_true hq.2
            subst hq1; subst hq2
            split at hf
            · rename_i ty q kk dd tt hb
              cases hr : Nat.beq ty e && Nat.ble (Nat.mul n inf.size) q <;> simp only [hr, cond_true, cond_false] at hf
              · cases hf
              rw [Bool.and_eq_true, Nat.ble_eq] at hr
              obtain ⟨hr1, hr2⟩ := hr
              have hr1 := Nat.eq_of_beq_eq_true hr1
              subst hr1
              change n * inf.size ≤ q at hr2
              rw [putsK_eq, Tri.putK_eq, Tri.putK_eq, Pt.sucK_eq] at hf
              cases hf
              have hnx : ¬ D nx := hfr nx ((rg_succ _ _).2 rfl)
              obtain ⟨cs, g1, g2, g3, g4, g5⟩ := hm.mem b _ hbD hb
              simp only [Cp.val, Nat.sub_zero] at hncap
              obtain ⟨hf1, hf2⟩ := hfit
              obtain ⟨g', cap', cur', w', hrun, q3, q4, q5, q6, q7, q8⟩ := run_app2 (P := P) (w := w) (ty := o.type) (c := scap) hu hinf hz rfl hzs hncap hf2 g1 (g2.trans hf1) (fun _ => ⟨d, hd, hcell⟩) hnl hone hb47 (by omega)
              have hlen : (n + k) * inf.size ≤ cur'.size := by rw [q6]; exact Nat.mul_le_mul_right _ q3
              have hsum : (n + k) * inf.size = n * inf.size + ys.length := by rw [Nat.add_mul, s2]
              have hrd : ∀ i, i < (n + k) * inf.size → cur'[i]? = (cs.toList.take (n * inf.size) ++ ys.map (C.val E ρ))[i]? := by
                intro i hi
                rw [← q7, List.getElem?_take, if_pos hi]; simp
              have htl : (cs.toList.take (n * inf.size)).length = n * inf.size := by rw [List.length_take, Array.length_toList]; omega
              have ho : w'.os = w.os ∧ w'.tape = w.tape ∧ w'.output = w.output := by rcases q8 with ⟨_, q8⟩ | ⟨_, q8⟩ <;> exact ⟨q8.os, q8.tape, q8.output⟩
              have key : ∀ i z, cellAt ((n + k) * inf.size) dd (puts ys tt (n * inf.size)) i = some z → z.ok E ρ D ∧ cur'[i]? = some (z.val E ρ) := by
                intro i z hz'
                have hi := cellAt_lt hz'
                rw [hrd i hi]
                rcases cellAt_puts hz' with ⟨z1, z2, z3⟩ | ⟨z1, z2⟩
                · refine ⟨s1 z (List.mem_of_getElem? z3), ?_⟩
                  rw [List.getElem?_append_right (by omega), htl]; simp [z3]
                · have hin : i < n * inf.size := by omega
                  obtain ⟨p1, p2⟩ := g5 i z (cellAt_to z2 (by omega))
                  refine ⟨p1, ?_⟩
                  rw [List.getElem?_append_left (by omega), List.getElem?_take, if_pos hin]
                  simpa using p2
              have hT := hm.grown (x := .cells ty ((n + k) * inf.size) false dd (puts ys tt (n * inf.size))) (z := cur'.size) (g' := g') (w' := w') hbD ⟨_, hb⟩ hnx (by
                rw [q5]
                refine ⟨cur', rfl, rfl, hlen, fun h => by simp at h, fun i z hz' => ?_⟩
                obtain ⟨p1, p2⟩ := key i z hz'
                obtain ⟨p3, p4⟩ := z.grow (grow_upd hnx ⟨g', cur'.size⟩ (Rg nx nx.succ)) p1
                exact ⟨p3, by rw [p2, p4]⟩) (q8.imp id fun ⟨e1, e2⟩ => ⟨e1, by rw [e1]; exact e2⟩) ho.1 ho.2.1 ho.2.2
              have hcd : cur'.size / inf.size = cap' := by rw [q6]; exact Nat.mul_div_cancel _ hpos
              refine ⟨_, w', _, hexec _ _ (by rw [x2]; simp only [C.val, Cp.val, Nat.sub_zero]) (by rw [y2, hd]) _ _ (hd ▸ hrun), hT, ?_, ⟨.inr ((rg_succ _ _).2 rfl), ?_, ?_⟩⟩
              · simp only [L.val, A.val, C.val, Cp.val, upd_same, hcd, Nat.sub_zero]; rfl
              · simp only [Cp.val, upd_same, hcd]; show n + k ≤ cap'; omega
              · simp only [Cp.fit, upd_same, hcd]; exact ⟨q6, q4⟩
            · cases hf
          · rename_i cap
            cases hroom : Nat.ble (Nat.add n k) cap <;> simp only [hroom, cond_true, cond_false] at hf
            · have hroom' : ¬ n + k ≤ cap := fun h => by rw [← Nat.ble_eq] at h; change Nat.ble (Nat.add n k) cap = true at h; rw [hroom] at h; cases h
              split at hf
              · rename_i n' xs hxs
                have hxo : (C.slc b o' n (.k cap)).ok E ρ D := ⟨hbD, hncap, hfit⟩
                obtain ⟨t1, t2, td, tcap, t3, t4⟩ := srcC_ok hm hxo hxs
                rw [putsK_eq, putsK_eq, Tri.putK_eq, Pt.sucK_eq] at hf
                cases hf
                have hnx : ¬ D nx := hfr nx ((rg_succ _ _).2 rfl)
                simp only [C.val, Value.slice.injEq] at t3
                obtain ⟨t3a, rfl, t3b⟩ := t3
                have holds : ∀ j u, (xs.map (C.val E ρ))[j]? = some u → w.cell? ((⟨(ρ b).g, o', none⟩ : Addr).add j) = some u := by
                  intro j u hu'
                  have hpos' : 0 < n := by
                    rcases Nat.eq_zero_or_pos n with h0 | h0
                    · subst h0
                      have : xs = [] := List.eq_nil_of_length_eq_zero (by simpa using t2)
                      subst this; simp at hu'
                    · exact h0
                  obtain ⟨d', e1, e2⟩ := t4 hpos'
                  rw [← t3a] at e1; cases e1
                  exact e2 j u hu'
                have hlo : (xs.map (C.val E ρ)).length = n * inf.size := by rw [List.length_map, t2]
                have hrun := run_append_grow (P := P) w t o.type e inf zv hu hinf hz ⟨(ρ b).g, o', none⟩ n cap _ hlo holds d k scap _ hnl hcell (by omega) (by omega) (growslice_fits (by simp only [Cp.val] at hncap; omega) hb47)
                have hge := grownCap_ge w (n + k) cap e
                have hcs : ((xs.map (C.val E ρ)).toArray ++ (ys.map (C.val E ρ)).toArray ++ Builtin.zeroCells zv.cells (grownCap w (n + k) cap e - (n + k))).size = grownCap w (n + k) cap e * inf.size := by
                  simp only [Array.size_append, List.size_toArray, size_zeroCells, hzs, hnl, hlo, ← Nat.add_mul]
                  congr 1; omega
                obtain ⟨q1, q2, q3⟩ := app_new (e := e) (n := n + k) (t := puts ys (puts xs .e 0) (n * inf.size)) hm hnx hpos hcs hge (grownCap_le_maxLen w (n + k) cap e (by simp only [maxLen]; omega)) fun i z hz' => by
                  rcases cellAt_puts hz' with ⟨z1, z2, z3⟩ | ⟨z1, z2⟩
                  · refine ⟨s1 z (List.mem_of_getElem? z3), ?_⟩
                    rw [Array.getElem?_append_left (by simp [hlo, s2]; omega), Array.getElem?_append_right (by simp [t2]; omega)]
                    simp [t2, z3]
                  · have := cellAt_list z2
                    have hi := (List.getElem?_eq_some_iff.1 this).1
                    refine ⟨t1 z (List.mem_of_getElem? this), ?_⟩
                    rw [Array.getElem?_append_left (by simp; omega), Array.getElem?_append_left (by simp; omega)]
                    simp [this]
                refine ⟨_, _, _, hexec _ _ x2 (by rw [y2, hd]) _ _ hrun, q1, ?_, q2⟩
                simp only [L.val, A.val]; exact congrArg _ q3.symm
              · cases hf
            · rw [Nat.ble_eq] at hroom
              change n + k ≤ cap at hroom
              cases ho0 : Nat.beq o' 0 <;> simp only [ho0, cond_true, cond_false] at hf
              · cases hf
              have ho0 := Nat.eq_of_beq_eq_true ho0
              subst ho0
              split at hf
              · rename_i ty q kk dd tt hb
                cases hr : Nat.beq ty e && Nat.ble (Nat.mul (Nat.add n k) inf.size) q <;> simp only [hr, cond_true, cond_false] at hf
                · cases hf
                rw [Bool.and_eq_true, Nat.ble_eq] at hr
                obtain ⟨hr1, hr2⟩ := hr
                have hr1 := Nat.eq_of_beq_eq_true hr1
                subst hr1
                change (n + k) * inf.size ≤ q at hr2
                rw [putsK_eq, Tri.putK_eq] at hf
                cases hf
                obtain ⟨cs, g1, g2, g3, g4, g5⟩ := hm.mem b _ hbD hb
                have hfits : n * inf.size + (ys.map (C.val E ρ)).length ≤ cs.size := by rw [hnl, ← Nat.add_mul]; omega
                have hrun := run_append_room (P := P) w t o.type ty inf hu hinf (ρ b).g n cap cs g1 d k scap _ hnl hcell hone hroom hfits
                refine ⟨_, w.setRow (ρ b).g (cs.toList.take (n * inf.size) ++ ys.map (C.val E ρ) ++ cs.toList.drop (n * inf.size + (ys.map (C.val E ρ)).length)).toArray, ρ, hexec _ _ x2 (by rw [y2, hd]) _ _ hrun, ?_, rfl, by rw [un_self]; exact ⟨hbD, hroom, trivial⟩⟩
                refine hm.set (x := .cells ty q kk dd (puts ys tt (n * inf.size))) (ob := .cells (cs.toList.take (n * inf.size) ++ ys.map (C.val E ρ) ++ cs.toList.drop (n * inf.size + (ys.map (C.val E ρ)).length)).toArray ty (0, 0)) hbD hb ⟨_, rfl, ?_, g3, g4, fun i z hz' => ?_⟩ nx (setRow_heap w _ cs _ ty _ g1) (fun k hk => setRow_other w _ k _ hk) (by simp) rfl rfl rfl
                · simp only [List.size_toArray, List.length_append, List.length_take, List.length_drop, Array.length_toList]; omega
                · have hlt := cellAt_lt hz'
                  simp only [List.getElem?_toArray]
                  have htl : (cs.toList.take (n * inf.size)).length = n * inf.size := by rw [List.length_take, Array.length_toList]; omega
                  rcases cellAt_puts hz' with ⟨z1, z2, z3⟩ | ⟨z1, z2⟩
                  · refine ⟨s1 z (List.mem_of_getElem? z3), ?_⟩
                    rw [List.getElem?_append_left (by simp [htl]; omega), List.getElem?_append_right (by omega), htl]
                    simp [z3]
                  · obtain ⟨p1, p2⟩ := g5 i z z2
                    refine ⟨p1, ?_⟩
                    by_cases hi : i < n * inf.size
                    · rw [List.getElem?_append_left (by simp [htl]; omega), List.getElem?_append_left (by omega), List.getElem?_take, if_pos hi]
                      simpa using p2
                    · rw [List.getElem?_append_right (by simp [htl]; omega), List.getElem?_drop]
                      simp only [List.length_append, htl, List.length_map]
                      rw [show n * inf.size + ys.length + (i - (n * inf.size + ys.length)) = i by omega]
                      simpa using p2
              · cases hf
          · cases hf
        · cases hf
          have := Nat.eq_of_beq_eq_true hk
          subst this
          have hf0 : ∀ y : Option Addr, (Builtin.firstCells inf.size 0 (.slice y 0 scap)).run P w = .ok #[] w := by
            intro y; cases y <;> simp [Builtin.firstCells, loadCells, loadCellsFrom]
          have hrun : (Builtin.append_ #[t, t] o.type #[.slice (some ⟨(ρ b).g, o', none⟩) n (cp.val (ρ b).z), .slice ad 0 scap]).run P w = .ok (.slice (some ⟨(ρ b).g, o', none⟩) n (cp.val (ρ b).z)) w := by
            simp [Builtin.append_, run_underlying hu, sizeOf, typeInfo, hinf, Builtin.lenOf, hncap, hf0, storeCells]
          exact ⟨_, w, ρ, hexec _ _ x2 y2 _ _ hrun, Turn.refl hm, rfl, by rw [un_self]; exact ⟨hbD, hncap, hfit⟩⟩
      · cases hf
end
end Go.E3
