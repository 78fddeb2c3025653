/- Part 6 of a checked reader of Go texts in their model form: it runs a function at terms in the place of numbers, and each part proves that its answers hold of the model. -/
import Derived.Test.YtjblhcepokioeaaKy5
namespace Go.Sy
section ops
variable {P : Program} {X : Cx} {ρ : Nat → Rb} {st : St} {a : Act} {w : World} {o : Oper}

theorem addr_add [Fs] (g o k : Nat) : (⟨g, o, none⟩ : Addr).add k = ⟨g, o + k, none⟩ := by unfold Addr.add; split <;> simp_all

theorem run_loadVar_agg [Fs] {w : World} {g o n : Nat} {t ty : TypeId} {cs : Array Value} {fr : Nat × Nat} (hg : w.heap[g]? = some (.cells cs ty fr)) (ha : isAggT P t = some true) (hs : sizeT P t = some n) (hn : o + n ≤ cs.size) :
    (loadVar t ⟨g, o, none⟩).run P w = .ok (.agg (cs.extract o (o + n))) w := by
  have hl := run_loadCells_list (P := P) w ⟨g, o, none⟩ ((cs.toList.drop o).take n) (fun j v hv => by
    rw [addr_add, cell_of_row w g (o + j) cs ty fr hg]
    rw [List.getElem?_take, List.getElem?_drop] at hv
    split at hv
    · simpa using hv
    · cases hv)
  have hlen : ((cs.toList.drop o).take n).length = n := by simp; omega
  rw [hlen] at hl
  have he : ((cs.toList.drop o).take n).toArray = cs.extract o (o + n) := by
    apply Array.ext'
    simp [Array.toList_extract, List.extract_eq_take_drop]
  rw [he] at hl
  simp [loadVar, run_isAggT ha, run_sizeT hs, hl]
theorem run_loadVar_cell [Fs] {w : World} {g o : Nat} {t ty : TypeId} {cs : Array Value} {fr : Nat × Nat} {v : Value} (hg : w.heap[g]? = some (.cells cs ty fr)) (ha : isAggT P t = some false) (hv : cs[o]? = some v) :
    (loadVar t ⟨g, o, none⟩).run P w = .ok v w := by
  have hc : w.cell? ⟨g, o, none⟩ = some v := by rw [cell_of_row w g o cs ty fr hg]; exact hv
  simp [loadVar, run_isAggT ha, hc]

def rdIs (xs : List C) (p : Nat) (ix : T) (sz cnt : Nat) : Nat → Nat → Option (List C)
  | _, 0 => some []
  | j, n + 1 => match rdI xs (p + j) ix sz cnt with
    | some x => (rdIs xs p ix sz cnt (j + 1) n).map (x :: ·)
    | none => none
theorem rdIs_ok [Fs] {E : Env} {N : Nat} {xs : List C} {cs : Array Value} {p : Nat} {ix : T} {sz cnt : Nat} (hx : F2 (Cr E ρ N) xs cs) (h0 : 0 ≤ ix.den E) (h1 : ix.den E < cnt) :
    ∀ {n j : Nat} {zs : List C}, rdIs xs p ix sz cnt j n = some zs → zs.length = n ∧ (∀ i z, zs[i]? = some z → ∃ v, cs[p + (j + i) + (ix.den E).toNat * sz]? = some v ∧ Cr E ρ N z v) := by
  intro n
  induction n with
  | zero => intro j zs h; cases h; exact ⟨rfl, fun i z hz => by simp at hz⟩
  | succ n ih =>
    intro j zs h
    simp only [rdIs] at h
    split at h
    · rename_i x hx'
      cases hr : rdIs xs p ix sz cnt (j + 1) n with
      | none => simp [hr] at h
      | some zs' =>
        simp [hr] at h
        subst h
        obtain ⟨h2, h3⟩ := ih hr
        refine ⟨by simp [h2], fun i z hz => ?_⟩
        cases i with
        | zero => simp at hz; subst hz; exact rdI_ok hx' hx h0 h1
        | succ i =>
          simp at hz
          obtain ⟨v, h4, h5⟩ := h3 i z hz
          exact ⟨v, by rw [← h4]; congr 1; omega, h5⟩
    · cases h
theorem rdIs_F2 [Fs] {E : Env} {N : Nat} {xs : List C} {cs : Array Value} {p : Nat} {ix : T} {sz cnt : Nat} (hx : F2 (Cr E ρ N) xs cs) (h0 : 0 ≤ ix.den E) (h1 : ix.den E < cnt)
    {n : Nat} {zs : List C} (h : rdIs xs p ix sz cnt 0 n = some zs) : (n = 0 ∨ p + (ix.den E).toNat * sz + n ≤ cs.size) ∧ F2 (Cr E ρ N) zs (cs.extract (p + (ix.den E).toNat * sz) (p + (ix.den E).toNat * sz + n)) := by
  obtain ⟨h2, h3⟩ := rdIs_ok hx h0 h1 h
  have hle : n = 0 ∨ p + (ix.den E).toNat * sz + n ≤ cs.size := by
    cases n with
    | zero => exact .inl rfl
    | succ n =>
      right
      obtain ⟨v, h4, _⟩ := h3 n zs[n] (List.getElem?_eq_getElem (by omega))
      have := (Array.getElem?_eq_some_iff.1 h4).1
      omega
  refine ⟨hle, ?_, fun i z hz => ?_⟩
  · rw [Array.size_extract, h2]
    rcases hle with rfl | hle <;> omega
  · obtain ⟨v, h4, h5⟩ := h3 i z hz
    refine ⟨v, ?_, h5⟩
    have hi := (List.getElem?_eq_some_iff.1 hz).1
    rw [Array.getElem?_extract]
    have := (Array.getElem?_eq_some_iff.1 h4).1
    rw [if_pos (by omega), ← h4]
    congr 1; omega

def evLoad (P : Program) (st : St) (t : TypeId) (x : Operand) : Option OpR :=
  match opC st x with
  | some (.ptr b o) => match st.m[b]? with
    | some (.cells _ xs) => match isAggT P t with
      | some true => match sizeT P t with
        | some n => bif Nat.ble (o + n) xs.length then some ⟨.a (.agg ((xs.drop o).take n)), st.m, []⟩ else none
        | none => none
      | some false => match xs[o]? with
        | some y => some ⟨.a (.c y), st.m, []⟩
        | none => none
      | none => none
    | _ => none
  | some (.pti b o ix sz cnt) => match st.m[b]? with
    | some (.cells _ xs) => match isAggT P t with
      | some true => match sizeT P t with
        | some (n + 1) => match rdIs xs o ix sz cnt 0 (n + 1) with
          | some zs => some ⟨.a (.agg zs), st.m, []⟩
          | none => none
        | _ => none
      | some false => match rdI xs o ix sz cnt with
        | some y => some ⟨.a (.c y), st.m, []⟩
        | none => none
      | none => none
    | _ => none
  | _ => none
theorem evLoad_ok [Fs] (h : Rel X ρ st a w) {t : TypeId} {x : Operand} (ho : o.op = .load t x) {r : OpR} (hr : evLoad P st t x = some r) : OpOk P X ρ st a w o r := by
  unfold evLoad at hr
  split at hr
  · rename_i b o' hx
    obtain ⟨hb, hv⟩ := opC_ok h.toSRel hx
    split at hr
    · rename_i ty xs hm
      obtain ⟨cs, hg, hcs⟩ := h.mr.mem b _ hm
      split at hr
      · rename_i hagg
        split at hr
        · rename_i n hs
          cases hle : Nat.ble (o' + n) xs.length <;> simp only [hle, cond_true, cond_false] at hr
          · cases hr
          · cases hr
            rw [Nat.ble_eq] at hle
            refine OpOk.pure h (v := .agg (cs.extract o' (o' + n))) fun _ => ⟨?_, _, rfl, hcs.extract o' n⟩
            simp [execOp, ho, hv, Instr.loadAt, Instr.sureAddr, run_loadVar_agg hg hagg hs (by rw [hcs.1]; exact hle)]
        · cases hr
      · rename_i hagg
        split at hr
        · rename_i y hy
          cases hr
          obtain ⟨v, h1, h2⟩ := hcs.2 _ _ hy
          refine OpOk.pure h (v := v) fun _ => ⟨?_, h2⟩
          simp [execOp, ho, hv, Instr.loadAt, Instr.sureAddr, run_loadVar_cell hg hagg h1]
        · cases hr
      · cases hr
    · cases hr
  · rename_i b o' ix sz cnt hx
    obtain ⟨hb, h0, h1, hv⟩ := opC_ok h.toSRel hx
    split at hr
    · rename_i ty xs hm
      obtain ⟨cs, hg, hcs⟩ := h.mr.mem b _ hm
      split at hr
      · rename_i hagg
        split at hr
        · rename_i n hs
          split at hr
          · rename_i zs hz
            cases hr
            obtain ⟨h2, h3⟩ := rdIs_F2 hcs h0 h1 hz
            have hl : o' + (ix.den X.E).toNat * sz + (n + 1) ≤ cs.size := by
              rcases h2 with h2 | h2
              · omega
              · exact h2
            have hld := run_loadVar_agg (P := P) hg hagg hs hl
            refine OpOk.pure h (v := .agg _) fun _ => ⟨?_, _, rfl, h3⟩
            simp [execOp, ho, hv, Instr.loadAt, Instr.sureAddr, hld]
          · cases hr
        · cases hr
      · rename_i hagg
        split at hr
        · rename_i y hy
          cases hr
          obtain ⟨v, h2, h3⟩ := rdI_ok hy hcs h0 h1
          refine OpOk.pure h (v := v) fun _ => ⟨?_, h3⟩
          simp [execOp, ho, hv, Instr.loadAt, Instr.sureAddr, run_loadVar_cell hg hagg h2]
        · cases hr
      · cases hr
    · cases hr
  · cases hr

/-! writing -/
theorem run_storeVar_at [Fs] {w : World} {g o n : Nat} {t ty : TypeId} {cs : Array Value} {v : Value} (hg : w.heap[g]? = some (.cells cs ty (0, 0))) (hs : sizeT P t = some n) (hn : v.cells.size = n) (hle : o + n ≤ cs.size)
    (h1 : ∀ x ∈ v.cells, x.oneCell' = true) :
    (storeVar t ⟨g, o, none⟩ v).run P w = .ok () (w.setRow g ((cs.toList.take o).toArray ++ v.cells ++ (cs.toList.drop (o + n)).toArray)) := by
  have := run_storeCells_at P g o ty v.cells.toList 0 cs w hg (by simp; omega) (fun x hx => h1 x (by simpa using hx))
  simp only [Nat.add_zero, Array.length_toList, hn] at this
  have e : (cs.toList.take o ++ v.cells.toList ++ cs.toList.drop (o + n)).toArray = (cs.toList.take o).toArray ++ v.cells ++ (cs.toList.drop (o + n)).toArray := by
    apply Array.ext'; simp
  rw [e] at this
  simp [storeVar, run_sizeT hs, hn, this]
/-- Cells from 'q' on, one of 'cnt' rows of 'sz' cells at 'p' being overlaid, which 'ix' tells. -/
def wrI (p : Nat) (ix : T) (sz cnt : Nat) (ys : List C) : Nat → List C → Option (List C)
  | _, [] => some []
  | q, x :: rest => match wrI p ix sz cnt ys (q + 1) rest with
    | none => none
    | some r => bif Nat.ble p q && Nat.blt ((q - p) / sz) cnt then
        match ys[(q - p) % sz]? with
        | some y => (pickC (mk2 .eq ix (.lit ((q - p) / sz : Nat))) y x).map (· :: r)
        | none => some (x :: r)
      else some (x :: r)
theorem wrI_ok [Fs] {E : Env} {N : Nat} {p : Nat} {ix : T} {sz cnt : Nat} {ys : List C} {vs : Array Value} (hy : F2 (Cr E ρ N) ys vs) (h0 : 0 ≤ ix.den E) (h1 : ix.den E < cnt) (hsz : ys.length ≤ sz) (hpos : 0 < sz) :
    ∀ {xs : List C} {q : Nat} {zs : List C}, wrI p ix sz cnt ys q xs = some zs → zs.length = xs.length ∧
      ∀ (i : Nat) (z : C), zs[i]? = some z → ∃ x, xs[i]? = some x ∧ ∀ v, Cr E ρ N x v → Cr E ρ N z (if p + (ix.den E).toNat * sz ≤ q + i ∧ q + i < p + (ix.den E).toNat * sz + ys.length then vs.getD (q + i - (p + (ix.den E).toNat * sz)) undef else v) := by
  intro xs
  induction xs with
  | nil => intro q zs h; cases h; exact ⟨rfl, fun i z hz => by simp at hz⟩
  | cons x rest ih =>
    intro q zs h
    simp only [wrI] at h
    split at h
    · cases h
    · rename_i r hr
      obtain ⟨h2, h3⟩ := ih hr
      have tail : ∀ (z0 : C), (∀ v, Cr E ρ N x v → Cr E ρ N z0 (if p + (ix.den E).toNat * sz ≤ q ∧ q < p + (ix.den E).toNat * sz + ys.length then vs.getD (q - (p + (ix.den E).toNat * sz)) undef else v)) → zs = z0 :: r →
          zs.length = (x :: rest).length ∧ ∀ (i : Nat) (z : C), zs[i]? = some z → ∃ x', (x :: rest)[i]? = some x' ∧ ∀ v, Cr E ρ N x' v → Cr E ρ N z (if p + (ix.den E).toNat * sz ≤ q + i ∧ q + i < p + (ix.den E).toNat * sz + ys.length then vs.getD (q + i - (p + (ix.den E).toNat * sz)) undef else v) := by
        intro z0 hz0 hzs
        subst hzs
        refine ⟨by simp [h2], fun i z hz => ?_⟩
        cases i with
        | zero => simp at hz; subst hz; exact ⟨x, rfl, hz0⟩
        | succ i =>
          simp at hz
          obtain ⟨x', h4, h5⟩ := h3 i z hz
          refine ⟨x', by simpa using h4, ?_⟩
          have e : q + 1 + i = q + (i + 1) := by omega
          rw [e] at h5
          exact h5
      -- where a place lies in a row
      have row : ∀ (d : Nat), p ≤ q → (q - p) / sz = d → (p + d * sz ≤ q ∧ q < p + d * sz + ys.length ↔ (q - p) % sz < ys.length) := by
        intro d hp hd
        have := Nat.div_add_mod (q - p) sz
        rw [hd, Nat.mul_comm] at this
        omega
      have rowN : ∀ (d e : Nat), p ≤ q → (q - p) / sz = d → d ≠ e → ¬ (p + e * sz ≤ q ∧ q < p + e * sz + ys.length) := by
        intro d e hp hd hne ⟨h5, h6⟩
        have h7 := Nat.div_add_mod (q - p) sz
        have h8 := Nat.mod_lt (q - p) hpos
        rw [hd, Nat.mul_comm] at h7
        rcases Nat.lt_or_gt_of_ne hne with hlt | hlt
        · have : (d + 1) * sz ≤ e * sz := Nat.mul_le_mul_right _ hlt
          rw [Nat.add_mul] at this; omega
        · have : (e + 1) * sz ≤ d * sz := Nat.mul_le_mul_right _ hlt
          rw [Nat.add_mul] at this; omega
      have hcnt : ∀ e, p + e * sz ≤ q → q < p + e * sz + ys.length → p ≤ q ∧ (q - p) / sz = e := by
        intro e h5 h6
        refine ⟨by omega, ?_⟩
        exact Nat.div_eq_of_lt_le (by omega) (by rw [Nat.succ_mul]; omega)
      cases hc : Nat.ble p q && Nat.blt ((q - p) / sz) cnt <;> simp only [hc, cond_true, cond_false] at h
      · cases h
        refine tail x (fun v hv => ?_) rfl
        rw [if_neg]
        · exact hv
        · intro ⟨h5, h6⟩
          obtain ⟨h7, h8⟩ := hcnt _ h5 h6
          rw [Bool.and_eq_false_iff, ← Bool.not_eq_true, ← Bool.not_eq_true, Nat.ble_eq, Nat.blt_eq, h8] at hc
          omega
      · rw [Bool.and_eq_true, Nat.ble_eq, Nat.blt_eq] at hc
        split at h
        · rename_i y hyy
          rw [Option.map_eq_some_iff] at h
          obtain ⟨z0, hp, h⟩ := h
          · refine tail z0 (fun v hv => ?_) h.symm
            obtain ⟨u, hu1, hu2⟩ := hy.2 _ _ hyy
            have hq : (mk2 .eq ix (.lit ((q - p) / sz : Nat))).tr E = (ix.den E == (((q - p) / sz : Nat) : Int)) := by
              simp only [T.tr, mk2_den, O2.den, tb_ne, T.den]
            have hk := pickC_ok (E := E) (ρ := ρ) (n := N) (u := u) (v := v) hp (fun _ => hu2) (fun _ => hv)
            rw [hq] at hk
            by_cases he : ix.den E = (((q - p) / sz : Nat) : Int)
            · have ht : (ix.den E).toNat = (q - p) / sz := by omega
              rw [if_pos (by simpa using he)] at hk
              have hlt : (q - p) % sz < ys.length := (List.getElem?_eq_some_iff.1 hyy).1
              rw [if_pos (by rw [ht]; exact (row _ hc.1 rfl).2 hlt), ht]
              have : q - (p + (q - p) / sz * sz) = (q - p) % sz := by
                have := Nat.div_add_mod (q - p) sz
                rw [Nat.mul_comm] at this; omega
              rw [this]
              simp only [Array.getD_eq_getD_getElem?, hu1, Option.getD_some]
              exact hk
            · rw [if_neg (by simpa using he)] at hk
              rw [if_neg (rowN _ _ hc.1 rfl (by omega))]
              exact hk
        · rename_i hyy
          cases h
          refine tail x (fun v hv => ?_) rfl
          rw [if_neg]
          · exact hv
          · intro ⟨h5, h6⟩
            obtain ⟨h7, h8⟩ := hcnt _ h5 h6
            have := (row _ h7 h8).1 ⟨h5, h6⟩
            have : ys.length ≤ (q - p) % sz := by simpa using hyy
            omega

def evStore (P : Program) (st : St) (t : TypeId) (x y : Operand) : Option OpR :=
  match cellsOf (opA st y) with
  | some ys => match sizeT P t with
    | some n => bif n == ys.length then
      match opC st x with
      | some (.ptr b o) => match st.m[b]? with
        | some (.cells ty xs) => bif Nat.ble (o + n) xs.length && Nat.beq (Nat.mod ty 2) 0 then some ⟨.a .dead, st.m.set b (.cells ty (xs.take o ++ ys ++ xs.drop (o + n))), []⟩ else none
        | _ => none
      | some (.pti b o ix sz cnt) => match st.m[b]? with
        | some (.cells ty xs) => bif Nat.blt 0 sz && Nat.ble n sz && Nat.ble (o + cnt * sz) xs.length && Nat.beq (Nat.mod ty 2) 0 then
            match wrI o ix sz cnt ys 0 xs with
            | some zs => some ⟨.a .dead, st.m.set b (.cells ty zs), []⟩
            | none => none
          else none
        | _ => none
      | _ => none
      else none
    | none => none
  | none => none
theorem evStore_ok [Fs] (h : Rel X ρ st a w) {t : TypeId} {x y : Operand} (ho : o.op = .store t x y) {r : OpR} (hr : evStore P st t x y = some r) : OpOk P X ρ st a w o r := by
  unfold evStore at hr
  split at hr
  · rename_i ys hys
    have hy := cellsOf_ok hys (opA_ok h.toSRel y)
    have h1c : ∀ v ∈ (a.eval y).cells, v.oneCell' = true := hy.all fun _ _ => Cr_one
    split at hr
    · rename_i n hs
      cases hn : n == ys.length <;> simp only [hn, cond_true, cond_false] at hr
      · cases hr
      · rw [beq_iff_eq] at hn
        have hsz : (a.eval y).cells.size = n := by rw [hy.1, hn]
        split at hr
        · rename_i b o' hx
          obtain ⟨hb, hv⟩ := opC_ok h.toSRel hx
          split at hr
          · rename_i ty xs hm
            obtain ⟨cs, hg, hcs⟩ := h.mr.mem b _ hm
            cases hle : Nat.ble (o' + n) xs.length && Nat.beq (Nat.mod ty 2) 0 <;> simp only [hle, cond_true, cond_false] at hr
            · cases hr
            · cases hr
              rw [Bool.and_eq_true, Nat.ble_eq] at hle
              obtain ⟨hle, hro⟩ := hle
              have hle' : o' + n ≤ cs.size := by rw [hcs.1]; exact hle
              refine fun _ => ⟨undef, _, ρ, .inr ⟨?_, rfl⟩, trivial, h.mr.set hm (ro_of hro) (((hcs.take o').append hy).append (hcs.drop (o' + n))), fun _ _ => rfl, by simp⟩
              simp [execOp, ho, hv, Instr.storeAt, Instr.sureAddr, run_storeVar_at hg hs hsz hle' h1c]
          · cases hr
        · rename_i b o' ix sz cnt hx
          obtain ⟨hb, h0, h1, hv⟩ := opC_ok h.toSRel hx
          split at hr
          · rename_i ty xs hm
            obtain ⟨cs, hg, hcs⟩ := h.mr.mem b _ hm
            cases hc : Nat.blt 0 sz && Nat.ble n sz && Nat.ble (o' + cnt * sz) xs.length && Nat.beq (Nat.mod ty 2) 0 <;> simp only [hc, cond_true, cond_false] at hr
            · cases hr
            · simp only [Bool.and_eq_true, Nat.ble_eq, Nat.blt_eq] at hc
              obtain ⟨hc, hro⟩ := hc
              split at hr
              · rename_i zs hz
                cases hr
                obtain ⟨h2, h3⟩ := wrI_ok (ρ := ρ) (N := st.m.length) hy h0 h1 (by omega) hc.1.1 hz
                have hle : o' + (ix.den X.E).toNat * sz + n ≤ cs.size := by
                  rw [hcs.1]
                  have : ((ix.den X.E).toNat + 1) * sz ≤ cnt * sz := Nat.mul_le_mul_right _ (by omega)
                  rw [Nat.add_mul] at this; omega
                refine fun _ => ⟨undef, _, ρ, .inr ⟨?_, rfl⟩, trivial, h.mr.set hm (ro_of hro) (cs := (cs.toList.take (o' + (ix.den X.E).toNat * sz)).toArray ++ (a.eval y).cells ++ (cs.toList.drop (o' + (ix.den X.E).toNat * sz + n)).toArray) ⟨?_, fun i z hzi => ?_⟩, fun _ _ => rfl, by simp⟩
                · simp [execOp, ho, hv, Instr.storeAt, Instr.sureAddr, run_storeVar_at hg hs hsz hle h1c]
                · simp [hsz, h2, hcs.1] at hle ⊢; omega
                · obtain ⟨x', h4, h5⟩ := h3 i z hzi
                  obtain ⟨v, h6, h7⟩ := hcs.2 _ _ h4
                  refine ⟨_, ?_, h5 v h7⟩
                  have hi := (Array.getElem?_eq_some_iff.1 h6).1
                  simp only [Nat.zero_add]
                  generalize hQ : o' + (ix.den X.E).toNat * sz = Q at *
                  by_cases ha : i < Q
                  · rw [if_neg (by omega), Array.getElem?_append, if_pos (by simp; omega), Array.getElem?_append, if_pos (by simp; omega)]
                    simp [ha]; simpa using h6
                  · by_cases hb : i < Q + n
                    · rw [if_pos (by omega), Array.getElem?_append, if_pos (by simp; omega), Array.getElem?_append, if_neg (by simp; omega)]
                      have e : i - (cs.toList.take Q).toArray.size = i - Q := by simp; omega
                      rw [e]
                      have : i - Q < (a.eval y).cells.size := by omega
                      simp [this]
                    · rw [if_neg (by omega), Array.getElem?_append, if_neg (by simp; omega)]
                      simp only [List.getElem?_toArray, List.getElem?_drop]
                      rw [show Q + n + (i - ((cs.toList.take Q).toArray ++ (a.eval y).cells).size) = i by simp; omega]
                      simpa using h6
              · cases hr
          · cases hr
        · cases hr
    · cases hr
  · cases hr

end ops
end Go.Sy
