/- Part 6 of a checked reader of Go texts in their model form: it runs a function at terms in the place of numbers, and each part proves that its answers hold of the model. -/
import Derived.Test.YtpjmhngcdbpmpaaLy5
namespace Go.Sy
section ops
variable {P : Program} {X : Cx} {ρ : Nat → Rb} {st : St} {a : Act} {w : World} {o : Oper}

theorem addr_add [Fs] (g o k : Nat) : (⟨g, o, none⟩ : Addr).add k = ⟨g, o + k, none⟩ := by unfold Addr.add; split <;> simp_all

theorem run_loadVar_agg [Fs] {w : World} {g o n : Nat} {t ty : TypeId} {cs : Array Value} {fr : Nat × Nat} (hg : w.heap[g]? = some (.cells cs ty fr)) (ha : isAggT P t = some true) (hs : sizeT P t = some n) (hn : o + n ≤ cs.size) :
    (loadVar t ⟨g, o, none⟩).run P w = .ok (.agg (cs.extract o (o + n))) w := by
  have hl := run_loadCells_list (P := P) w ⟨g, o, none⟩ ((cs.toList.drop o).take n) (fun j v hv => by
    rw [addr_add, cell_of_row w g (o + j) cs ty fr hg]
    rw [List.getElem?_take, List.getElem?_drop] at hv
    split at hv
    · simpa using hv
    · cases hv)
  have hlen : ((cs.toList.drop o).take n).length = n := by simp; omega
  rw [hlen] at hl
  have he : ((cs.toList.drop o).take n).toArray = cs.extract o (o + n) := by
    apply Array.ext'
    simp [Array.toList_extract, List.extract_eq_take_drop]
  rw [he] at hl
  simp [loadVar, run_isAggT ha, run_sizeT hs, hl]
theorem run_loadVar_cell [Fs] {w : World} {g o : Nat} {t ty : TypeId} {cs : Array Value} {fr : Nat × Nat} {v : Value} (hg : w.heap[g]? = some (.cells cs ty fr)) (ha : isAggT P t = some false) (hv : cs[o]? = some v) :
    (loadVar t ⟨g, o, none⟩).run P w = .ok v w := by
  have hc : w.cell? ⟨g, o, none⟩ = some v := by rw [cell_of_row w g o cs ty fr hg]; exact hv
  simp [loadVar, run_isAggT ha, hc]

def rdIs (xs : List C) (p : Nat) (ix : T) (sz cnt : Nat) : Nat → Nat → Option (List C)
  | _, 0 => some []
  | j, n + 1 => match rdI xs (p + j) ix sz cnt with
    | some x => (rdIs xs p ix sz cnt (j + 1) n).map (x :: ·)
    | none => none
theorem rdIs_ok [Fs] {E : Env} {N : Nat} {xs : List C} {cs : Array Value} {p : Nat} {ix : T} {sz cnt : Nat} (hx : F2p (Cr E ρ N) xs cs) (h0 : 0 ≤ ix.den E) (h1 : ix.den E < cnt) :
    ∀ {n j : Nat} {zs : List C}, rdIs xs p ix sz cnt j n = some zs → zs.length = n ∧ (∀ i z, zs[i]? = some z → ∃ v, cs[p + (j + i) + (ix.den E).toNat * sz]? = some v ∧ Cr E ρ N z v) := by
  intro n
  induction n with
  | zero => intro j zs h; cases h; exact ⟨rfl, fun i z hz => by simp at hz⟩
  | succ n ih =>
    intro j zs h
    simp only [rdIs] at h
    split at h
    · rename_i x hx'
      cases hr : rdIs xs p ix sz cnt (j + 1) n with
      | none => simp [hr] at h
      | some zs' =>
        simp [hr] at h
        subst h
        obtain ⟨h2, h3⟩ := ih hr
        refine ⟨by simp [h2], fun i z hz => ?_⟩
        cases i with
        | zero => simp at hz; subst hz; exact rdI_ok hx' hx h0 h1
        | succ i =>
          simp at hz
          obtain ⟨v, h4, h5⟩ := h3 i z hz
          exact ⟨v, by rw [← h4]; congr 1; omega, h5⟩
    · cases h
theorem rdIs_F2 [Fs] {E : Env} {N : Nat} {xs : List C} {cs : Array Value} {p : Nat} {ix : T} {sz cnt : Nat} (hx : F2p (Cr E ρ N) xs cs) (h0 : 0 ≤ ix.den E) (h1 : ix.den E < cnt)
    {n : Nat} {zs : List C} (h : rdIs xs p ix sz cnt 0 n = some zs) : (n = 0 ∨ p + (ix.den E).toNat * sz + n ≤ cs.size) ∧ F2 (Cr E ρ N) zs (cs.extract (p + (ix.den E).toNat * sz) (p + (ix.den E).toNat * sz + n)) := by
  obtain ⟨h2, h3⟩ := rdIs_ok hx h0 h1 h
  have hle : n = 0 ∨ p + (ix.den E).toNat * sz + n ≤ cs.size := by
    cases n with
    | zero => exact .inl rfl
    | succ n =>
      right
      obtain ⟨v, h4, _⟩ := h3 n zs[n] (List.getElem?_eq_getElem (by omega))
      have := (Array.getElem?_eq_some_iff.1 h4).1
      omega
  refine ⟨hle, ?_, fun i z hz => ?_⟩
  · rw [Array.size_extract, h2]
    rcases hle with rfl | hle <;> omega
  · obtain ⟨v, h4, h5⟩ := h3 i z hz
    refine ⟨v, ?_, h5⟩
    have hi := (List.getElem?_eq_some_iff.1 hz).1
    rw [Array.getElem?_extract]
    have := (Array.getElem?_eq_some_iff.1 h4).1
    rw [if_pos (by omega), ← h4]
    congr 1; omega

def evLoad (P : Program) (st : St) (t : TypeId) (x : Operand) : Option OpR :=
  match opC st x with
  | some (.ptr b o) => match st.m[b]? with
    | some (.cells _ xs) => match isAggT P t with
      | some true => match sizeT P t with
        | some n => bif Nat.ble (o + n) xs.length then some ⟨.a (.agg ((xs.drop o).take n)), st.m, []⟩ else none
        | none => none
      | some false => match xs[o]? with
        | some y => some ⟨.a (.c y), st.m, []⟩
        | none => none
      | none => none
    | _ => none
  | some (.pti b o ix sz cnt) => match st.m[b]? with
    | some (.cells _ xs) => match isAggT P t with
      | some true => match sizeT P t with
        | some (n + 1) => match rdIs xs o ix sz cnt 0 (n + 1) with
          | some zs => some ⟨.a (.agg zs), st.m, []⟩
          | none => none
        | _ => none
      | some false => match rdI xs o ix sz cnt with
        | some y => some ⟨.a (.c y), st.m, []⟩
        | none => none
      | none => none
    | _ => none
  | _ => none
theorem evLoad_ok [Fs] (h : Rel X ρ st a w) {t : TypeId} {x : Operand} (ho : o.op = .load t x) {r : OpR} (hr : evLoad P st t x = some r) : OpOk P X ρ st a w o r := by
  unfold evLoad at hr
  split at hr
  · rename_i b o' hx
    obtain ⟨hb, hv⟩ := opC_ok h.toSRel hx
    split at hr
    · rename_i ty xs hm
      obtain ⟨cs, hg, hzz, hcs⟩ := h.mr.mem b _ hm
      split at hr
      · rename_i hagg
        split at hr
        · rename_i n hs
          cases hle : Nat.ble (o' + n) xs.length <;> simp only [hle, cond_true, cond_false] at hr
          · cases hr
          · cases hr
            rw [Nat.ble_eq] at hle
            refine OpOk.pure h (v := .agg (cs.extract o' (o' + n))) fun _ => ⟨?_, _, rfl, F2p.extract hcs hle⟩
            simp [execOp, ho, hv, Instr.loadAt, Instr.sureAddr, run_loadVar_agg hg hagg hs (Nat.le_trans hle hcs.1)]
        · cases hr
      · rename_i hagg
        split at hr
        · rename_i y hy
          cases hr
          obtain ⟨v, h1, h2⟩ := hcs.2 _ _ hy
          refine OpOk.pure h (v := v) fun _ => ⟨?_, h2⟩
          simp [execOp, ho, hv, Instr.loadAt, Instr.sureAddr, run_loadVar_cell hg hagg h1]
        · cases hr
      · cases hr
    · cases hr
  · rename_i b o' ix sz cnt hx
    obtain ⟨hb, h0, h1, hv⟩ := opC_ok h.toSRel hx
    split at hr
    · rename_i ty xs hm
      obtain ⟨cs, hg, hzz, hcs⟩ := h.mr.mem b _ hm
      split at hr
      · rename_i hagg
        split at hr
        · rename_i n hs
          split at hr
          · rename_i zs hz
            cases hr
            obtain ⟨h2, h3⟩ := rdIs_F2 hcs h0 h1 hz
            have hl : o' + (ix.den X.E).toNat * sz + (n + 1) ≤ cs.size := by
              rcases h2 with h2 | h2
              · omega
              · exact h2
            have hld := run_loadVar_agg (P := P) hg hagg hs hl
            refine OpOk.pure h (v := .agg _) fun _ => ⟨?_, _, rfl, h3⟩
            simp [execOp, ho, hv, Instr.loadAt, Instr.sureAddr, hld]
          · cases hr
        · cases hr
      · rename_i hagg
        split at hr
        · rename_i y hy
          cases hr
          obtain ⟨v, h2, h3⟩ := rdI_ok hy hcs h0 h1
          refine OpOk.pure h (v := v) fun _ => ⟨?_, h3⟩
          simp [execOp, ho, hv, Instr.loadAt, Instr.sureAddr, run_loadVar_cell hg hagg h2]
        · cases hr
      · cases hr
    · cases hr
  · cases hr

/-! writing -/
theorem run_storeVar_at [Fs] {w : World} {g o n : Nat} {t ty : TypeId} {cs : Array Value} {v : Value} (hg : w.heap[g]? = some (.cells cs ty (0, 0))) (hs : sizeT P t = some n) (hn : v.cells.size = n) (hle : o + n ≤ cs.size)
    (h1 : ∀ x ∈ v.cells, x.oneCell' = true) :
    (storeVar t ⟨g, o, none⟩ v).run P w = .ok () (w.setRow g ((cs.toList.take o).toArray ++ v.cells ++ (cs.toList.drop (o + n)).toArray)) := by
  have := run_storeCells_at P g o ty v.cells.toList 0 cs w hg (by simp; omega) (fun x hx => h1 x (by simpa using hx))
  simp only [Nat.add_zero, Array.length_toList, hn] at this
  have e : (cs.toList.take o ++ v.cells.toList ++ cs.toList.drop (o + n)).toArray = (cs.toList.take o).toArray ++ v.cells ++ (cs.toList.drop (o + n)).toArray := by
    apply Array.ext'; simp
  rw [e] at this
  simp [storeVar, run_sizeT hs, hn, this]
/-- Cells from 'q' on, one of 'cnt' rows of 'sz' cells at 'p' being overlaid, which 'ix' tells. -/
def wrI (p : Nat) (ix : T) (sz cnt : Nat) (ys : List C) : Nat → List C → Option (List C)
  | _, [] => some []
  | q, x :: rest => match wrI p ix sz cnt ys (q + 1) rest with
    | none => none
    | some r => bif Nat.ble p q && Nat.blt ((q - p) / sz) cnt then
        match ys[(q - p) % sz]? with
        | some y => (pickC (mk2 .eq ix (.lit ((q - p) / sz : Nat))) y x).map (· :: r)
        | none => some (x :: r)
      else some (x :: r)
theorem wrI_ok [Fs] {E : Env} {N : Nat} {p : Nat} {ix : T} {sz cnt : Nat} {ys : List C} {vs : Array Value} (hy : F2 (Cr E ρ N) ys vs) (h0 : 0 ≤ ix.den E) (h1 : ix.den E < cnt) (hsz : ys.length ≤ sz) (hpos : 0 < sz) :
    ∀ {xs : List C} {q : Nat} {zs : List C}, wrI p ix sz cnt ys q xs = some zs → zs.length = xs.length ∧
      ∀ (i : Nat) (z : C), zs[i]? = some z → ∃ x, xs[i]? = some x ∧ ∀ v, Cr E ρ N x v → Cr E ρ N z (if p + (ix.den E).toNat * sz ≤ q + i ∧ q + i < p + (ix.den E).toNat * sz + ys.length then vs.getD (q + i - (p + (ix.den E).toNat * sz)) undef else v) := by
  intro xs
  induction xs with
  | nil => intro q zs h; cases h; exact ⟨rfl, fun i z hz => by simp at hz⟩
  | cons x rest ih =>
    intro q zs h
    simp only [wrI] at h
    split at h
    · cases h
    · rename_i r hr
      obtain ⟨h2, h3⟩ := ih hr
      have tail : ∀ (z0 : C), (∀ v, Cr E ρ N x v → Cr E ρ N z0 (if p + (ix.den E).toNat * sz ≤ q ∧ q < p + (ix.den E).toNat * sz + ys.length then vs.getD (q - (p + (ix.den E).toNat * sz)) undef else v)) → zs = z0 :: r →
          zs.length = (x :: rest).length ∧ ∀ (i : Nat) (z : C), zs[i]? = some z → ∃ x', (x :: rest)[i]? = some x' ∧ ∀ v, Cr E ρ N x' v → Cr E ρ N z (if p + (ix.den E).toNat * sz ≤ q + i ∧ q + i < p + (ix.den E).toNat * sz + ys.length then vs.getD (q + i - (p + (ix.den E).toNat * sz)) undef else v) := by
        intro z0 hz0 hzs
        subst hzs
        refine ⟨by simp [h2], fun i z hz => ?_⟩
        cases i with
        | zero => simp at hz; subst hz; exact ⟨x, rfl, hz0⟩
        | succ i =>
          simp at hz
          obtain ⟨x', h4, h5⟩ := h3 i z hz
          refine ⟨x', by simpa using h4, ?_⟩
          have e : q + 1 + i = q + (i + 1) := by omega
          rw [e] at h5
          exact h5
      -- where a place lies in a row
      have row : ∀ (d : Nat), p ≤ q → (q - p) / sz = d → (p + d * sz ≤ q ∧ q < p + d * sz + ys.length ↔ (q - p) % sz < ys.length) := by
        intro d hp hd
        have := Nat.div_add_mod (q - p) sz
        rw [hd, Nat.mul_comm] at this
        omega
      have rowN : ∀ (d e : Nat), p ≤ q → (q - p) / sz = d → d ≠ e → ¬ (p + e * sz ≤ q ∧ q < p + e * sz + ys.length) := by
        intro d e hp hd hne ⟨h5, h6⟩
        have h7 := Nat.div_add_mod (q - p) sz
        have h8 := Nat.mod_lt (q - p) hpos
        rw [hd, Nat.mul_comm] at h7
        rcases Nat.lt_or_gt_of_ne hne with hlt | hlt
        · have : (d + 1) * sz ≤ e * sz := Nat.mul_le_mul_right _ hlt
          rw [Nat.add_mul] at this; omega
        · have : (e + 1) * sz ≤ d * sz := Nat.mul_le_mul_right _ hlt
          rw [Nat.add_mul] at this; omega
      have hcnt : ∀ e, p + e * sz ≤ q → q < p + e * sz + ys.length → p ≤ q ∧ (q - p) / sz = e := by
        intro e h5 h6
        refine ⟨by omega, ?_⟩
        exact Nat.div_eq_of_lt_le (by omega) (by rw [Nat.succ_mul]; omega)
      cases hc : Nat.ble p q && Nat.blt ((q - p) / sz) cnt <;> simp only [hc, cond_true, cond_false] at h
      · cases h
        refine tail x (fun v hv => ?_) rfl
        rw [if_neg]
        · exact hv
        · intro ⟨h5, h6⟩
          obtain ⟨h7, h8⟩ := hcnt _ h5 h6
          rw [Bool.and_eq_false_iff, ← Bool.not_eq_true, ← Bool.not_eq_true, Nat.ble_eq, Nat.blt_eq, h8] at hc
          omega
      · rw [Bool.and_eq_true, Nat.ble_eq, Nat.blt_eq] at hc
        split at h
        · rename_i y hyy
          rw [Option.map_eq_some_iff] at h
          obtain ⟨z0, hp, h⟩ := h
          · refine tail z0 (fun v hv => ?_) h.symm
            obtain ⟨u, hu1, hu2⟩ := hy.2 _ _ hyy
            have hq : (mk2 .eq ix (.lit ((q - p) / sz : Nat))).tr E = (ix.den E == (((q - p) / sz : Nat) : Int)) := by
              simp only [T.tr, mk2_den, O2.den, tb_ne, T.den]
            have hk := pickC_ok (E := E) (ρ := ρ) (n := N) (u := u) (v := v) hp (fun _ => hu2) (fun _ => hv)
            rw [hq] at hk
            by_cases he : ix.den E = (((q - p) / sz : Nat) : Int)
            · have ht : (ix.den E).toNat = (q - p) / sz := by omega
              rw [if_pos (by simpa using he)] at hk
              have hlt : (q - p) % sz < ys.length := (List.getElem?_eq_some_iff.1 hyy).1
              rw [if_pos (by rw [ht]; exact (row _ hc.1 rfl).2 hlt), ht]
              have : q - (p + (q - p) / sz * sz) = (q - p) % sz := by
                have := Nat.div_add_mod (q - p) sz
                rw [Nat.mul_comm] at this; omega
              rw [this]
              simp only [Array.getD_eq_getD_getElem?, hu1, Option.getD_some]
              exact hk
            · rw [if_neg (by simpa using he)] at hk
              rw [if_neg (rowN _ _ hc.1 rfl (by omega))]
              exact hk
        · rename_i hyy
          cases h
          refine tail x (fun v hv => ?_) rfl
          rw [if_neg]
          · exact hv
          · intro ⟨h5, h6⟩
            obtain ⟨h7, h8⟩ := hcnt _ h5 h6
            have := (row _ h7 h8).1 ⟨h5, h6⟩
            have : ys.length ≤ (q - p) % sz := by simpa using hyy
            omega

def evStore (P : Program) (st : St) (t : TypeId) (x y : Operand) : Option OpR :=
  match cellsOf (opA st y) with
  | some ys => match sizeT P t with
    | some n => bif n == ys.length then
      match opC st x with
      | some (.ptr b o) => match st.m[b]? with
        | some (.cells ty xs) => bif Nat.ble (o + n) xs.length && Nat.beq (Nat.mod ty 2) 0 then some ⟨.a .dead, st.m.set b (.cells ty (xs.take o ++ ys ++ xs.drop (o + n))), []⟩ else none
        | _ => none
      | some (.pti b o ix sz cnt) => match st.m[b]? with
        | some (.cells ty xs) => bif Nat.blt 0 sz && Nat.ble n sz && Nat.ble (o + cnt * sz) xs.length && Nat.beq (Nat.mod ty 2) 0 then
            match wrI o ix sz cnt ys 0 xs with
            | some zs => some ⟨.a .dead, st.m.set b (.cells ty zs), []⟩
            | none => none
          else none
        | _ => none
      | _ => none
      else none
    | none => none
  | none => none
theorem evStore_ok [Fs] (h : Rel X ρ st a w) {t : TypeId} {x y : Operand} (ho : o.op = .store t x y) {r : OpR} (hr : evStore P st t x y = some r) : OpOk P X ρ st a w o r := by
  unfold evStore at hr
  split at hr
  · rename_i ys hys
    have hy := cellsOf_ok hys (opA_ok h.toSRel y)
    have h1c : ∀ v ∈ (a.eval y).cells, v.oneCell' = true := hy.all fun _ _ => Cr_one
    split at hr
    · rename_i n hs
      cases hn : n == ys.length <;> simp only [hn, cond_true, cond_false] at hr
      · cases hr
      · rw [beq_iff_eq] at hn
        have hsz : (a.eval y).cells.size = n := by rw [hy.1, hn]
        split at hr
        · rename_i b o' hx
          obtain ⟨hb, hv⟩ := opC_ok h.toSRel hx
          split at hr
          · rename_i ty xs hm
            obtain ⟨cs, hg, hzz, hcs⟩ := h.mr.mem b _ hm
            cases hle : Nat.ble (o' + n) xs.length && Nat.beq (Nat.mod ty 2) 0 <;> simp only [hle, cond_true, cond_false] at hr
            · cases hr
            · cases hr
              rw [Bool.and_eq_true, Nat.ble_eq] at hle
              obtain ⟨hle, hro⟩ := hle
              have hle' : o' + n ≤ cs.size := Nat.le_trans hle hcs.1
              have hspl := F2p.splice hcs hy (o := o') (by rw [← hn]; exact hle)
              rw [← hn] at hspl
              refine fun _ => ⟨undef, _, ρ, .inr ⟨?_, rfl⟩, trivial, h.mr.set hm (ro_of hro) hspl (by rw [← hzz]; simp; omega), fun _ _ => rfl, by simp⟩
              simp [execOp, ho, hv, Instr.storeAt, Instr.sureAddr, run_storeVar_at hg hs hsz hle' h1c]
          · cases hr
        · rename_i b o' ix sz cnt hx
          obtain ⟨hb, h0, h1, hv⟩ := opC_ok h.toSRel hx
          split at hr
          · rename_i ty xs hm
            obtain ⟨cs, hg, hzz, hcs⟩ := h.mr.mem b _ hm
            cases hc : Nat.blt 0 sz && Nat.ble n sz && Nat.ble (o' + cnt * sz) xs.length && Nat.beq (Nat.mod ty 2) 0 <;> simp only [hc, cond_true, cond_false] at hr
            · cases hr
            · simp only [Bool.and_eq_true, Nat.ble_eq, Nat.blt_eq] at hc
              obtain ⟨hc, hro⟩ := hc
              split at hr
              · rename_i zs hz
                cases hr
                obtain ⟨h2, h3⟩ := wrI_ok (ρ := ρ) (N := st.m.length) hy h0 h1 (by omega) hc.1.1 hz
                have hle : o' + (ix.den X.E).toNat * sz + n ≤ cs.size := by
                  have hc1 := hcs.1
                  have : ((ix.den X.E).toNat + 1) * sz ≤ cnt * sz := Nat.mul_le_mul_right _ (by omega)
                  rw [Nat.add_mul] at this; omega
                refine fun _ => ⟨undef, _, ρ, .inr ⟨?_, rfl⟩, trivial, h.mr.set hm (ro_of hro) (cs := (cs.toList.take (o' + (ix.den X.E).toNat * sz)).toArray ++ (a.eval y).cells ++ (cs.toList.drop (o' + (ix.den X.E).toNat * sz + n)).toArray) ⟨?_, fun i z hzi => ?_⟩ (by rw [← hzz]; simp; omega), fun _ _ => rfl, by simp⟩
                · simp [execOp, ho, hv, Instr.storeAt, Instr.sureAddr, run_storeVar_at hg hs hsz hle h1c]
                · have hc1 := hcs.1
                  simp [hsz, h2] at hle ⊢; omega
                · obtain ⟨x', h4, h5⟩ := h3 i z hzi
                  obtain ⟨v, h6, h7⟩ := hcs.2 _ _ h4
                  refine ⟨_, ?_, h5 v h7⟩
                  have hi := (Array.getElem?_eq_some_iff.1 h6).1
                  simp only [Nat.zero_add]
                  generalize hQ : o' + (ix.den X.E).toNat * sz = Q at *
                  by_cases ha : i < Q
                  · rw [if_neg (by omega), Array.getElem?_append, if_pos (by simp; omega), Array.getElem?_append, if_pos (by simp; omega)]
                    simp [ha]; simpa using h6
                  · by_cases hb : i < Q + n
                    · rw [if_pos (by omega), Array.getElem?_append, if_pos (by simp; omega), Array.getElem?_append, if_neg (by simp; omega)]
                      have e : i - (cs.toList.take Q).toArray.size = i - Q := by simp; omega
                      rw [e]
                      have : i - Q < (a.eval y).cells.size := by omega
                      simp [this]
                    · rw [if_neg (by omega), Array.getElem?_append, if_neg (by simp; omega)]
                      simp only [List.getElem?_toArray, List.getElem?_drop]
                      rw [show Q + n + (i - ((cs.toList.take Q).toArray ++ (a.eval y).cells).size) = i by simp; omega]
                      simpa using h6
              · cases hr
          · cases hr
        · cases hr
    · cases hr
  · cases hr

end ops
end Go.Sy
namespace Go.Sy
/-! Bits of numbers: which bits of which term a term is. -/
structure Fd where
  x : T
  lo : Nat
  n : Nat
/-- The number that such pieces make, the lowest first. -/
def fv (E : Env) : List Fd → Nat
  | [] => 0
  | p :: r => (((p.x.den E).toNat >>> p.lo) % 2 ^ p.n) ||| (fv E r <<< p.n)
theorem fv_bit (E : Env) (p : Fd) (r : List Fd) (i : Nat) : (fv E (p :: r)).testBit i = if i < p.n then (p.x.den E).toNat.testBit (p.lo + i) else (fv E r).testBit (i - p.n) := by
  simp only [fv, Nat.testBit_or, Nat.testBit_mod_two_pow, Nat.testBit_shiftLeft, Nat.testBit_shiftRight]
  by_cases h : i < p.n
  · have : ¬ p.n ≤ i := by omega
    simp [h, this]
  · have : p.n ≤ i := by omega
    simp [h, this]
def fwid : List Fd → Nat
  | [] => 0
  | p :: r => Nat.add p.n (fwid r)
theorem fv_lt (E : Env) (l : List Fd) : fv E l < 2 ^ fwid l := by
  apply Nat.lt_pow_two_of_testBit
  induction l with
  | nil => intro i _; simp [fv]
  | cons p r ih =>
    intro i hi
    simp only [fwid, Nat.add_eq] at hi
    rw [fv_bit, if_neg (by omega)]
    exact ih _ (by omega)
def fdTake : Nat → List Fd → List Fd
  | _, [] => []
  | j, p :: r => bif Nat.ble j p.n then [⟨p.x, p.lo, j⟩] else p :: fdTake (Nat.sub j p.n) r
theorem fdTake_bit (E : Env) : ∀ (l : List Fd) (j i : Nat), (fv E (fdTake j l)).testBit i = (decide (i < j) && (fv E l).testBit i) := by
  intro l
  induction l with
  | nil => intro j i; simp [fdTake, fv]
  | cons p r ih =>
    intro j i
    unfold fdTake
    cases h : Nat.ble j p.n <;> simp only [cond_true, cond_false]
    · have h : ¬ j ≤ p.n := fun hc => by rw [Nat.ble_eq_true_of_le hc] at h; cases h
      rw [fv_bit, fv_bit, ih]
      by_cases hi : i < p.n
      · simp [hi, show i < j by omega]
      · have he : (i - p.n < j - p.n) = (i < j) := by simp; omega
        simp [hi, Nat.sub_eq, he]
    · have h := Nat.le_of_ble_eq_true h
      rw [fv_bit, fv_bit]
      by_cases hi : i < j
      · simp [hi, show i < p.n by omega]
      · simp [hi, fv]
theorem fdTake_ok (E : Env) (l : List Fd) (j : Nat) : fv E (fdTake j l) = fv E l % 2 ^ j := by
  apply Nat.eq_of_testBit_eq
  intro i
  rw [fdTake_bit, Nat.testBit_mod_two_pow]
def fdDrop : Nat → List Fd → List Fd
  | _, [] => []
  | j, p :: r => bif Nat.blt j p.n then ⟨p.x, Nat.add p.lo j, Nat.sub p.n j⟩ :: r else fdDrop (Nat.sub j p.n) r
theorem fdDrop_bit (E : Env) : ∀ (l : List Fd) (j i : Nat), (fv E (fdDrop j l)).testBit i = (fv E l).testBit (i + j) := by
  intro l
  induction l with
  | nil => intro j i; simp [fdDrop, fv]
  | cons p r ih =>
    intro j i
    unfold fdDrop
    cases h : Nat.blt j p.n <;> simp only [cond_true, cond_false]
    · have h : ¬ j < p.n := fun hc => by rw [show Nat.blt j p.n = true from Nat.ble_eq_true_of_le hc] at h; cases h
      rw [ih, fv_bit, if_neg (by omega)]
      congr 1
      simp; omega
    · have h : j < p.n := Nat.le_of_ble_eq_true h
      rw [fv_bit, fv_bit]
      simp only [Nat.sub_eq, Nat.add_eq]
      by_cases hi : i + j < p.n
      · rw [if_pos hi, if_pos (by omega)]; congr 1; omega
      · rw [if_neg hi, if_neg (by omega)]; congr 1; omega
theorem fdDrop_ok (E : Env) (l : List Fd) (j : Nat) : fv E (fdDrop j l) = fv E l / 2 ^ j := by
  apply Nat.eq_of_testBit_eq
  intro i
  rw [fdDrop_bit, Nat.testBit_div_two_pow]
/-- A piece's lowest bits, where it is a number. -/
def litB (p : Fd) (k : Nat) : Option Nat := match p.x with
  | .lit c => some (Nat.mod (Nat.shiftRight c.toNat p.lo) (Nat.pow 2 k))
  | _ => none
theorem litB_ok {E : Env} {p : Fd} {k m : Nat} (h : litB p k = some m) : (((p.x.den E).toNat >>> p.lo) % 2 ^ k) = m := by
  unfold litB at h
  split at h
  · rename_i c hc
    cases h
    rw [hc]; rfl
  · cases h
def orP (p q : Fd) (k : Nat) : Option Fd := match litB p k with
  | some 0 => some ⟨q.x, q.lo, k⟩
  | some a => match litB q k with
    | some 0 => some ⟨p.x, p.lo, k⟩
    | some b => some ⟨.lit (Int.ofNat (Nat.lor a b)), 0, k⟩
    | none => none
  | none => match litB q k with
    | some 0 => some ⟨p.x, p.lo, k⟩
    | _ => none
theorem orP_ok {E : Env} {p q f : Fd} {k : Nat} (h : orP p q k = some f) : f.n = k ∧ ((f.x.den E).toNat >>> f.lo) % 2 ^ k = (((p.x.den E).toNat >>> p.lo) % 2 ^ k) ||| (((q.x.den E).toNat >>> q.lo) % 2 ^ k) := by
  unfold orP at h
  split at h
  · rename_i h0; cases h; rw [litB_ok h0, Nat.zero_or]; exact ⟨rfl, rfl⟩
  · rename_i a _ h0
    split at h
    · rename_i h1; cases h; rw [litB_ok h1, Nat.or_zero]; exact ⟨rfl, rfl⟩
    · rename_i b _ h1; cases h
      rw [litB_ok h0, litB_ok h1]
      refine ⟨rfl, ?_⟩
      have ha := Nat.mod_lt ((p.x.den E).toNat >>> p.lo) (Nat.two_pow_pos k)
      have hb := Nat.mod_lt ((q.x.den E).toNat >>> q.lo) (Nat.two_pow_pos k)
      rw [litB_ok h0] at ha
      rw [litB_ok h1] at hb
      show ((Int.ofNat (a ||| b)).toNat >>> 0) % 2 ^ k = a ||| b
      rw [Nat.shiftRight_zero]
      exact Nat.mod_eq_of_lt (Nat.or_lt_two_pow ha hb)
    · cases h
  · split at h
    · rename_i h1; cases h; rw [litB_ok h1, Nat.or_zero]; exact ⟨rfl, rfl⟩
    · cases h
def fdOr : Nat → List Fd → List Fd → Option (List Fd)
  | _, [], b => some b
  | _, a, [] => some a
  | 0, _, _ => none
  | f + 1, p :: r, q :: s => match orP p q (bif Nat.ble p.n q.n then p.n else q.n) with
    | none => none
    | some x => match fdOr f (fdDrop (bif Nat.ble p.n q.n then p.n else q.n) (p :: r)) (fdDrop (bif Nat.ble p.n q.n then p.n else q.n) (q :: s)) with
      | some l => some (x :: l)
      | none => none
theorem fdOr_ok (E : Env) : ∀ (f : Nat) (a b l : List Fd), fdOr f a b = some l → fv E l = fv E a ||| fv E b := by
  intro f
  induction f with
  | zero =>
    intro a b l h
    cases a with
    | nil => simp only [fdOr] at h; cases h; simp [fv]
    | cons p r => cases b with
      | nil => simp only [fdOr] at h; cases h; simp [fv]
      | cons q s => simp only [fdOr] at h; cases h
  | succ f ih =>
    intro a b l h
    cases a with
    | nil => simp only [fdOr] at h; cases h; simp [fv]
    | cons p r => cases b with
      | nil => simp only [fdOr] at h; cases h; simp [fv]
      | cons q s =>
        unfold fdOr at h
        generalize hk : (bif Nat.ble p.n q.n then p.n else q.n) = k at h
        have hk1 : k ≤ p.n ∧ k ≤ q.n := by
          cases h' : Nat.ble p.n q.n <;> rw [h'] at hk <;> simp only [cond_true, cond_false] at hk
          · have : ¬ p.n ≤ q.n := fun hc => by rw [Nat.ble_eq_true_of_le hc] at h'; cases h'
            omega
          · have := Nat.le_of_ble_eq_true h'
            omega
        split at h
        · cases h
        · rename_i x hx
          split at h
          · rename_i l' hl
            cases h
            have h1 := ih _ _ _ hl
            obtain ⟨h2, h3⟩ := orP_ok (E := E) hx
            apply Nat.eq_of_testBit_eq
            intro i
            rw [fv_bit, h2, h1, Nat.testBit_or, Nat.testBit_or, fdDrop_bit, fdDrop_bit]
            by_cases hi : i < k
            · have h4 := congrArg (fun n => Nat.testBit n i) h3
              simp only [Nat.testBit_or, Nat.testBit_mod_two_pow, Nat.testBit_shiftRight, hi, decide_true, Bool.true_and] at h4
              rw [if_pos hi, h4, fv_bit, fv_bit, if_pos (by omega), if_pos (by omega)]
            · rw [if_neg hi, show i - k + k = i by omega]
          · cases h
/-- Do such bits fit into a kind of numbers? -/
def fitB (k : IntKind) (l : List Fd) : Bool := Nat.ble (fwid l) (bif ksig k then Nat.sub (kbits k) 1 else kbits k)
theorem fitB_ok {k : IntKind} {l : List Fd} (h : fitB k l = true) (E : Env) : k.wrap (fv E l) = fv E l ∧ (BitVec.ofInt k.bits (fv E l : Int)).toNat = fv E l := by
  have h1 := Nat.le_of_ble_eq_true h
  have h2 := fv_lt E l
  have h3 : fv E l < 2 ^ (bif ksig k then Nat.sub (kbits k) 1 else kbits k) := Nat.lt_of_lt_of_le h2 (Nat.pow_le_pow_right (by decide) h1)
  generalize fv E l = n at h3
  constructor
  · apply wrap_in
    cases k <;> simp [ksig, kbits, IntKind.min, IntKind.max, IntKind.bits, IntKind.signed] at h3 ⊢ <;> omega
  · rw [BitVec.toNat_ofInt]
    cases k <;> simp [ksig, kbits, IntKind.bits] at h3 ⊢ <;> omega
def baseB (t : T) : Option (List Fd) := match t.rng.hi with
  | some h => let m := Nat.add (Nat.log2 h.toNat) 1
    bif t.rng.within 0 (Int.ofNat (Nat.sub (Nat.pow 2 m) 1)) then some [⟨t, 0, m⟩] else none
  | none => none
theorem baseB_ok {E : Env} {t : T} {l : List Fd} (h : baseB t = some l) : t.den E = (fv E l : Int) := by
  unfold baseB at h
  split at h
  · rename_i hi _
    simp only at h
    generalize Nat.add (Nat.log2 hi.toNat) 1 = m at h
    cases hw : t.rng.within 0 (Int.ofNat (Nat.sub (Nat.pow 2 m) 1)) <;> simp only [hw, cond_true, cond_false] at h
    · cases h
    · cases h
      have := Iv.within_has hw (t.rng_has E)
      have hp := Nat.two_pow_pos m
      simp only [Nat.sub_eq, Nat.pow_eq, Int.ofNat_eq_natCast] at this
      simp only [fv, Nat.shiftRight_zero, Nat.zero_shiftLeft, Nat.or_zero]
      rw [Nat.mod_eq_of_lt (by omega)]
      omega
  · cases h
def isU (k : IntKind) : Bool := !ksig k
def shlB (k : IntKind) (l : List Fd) (s : Nat) : Option (List Fd) := bif Nat.ble s (kbits k) then
    bif isU k then some (fdTake (kbits k) (⟨.lit 0, 0, s⟩ :: l)) else bif fitB k (⟨.lit 0, 0, s⟩ :: l) then some (⟨.lit 0, 0, s⟩ :: l) else none
  else none
theorem wrap_mod {k : IntKind} (hk : isU k = true) (n : Nat) : k.wrap (n : Int) = ((n % 2 ^ kbits k : Nat) : Int) := by
  cases k <;> first | (exact absurd hk (by decide)) | (simp [IntKind.wrap, IntKind.bits, IntKind.signed, kbits])
theorem fv_shl (E : Env) (l : List Fd) (s : Nat) : fv E (⟨.lit 0, 0, s⟩ :: l) = fv E l * 2 ^ s := by
  simp [fv, T.den, Nat.shiftLeft_eq]
theorem shlB_ok {E : Env} {k : IntKind} {l l' : List Fd} {s : Nat} (h : shlB k l s = some l') : k.wrap ((fv E l : Int) * 2 ^ (min s k.bits)) = (fv E l' : Int) := by
  unfold shlB at h
  cases hs : Nat.ble s (kbits k) <;> simp only [hs, cond_true, cond_false] at h
  · cases h
  · have hs := Nat.le_of_ble_eq_true hs
    rw [kbits_eq] at hs
    rw [Nat.min_eq_left hs]
    have e : ((fv E l : Int) * 2 ^ s) = ((fv E (⟨.lit 0, 0, s⟩ :: l) : Nat) : Int) := by rw [fv_shl]; simp
    rw [e]
    cases hu : isU k <;> simp only [hu, cond_true, cond_false] at h
    · cases hf : fitB k (⟨.lit 0, 0, s⟩ :: l) <;> simp only [hf, cond_true, cond_false] at h
      · cases h
      · cases h
        exact (fitB_ok hf E).1
    · cases h
      rw [fdTake_ok, wrap_mod hu]
def shrB (k : IntKind) (l : List Fd) (s : Nat) : Option (List Fd) := bif Nat.ble s (kbits k) then some (fdDrop s l) else none
theorem shrB_ok {E : Env} {k : IntKind} {l l' : List Fd} {s : Nat} (h : shrB k l s = some l') : ((fv E l : Int)).fdiv (2 ^ (min s k.bits)) = (fv E l' : Int) := by
  unfold shrB at h
  cases hs : Nat.ble s (kbits k) <;> simp only [hs, cond_true, cond_false] at h
  · cases h
  · cases h
    have hs := Nat.le_of_ble_eq_true hs
    rw [kbits_eq] at hs
    rw [Nat.min_eq_left hs, fdDrop_ok, Int.fdiv_eq_ediv_of_nonneg _ (Int.le_of_lt (Int.pow_pos (by decide)))]
    simp
def borB (k : IntKind) (a b : List Fd) : Option (List Fd) := bif fitB k a && fitB k b then match fdOr 24 a b with
    | some l => bif fitB k l then some l else none
    | none => none
  else none
theorem borB_ok {E : Env} {k : IntKind} {a b l : List Fd} (h : borB k a b = some l) : k.wrap (BitVec.ofInt k.bits (fv E a : Int) ||| BitVec.ofInt k.bits (fv E b : Int)).toNat = (fv E l : Int) := by
  unfold borB at h
  cases hf : fitB k a && fitB k b <;> simp only [hf, cond_true, cond_false] at h
  · cases h
  · rw [Bool.and_eq_true] at hf
    split at h
    · rename_i l' hl
      cases hg : fitB k l' <;> simp only [hg, cond_true, cond_false] at h
      · cases h
      · cases h
        rw [BitVec.toNat_or, (fitB_ok hf.1 E).2, (fitB_ok hf.2 E).2, ← fdOr_ok E _ _ _ _ hl]
        exact (fitB_ok hg E).1
    · cases h
def bandB (k : IntKind) (l : List Fd) (m : Int) : Option (List Fd) := match m with
  | .ofNat m => let j := Nat.log2 (Nat.add m 1)
    bif Nat.beq (Nat.sub (Nat.pow 2 j) 1) m && fitB k l && fitB k [⟨.lit 0, 0, j⟩] then some (fdTake j l) else none
  | _ => none
theorem bandB_ok {E : Env} {k : IntKind} {a l : List Fd} {m : Int} (h : bandB k a m = some l) : k.wrap (BitVec.ofInt k.bits (fv E a : Int) &&& BitVec.ofInt k.bits m).toNat = (fv E l : Int) := by
  unfold bandB at h
  split at h
  · rename_i m
    simp only at h
    generalize Nat.log2 (Nat.add m 1) = j at h
    cases hf : Nat.beq (Nat.sub (Nat.pow 2 j) 1) m && fitB k a && fitB k [⟨.lit 0, 0, j⟩] <;> simp only [hf, cond_true, cond_false] at h
    · cases h
    · cases h
      simp only [Bool.and_eq_true] at hf
      obtain ⟨⟨h1, h2⟩, h3⟩ := hf
      have h1 := Nat.eq_of_beq_eq_true h1
      simp only [Nat.sub_eq, Nat.pow_eq] at h1
      have hw := Nat.le_of_ble_eq_true h3
      simp only [fwid, Nat.add_eq, Nat.add_zero] at hw
      have hp := Nat.two_pow_pos j
      have hle : 2 ^ j ≤ 2 ^ (bif ksig k then Nat.sub (kbits k) 1 else kbits k) := Nat.pow_le_pow_right (by decide) hw
      have hm : (BitVec.ofInt k.bits (Int.ofNat m)).toNat = m := by
        rw [BitVec.toNat_ofInt]
        cases k <;> simp [ksig, kbits, IntKind.bits] at hle ⊢ <;> omega
      rw [BitVec.toNat_and, (fitB_ok h2 E).2, hm, fdTake_ok, ← h1, Nat.and_two_pow_sub_one_eq_mod]
      have hlt := Nat.mod_lt (fv E a) hp
      generalize fv E a % 2 ^ j = n at hlt
      apply wrap_in
      have hn : n < 2 ^ (bif ksig k then Nat.sub (kbits k) 1 else kbits k) := Nat.lt_of_lt_of_le hlt hle
      cases k <;> simp [ksig, kbits, IntKind.min, IntKind.max, IntKind.bits, IntKind.signed] at hn ⊢ <;> omega
  · cases h
def wrapB (k : IntKind) (l : List Fd) : Option (List Fd) := bif isU k then some (fdTake (kbits k) l) else bif fitB k l then some l else none
theorem wrapB_ok {E : Env} {k : IntKind} {a l : List Fd} (h : wrapB k a = some l) : k.wrap (fv E a : Int) = (fv E l : Int) := by
  unfold wrapB at h
  cases hu : isU k <;> simp only [hu, cond_true, cond_false] at h
  · cases hf : fitB k a <;> simp only [hf, cond_true, cond_false] at h
    · cases h
    · cases h; exact (fitB_ok hf E).1
  · cases h; rw [fdTake_ok, wrap_mod hu]
/-- The bits that a term is. -/
def bitsT : T → Option (List Fd)
  | .un o a => match o with
    | .wrap k => match bitsT a with
      | some l => wrapB k l
      | none => baseB (.un o a)
    | _ => baseB (.un o a)
  | .bin o a b => match o with
    | .shl k => match b with
      | .lit (.ofNat s) => match bitsT a with
        | some l => shlB k l s
        | none => none
      | _ => none
    | .shr k => match b with
      | .lit (.ofNat s) => match bitsT a with
        | some l => shrB k l s
        | none => none
      | _ => none
    | .bor k => match bitsT a with
      | some l => match bitsT b with
        | some l' => borB k l l'
        | none => none
      | none => none
    | .band k => match b with
      | .lit m => match bitsT a with
        | some l => bandB k l m
        | none => none
      | _ => none
    | _ => baseB (.bin o a b)
  | t => baseB t
theorem bitsT_ok (E : Env) : ∀ (t : T) (l : List Fd), bitsT t = some l → t.den E = (fv E l : Int) := by
  intro t
  induction t with
  | un o a ih =>
    intro l h
    unfold bitsT at h
    split at h
    · split at h
      · rename_i k l' hl
        simp only [T.den, O1.den]
        rw [ih _ hl]
        exact wrapB_ok h
      · exact baseB_ok h
    · exact baseB_ok h
  | bin o a b iha ihb =>
    intro l h
    unfold bitsT at h
    split at h
    · split at h
      · split at h
        · rename_i s _ l' hl
          simp only [T.den, O2.den]
          rw [iha _ hl]
          exact shlB_ok h
        · cases h
      · cases h
    · split at h
      · split at h
        · rename_i s _ l' hl
          simp only [T.den, O2.den]
          rw [iha _ hl]
          exact shrB_ok h
        · cases h
      · cases h
    · split at h
      · split at h
        · rename_i l1 hl1 _ l2 hl2
          simp only [T.den, O2.den]
          rw [iha _ hl1, ihb _ hl2]
          exact borB_ok h
        · cases h
      · cases h
    · split at h
      · split at h
        · rename_i m _ l' hl
          simp only [T.den, O2.den]
          rw [iha _ hl]
          exact bandB_ok h
        · cases h
      · cases h
    · exact baseB_ok h
  | _ => intro l h; exact baseB_ok h

/-- Pieces side by side as one; no noughts at the end. -/
def mrg : List Fd → List Fd
  | [] => []
  | p :: r => match mrg r with
    | [] => match litB p p.n with
      | some 0 => []
      | _ => [p]
    | q :: s => bif p.x.beq q.x && Nat.beq q.lo (Nat.add p.lo p.n) then ⟨p.x, p.lo, Nat.add p.n q.n⟩ :: s else p :: q :: s
theorem mrg_ok (E : Env) : ∀ l : List Fd, fv E (mrg l) = fv E l := by
  intro l
  induction l with
  | nil => rfl
  | cons p r ih =>
    unfold mrg
    split
    · rename_i h
      rw [h] at ih
      have e : fv E (p :: r) = ((p.x.den E).toNat >>> p.lo) % 2 ^ p.n := by
        simp only [fv, ← ih, Nat.zero_shiftLeft, Nat.or_zero]
      split
      · rename_i h0
        rw [e, litB_ok h0]; rfl
      · rw [e]; simp [fv]
    · rename_i q s h
      rw [h] at ih
      cases hc : p.x.beq q.x && Nat.beq q.lo (Nat.add p.lo p.n) <;> simp only [cond_true, cond_false]
      · simp only [fv]; rw [← ih]; simp only [fv]
      · rw [Bool.and_eq_true] at hc
        have h1 := T.beq_eq hc.1
        have h2 := Nat.eq_of_beq_eq_true hc.2
        apply Nat.eq_of_testBit_eq
        intro i
        rw [fv_bit, fv_bit, ← ih, fv_bit]
        simp only [Nat.add_eq] at h2 ⊢
        by_cases hi : i < p.n
        · rw [if_pos hi, if_pos (by omega)]
        · rw [if_neg hi]
          by_cases hj : i < p.n + q.n
          · rw [if_pos hj, if_pos (by omega), h1, h2]
            congr 1; omega
          · rw [if_neg hj, if_neg (by omega)]
            congr 1; omega
/-- A term in fewer words, where its bits tell it. -/
def outB (t : T) (l : List Fd) : T := match l with
  | [] => .lit 0
  | [p] => match litB p p.n with
    | some m => .lit (Int.ofNat m)
    | none => bif Nat.beq p.lo 0 then
        bif p.x.rng.within 0 (Int.ofNat (Nat.sub (Nat.pow 2 p.n) 1)) then p.x else
        bif Nat.beq p.n 8 && p.x.rng.within 0 18446744073709551615 then .un (.wrap .u8) p.x else t
      else t
  | _ => t
theorem outB_ok {E : Env} {t : T} {l : List Fd} (h : t.den E = (fv E l : Int)) : (outB t l).den E = t.den E := by
  unfold outB
  split
  · rw [h]; rfl
  · rename_i p
    have e : fv E [p] = ((p.x.den E).toNat >>> p.lo) % 2 ^ p.n := by simp [fv]
    split
    · rename_i m hm
      rw [h, e, litB_ok hm]; rfl
    · cases h0 : Nat.beq p.lo 0 <;> simp only [cond_true, cond_false]
      have h0 := Nat.eq_of_beq_eq_true h0
      rw [h0, Nat.shiftRight_zero] at e
      cases hr : p.x.rng.within 0 (Int.ofNat (Nat.sub (Nat.pow 2 p.n) 1)) <;> simp only [cond_true, cond_false]
      · cases h8 : Nat.beq p.n 8 && p.x.rng.within 0 18446744073709551615 <;> simp only [cond_true, cond_false]
        rw [Bool.and_eq_true] at h8
        have h9 := Nat.eq_of_beq_eq_true h8.1
        have h10 := Iv.within_has h8.2 (p.x.rng_has E)
        rw [h, e, h9]
        simp only [T.den, O1.den]
        simp [IntKind.wrap, IntKind.bits, IntKind.signed]
        omega
      · have h10 := Iv.within_has hr (p.x.rng_has E)
        have hp := Nat.two_pow_pos p.n
        simp only [Nat.sub_eq, Nat.pow_eq, Int.ofNat_eq_natCast] at h10
        rw [h, e, Nat.mod_eq_of_lt (by omega)]
        omega
  · rfl
def bitG (t : T) : T := match bitsT t with
  | some l => outB t (mrg l)
  | none => t
theorem bitG_den (E : Env) (t : T) : (bitG t).den E = t.den E := by
  unfold bitG
  split
  · rename_i l hl; exact outB_ok (by rw [mrg_ok]; exact bitsT_ok E _ _ hl)
  · rfl
/-- A byte with its sign, by shifts there and back. -/
def sgnB (y : T) : Option T := match bitsT y with
  | some l => bif Nat.ble (fwid l) 32 then match mrg (fdDrop 24 l) with
    | [p] => bif Nat.beq p.lo 0 && Nat.beq p.n 8 && p.x.rng.within 0 18446744073709551615 then some p.x else none
    | _ => none
    else none
  | none => none
theorem sgnB_ok {E : Env} {y x : T} (h : sgnB y = some x) : (IntKind.i32.wrap (y.den E)).fdiv (2 ^ 24) = IntKind.i8.wrap (x.den E) := by
  unfold sgnB at h
  split at h
  · rename_i l hl
    cases hw : Nat.ble (fwid l) 32 <;> simp only [hw, cond_true, cond_false] at h
    · cases h
    · have hw := Nat.le_of_ble_eq_true hw
      split at h
      · rename_i p hp
        cases hc : Nat.beq p.lo 0 && Nat.beq p.n 8 && p.x.rng.within 0 18446744073709551615 <;> simp only [hc, cond_true, cond_false] at h
        · cases h
        · cases h
          simp only [Bool.and_eq_true] at hc
          have h1 := Nat.eq_of_beq_eq_true hc.1.1
          have h2 := Nat.eq_of_beq_eq_true hc.1.2
          have h3 := Iv.within_has hc.2 (p.x.rng_has E)
          have h4 := bitsT_ok E _ _ hl
          have h5 := fv_lt E l
          have h6 : 2 ^ fwid l ≤ 2 ^ 32 := Nat.pow_le_pow_right (by decide) hw
          have h7 := mrg_ok E (fdDrop 24 l)
          rw [hp, fdDrop_ok] at h7
          have e : fv E [p] = (p.x.den E).toNat % 256 := by simp [fv, h1, h2]
          rw [e] at h7
          rw [h4]
          generalize fv E l = n at *
          generalize p.x.den E = z at *
          rw [Int.fdiv_eq_ediv_of_nonneg _ (by decide)]
          simp [IntKind.wrap, IntKind.bits, IntKind.signed]
          omega
      · cases h
  · cases h
/-- A sum more or less a number. -/
def shiftT (t : T) (c : Int) : T := match t with
  | .bin .sub x (.lit a) => bif a + c == 0 then x else .bin .sub x (.lit (a + c))
  | t => .bin .sub t (.lit c)
theorem shiftT_den (E : Env) (t : T) (c : Int) : (shiftT t c).den E = t.den E - c := by
  unfold shiftT
  split
  · rename_i x a
    cases h : a + c == 0 <;> simp only [cond_true, cond_false, T.den, O2.den]
    · omega
    · have := beq_iff_eq.1 h; omega
  · simp [T.den, O2.den]
theorem wrap_off (k : IntKind) (n q : Int) : k.wrap (n - q * kmod k) = k.wrap n := by
  cases k <;> simp [IntKind.wrap, IntKind.bits, IntKind.signed, kmod] <;> (try split) <;> (try split) <;> omega
/-- Wrapped: where a whole number of rounds is known, less these. -/
def cvT (pc : Pc) (k : IntKind) (t : T) : T := match t.rng.lo with
  | some l => bif (l - kmin k) / kmod k == 0 || (!ksig k && leb 0 l) then bitG (mkW pc k t) else
      bif t.rng.within (kmin k + (l - kmin k) / kmod k * kmod k) (kmax k + (l - kmin k) / kmod k * kmod k) then shiftT t ((l - kmin k) / kmod k * kmod k) else bitG (mkW pc k t)
  | none => bitG (mkW pc k t)
theorem cvT_den {E : Env} {pc : Pc} (hp : pcOk E pc) (k : IntKind) (t : T) : (cvT pc k t).den E = k.wrap (t.den E) := by
  unfold cvT
  split
  · rename_i l _
    cases (l - kmin k) / kmod k == 0 || (!ksig k && leb 0 l) <;> simp only [cond_true, cond_false]
    · cases hw : t.rng.within (kmin k + (l - kmin k) / kmod k * kmod k) (kmax k + (l - kmin k) / kmod k * kmod k) <;> simp only [cond_true, cond_false]
      · rw [bitG_den, mkW_den hp]
      · have := Iv.within_has hw (t.rng_has E)
        rw [shiftT_den, ← wrap_off k _ ((l - kmin k) / kmod k)]
        generalize (l - kmin k) / kmod k * kmod k = c at *
        rw [wrap_in k]
        rw [← kmin_eq, ← kmax_eq]
        omega
    · rw [bitG_den, mkW_den hp]
  · rw [bitG_den, mkW_den hp]
/-- What shifts, ands, ors make, in fewer words. -/
def bitN (pc : Pc) (t : T) : T := match t with
  | .bin (.shr .i32) (.un (.wrap .i32) y) (.lit 24) => match sgnB y with
    | some x => cvT pc .i8 x
    | none => bitG t
  | t => bitG t
theorem bitN_den {E : Env} {pc : Pc} (hp : pcOk E pc) (t : T) : (bitN pc t).den E = t.den E := by
  unfold bitN
  split
  · split
    · rename_i y x hx
      rw [cvT_den hp]
      have := sgnB_ok (E := E) hx
      simp only [T.den, O2.den, O1.den]
      rw [← this]; rfl
    · rw [bitG_den]
  · rw [bitG_den]
end Go.Sy
