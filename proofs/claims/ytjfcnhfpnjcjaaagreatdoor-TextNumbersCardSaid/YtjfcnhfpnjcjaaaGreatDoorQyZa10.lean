/- Part Za10 of a checked reader of Go texts in their model form: it runs a function at terms in the place of numbers, and each part proves that its answers hold of the model. -/
import Derived.Test.YtjfcnhfpnjcjaaaGreatDoorQyZa9
import Derived.Laws.BytesString
namespace Go.E3
open Go.Sy
noncomputable section
variable {P : Program} {pc : Pc} {o : Oper}

/-! values held against each other -/
def eqTT (s t : T) : T := match s with
  | .lit m => match t with
    | .lit n => tbF (eqF m n)
    | t => mk2 .eq (.lit m) t
  | s => mk2 .eq s t
theorem eqTT_tr (E : Env) (s t : T) : (eqTT s t).tr E = (s.den E == t.den E) := by
  unfold eqTT
  split
  · split
    · rw [tbF_tr, eqF_eq]; rfl
    · rw [tr_eq2]
  · rw [tr_eq2]
def trT (t : T) : T := mkIte t (.lit 1) (.lit 0)
theorem trT_den (E : Env) (t : T) : (trT t).den E = tb (t.tr E) := by
  unfold trT
  rw [den_ite]
  cases t.tr E <;> rfl
def eqBB (s t : T) : T := match s with
  | .lit m => match t with
    | .lit n => tbF (bif eqF m 0 then eqF n 0 else not (eqF n 0))
    | t => mk2 .eq (trT (.lit m)) (trT t)
  | s => mk2 .eq (trT s) (trT t)
theorem eqBB_tr (E : Env) (s t : T) : (eqBB s t).tr E = (s.tr E == t.tr E) := by
  have gen : ∀ s t : T, (mk2 .eq (trT s) (trT t)).tr E = (s.tr E == t.tr E) := by
    intro s t
    rw [tr_eq2, trT_den, trT_den]
    cases s.tr E <;> cases t.tr E <;> rfl
  unfold eqBB
  split
  · split
    · rename_i m _ n
      rw [tbF_tr, eqF_eq, eqF_eq]
      simp only [T.tr, T.den]
      cases hm : (m == 0) <;> cases hn : (n == 0) <;> simp [bne, hm, hn]
    · exact gen _ _
  · exact gen _ _
def andT (a b : T) : T := match a with
  | .lit n => bif eqF n 0 then .lit 0 else b
  | a => mk2 .and (trT a) (trT b)
theorem andT_tr (E : Env) (a b : T) : (andT a b).tr E = (a.tr E && b.tr E) := by
  unfold andT
  split
  · rename_i n
    rw [eqF_eq]
    have : (T.lit n).tr E = !(n == 0) := rfl
    rw [this]
    cases n == 0 <;> rfl
  · simp only [T.tr, mk2_den, O2.den, tb_ne, trT_den]
/-- Strings, byte by byte. -/
def strEq : List T → List T → T
  | [], [] => .lit 1
  | x :: xs, y :: ys => andT (eqTT x y) (strEq xs ys)
  | _, _ => .lit 0
theorem byteOf_inj {m n : Int} (hm : 0 ≤ m ∧ m ≤ 255) (hn : 0 ≤ n ∧ n ≤ 255) : (byteOf m == byteOf n) = (m == n) := by
  rw [Bool.eq_iff_iff, beq_iff_eq, beq_iff_eq]
  refine ⟨fun h => ?_, fun h => by rw [h]⟩
  have := congrArg (fun u : UInt8 => (u.toNat : Int)) h
  simp only [byteOf_val hm, byteOf_val hn] at this
  exact this
theorem strEq_ok (E : Env) : ∀ {xs ys : List T}, (∀ t ∈ xs, 0 ≤ t.den E ∧ t.den E ≤ 255) → (∀ t ∈ ys, 0 ≤ t.den E ∧ t.den E ≤ 255) → (strEq xs ys).tr E = ((xs.map fun t => byteOf (t.den E)) == (ys.map fun t => byteOf (t.den E)))
  | [], [], _, _ => rfl
  | [], y :: ys, _, _ => rfl
  | x :: xs, [], _, _ => rfl
  | x :: xs, y :: ys, hx, hy => by
    simp only [strEq, andT_tr, eqTT_tr, List.map_cons]
    rw [strEq_ok E (fun t ht => hx t (List.mem_cons_of_mem _ ht)) (fun t ht => hy t (List.mem_cons_of_mem _ ht))]
    show _ = ((byteOf (x.den E) == byteOf (y.den E)) && _)
    rw [byteOf_inj (hx x List.mem_cons_self) (hy y List.mem_cons_self)]
    rfl
theorem toList_data (b : ByteArray) : b.toList = b.data.toList := by
  unfold ByteArray.toList
  rw [ByteArray.toList_loop_eq b _ 0 [] rfl (Nat.zero_le _)]
  simp
theorem run_eqP1 {w : World} {t e : TypeId} (hu : P.underlying t = some (.pointer e)) (d : Nat) (q : Option Addr) : (Op.equalIn (d + 1) t (.pointer none) (.pointer q)).run P w = .ok q.isNone w := by
  cases q <;> simp [Op.equalIn, run_underlying hu]
theorem run_eqP2 {w : World} {t e : TypeId} (hu : P.underlying t = some (.pointer e)) (d : Nat) (p : Addr) : (Op.equalIn (d + 1) t (.pointer (some p)) (.pointer none)).run P w = .ok false w := by
  simp [Op.equalIn, run_underlying hu]
def partT (P : Program) (t : TypeId) (xs : List C) (off : Nat) : Option A := match isAggT P t, sizeT P t with
  | some a, some n => partF a n off xs
  | _, _ => none
theorem partT_ok {E : Env} {ρ : Pt → Rb} {D : Pt → Prop} {t : TypeId} {off : Nat} {xs : List C} {y : A} (h : partT P t xs off = some y) (hx : ∀ x ∈ xs, x.ok E ρ D) :
    y.ok E ρ D ∧ ∀ w, (part t (xs.map (C.val E ρ)).toArray off).run P w = .ok (y.val E ρ) w := by
  unfold partT at h
  split at h
  · rename_i a n ha hs; exact partF_ok ha hs h hx
  · cases h
/-- One and then the others: not to be looked at where the one is false. -/
def thenT (x : Option T) (k : Option T) : Option T := match x with
  | some t => match t with
    | .lit n => bif eqF n 0 then some (.lit 0) else k
    | t => match k with
      | some u => some (andT t u)
      | none => none
  | none => none
theorem thenT_ok {x k : Option T} {τ : T} (h : thenT x k = some τ) : ∃ t, x = some t ∧ ((∀ E, t.tr E = false ∧ τ.tr E = false) ∨ ∃ u, k = some u ∧ ∀ E, τ.tr E = (t.tr E && u.tr E)) := by
  unfold thenT at h
  split at h
  · rename_i t
    refine ⟨t, rfl, ?_⟩
    split at h
    · rename_i n
      rw [eqF_eq] at h
      cases hn : (n == 0) <;> simp only [hn, cond_true, cond_false] at h
      · exact .inr ⟨τ, h, fun E => by simp [T.tr, T.den, bne, hn]⟩
      · cases h
        exact .inl fun E => ⟨by simp [T.tr, T.den, bne, hn], rfl⟩
    · split at h
      · rename_i u
        cases h
        exact .inr ⟨u, rfl, fun E => andT_tr E _ _⟩
      · cases h
  · cases h
def eqFs (P : Program) (r : TypeId → A → A → Option T) (xs ys : List C) : List Field → Option T
  | [] => some (.lit 1)
  | f :: fs => bif f.name == "_" then eqFs P r xs ys fs else match partT P f.type xs f.offset with
    | some x => match partT P f.type ys f.offset with
      | some y => thenT (r f.type x y) (eqFs P r xs ys fs)
      | none => none
    | none => none
def eqIs (P : Program) (r : TypeId → A → A → Option T) (e : TypeId) (c : Nat) (xs ys : List C) : List Nat → Option T
  | [] => some (.lit 1)
  | i :: is => match partT P e xs (i * c) with
    | some x => match partT P e ys (i * c) with
      | some y => thenT (r e x y) (eqIs P r e c xs ys is)
      | none => none
    | none => none
/-- What an interface value holds. -/
def payA (g : Bool) (cs : List C) : Option A := match g, cs with
  | true, cs => some (.agg cs)
  | false, c :: _ => some (.c c)
  | false, [] => none
theorem payA_ok {E : Env} {ρ : Pt → Rb} {D : Pt → Prop} {g : Bool} {cs : List C} {u : A} (h : payA g cs = some u) (hc : C.oks E ρ D cs) : u.ok E ρ D ∧ (bif g then Value.agg (C.vals E ρ cs).toArray else (C.vals E ρ cs).headD undef) = u.val E ρ := by
  unfold payA at h
  split at h
  · cases h; exact ⟨oks_iff.1 hc, by rw [vals_map]; rfl⟩
  · cases h; exact ⟨hc.1, rfl⟩
  · cases h
def eqA (P : Program) : Nat → TypeId → A → A → Option T
  | 0, _, _, _ => none
  | d + 1, t, x, y => match undF P t, x, y with
    | some (.int _), .c (.int k s), .c (.int k' u) => if k = k' then some (eqTT s u) else none
    | some .bool, .c (.bool s), .c (.bool u) => some (eqBB s u)
    | some .string, .c (.str s), .c (.str u) => some (strEq s u)
    | some (.struct fs), .agg xs, .agg ys => bif P.stoodInHeld t then none else eqFs P (eqA P d) xs ys fs.toList
    | some (.array n e), .agg xs, .agg ys => match infoF P e with
      | some _ => eqIs P (eqA P d) e (P.cellsOf e) xs ys (List.range n)
      | none => none
    | some (.pointer _), .c .nilp, .c .nilp => some (.lit 1)
    | some (.pointer _), .c .nilp, .c (.ptr _ _) => some (.lit 0)
    | some (.pointer _), .c (.ptr _ _), .c .nilp => some (.lit 0)
    | some (.slice _), .c .nils, .c .nils => some (.lit 1)
    | some (.slice _), .c (.slc _ _ _ _), .c .nils => some (.lit 0)
    | some (.interface _), .c .nili, .c .nili => some (.lit 1)
    | some (.interface _), .c (.ifc _ _ _), .c .nili => some (.lit 0)
    | some (.interface _), .c (.ifc tx g cs), .c (.ifc ty g' cs') => bif Nat.beq tx ty then (match (infoF P tx).map (·.comparable), payA g cs, payA g' cs' with
        | some true, some u, some v => eqA P d tx u v
        | _, _, _ => none) else some (.lit 0)
    | some (.pointer e), .c (.ptr b o), .c (.ptr b' o') => match sizeT P e with
        | some (_ + 1) => bif b.beq b' then some (tbF (Nat.beq o o')) else none
        | _ => none
    | some (.func _ _ _), .c .nilf, .c .nilf => some (.lit 1)
    | some (.func _ _ _), .c (.fn _ _), .c .nilf => some (.lit 0)
    | some (.map _ _), .c .nilm, .c .nilm => some (.lit 1)
    | some (.map _ _), .c (.map _), .c .nilm => some (.lit 0)
    | _, _, _ => none
theorem eqA_ok {E : Env} {ρ : Pt → Rb} {D : Pt → Prop} : ∀ {d : Nat} {t : TypeId} {x y : A} {τ : T}, eqA P d t x y = some τ → ∀ (k : Nat), d ≤ k → ∀ (w : World), x.ok E ρ D → y.ok E ρ D → (Op.equalIn k t (x.val E ρ) (y.val E ρ)).run P w = .ok (τ.tr E) w := by
  intro d
  induction d with
  | zero => intro t x y τ h; simp [eqA] at h
  | succ d ih =>
    intro t x y τ h K hK w hx hy
    cases K with
    | zero => omega
    | succ K =>
      have hK' : d ≤ K := by omega
      simp only [eqA, undF_eq, infoF_eq] at h
      split at h
      · rename_i k0 k s k' u' ht
        split at h
        · rename_i hk
          subst hk; cases h
          exact (run_equalIn_int w K t k k0 _ _ ht).trans (by rw [eqTT_tr])
        · cases h
      · rename_i s u' ht
        cases h
        exact (run_equalIn_bool' w K t _ _ ht).trans (by rw [eqBB_tr])
      · rename_i s u' ht
        cases h
        obtain ⟨b1, e1, e2⟩ := strOf_data E s
        obtain ⟨b2, e3, e4⟩ := strOf_data E u'
        show (Op.equalIn (K + 1) t (strOf E s) (strOf E u')).run P w = _
        rw [e1, e3, run_equalIn_string w K t _ _ ht, toList_data, toList_data, e2, e4, strEq_ok E hx hy]
      · rename_i fs xs ys ht
        cases hst : P.stoodInHeld t <;> simp only [hst, cond_true, cond_false] at h
        · have hfo : P.fieldsOf t = fs := by simp [Program.fieldsOf, ht]
          show (Op.equalIn (K + 1) t (.agg _) (.agg _)).run P w = _
          rw [run_equalIn_struct w K t _ _ (by rw [hfo]; exact ht) hst, hfo]
          generalize fs.toList = l at h
          clear ht hfo
          induction l generalizing τ w with
          | nil => cases h; simp [Op.eqFields, T.tr, T.den]
          | cons f l ihl =>
            simp only [eqFs] at h
            simp only [Op.eqFields]
            cases hn : f.name == "_" <;> simp only [hn, cond_true, cond_false] at h
            · rw [beq_eq_false_iff_ne] at hn
              rw [if_pos hn]
              split at h
              · rename_i x' hx'
                split at h
                · rename_i y' hy'
                  obtain ⟨t', h1, h2⟩ := thenT_ok h
                  obtain ⟨p1, p2⟩ := partT_ok hx' hx
                  obtain ⟨q1, q2⟩ := partT_ok hy' hy
                  have he := ih h1 K hK' w p1 q1
                  simp only [Sem.run_bind, p2, q2, he, Result.andThen_ok]
                  rcases h2 with h2 | ⟨u', h2, h3⟩
                  · rw [(h2 E).1, (h2 E).2]; simp
                  · rw [h3 E]
                    cases t'.tr E
                    · simp
                    · simp; exact ihl w h2
                · cases h
              · cases h
            · rw [beq_iff_eq] at hn
              rw [if_neg (by simp [hn])]
              exact ihl w h
        · cases h
      · rename_i m e xs ys ht
        split at h
        · rename_i i hi
          show (Op.equalIn (K + 1) t (.agg _) (.agg _)).run P w = _
          rw [run_equalIn_array w K _ _ ht hi]
          generalize List.range m = l at h
          induction l generalizing τ w with
          | nil => simp [eqIs] at h; subst h; simp [Op.eqItems, T.tr, T.den]
          | cons j l ihl =>
            simp only [eqIs] at h
            simp only [Op.eqItems]
            split at h
            · rename_i x' hx'
              split at h
              · rename_i y' hy'
                obtain ⟨t', h1, h2⟩ := thenT_ok h
                obtain ⟨p1, p2⟩ := partT_ok hx' hx
                obtain ⟨q1, q2⟩ := partT_ok hy' hy
                have he := ih h1 K hK' w p1 q1
                simp only [Sem.run_bind, p2, q2, he, Result.andThen_ok]
                rcases h2 with h2 | ⟨u', h2, h3⟩
                · rw [(h2 E).1, (h2 E).2]; simp
                · rw [h3 E]
                  cases t'.tr E
                  · simp
                  · simp; exact ihl w h2
              · cases h
            · cases h
        · cases h
      · rename_i e ht; cases h; exact run_eqP1 ht K none
      · rename_i e _ _ ht; cases h; exact run_eqP1 ht K _
      · rename_i e _ _ ht; cases h; exact run_eqP2 ht K _
      · rename_i e ht; cases h; simp [Op.equalIn, run_underlying ht, A.val, C.val, T.tr, T.den]
      · rename_i e _ _ _ _ ht; cases h; simp [Op.equalIn, run_underlying ht, A.val, C.val, T.tr, T.den]
      · rename_i e ht; cases h; simp [Op.equalIn, run_underlying ht, A.val, C.val, T.tr, T.den]
      · rename_i e _ _ _ ht; cases h; simp [Op.equalIn, run_underlying ht, A.val, C.val, T.tr, T.den]
      · rename_i ms tx g cs ty g' cs' ht
        cases hxy : Nat.beq tx ty <;> simp only [hxy, cond_true, cond_false] at h
        · cases h
          have hne : tx ≠ ty := Nat.ne_of_beq_eq_false hxy
          simp [Op.equalIn, run_underlying ht, A.val, C.val, T.tr, T.den, hne]
        · have he := Nat.eq_of_beq_eq_true hxy
          subst he
          split at h
          · rename_i u v hi hu hv
            obtain ⟨i, hi1, hi2⟩ := Option.map_eq_some_iff.1 hi
            obtain ⟨u1, u2⟩ := payA_ok hu hx
            obtain ⟨v1, v2⟩ := payA_ok hv hy
            have := ih h K hK' w u1 v1
            show (Op.equalIn (K + 1) t (.iface tx (bif g then Value.agg (C.vals E ρ cs).toArray else (C.vals E ρ cs).headD undef)) (.iface tx (bif g' then Value.agg (C.vals E ρ cs').toArray else (C.vals E ρ cs').headD undef))).run P w = _
            rw [u2, v2]
            simp [Op.equalIn, run_underlying ht, typeInfo, hi1, hi2, this]
          · cases h
      · rename_i e b o1 b' o2 ht
        split at h
        · rename_i n hs
          cases hb : b.beq b' <;> simp only [hb, cond_true, cond_false] at h
          · cases h
          · cases h
            rw [Pt.beq_iff] at hb
            subst hb
            have hsz := run_sizeT hs
            simp [Op.equalIn, run_underlying ht, A.val, C.val, hsz, sameAddr, tbF_tr]
            by_cases h12 : o1 = o2
            · subst h12; rw [beq_self_eq_true]; exact (Nat.beq_refl o1).symm
            · rw [beq_eq_false_iff_ne.2 fun e => h12 (congrArg Addr.off e)]
              cases hbb : Nat.beq o1 o2
              · rfl
              · exact (h12 (Nat.eq_of_beq_eq_true hbb)).elim
        · cases h
      · rename_i _ _ _ ht; cases h; simp [Op.equalIn, run_underlying ht, A.val, C.val, T.tr, T.den]
      · rename_i _ _ _ _ _ ht; cases h; simp [Op.equalIn, run_underlying ht, A.val, C.val, T.tr, T.den]
      · rename_i _ _ ht; cases h; simp [Op.equalIn, run_underlying ht, A.val, C.val, T.tr, T.den]
      · rename_i _ _ _ ht; cases h; simp [Op.equalIn, run_underlying ht, A.val, C.val, T.tr, T.den]
      · cases h
end
end Go.E3
namespace Go.E3
open Go.Sy
noncomputable section
variable {P : Program} {pc : Pc} {o : Oper}

/-! '==' of what is no number -/
def plainV : A → Bool
  | .c (.int _ _) => false
  | .c (.str _) => false
  | .c (.raw _) => false
  | .c (.any _) => false
  | _ => true
theorem binOp_eq {E : Env} {ρ : Pt → Rb} {x : A} (hx : plainV x = true) {t : TypeId} (v : Value) (b : Bool) (he : ∀ w, (Op.equal t (x.val E ρ) v).run P w = .ok b w) (ne : Bool) (w : World) :
    (binOp (bif ne then .neq else .eql) t (x.val E ρ) v).run P w = .ok (.bool (bif ne then !b else b)) w := by
  have key : ∀ u : Value, (match u with | .int _ _ => false | .float _ _ => false | .complex _ _ _ => false | .string _ => false | _ => true) = true → (∀ w, (Op.equal t u v).run P w = .ok b w) → (binOp (bif ne then .neq else .eql) t u v).run P w = .ok (.bool (bif ne then !b else b)) w := by
    intro u hu he
    cases u <;> simp only at hu <;> try (cases hu; done)
    all_goals
      cases ne <;> simp only [cond_true, cond_false]
      · show (Sem.run P (Op.equal t _ v >>= fun r => pure (Value.bool r)) w) = _
        rw [Sem.run_bind, he]; rfl
      · show (Sem.run P (Op.equal t _ v >>= fun r => pure (Value.bool (!r))) w) = _
        rw [Sem.run_bind, he]; rfl
  refine key _ ?_ he
  cases x with
  | agg xs => rfl
  | c x => cases x <;> first | rfl | cases hx
def isNilC : Operand → Bool
  | .const _ => true
  | _ => false
def cellK : C → Bool
  | .raw _ => false
  | .any _ => false
  | .nili => false
  | .int _ _ => false
  | .str _ => false
  | _ => true
/-- No two nil interface values that are no constants, no aggregates that hold such. -/
def guardOk (P : Program) (t : TypeId) (y : Operand) (u v : A) : Bool := match u with
  | .agg _ => match v with
    | .agg _ => !(P.eqGuardType P.depth t)
    | _ => false
  | .c a => match v with
    | .c .nili => match a with
      | .nili => isNilC y
      | a => cellK a
    | .c b => cellK a && cellK b
    | _ => false
theorem cellK_val {E : Env} {ρ : Pt → Rb} {a : C} (h : cellK a = true) : (a.val E ρ ≠ .nilIface) ∧ (∀ cs, a.val E ρ ≠ .agg cs) := by
  cases a <;> first | (cases h; done) | (refine ⟨?_, fun cs => ?_⟩ <;> simp [C.val])
theorem guard_else {op : BinOp} {t : TypeId} {x y : Operand} {a b : Value} (h1 : a ≠ .nilIface) (h2 : ∀ cs, a ≠ .agg cs) (w : World) : (eqGuard op t x y a b).run P w = .ok () w := by
  unfold eqGuard
  cases op <;> first | rfl | (cases a <;> first | exact (h1 rfl).elim | exact (h2 _ rfl).elim | rfl)
theorem eqGuard_ok {E : Env} {ρ : Pt → Rb} {t : TypeId} {x y : Operand} {u v : A} (h : guardOk P t y u v = true) (op : BinOp) (w : World) : (eqGuard op t x y (u.val E ρ) (v.val E ρ)).run P w = .ok () w := by
  cases u with
  | agg xs =>
    cases v with
    | agg ys =>
      simp only [guardOk, Bool.not_eq_true'] at h
      exact run_eqGuard_agg w _ t x y _ _ h
    | c z => cases h
  | c a =>
    cases v with
    | agg ys => cases h
    | c b =>
      have key : cellK a = true → (eqGuard op t x y (a.val E ρ) (b.val E ρ)).run P w = .ok () w := fun ha => guard_else (cellK_val ha).1 (cellK_val ha).2 w
      by_cases hb : b = .nili
      · subst hb
        by_cases ha : a = .nili
        · subst ha
          simp only [guardOk] at h
          have hc : ∃ c, y = .const c := by
            cases y with
            | const c => exact ⟨c, rfl⟩
            | _ => cases h
          obtain ⟨c, rfl⟩ := hc
          show (eqGuard op t x (.const c) .nilIface .nilIface).run P w = _
          cases op <;> first | rfl | (cases x <;> rfl)
        · exact key (by cases a <;> first | exact h | exact (ha rfl).elim)
      · refine key ?_
        simp only [guardOk] at h
        cases b <;> first | exact (hb rfl).elim | (rw [Bool.and_eq_true] at h; exact h.1)
def evEqG (P : Program) (t : TypeId) (ne : Bool) (x y : Operand) (pc : Pc) (s : Tri L) : Option L := match opd pc s x with
  | some u => match opd pc s y with
    | some v => bif plainV u && guardOk P t y u v then match eqA P 24 t u v with
      | some τ => some (.a (.c (.bool (norm pc (bif ne then mkNot τ else τ)))))
      | none => none
      else none
    | none => none
  | none => none
theorem evEqG_ok {ne : Bool} {t yt : TypeId} {x y : Operand} (ho : o.op = .binOp (bif ne then .neq else .eql) t x y yt) : PureOk P pc o (evEqG P t ne x y pc) := by
  intro s l hl E ρ D ev hp hops
  unfold evEqG at hl
  split at hl
  · rename_i u hx
    split at hl
    · rename_i v hy
      cases hq : plainV u && guardOk P t y u v <;> simp only [hq, cond_true, cond_false] at hl
      · cases hl
      rw [Bool.and_eq_true] at hq
      split at hl
      · rename_i τ hτ
        cases hl
        obtain ⟨u1, u2⟩ := opd_ok hp hops (by simp [ho, Op.operands]) hx
        obtain ⟨v1, v2⟩ := opd_ok hp hops (by simp [ho, Op.operands]) hy
        refine ⟨fun w => ?_, trivial⟩
        have hb := fun w => binOp_eq (P := P) (E := E) (ρ := ρ) hq.1 (t := t) (v.val E ρ) (τ.tr E) (fun w => eqA_ok hτ 10000 (by omega) w u1 v1) ne w
        have hg := fun w => eqGuard_ok (P := P) (E := E) (ρ := ρ) (x := x) hq.2 (bif ne then .neq else .eql) w
        simp only [execOp, ho, u2, v2, Sem.run_bind, hg, Result.andThen_ok, hb]
        rw [show (L.a (.c (.bool (norm pc (bif ne then mkNot τ else τ))))).val E ρ = .bool ((norm pc (bif ne then mkNot τ else τ)).tr E) from rfl, norm_tr hp]
        cases ne <;> simp only [cond_true, cond_false, tr_mkNot] <;> rfl
      · cases hl
    · cases hl
  · cases hl
/-! strings -/
def appF {α : Type} (xs ys : List α) : List α := List.rec (motive := fun _ => List α) ys (fun x _ ih => x :: ih) xs
theorem appF_eq {α : Type} (xs ys : List α) : appF xs ys = xs ++ ys := by
  induction xs with
  | nil => rfl
  | cons x xs ih => exact congrArg (x :: ·) ih
/-- Which string is ahead. -/
def lssT (pc : Pc) : List T → List T → T
  | _, [] => .lit 0
  | [], _ :: _ => .lit 1
  | s :: r, t :: r' => match dec pc (mk2 .eq s t) with
    | some true => lssT pc r r'
    | some false => norm pc (mk2 .lt s t)
    | none => mkIte (mk2 .eq s t) (lssT pc r r') (mk2 .lt s t)
theorem lssT_ok {E : Env} (hp : pcOk E pc) : ∀ {xs ys : List T}, (∀ t ∈ xs, 0 ≤ t.den E ∧ t.den E ≤ 255) → (∀ t ∈ ys, 0 ≤ t.den E ∧ t.den E ≤ 255) → (lssT pc xs ys).tr E = Op.bytesLess (xs.map fun t => byteOf (t.den E)) (ys.map fun t => byteOf (t.den E))
  | xs, [], _, _ => by cases xs <;> rfl
  | [], y :: ys, _, _ => rfl
  | x :: xs, y :: ys, hx, hy => by
    have ih := lssT_ok hp (xs := xs) (ys := ys) (fun t ht => hx t (List.mem_cons_of_mem _ ht)) (fun t ht => hy t (List.mem_cons_of_mem _ ht))
    have h1 := hx x List.mem_cons_self
    have h2 := hy y List.mem_cons_self
    have he : (byteOf (x.den E) == byteOf (y.den E)) = (x.den E == y.den E) := byteOf_inj h1 h2
    have hl : decide (byteOf (x.den E) < byteOf (y.den E)) = decide (x.den E < y.den E) := by
      have e1 := byteOf_val h1
      have e2 := byteOf_val h2
      have : (byteOf (x.den E) < byteOf (y.den E)) ↔ (x.den E < y.den E) := by rw [UInt8.lt_iff_toNat_lt]; omega
      exact decide_eq_decide.2 this
    have hq : (mk2 .eq x y).tr E = (x.den E == y.den E) := by simp only [T.tr, mk2_den, O2.den, tb_ne]
    have hlt := tr_lt2 E x y
    have hirr : (x.den E == y.den E) = true → decide (x.den E < y.den E) = false := fun h => by
      rw [beq_iff_eq] at h; rw [h]; simp
    simp only [lssT, List.map_cons, Op.bytesLess]
    rw [he, hl]
    split
    · rename_i hd
      have := dec_ok hp hd
      rw [hq] at this
      rw [this, hirr this, ih]; rfl
    · rename_i hd
      have := dec_ok hp hd
      rw [hq] at this
      rw [norm_tr hp, hlt, this]; simp
    · have hden : (mkIte (mk2 .eq x y) (lssT pc xs ys) (mk2 .lt x y)).tr E = bif (mk2 .eq x y).tr E then (lssT pc xs ys).tr E else (mk2 .lt x y).tr E := by
        simp only [T.tr, mkIte_den]
        by_cases h0 : (mk2 .eq x y).den E = 0
        · simp [h0]
        · rw [bne_iff_ne.2 h0, if_neg h0]; rfl
      rw [hden, hq, ih, hlt]
      cases hb : (x.den E == y.den E)
      · simp
      · rw [hirr hb]; rfl
def evStr (op : BinOp) (x y : Operand) (pc : Pc) (s : Tri L) : Option L := match opC pc s x with
  | some (.str a) => match opC pc s y with
    | some (.str b) => match op with
      | .eql => some (.a (.c (.bool (norm pc (strEq a b)))))
      | .neq => some (.a (.c (.bool (norm pc (mkNot (strEq a b))))))
      | .add => bif Nat.ble (Nat.add (lenF a) (lenF b)) 65536 then some (.a (.c (.str (appF a b)))) else none
      | .lss => some (.a (.c (.bool (norm pc (lssT pc a b)))))
      | _ => none
    | _ => none
  | _ => none
theorem evStr_ok {op : BinOp} {t yt : TypeId} {x y : Operand} (ho : o.op = .binOp op t x y yt) : PureOk P pc o (evStr op x y pc) := by
  intro s l hl E ρ D ev hp hops
  unfold evStr at hl
  split at hl
  · rename_i a hx
    split at hl
    · rename_i b hy
      obtain ⟨u1, u2⟩ := opC_ok hp hops (by simp [ho, Op.operands]) hx
      obtain ⟨v1, v2⟩ := opC_ok hp hops (by simp [ho, Op.operands]) hy
      obtain ⟨b1, e1, e2⟩ := strOf_data E a
      obtain ⟨b2, e3, e4⟩ := strOf_data E b
      simp only [C.val, e1] at u2
      simp only [C.val, e3] at v2
      have hg : ∀ op w, (eqGuard op t x y (.string b1) (.string b2)).run P w = .ok () w := fun op w => guard_else (by simp) (fun cs => by simp) w
      have hs : (b1.toList == b2.toList) = (strEq a b).tr E := by rw [toList_data, toList_data, e2, e4, strEq_ok E u1 v1]
      split at hl
      · cases hl
        refine ⟨fun w => ?_, trivial⟩
        have : (binOp .eql t (.string b1) (.string b2)).run P w = .ok (.bool (b1.toList == b2.toList)) w := rfl
        simp only [execOp, ho, u2, v2, Sem.run_bind, hg, Result.andThen_ok, this, hs, L.val, A.val, C.val, norm_tr hp]; rfl
      · cases hl
        refine ⟨fun w => ?_, trivial⟩
        have : (binOp .neq t (.string b1) (.string b2)).run P w = .ok (.bool !(b1.toList == b2.toList)) w := rfl
        simp only [execOp, ho, u2, v2, Sem.run_bind, hg, Result.andThen_ok, this, hs, L.val, A.val, C.val, norm_tr hp, tr_mkNot]; rfl
      · cases hc : Nat.ble (Nat.add (lenF a) (lenF b)) 65536 <;> simp only [hc, cond_true, cond_false] at hl
        · cases hl
        · cases hl
          rw [Nat.ble_eq, lenF_eq, lenF_eq] at hc
          change a.length + b.length ≤ 65536 at hc
          rw [appF_eq]
          have s1 : b1.size = a.length := by have := congrArg List.length e2; rw [List.length_map, Array.length_toList] at this; exact this
          have s2 : b2.size = b.length := by have := congrArg List.length e4; rw [List.length_map, Array.length_toList] at this; exact this
          refine ⟨fun w => ?_, fun t ht => (List.mem_append.1 ht).elim (u1 t) (v1 t)⟩
          have hsz : ¬ (((b1.size + b2.size : Nat) : Int) > IntKind.i64.max) := by
            rw [s1, s2]; simp [IntKind.max, IntKind.bits, IntKind.signed]; omega
          have hb : (binOp .add t (.string b1) (.string b2)).run P w = .ok (.string (b1 ++ b2)) w := by
            show (Op.stringOp .add b1 b2).run P w = _
            simp only [Op.stringOp]
            rw [if_neg hsz]; rfl
          have hv : Value.string (b1 ++ b2) = strOf E (a ++ b) := by
            unfold strOf
            congr 1
            have : (b1 ++ b2).data = ((a ++ b).map fun t : T => byteOf (t.den E)).toArray := by
              rw [ByteArray.data_append]
              apply Array.ext'
              rw [Array.toList_append, e2, e4]; simp
            exact congrArg ByteArray.mk this
          simp only [execOp, ho, u2, v2, Sem.run_bind, hg, Result.andThen_ok, hb, L.val, A.val, C.val, hv]; rfl
      · cases hl
        refine ⟨fun w => ?_, trivial⟩
        have : (binOp .lss t (.string b1) (.string b2)).run P w = .ok (.bool (Op.bytesLess b1.toList b2.toList)) w := rfl
        have hb : Op.bytesLess b1.toList b2.toList = (lssT pc a b).tr E := by rw [toList_data, toList_data, e2, e4, lssT_ok hp u1 v1]
        simp only [execOp, ho, u2, v2, Sem.run_bind, hg, Result.andThen_ok, this, hb, L.val, A.val, C.val, norm_tr hp]; rfl
      · cases hl
    · cases hl
  · cases hl

/-! interface values, functions -/
def evMkI (t : TypeId) (x : Operand) (pc : Pc) (s : Tri L) : Option L := match opd pc s x with
  | some (.c y) => some (.a (.c (.ifc t false [y])))
  | some (.agg xs) => some (.a (.c (.ifc t true xs)))
  | none => none
theorem evMkI_ok {t : TypeId} {x : Operand} (ho : o.op = .makeInterface t x) {d : TypeDesc} (hu : P.underlying t = some d) (hni : ∀ ms, d ≠ .interface ms) : PureOk P pc o (evMkI t x pc) := by
  intro s l hl E ρ D ev hp hops
  have hrun : ∀ w, (execOp ev o).run P w = .ok (.value (.iface t (ev x))) w := fun w => by
    simp only [execOp, ho, Instr.makeInterface, Sem.run_bind, run_underlying hu, Result.andThen_ok]
    cases d <;> first | exact (hni _ rfl).elim | rfl
  unfold evMkI at hl
  split at hl
  · rename_i y hx
    cases hl
    obtain ⟨h1, h2⟩ := opd_ok hp hops (by simp [ho, Op.operands]) hx
    exact ⟨fun w => by rw [hrun, h2]; rfl, ⟨h1, trivial⟩⟩
  · rename_i xs hx
    cases hl
    obtain ⟨h1, h2⟩ := opd_ok hp hops (by simp [ho, Op.operands]) hx
    refine ⟨fun w => ?_, oks_iff.2 h1⟩
    rw [hrun, h2]
    simp only [L.val, A.val, C.val, cond_true, vals_map]
  · cases hl
def ifA (g : Bool) (cs : List C) : Option A := bif g then some (.agg cs) else match cs with
  | [x] => some (.c x)
  | _ => none
theorem ifA_ok {E : Env} {ρ : Pt → Rb} {D : Pt → Prop} {t : TypeId} {g : Bool} {cs : List C} {y : A} (h : ifA g cs = some y) (hc : (C.ifc t g cs).ok E ρ D) : y.ok E ρ D ∧ (C.ifc t g cs).val E ρ = .iface t (y.val E ρ) := by
  unfold ifA at h
  cases g <;> simp only [cond_true, cond_false] at h
  · split at h
    · cases h; exact ⟨hc.1, rfl⟩
    · cases h
  · cases h
    exact ⟨oks_iff.1 hc, by simp only [C.val, cond_true, vals_map]; rfl⟩
/-- A type assertion: it holds, or it is asked whether it does. 'z': nothing of the type. -/
def evTA (z : A) (asserted : TypeId) (ok : Bool) (x : Operand) (pc : Pc) (s : Tri L) : Option L := match opC pc s x with
  | some (.ifc t g cs) => bif Nat.beq t asserted then match ifA g cs with
      | some y => some (bif ok then .tup [y, .c (.bool (.lit 1))] else .a y)
      | none => none
    else bif ok then some (.tup [z, .c (.bool (.lit 0))]) else none
  | some .nili => bif ok then some (.tup [z, .c (.bool (.lit 0))]) else none
  | _ => none
/-- Nothing of a type. -/
def zeroV (P : Program) (t : TypeId) : Option A := match infoF P t with
  | some i => match i.zero with
    | some z => match constL z with
      | some (.a x) => some x
      | _ => none
    | none => none
  | none => none
theorem zeroV_ok {t : TypeId} {z : A} (h : zeroV P t = some z) (E : Env) (ρ : Pt → Rb) (D : Pt → Prop) : z.ok E ρ D ∧ ∀ w, (zeroValue t).run P w = .ok (z.val E ρ) w := by
  unfold zeroV at h
  rw [infoF_eq] at h
  split at h
  · rename_i i hi
    split at h
    · rename_i zv hz
      split at h
      · rename_i x hx
        cases h
        obtain ⟨h1, h2⟩ := constL_ok hx E ρ D
        exact ⟨h1, fun w => by rw [run_zero hi hz]; exact congrArg (Result.ok · w) h2.symm⟩
      · cases h
    · cases h
  · cases h
theorem evTA_ok {x : Operand} {xt asserted : TypeId} {ok : Bool} (ho : o.op = .typeAssert x xt asserted ok) {d : TypeDesc} (hu : P.underlying asserted = some d) (hni : ∀ ms, d ≠ .interface ms) {z : A} (hz : zeroV P asserted = some z) : PureOk P pc o (evTA z asserted ok x pc) := by
  intro s l hl E ρ D ev hp hops
  obtain ⟨z1, z2⟩ := zeroV_ok hz E ρ D
  have hno : ∀ v, ev x = v → (v = .nilIface ∨ ∃ t u, v = .iface t u ∧ t ≠ asserted) → ok = true → ∀ w, (execOp ev o).run P w = .ok (.value (.tuple #[z.val E ρ, .bool false])) w := by
    intro v hv h hok w
    subst hok
    rcases h with rfl | ⟨t, u, rfl, hne⟩
    · simp only [execOp, ho, hv, Instr.typeAssert, Sem.run_bind, run_underlying hu, Result.andThen_ok]
      cases d <;> first | exact (hni _ rfl).elim | (simp only [if_true, Sem.run_bind, z2, Result.andThen_ok]; rfl)
    · simp only [execOp, ho, hv, Instr.typeAssert, Sem.run_bind, run_underlying hu, Result.andThen_ok]
      cases d <;> first | exact (hni _ rfl).elim | (simp only [if_neg hne, if_true, Sem.run_bind, z2, Result.andThen_ok]; rfl)
  unfold evTA at hl
  split at hl
  · rename_i t g cs hx
    obtain ⟨h1, h2⟩ := opC_ok hp hops (by simp [ho, Op.operands]) hx
    cases hb : Nat.beq t asserted <;> simp only [hb, cond_true, cond_false] at hl
    · cases ok <;> simp only [cond_true, cond_false] at hl
      · cases hl
      · cases hl
        refine ⟨fun w => hno _ h2 (.inr ⟨t, _, rfl, Nat.ne_of_beq_eq_false hb⟩) rfl w, fun y hy => ?_⟩
        simp at hy
        rcases hy with rfl | rfl
        · exact z1
        · trivial
    · have hb := Nat.eq_of_beq_eq_true hb
      subst hb
      split at hl
      · rename_i y hy
        cases hl
        obtain ⟨y1, y2⟩ := ifA_ok hy h1
        rw [y2] at h2
        have hrun : ∀ w, (execOp ev o).run P w = .ok (.value (if ok then .tuple #[y.val E ρ, .bool true] else y.val E ρ)) w := fun w => by
          simp only [execOp, ho, h2, Instr.typeAssert, Sem.run_bind, run_underlying hu, Result.andThen_ok]
          cases d <;> first | exact (hni _ rfl).elim | (simp only [if_true]; rfl)
        cases ok
        · exact ⟨hrun, y1⟩
        · refine ⟨hrun, fun y' hy' => ?_⟩
          simp at hy'
          rcases hy' with rfl | rfl
          · exact y1
          · trivial
      · cases hl
  · rename_i hx
    obtain ⟨h1, h2⟩ := opC_ok hp hops (by simp [ho, Op.operands]) hx
    cases ok <;> simp only [cond_true, cond_false] at hl
    · cases hl
    · cases hl
      refine ⟨fun w => hno _ h2 (.inl rfl) rfl w, fun y hy => ?_⟩
      simp at hy
      rcases hy with rfl | rfl
      · exact z1
      · trivial
  · cases hl
def capsC (pc : Pc) (s : Tri L) : List Operand → Option (List C)
  | [] => some []
  | x :: r => match opC pc s x with
    | some c => match capsC pc s r with
      | some cs => some (c :: cs)
      | none => none
    | none => none
theorem capsC_ok {E : Env} {ρ : Pt → Rb} {D : Pt → Prop} {s : Tri L} {ev : Operand → Value} {ys : List Operand} (hp : pcOk E pc) (h : OpsR E ρ D s ev ys) : ∀ {xs : List Operand} {cs : List C}, (∀ x ∈ xs, x ∈ ys) → capsC pc s xs = some cs → (∀ c ∈ cs, c.ok E ρ D) ∧ xs.map ev = cs.map (C.val E ρ) := by
  intro xs
  induction xs with
  | nil => intro cs _ hc; cases hc; exact ⟨(fun _ h => nomatch h), rfl⟩
  | cons x xs ih =>
    intro cs hm hc
    simp only [capsC] at hc
    split at hc
    · rename_i c hx
      split at hc
      · rename_i r hr
        cases hc
        obtain ⟨h1, h2⟩ := opC_ok hp h (hm x List.mem_cons_self) hx
        obtain ⟨h3, h4⟩ := ih (fun y hy => hm y (List.mem_cons_of_mem _ hy)) hr
        refine ⟨fun c' hc' => ?_, by rw [List.map_cons, List.map_cons, h2, h4]⟩
        rcases List.mem_cons.1 hc' with rfl | hc'
        · exact h1
        · exact h3 c' hc'
      · cases hc
    · cases hc
def evMakeF (f : Nat) (caps : List Operand) (pc : Pc) (s : Tri L) : Option L := match capsC pc s caps with
  | some cs => some (.a (.c (.fn f cs)))
  | none => none
theorem evMakeF_ok {f : Nat} {caps : Array Operand} (ho : o.op = .makeFunc (.func f) #[] caps) : PureOk P pc o (evMakeF f caps.toList pc) := by
  intro s l hl E ρ D ev hp hops
  unfold evMakeF at hl
  split at hl
  · rename_i cs hc
    cases hl
    obtain ⟨h1, h2⟩ := capsC_ok hp hops (by intro x hx; simp only [ho, Op.operands]; simpa using hx) hc
    refine ⟨fun w => ?_, oks_iff.2 h1⟩
    have e : caps.map ev = (cs.map (C.val E ρ)).toArray := by apply Array.ext'; rw [Array.toList_map, h2]
    simp [execOp, ho, e, L.val, A.val, C.val, vals_map, Instr.makeFunc]
  · cases hl
end
end Go.E3
