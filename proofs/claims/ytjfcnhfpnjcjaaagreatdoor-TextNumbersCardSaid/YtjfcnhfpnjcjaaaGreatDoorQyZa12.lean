/- Part Za12 of a checked reader of Go texts in their model form: it runs a function at terms in the place of numbers, and each part proves that its answers hold of the model. -/
import Derived.Test.YtjfcnhfpnjcjaaaGreatDoorQyZa10
import Derived.MapKept
import Derived.WideKeyRuns
namespace Go.E3
open Go.Sy
noncomputable section
variable {P : Program} {pc : Pc} {o : Oper}

/-! maps -/
/-- Types that a key may be of: numbers, truths, strings, structs of such. -/
def keyT (P : Program) : Nat → TypeId → Bool
  | 0, _ => false
  | n + 1, t => match undF P t with
    | some (.int _) => true
    | some .bool => true
    | some .string => true
    | some (.struct fs) => fs.toList.all fun f => keyT P n f.type
    | _ => false
def keyFs (P : Program) (r : TypeId → A → Bool) (xs : List C) : List Field → Bool
  | [] => true
  | f :: fs => match partT P f.type xs f.offset with
    | some x => r f.type x && keyFs P r xs fs
    | none => false
/-- A key whose parts are there. -/
def keyOk (P : Program) : Nat → TypeId → A → Bool
  | 0, _, _ => false
  | n + 1, t, x => match undF P t, x with
    | some (.int _), .c _ => true
    | some .bool, .c _ => true
    | some .string, .c _ => true
    | some (.struct fs), .agg xs => keyFs P (keyOk P n) xs fs.toList
    | _, _ => false
theorem checkKey_ok {E : Env} {ρ : Pt → Rb} {D : Pt → Prop} (em : Bool) : ∀ {n : Nat} {t : TypeId} {x : A}, keyOk P n t x = true → x.ok E ρ D → ∀ (k : Nat), n ≤ k → ∀ w : World, (Instr.checkKey em k t (x.val E ρ)).run P w = .ok () w := by
  intro n
  induction n with
  | zero => intro t x h; cases h
  | succ n ih =>
    intro t x h hx k hk w
    cases k with
    | zero => omega
    | succ k =>
      simp only [keyOk, undF_eq] at h
      split at h
      · rename_i q c hu; unfold Instr.checkKey; simp [run_underlying hu]
      · rename_i c hu; unfold Instr.checkKey; simp [run_underlying hu]
      · rename_i c hu; unfold Instr.checkKey; simp [run_underlying hu]
      · rename_i fs xs hu
        have key : ∀ l : List Field, keyFs P (keyOk P n) xs l = true → (forIn l PUnit.unit (fun f _ => do
            if f.name ≠ "_" then do
              let a ← part f.type (xs.map (C.val E ρ)).toArray f.offset
              Instr.checkKey em k f.type a
              pure (ForInStep.yield PUnit.unit)
            else pure (ForInStep.yield PUnit.unit)) : Sem PUnit).run P w = .ok PUnit.unit w := by
          intro l
          induction l with
          | nil => intro _; simp
          | cons f l ihl =>
            intro hl
            simp only [keyFs] at hl
            split at hl
            · rename_i y hy
              rw [Bool.and_eq_true] at hl
              obtain ⟨p1, p2⟩ := partT_ok hy hx
              have := ih hl.1 p1 k (by omega) w
              simp only [List.forIn_cons, Sem.run_bind]
              by_cases hn : f.name ≠ "_"
              · simp only [if_pos hn, Sem.run_bind, p2, Result.andThen_ok, this]
                exact ihl hl.2
              · simp only [if_neg hn]
                exact ihl hl.2
            · cases hl
        show (Instr.checkKey em (k + 1) t (.agg (xs.map (C.val E ρ)).toArray)).run P w = _
        unfold Instr.checkKey
        simp only [Sem.run_bind, run_underlying hu, Result.andThen_ok]
        have h2 := key fs.toList h
        rw [Array.forIn_toList] at h2
        rw [h2]; rfl
      · cases h
/-- Where a key is: '0' on. None: it can't be told. -/
def findG (P : Program) (pc : Pc) (kt : TypeId) (key : A) : List Ent → Nat → Option (Option (Nat × Ent))
  | [], _ => some none
  | e :: es, i => match eqA P 24 kt key e.key with
    | some τ => match dec pc τ with
      | some true => some (some (i, e))
      | some false => findG P pc kt key es (i + 1)
      | none => none
    | none => none
def entV (E : Env) (ρ : Pt → Rb) (e : Ent) : MapEntry := { key := e.key.val E ρ, val := e.val.val E ρ, born := e.born }
/-- .. by the model: by looks, or by asking. -/
theorem findAsking_ok {E : Env} {ρ : Pt → Rb} {D : Pt → Prop} (hp : pcOk E pc) {kt : TypeId} {key : A} (hk : key.ok E ρ D) (w : World) : ∀ {es : List Ent} {i : Nat} {r : Option (Nat × Ent)}, findG P pc kt key es i = some r → (∀ e ∈ es, e.key.ok E ρ D) →
    (Instr.findAsking kt (key.val E ρ) (es.map (entV E ρ)) i).run P w = .ok (r.map fun p => (p.1, p.2.val.val E ρ)) w := by
  intro es
  induction es with
  | nil => intro i r h _; cases h; rfl
  | cons e es ih =>
    intro i r h he
    simp only [findG] at h
    split at h
    · rename_i τ hτ
      have hq := eqA_ok hτ 10000 (by omega) w hk (he e List.mem_cons_self)
      have hq' : (Op.equal kt (key.val E ρ) (entV E ρ e).key).run P w = .ok (τ.tr E) w := hq
      simp only [List.map_cons, Instr.findAsking, Sem.run_bind, hq', Result.andThen_ok]
      split at h
      · rename_i hd; cases h; rw [dec_ok hp hd]; rfl
      · rename_i hd; rw [dec_ok hp hd]; exact ih h fun x hx => he x (List.mem_cons_of_mem _ hx)
      · cases h
    · cases h
/-- Does a key's type go by looks? -/
def nowT : Option TypeDesc → Bool
  | some (.int _) => true
  | some .bool => true
  | some .string => true
  | _ => false
theorem eqA_now {E : Env} {ρ : Pt → Rb} {D : Pt → Prop} {kt : TypeId} {d : TypeDesc} (hu : P.underlying kt = some d) (hn : nowT (P.underlying kt) = true) {n : Nat} {x y : A} {τ : T} (h : eqA P (n + 1) kt x y = some τ) (hx : x.ok E ρ D) (hy : y.ok E ρ D) : Instr.sameNow d (x.val E ρ) (y.val E ρ) = some (τ.tr E) := by
  simp only [eqA, undF_eq, infoF_eq] at h
  split at h
  · rename_i k0 k s k' u' ht
    rw [hu] at ht; cases ht
    split at h
    · rename_i hk
      subst hk; cases h
      simp only [A.val, C.val, Instr.sameNow, if_true, eqTT_tr]
    · cases h
  · rename_i s u' ht
    rw [hu] at ht; cases ht; cases h
    simp only [A.val, C.val, Instr.sameNow, eqBB_tr]
  · rename_i s u' ht
    rw [hu] at ht; cases ht; cases h
    obtain ⟨b1, e1, e2⟩ := strOf_data E s
    obtain ⟨b2, e3, e4⟩ := strOf_data E u'
    show Instr.sameNow .string (strOf E s) (strOf E u') = _
    rw [e1, e3]
    simp only [Instr.sameNow]
    rw [strEq_ok E hx hy, ← e2, ← e4]
    congr 1
    obtain ⟨a1⟩ := b1
    obtain ⟨a2⟩ := b2
    show (a1 == a2) = (a1.toList == a2.toList)
    rw [Bool.eq_iff_iff, beq_iff_eq, beq_iff_eq]
    exact ⟨fun h => by rw [h], fun h => Array.toList_inj.1 h⟩
  all_goals first | (cases h; done) | (rename_i ht; rw [ht] at hn; cases hn)
theorem findNow_ok {E : Env} {ρ : Pt → Rb} {D : Pt → Prop} (hp : pcOk E pc) {kt : TypeId} {d : TypeDesc} (hu : P.underlying kt = some d) (hn : nowT (P.underlying kt) = true) {key : A} (hk : key.ok E ρ D) : ∀ {es : List Ent} {i : Nat} {r : Option (Nat × Ent)}, findG P pc kt key es i = some r → (∀ e ∈ es, e.key.ok E ρ D) →
    Instr.findNow d (key.val E ρ) (es.map (entV E ρ)) i = some (r.map fun p => (p.1, p.2.val.val E ρ)) := by
  intro es
  induction es with
  | nil => intro i r h _; cases h; rfl
  | cons e es ih =>
    intro i r h he
    simp only [findG] at h
    split at h
    · rename_i τ hτ
      have hs : Instr.sameNow d (key.val E ρ) (entV E ρ e).key = some (τ.tr E) := eqA_now hu hn hτ hk (he e List.mem_cons_self)
      simp only [List.map_cons, Instr.findNow, hs]
      split at h
      · rename_i hd; cases h; rw [dec_ok hp hd]; rfl
      · rename_i hd; rw [dec_ok hp hd]; exact ih h fun x hx => he x (List.mem_cons_of_mem _ hx)
      · cases h
    · cases h
theorem runFindKey {w : World} {kt : TypeId} {d : TypeDesc} {k : Value} {l : List MapEntry} {a : Option (Nat × Value)} (hd : P.underlying kt = some d) (h : Instr.findNow d k l 0 = some a) : (Instr.findKey kt k l).run P w = .ok a w := by
  simp [Instr.findKey, run_underlying hd, Result.andThen, h]
/-- Types of keys that are served. -/
def keyDom (P : Program) (kt : TypeId) : Bool := match undF P kt with
  | some (.int _) => true
  | some .bool => true
  | some .string => true
  | some (.struct _) => true
  | _ => false
theorem findKey_ok {E : Env} {ρ : Pt → Rb} {D : Pt → Prop} (hp : pcOk E pc) {kt : TypeId} (hd : keyDom P kt = true) {key : A} (hk : key.ok E ρ D) {es : List Ent} {r : Option (Nat × Ent)} (h : findG P pc kt key es 0 = some r) (he : ∀ e ∈ es, e.key.ok E ρ D) (w : World) :
    (Instr.findKey kt (key.val E ρ) (es.map (entV E ρ))).run P w = .ok (r.map fun p => (p.1, p.2.val.val E ρ)) w := by
  unfold keyDom at hd
  rw [undF_eq] at hd
  split at hd
  · rename_i k hu; exact runFindKey hu (findNow_ok hp hu (by rw [hu]; rfl) hk h he)
  · rename_i hu; exact runFindKey hu (findNow_ok hp hu (by rw [hu]; rfl) hk h he)
  · rename_i hu; exact runFindKey hu (findNow_ok hp hu (by rw [hu]; rfl) hk h he)
  · rename_i fs hu
    rw [run_findKey_eq w (by rw [hu])]
    exact findAsking_ok hp hk w h he
  · cases hd
theorem findG_mem {kt : TypeId} {key : A} : ∀ {es : List Ent} {i : Nat} {j : Nat} {e : Ent}, findG P pc kt key es i = some (some (j, e)) → i ≤ j ∧ es[j - i]? = some e := by
  intro es
  induction es with
  | nil => intro i j e h; cases h
  | cons e0 es ih =>
    intro i j e h
    simp only [findG] at h
    split at h
    · split at h
      · cases h; exact ⟨Nat.le_refl _, by simp⟩
      · obtain ⟨h1, h2⟩ := ih h
        refine ⟨by omega, ?_⟩
        rw [show j - i = (j - (i + 1)) + 1 by omega, List.getElem?_cons_succ]; exact h2
      · cases h
    · cases h
def evMakeM (_ : Tri L) : Option (B × Nk) := some (.map [] 0, .map)
theorem evMakeM_ok {t : TypeId} (ho : o.op = .makeMap t none) : NewOk P pc o evMakeM := by
  intro s x k hf E ρ D ev w hp hops
  cases hf
  refine ⟨.map #[] 0, 0, fun b => ⟨.inr ((rg_succ _ _).2 rfl), ?_⟩, fun ρ' D' g => ⟨rfl, fun _ h => nomatch h⟩⟩
  simp only [Nk.at, C.val, upd_same]
  simp [execOp, ho, Instr.makeMap]
def resOf (ok : Bool) (z : A) (r : Option (Nat × Ent)) : L := match r with
  | some (_, e) => bif ok then .tup [e.val, .c (.bool (.lit 1))] else .a e.val
  | none => bif ok then .tup [z, .c (.bool (.lit 0))] else .a z
def evLookup (P : Program) (kt : TypeId) (z : A) (ok : Bool) (x i : Operand) (pc : Pc) (s : Tri L) (m : Tri B) : Option L := match opd pc s i with
  | some key => bif keyOk P 8 kt key then match opC pc s x with
    | some (.map b) => match m.get b with
      | some (.map es _) => match findG P pc kt key es 0 with
        | some r => some (resOf ok z r)
        | none => none
      | _ => none
    | some .nilm => some (resOf ok z none)
    | _ => none
    else none
  | none => none
theorem evLookup_ok {t kt et : TypeId} {x i : Operand} {ok : Bool} (ho : o.op = .lookup t x i ok) (hu : P.underlying t = some (.map kt et)) (hd : keyDom P kt = true) {z : A} (hz : zeroV P et = some z) : LoadOk P pc o (evLookup P kt z ok x i pc) := by
  intro s m l hl E ρ D ev w hp hops hm
  obtain ⟨z1, z2⟩ := zeroV_ok hz E ρ D
  unfold evLookup at hl
  split at hl
  · rename_i key hk
    obtain ⟨k1, k2⟩ := opd_ok hp hops (by simp [ho, Op.operands]) hk
    cases hko : keyOk P 8 kt key <;> simp only [hko, cond_true, cond_false] at hl
    · cases hl
    have hck := fun em => checkKey_ok (E := E) (ρ := ρ) (D := D) em hko k1 10000 (by omega) w
    have fin : ∀ (es : List Ent) (r : Option (Nat × Ent)), (∀ e ∈ es, e.key.ok E ρ D ∧ e.val.ok E ρ D) → findG P pc kt key es 0 = some r → ((ev x = .map none ∧ es = []) ∨ ∃ g cl, ev x = .map (some g) ∧ w.heap[g]? = some (.map (es.map (entV E ρ)).toArray cl)) → l = resOf ok z r → (execOp ev o).run P w = .ok (.value (l.val E ρ)) w ∧ l.ok E ρ D := by
      intro es r he hf hxx hl
      have hfk := findKey_ok hp hd k1 hf (fun e h => (he e h).1) w
      have hval : (∀ p, r = some p → p.2.val.ok E ρ D) := fun p hr => by
        subst hr
        obtain ⟨_, h2⟩ := findG_mem hf
        exact (he _ (List.mem_of_getElem? h2)).2
      subst hl
      refine ⟨?_, ?_⟩
      · have hget : ∀ g cl, w.heap[g]? = some (.map (es.map (entV E ρ)).toArray cl) → (getObj g).run P w = .ok (.map (es.map (entV E ρ)).toArray cl) w := fun g cl h => run_getObjM h
        rcases hxx with ⟨hx, rfl⟩ | ⟨g, cl, hx, hg⟩
        · have hl : (Instr.lookup t (.map none) (key.val E ρ) ok).run P w = .ok ((resOf ok z r).val E ρ) w := by
            have hfk' : (Instr.findKey kt (key.val E ρ) []).run P w = .ok (r.map fun p => (p.1, p.2.val.val E ρ)) w := hfk
            unfold Instr.lookup
            simp [run_underlying hu, hck, hfk']
            cases r <;> cases ok <;> simp [z2, resOf, L.val, A.val, C.val, T.tr, T.den]
          simp only [execOp, ho, k2, hx, Sem.run_bind, hl, Result.andThen_ok]; rfl
        · have hl : (Instr.lookup t (.map (some g)) (key.val E ρ) ok).run P w = .ok ((resOf ok z r).val E ρ) w := by
            unfold Instr.lookup
            simp [run_underlying hu, hget g cl hg, hck, hfk]
            cases r <;> cases ok <;> simp [z2, resOf, L.val, A.val, C.val, T.tr, T.den]
          simp only [execOp, ho, k2, hx, Sem.run_bind, hl, Result.andThen_ok]; rfl
      · unfold resOf
        cases r with
        | none => cases ok
                  · exact z1
                  · intro y hy; simp at hy; rcases hy with rfl | rfl
                    · exact z1
                    · trivial
        | some p => cases ok
                    · exact hval p rfl
                    · intro y hy; simp at hy; rcases hy with rfl | rfl
                      · exact hval p rfl
                      · trivial
    split at hl
    · rename_i b hx
      obtain ⟨h1, h2⟩ := opC_ok hp hops (by simp [ho, Op.operands]) hx
      split at hl
      · rename_i es cl hb
        obtain ⟨g1, g2⟩ := hm.mem b _ h1 hb
        split at hl
        · rename_i r hr
          cases hl
          exact fin es r g2 hr (.inr ⟨_, cl, h2, g1⟩) rfl
        · cases hl
      · cases hl
    · rename_i hx
      obtain ⟨h1, h2⟩ := opC_ok hp hops (by simp [ho, Op.operands]) hx
      cases hl
      exact fin [] none (fun _ h => nomatch h) rfl (.inl ⟨h2, rfl⟩) rfl
    · cases hl
  · cases hl
end
end Go.E3
namespace Go.E3
open Go.Sy
noncomputable section
variable {P : Program} {pc : Pc} {o : Oper}

/-- Keys of numbers, truths, strings: just the same. -/
def C.same : C → C → Bool
  | .int k s, .int k' t => decide (k = k') && s.beq t
  | .bool s, .bool t => s.beq t
  | .str l, .str l' => strSame l l'
  | _, _ => false
where strSame : List T → List T → Bool
  | [], [] => true
  | s :: l, t :: l' => s.beq t && strSame l l'
  | _, _ => false
theorem strSame_eq : ∀ {l l' : List T}, C.same.strSame l l' = true → l = l'
  | [], [], _ => rfl
  | [], _ :: _, h => by cases h
  | _ :: _, [], h => by cases h
  | s :: l, t :: l', h => by
    simp only [C.same.strSame, Bool.and_eq_true] at h
    rw [T.beq_eq h.1, strSame_eq h.2]
theorem bits_bytes (b : ByteArray) : (b == b) = true := by
  obtain ⟨x⟩ := b
  show (x == x) = true
  simp
theorem C.same_ok {x y : C} (h : x.same y = true) : x = y ∧ ∀ (E : Env) (ρ : Pt → Rb) (n : Nat), Instr.sameBits n (x.val E ρ) (x.val E ρ) = true := by
  unfold C.same at h
  split at h
  · rename_i k s k' t
    rw [Bool.and_eq_true, decide_eq_true_eq] at h
    rw [T.beq_eq h.2, h.1]
    exact ⟨rfl, fun E ρ n => by cases n <;> simp [C.val, Instr.sameBits]⟩
  · rename_i s t
    rw [T.beq_eq h]
    exact ⟨rfl, fun E ρ n => by cases n <;> simp [C.val, Instr.sameBits]⟩
  · rename_i l l'
    rw [strSame_eq h]
    refine ⟨rfl, fun E ρ n => ?_⟩
    obtain ⟨b, e1, _⟩ := strOf_data E l'
    simp only [C.val, e1]
    cases n <;> simp only [Instr.sameBits, bits_bytes]
  · cases h
def allSame : List C → List C → Bool
  | [], [] => true
  | x :: xs, y :: ys => x.same y && allSame xs ys
  | _, _ => false
theorem allSame_ok : ∀ {xs ys : List C}, allSame xs ys = true → xs = ys ∧ ∀ (E : Env) (ρ : Pt → Rb) (n : Nat), ∀ x ∈ xs, Instr.sameBits n (x.val E ρ) (x.val E ρ) = true
  | [], [], _ => ⟨rfl, fun _ _ _ _ h => nomatch h⟩
  | [], _ :: _, h => by cases h
  | _ :: _, [], h => by cases h
  | x :: xs, y :: ys, h => by
    simp only [allSame, Bool.and_eq_true] at h
    obtain ⟨h1, h2⟩ := C.same_ok h.1
    obtain ⟨h3, h4⟩ := allSame_ok h.2
    refine ⟨by rw [h1, h3], fun E ρ n z hz => ?_⟩
    rcases List.mem_cons.1 hz with rfl | hz
    · exact h2 E ρ n
    · exact h4 E ρ n z hz
def A.same : A → A → Bool
  | .c x, .c y => x.same y
  | .agg xs, .agg ys => allSame xs ys
  | _, _ => false
theorem A.same_ok {x y : A} (h : x.same y = true) : x = y ∧ ∀ (E : Env) (ρ : Pt → Rb), Instr.sameBits 10000 (x.val E ρ) (x.val E ρ) = true := by
  cases x with
  | c x => cases y with
    | c y => obtain ⟨h1, h2⟩ := C.same_ok h; exact ⟨by rw [h1], fun E ρ => h2 E ρ _⟩
    | agg ys => cases h
  | agg xs => cases y with
    | c y => cases h
    | agg ys =>
      obtain ⟨h1, h2⟩ := allSame_ok h
      refine ⟨by rw [h1], fun E ρ => ?_⟩
      show Instr.sameBits (9999 + 1) (.agg _) (.agg _) = true
      simp only [Instr.sameBits, Bool.and_eq_true, beq_self_eq_true, true_and, List.all_eq_true]
      intro p hp
      obtain ⟨q, r⟩ := p
      have hz : ∀ (l : List Value) (a b : Value), (a, b) ∈ l.zip l → a = b ∧ a ∈ l := by
        intro l
        induction l with
        | nil => intro a b h; cases h
        | cons z l ih =>
          intro a b h
          rw [List.zip_cons_cons] at h
          rcases List.mem_cons.1 h with h | h
          · cases h; exact ⟨rfl, List.mem_cons_self⟩
          · obtain ⟨h1, h2⟩ := ih a b h; exact ⟨h1, List.mem_cons_of_mem _ h2⟩
      obtain ⟨e1, e2⟩ := hz _ _ _ hp
      subst e1
      simp only [List.mem_map] at e2
      obtain ⟨x, hx, rfl⟩ := e2
      exact h2 E ρ _ x hx
def setAt (es : List Ent) (i : Nat) (key v : A) : List Ent := match es with
  | [] => []
  | e :: r => match i with
    | 0 => { e with key := key, val := v } :: r
    | i + 1 => e :: setAt r i key v
theorem setAt_ok {E : Env} {ρ : Pt → Rb} (key v : A) : ∀ (es : List Ent) (i : Nat), ((es.map (entV E ρ)).toArray.modify i fun e => { e with key := key.val E ρ, val := v.val E ρ }) = ((setAt es i key v).map (entV E ρ)).toArray := by
  intro es i
  apply Array.ext_getElem?
  intro j
  rw [Array.getElem?_modify]
  have key' : ∀ (es : List Ent) (i j : Nat), ((setAt es i key v).map (entV E ρ))[j]? = if i = j then ((es.map (entV E ρ))[j]?).map (fun e => { e with key := key.val E ρ, val := v.val E ρ }) else (es.map (entV E ρ))[j]? := by
    intro es
    induction es with
    | nil => intro i j; simp [setAt]
    | cons e r ih =>
      intro i j
      cases i with
      | zero => cases j <;> simp [setAt, entV]
      | succ i => cases j with
        | zero => simp [setAt]
        | succ j =>
          simp only [setAt, List.map_cons, List.getElem?_cons_succ]
          rw [ih i j]
          by_cases h : i = j <;> simp [h]
  rw [List.getElem?_toArray, List.getElem?_toArray, key' es i j]
theorem setAt_mem {es : List Ent} {i : Nat} {key v : A} {e : Ent} (h : e ∈ setAt es i key v) : e ∈ es ∨ (e.key = key ∧ e.val = v) := by
  induction es generalizing i with
  | nil => cases h
  | cons e0 r ih =>
    cases i with
    | zero =>
      simp only [setAt] at h
      rcases List.mem_cons.1 h with rfl | h
      · exact .inr ⟨rfl, rfl⟩
      · exact .inl (List.mem_cons_of_mem _ h)
    | succ i =>
      simp only [setAt] at h
      rcases List.mem_cons.1 h with rfl | h
      · exact .inl List.mem_cons_self
      · exact (ih h).imp (List.mem_cons_of_mem _) id
def evUpd (P : Program) (kt : TypeId) (x i v : Operand) (pc : Pc) (s : Tri L) (m : Tri B) (nx : Pt) : Option (Option L × Tri B × Pt) := match opd pc s i with
  | some key => bif keyOk P 8 kt key then match opd pc s v with
    | some val => match opC pc s x with
      | some (.map b) => match m.get b with
        | some (.map es cl) => match findG P pc kt key es 0 with
          | some none => m.putK b (some (.map (appF es [⟨key, val, cl⟩]) (Nat.succ cl))) fun m => some (none, m, nx)
          | some (some (j, e)) => bif e.key.same key then m.putK b (some (.map (setAt es j key val) cl)) fun m => some (none, m, nx) else none
          | none => none
        | _ => none
      | _ => none
    | none => none
    else none
  | none => none
theorem evUpd_mono (P : Program) (kt : TypeId) (x i v : Operand) : ∀ pc s m nx l m' nx', evUpd P kt x i v pc s m nx = some (l, m', nx') → nx.num ≤ nx'.num := by
  intro pc s m nx l m' nx' h
  simp only [evUpd, Tri.putK_eq, cond_eq_ite] at h
  repeat' split at h
  all_goals first | (cases h; done) | (cases h; exact Nat.le_refl _)
theorem MR.setObj {E : Env} {ρ : Pt → Rb} {D : Pt → Prop} {m : Tri B} {w : World} (h : MR E ρ D m w) {b : Pt} {x0 x : B} (hb : D b) (h0 : m.get b = some x0) {ob : Obj} (hx : BR E ρ D (ρ b).z x (some ob)) (nx : Pt) :
    Turn E ρ D m nx w ρ (m.put b (some x)) nx { w with heap := w.heap.setIfInBounds (ρ b).g ob } :=
  h.set hb h0 hx nx (Array.getElem?_setIfInBounds_self_of_lt (h.mem b _ hb h0).lt) (fun k hk => Array.getElem?_setIfInBounds_ne (fun e => hk e.symm)) (by simp) rfl rfl rfl
theorem evUpd_ok {t kt et : TypeId} {x i v : Operand} (ho : o.op = .mapUpdate t x i v ∨ o.op = .insert t x i v) (hu : P.underlying t = some (.map kt et)) (hd : keyDom P kt = true) : EffOk P pc o (evUpd P kt x i v pc) := by
  intro s m nx l m' nx' hf E ρ D ev w hp hops hm hfr
  have mx : x ∈ o.op.operands.toList ∧ i ∈ o.op.operands.toList ∧ v ∈ o.op.operands.toList := by rcases ho with ho | ho <;> simp [ho, Op.operands]
  unfold evUpd at hf
  split at hf
  · rename_i key hk
    obtain ⟨k1, k2⟩ := opd_ok hp hops mx.2.1 hk
    cases hko : keyOk P 8 kt key <;> simp only [hko, cond_true, cond_false] at hf
    · cases hf
    have hck := fun em => checkKey_ok (E := E) (ρ := ρ) (D := D) em hko k1 10000 (by omega) w
    split at hf
    · rename_i val hv
      obtain ⟨v1, v2⟩ := opd_ok hp hops mx.2.2 hv
      split at hf
      · rename_i b hx
        obtain ⟨h1, h2⟩ := opC_ok hp hops mx.1 hx
        split at hf
        · rename_i es cl hb
          obtain ⟨g1, g2⟩ := hm.mem b _ h1 hb
          have g1' : w.heap[(ρ b).g]? = some (.map (es.map (entV E ρ)).toArray cl) := g1
          have hset : ∀ ob, (setObj (ρ b).g ob).run P w = .ok () { w with heap := w.heap.setIfInBounds (ρ b).g ob } := fun ob => by simp [setObj, Sem.run, g1']
          have hexec : ∀ w', (Instr.mapUpdate t (.map (some (ρ b).g)) (key.val E ρ) (val.val E ρ)).run P w = .ok () w' → (execOp ev o).run P w = .ok .skip w' := by
            intro w' hr
            have h2' : ev x = .map (some (ρ b).g) := h2
            rcases ho with ho | ho <;> (simp only [execOp, ho, k2, v2, h2', Sem.run_bind, hr, Result.andThen_ok]; rfl)
          split at hf
          · rename_i hr
            rw [Tri.putK_eq] at hf
            cases hf
            have hfk := findKey_ok hp hd k1 hr (fun e h => (g2 e h).1) w
            have hrun : (Instr.mapUpdate t (.map (some (ρ b).g)) (key.val E ρ) (val.val E ρ)).run P w = .ok () { w with heap := w.heap.setIfInBounds (ρ b).g (.map ((es.map (entV E ρ)).toArray.push { key := key.val E ρ, val := val.val E ρ, born := cl }) (cl + 1)) } := by
              unfold Instr.mapUpdate
              simp [run_underlying hu, run_getObjM g1', hck, hfk, hset]
            refine ⟨.skip, _, ρ, hexec _ hrun, ?_, rfl⟩
            refine hm.setObj (x := .map (appF es [⟨key, val, cl⟩]) (Nat.succ cl)) (ob := .map ((es.map (entV E ρ)).toArray.push { key := key.val E ρ, val := val.val E ρ, born := cl }) (cl + 1)) h1 hb ⟨?_, fun e he => ?_⟩ nx
            · rw [appF_eq]
              simp [entV]
            · rw [appF_eq] at he
              rcases List.mem_append.1 he with he | he
              · exact g2 e he
              · simp at he; subst he; exact ⟨k1, v1⟩
          · rename_i j e hr
            cases hsm : e.key.same key <;> simp only [hsm, cond_true, cond_false] at hf
            · cases hf
            rw [Tri.putK_eq] at hf
            cases hf
            obtain ⟨s1, s2⟩ := A.same_ok hsm
            obtain ⟨_, hj⟩ := findG_mem hr
            rw [Nat.sub_zero] at hj
            have hfk := findKey_ok hp hd k1 hr (fun e h => (g2 e h).1) w
            have hjk : ((((es.map (entV E ρ)).toArray)[j]?).map (·.key)).getD (key.val E ρ) = key.val E ρ := by
              simp [hj, entV, s1]
            have hst : (Instr.keyThatStays (key.val E ρ) (key.val E ρ)).run P w = .ok (key.val E ρ) w := by
              unfold Instr.keyThatStays
              rw [← s1, if_pos (s2 E ρ)]; rfl
            have hrun : (Instr.mapUpdate t (.map (some (ρ b).g)) (key.val E ρ) (val.val E ρ)).run P w = .ok () { w with heap := w.heap.setIfInBounds (ρ b).g (.map ((es.map (entV E ρ)).toArray.modify j fun e => { e with key := key.val E ρ, val := val.val E ρ }) cl) } := by
              unfold Instr.mapUpdate
              simp only [Sem.run_bind, run_underlying hu, run_getObjM g1', hck, Result.andThen_ok]
              rw [hfk]
              simp only [Result.andThen_ok, Option.map_some, Sem.run_bind, hjk, hst, hset]
            refine ⟨.skip, _, ρ, hexec _ hrun, ?_, rfl⟩
            refine hm.setObj (x := .map (setAt es j key val) cl) (ob := .map ((es.map (entV E ρ)).toArray.modify j fun e => { e with key := key.val E ρ, val := val.val E ρ }) cl) h1 hb ⟨?_, fun e' he => ?_⟩ nx
            · rw [setAt_ok]; rfl
            · rcases setAt_mem he with he | ⟨he1, he2⟩
              · exact g2 e' he
              · rw [he1, he2]; exact ⟨k1, v1⟩
          · cases hf
        · cases hf
      · cases hf
    · cases hf
  · cases hf
end
end Go.E3
namespace Go.E3
open Go.Sy
noncomputable section
variable {P : Program} {pc : Pc} {o : Oper}

/-! 'copy' -/
def minF (a b : Nat) : Nat := bif Nat.ble a b then a else b
theorem minF_eq (a b : Nat) : minF a b = Nat.min a b := by
  unfold minF
  show _ = min a b
  cases h : Nat.ble a b <;> simp only [cond_true, cond_false]
  · have : ¬ a ≤ b := fun hc => by rw [← Nat.ble_eq, h] at hc; cases hc
    omega
  · rw [Nat.ble_eq] at h; omega
theorem run_copy_rowN (w : World) (dT sT ty elem : TypeId) (g o dLen dCap : Nat) (a : Addr) (sLen sCap : Nat) (cur : Array Value) (t : TypeId) (cs : List Value) (sz : Nat)
    (hu : P.underlying dT = some (.slice elem)) (hs : (P.info? elem).map (·.size) = some sz)
    (hg : w.heap[g]? = some (.cells cur t (0, 0))) (hn : cs.length = Nat.min sLen dLen * sz)
    (hsrc : ∀ j v, cs[j]? = some v → w.cell? (a.add j) = some v) (hfit : o + cs.length ≤ cur.size) (h1 : ∀ v ∈ cs, v.oneCell' = true) :
    (Builtin.copy_ #[dT, sT] ty #[.slice (some ⟨g, o, none⟩) dLen dCap, .slice (some a) sLen sCap]).run P w =
      .ok (goInt (Nat.min sLen dLen)) (w.setRow g (cur.toList.take o ++ cs ++ cur.toList.drop (o + cs.length)).toArray) := by
  have hst := run_storeCells_at P g o t cs 0 cur w hg (by simpa using hfit) h1
  have hf := run_firstCells_some (P := P) w sz (Nat.min sLen dLen) a sLen sCap cs hn hsrc
  cases hq : P.info? elem with
  | none => simp [hq] at hs
  | some i =>
    have hi : i.size = sz := by simpa [hq] using hs
    subst hi
    unfold Builtin.copy_
    simp [run_underlying hu, Builtin.lenOf, sizeOf, typeInfo, hq]
    simp [hf, hst]
theorem run_copy_noneN (w : World) (dT sT ty elem : TypeId) (d a : Option Addr) (dLen dCap sLen sCap : Nat) {sz : Nat} (hu : P.underlying dT = some (.slice elem)) (hs : (P.info? elem).map (·.size) = some sz) (hn : Nat.min sLen dLen = 0) :
    (Builtin.copy_ #[dT, sT] ty #[.slice d dLen dCap, .slice a sLen sCap]).run P w = .ok (goInt 0) w := by
  cases hq : P.info? elem with
  | none => simp [hq] at hs
  | some i =>
    have hl : ∀ (x : Addr), (loadCells x 0).run P w = .ok #[] w := fun x => by simpa using run_loadCells_list (P := P) w x [] (by simp)
    cases d <;> cases a <;> simp [Builtin.copy_, run_underlying hu, Builtin.lenOf, Builtin.firstCells, sizeOf, typeInfo, hq, hn, storeCells, hl]
def evCopy (sz : Nat) (x y : Operand) (pc : Pc) (s : Tri L) (m : Tri B) (nx : Pt) : Option (Option L × Tri B × Pt) := match opC pc s y with
  | none => none
  | some cy => match srcC sz m cy with
    | none => none
    | some (k, ys) => match opC pc s x with
      | some .nils => some (some (.a (.c (.int .i64 (.lit (.ofNat 0))))), m, nx)
      | some (.slc b off len _) => bif Nat.beq (minF k len) 0 then some (some (.a (.c (.int .i64 (.lit (.ofNat 0))))), m, nx) else match m.get b with
        | some (.cells ty n kk d t) => bif Nat.ble (Nat.add off (Nat.mul (minF k len) sz)) n then putsK (takeF (Nat.mul (minF k len) sz) ys) t off fun t => m.putK b (some (.cells ty n kk d t)) fun m => some (some (.a (.c (.int .i64 (.lit (.ofNat (minF k len)))))), m, nx) else none
        | _ => none
      | _ => none
theorem evCopy_mono (sz : Nat) (x y : Operand) : ∀ pc s m nx l m' nx', evCopy sz x y pc s m nx = some (l, m', nx') → nx.num ≤ nx'.num := by
  intro pc s m nx l m' nx' h
  simp only [evCopy, putsK_eq, Tri.putK_eq, cond_eq_ite] at h
  repeat' split at h
  all_goals first | (cases h; done) | (cases h; exact Nat.le_refl _)
theorem evCopy_ok {c : Call} (ho : o.op = .call c) (hcal : c.callee = .builtin .copy) {x y : Operand} (hargs : c.args.toList = [x, y]) {t t' e : TypeId} (hty : c.argTypes.toList = [t, t']) (hu : P.underlying t = some (.slice e)) {sz : Nat} (hsz : (P.info? e).map (·.size) = some sz) : EffOk P pc o (evCopy sz x y pc) := by
  intro s m nx l m' nx' hf E ρ D ev w hp hops hm hfr
  have mx : x ∈ o.op.operands.toList := by simp [ho, Op.operands, Call.operands, args2 hargs]
  have my : y ∈ o.op.operands.toList := by simp [ho, Op.operands, Call.operands, args2 hargs]
  have hexec : ∀ v1 v2, ev x = v1 → ev y = v2 → ∀ v' w', (Builtin.copy_ #[t, t'] o.type #[v1, v2]).run P w = .ok v' w' → (execOp ev o).run P w = .ok (.value v') w' := by
    intro v1 v2 h1 h2 v' w' hrun
    have e2 : c.argTypes = #[t, t'] := by apply Array.ext'; simpa using hty
    simp only [execOp, ho, resolve, invoke, builtin, hcal, args2 hargs, e2, Sem.run_bind, Sem.run_pure, Result.andThen_ok, List.map_toArray, List.map_cons, List.map_nil, h1, h2, hrun]
  unfold evCopy at hf
  simp only [minF_eq] at hf
  split at hf
  · cases hf
  · rename_i cy hy
    obtain ⟨y1, y2⟩ := opC_ok hp hops my hy
    split at hf
    · cases hf
    · rename_i k ys hsrc
      obtain ⟨s1, s2, ad, scap, s3, s4⟩ := srcC_ok hm y1 hsrc
      rw [s3] at y2
      split at hf
      · rename_i hx
        obtain ⟨x1, x2⟩ := opC_ok hp hops mx hx
        cases hf
        exact ⟨_, w, ρ, hexec _ _ x2 y2 _ _ (run_copy_noneN (P := P) w t t' o.type e none ad 0 0 k scap hu hsz (by show min k 0 = 0; omega)), Turn.refl hm, rfl, trivial⟩
      · rename_i b off len cp hx
        obtain ⟨x1, x2⟩ := opC_ok hp hops mx hx
        cases hz : Nat.beq (Nat.min k len) 0 <;> simp only [hz, cond_true, cond_false] at hf
        · have hz := Nat.ne_of_beq_eq_false hz
          split at hf
          · rename_i ty n kk d tt hb
            cases hle : Nat.ble (Nat.add off (Nat.mul (Nat.min k len) sz)) n <;> simp only [hle, cond_true, cond_false] at hf
            · cases hf
            rw [Nat.ble_eq] at hle
            change off + Nat.min k len * sz ≤ n at hle
            rw [putsK_eq, Tri.putK_eq] at hf
            cases hf
            have hNk : Nat.min k len ≤ k := Nat.min_le_left _ _
            obtain ⟨M, hM⟩ : ∃ M, M = Nat.min k len * sz := ⟨_, rfl⟩
            have hMk : M ≤ ys.length := by rw [hM, s2]; exact Nat.mul_le_mul_right sz hNk
            rw [show Nat.mul (Nat.min k len) sz = M from hM.symm, takeF_eq]
            rw [← hM] at hle
            obtain ⟨cs, g1, g2, g3, g4, g5⟩ := hm.mem b _ x1.1 hb
            obtain ⟨d0, hd0, hcell⟩ := s4 (by omega)
            have hl : ((ys.take M).map (C.val E ρ)).length = M := by rw [List.length_map, List.length_take]; omega
            have hrun := run_copy_rowN (P := P) w t t' o.type e (ρ b).g off len (cp.val (ρ b).z) d0 k scap cs _ ((ys.take M).map (C.val E ρ)) sz hu hsz g1 (by rw [hl, hM]) (fun j v hj => by
              refine hcell j v ?_
              rw [List.map_take, List.getElem?_take] at hj
              split at hj
              · exact hj
              · cases hj) (by rw [hl]; omega) (fun v hv => by
              obtain ⟨z, hz', rfl⟩ := List.mem_map.1 hv
              exact C.one (s1 z (List.mem_of_mem_take hz')))
            rw [hl] at hrun
            refine ⟨_, w.setRow (ρ b).g (cs.toList.take off ++ (ys.take M).map (C.val E ρ) ++ cs.toList.drop (off + M)).toArray, ρ, hexec _ _ x2 (by rw [y2, hd0]) _ _ hrun, ?_, rfl, trivial⟩
            refine hm.set (x := .cells ty n kk d (puts (ys.take M) tt off)) (ob := .cells (cs.toList.take off ++ (ys.take M).map (C.val E ρ) ++ cs.toList.drop (off + M)).toArray ty (0, 0)) x1.1 hb ⟨_, rfl, ?_, g3, g4, fun i z hz' => ?_⟩ nx (setRow_heap w _ cs _ ty _ g1) (fun k hk => setRow_other w _ k _ hk) (by simp) rfl rfl rfl
            · simp only [List.size_toArray, List.length_append, List.length_take, List.length_drop, Array.length_toList, List.length_map] at hl ⊢; omega
            · have hlt := cellAt_lt hz'
              simp only [List.getElem?_toArray]
              have htl : (cs.toList.take off).length = off := by rw [List.length_take, Array.length_toList]; omega
              have hyl : (ys.take M).length = M := by rw [List.length_take]; omega
              rcases cellAt_puts hz' with ⟨z1, z2, z3⟩ | ⟨z1, z2⟩
              · refine ⟨s1 z (List.mem_of_mem_take (List.mem_of_getElem? z3)), ?_⟩
                rw [List.getElem?_append_left (by rw [List.length_append, htl, hl]; omega), List.getElem?_append_right (by omega), htl, List.getElem?_map, z3]; rfl
              · obtain ⟨p1, p2⟩ := g5 i z z2
                refine ⟨p1, ?_⟩
                rw [hyl] at z1
                by_cases hi : i < off
                · rw [List.getElem?_append_left (by rw [List.length_append, htl, hl]; omega), List.getElem?_append_left (by omega), List.getElem?_take, if_pos hi]
                  simpa using p2
                · rw [List.getElem?_append_right (by rw [List.length_append, htl, hl]; omega), List.getElem?_drop, List.length_append, htl, hl]
                  rw [show off + M + (i - (off + M)) = i by omega]
                  simpa using p2
          · cases hf
        · cases hf
          have hz := Nat.eq_of_beq_eq_true hz
          exact ⟨_, w, ρ, hexec _ _ x2 y2 _ _ (run_copy_noneN (P := P) w t t' o.type e _ ad len _ k scap hu hsz hz), Turn.refl hm, rfl, trivial⟩
      · cases hf

/-! maps: an entry taken away, all of them -/
def eraseF (es : List Ent) (i : Nat) : List Ent := match es with
  | [] => []
  | e :: r => match i with
    | 0 => r
    | i + 1 => e :: eraseF r i
theorem eraseF_eq (es : List Ent) (i : Nat) : eraseF es i = es.eraseIdx i := by
  induction es generalizing i with
  | nil => rfl
  | cons e r ih => cases i with
    | zero => rfl
    | succ i => simp [eraseF, ih]
theorem erase_map {α β : Type} (f : α → β) : ∀ (l : List α) (i : Nat), (l.map f).eraseIdx i = (l.eraseIdx i).map f
  | [], i => rfl
  | x :: l, 0 => rfl
  | x :: l, i + 1 => by simp [erase_map f l i]
def evDel (P : Program) (kt : TypeId) (x i : Operand) (pc : Pc) (s : Tri L) (m : Tri B) (nx : Pt) : Option (Option L × Tri B × Pt) := match opd pc s i with
  | some key => bif keyOk P 8 kt key then match opC pc s x with
    | some (.map b) => match m.get b with
      | some (.map es cl) => match findG P pc kt key es 0 with
        | some none => some (some (.tup []), m, nx)
        | some (some (j, _)) => m.putK b (some (.map (eraseF es j) cl)) fun m => some (some (.tup []), m, nx)
        | none => none
      | _ => none
    | _ => none
    else none
  | none => none
theorem evDel_mono (P : Program) (kt : TypeId) (x i : Operand) : ∀ pc s m nx l m' nx', evDel P kt x i pc s m nx = some (l, m', nx') → nx.num ≤ nx'.num := by
  intro pc s m nx l m' nx' h
  simp only [evDel, Tri.putK_eq, cond_eq_ite] at h
  repeat' split at h
  all_goals first | (cases h; done) | (cases h; exact Nat.le_refl _)
theorem evDel_ok {c : Call} (ho : o.op = .call c) (hcal : c.callee = .builtin .delete) {x i : Operand} (hargs : c.args.toList = [x, i]) {t kt et : TypeId} (ht : c.argTypes[0]? = some t) (hu : P.underlying t = some (.map kt et)) (hd : keyDom P kt = true) : EffOk P pc o (evDel P kt x i pc) := by
  intro s m nx l m' nx' hf E ρ D ev w hp hops hm hfr
  have mx : x ∈ o.op.operands.toList := by simp [ho, Op.operands, Call.operands, args2 hargs]
  have mi : i ∈ o.op.operands.toList := by simp [ho, Op.operands, Call.operands, args2 hargs]
  unfold evDel at hf
  split at hf
  · rename_i key hk
    obtain ⟨k1, k2⟩ := opd_ok hp hops mi hk
    cases hko : keyOk P 8 kt key <;> simp only [hko, cond_true, cond_false] at hf
    · cases hf
    have hck := fun em => checkKey_ok (E := E) (ρ := ρ) (D := D) em hko k1 10000 (by omega) w
    split at hf
    · rename_i b hx
      obtain ⟨h1, h2⟩ := opC_ok hp hops mx hx
      have h2' : ev x = .map (some (ρ b).g) := h2
      split at hf
      · rename_i es cl hb
        obtain ⟨g1, g2⟩ := hm.mem b _ h1 hb
        have g1' : w.heap[(ρ b).g]? = some (.map (es.map (entV E ρ)).toArray cl) := g1
        have hset : ∀ ob, (setObj (ρ b).g ob).run P w = .ok () { w with heap := w.heap.setIfInBounds (ρ b).g ob } := fun ob => by simp [setObj, Sem.run, g1']
        have hexec : ∀ w', (Builtin.delete_ c.argTypes o.type #[.map (some (ρ b).g), key.val E ρ]).run P w = .ok (.tuple #[]) w' → (execOp ev o).run P w = .ok (.value (.tuple #[])) w' := by
          intro w' hrun
          simp only [execOp, ho, resolve, invoke, builtin, hcal, args2 hargs, Sem.run_bind, Sem.run_pure, Result.andThen_ok, List.map_toArray, List.map_cons, List.map_nil, h2', k2, hrun]
        split at hf
        · rename_i hr
          cases hf
          have hfk := findKey_ok hp hd k1 hr (fun e h => (g2 e h).1) w
          have hrun : (Builtin.delete_ c.argTypes o.type #[.map (some (ρ b).g), key.val E ρ]).run P w = .ok (.tuple #[]) { w with heap := w.heap.setIfInBounds (ρ b).g (.map (es.map (entV E ρ)).toArray cl) } := by
            unfold Builtin.delete_
            simp [ht, run_underlying hu, run_getObjM g1', hck, hfk, hset]
          have hT := hm.setObj (x := .map es cl) (ob := .map (es.map (entV E ρ)).toArray cl) h1 hb ⟨rfl, g2⟩ nx
          refine ⟨_, _, ρ, hexec _ hrun, ?_, rfl, fun _ h => nomatch h⟩
          exact ⟨hT.le, hT.rb, ⟨hT.mr.gl, fun b' x' hb' hx' => by
              have : (m.put b (some (.map es cl))).get b' = some x' := by
                rw [Tri.get_put]; split
                · rename_i e; subst e; rw [← hb]; exact hx'
                · exact hx'
              exact hT.mr.mem b' x' hb' this, fun b1 b2 x1 x2 d1 d2 q1 q2 hg => by
              have d1' : D b1 := by rwa [un_self] at d1
              have d2' : D b2 := by rwa [un_self] at d2
              exact hm.inj b1 b2 x1 x2 d1' d2' q1 q2 hg⟩, fun _ _ _ => rfl, hT.new, hT.os, hT.tape, hT.output, hT.size, hT.heap⟩
        · rename_i j e hr
          rw [Tri.putK_eq] at hf
          cases hf
          have hfk := findKey_ok hp hd k1 hr (fun e h => (g2 e h).1) w
          have hrun : (Builtin.delete_ c.argTypes o.type #[.map (some (ρ b).g), key.val E ρ]).run P w = .ok (.tuple #[]) { w with heap := w.heap.setIfInBounds (ρ b).g (.map ((es.map (entV E ρ)).toArray.eraseIdxIfInBounds j) cl) } := by
            unfold Builtin.delete_
            simp [ht, run_underlying hu, run_getObjM g1', hck, hfk, hset]
          refine ⟨_, _, ρ, hexec _ hrun, ?_, rfl, fun _ h => nomatch h⟩
          refine hm.setObj (x := .map (eraseF es j) cl) h1 hb ⟨?_, fun e' he => ?_⟩ nx
          · rw [eraseF_eq]
            congr 2
            apply Array.ext'
            rw [Array.toList_eraseIdxIfInBounds, erase_map]; rfl
          · rw [eraseF_eq] at he; exact g2 e' (List.mem_of_mem_eraseIdx he)
        · cases hf
      · cases hf
    · cases hf
  · cases hf
end
end Go.E3
namespace Go.E3
open Go.Sy
noncomputable section
variable {P : Program} {pc : Pc} {o : Oper}

/-! 'clear' -/
def repF (n : Nat) (z : C) : List C := Nat.rec (motive := fun _ => List C) [] (fun _ ih => z :: ih) n
theorem repF_eq (n : Nat) (z : C) : repF n z = List.replicate n z := by
  induction n with
  | zero => rfl
  | succ n ih => show z :: repF n z = _; rw [ih]; rfl
theorem zeroCells_one (v : Value) (n : Nat) : (Builtin.zeroCells #[v] n).toList = List.replicate n v := by
  apply List.ext_getElem?
  intro i
  unfold Builtin.zeroCells
  rw [Array.getElem?_toList, Array.getElem?_map, Array.getElem?_range, List.getElem?_replicate]
  have hsz : n * (#[v] : Array Value).size = n := Nat.mul_one n
  rw [hsz]
  split <;> simp [Nat.mod_one]
def evClr (z : C) (x : Operand) (pc : Pc) (s : Tri L) (m : Tri B) (nx : Pt) : Option (Option L × Tri B × Pt) := match opC pc s x with
  | some .nils => some (some (.tup []), m, nx)
  | some (.slc b off len _) => bif Nat.beq len 0 then some (some (.tup []), m, nx) else match m.get b with
    | some (.cells ty n kk d t) => bif Nat.ble (Nat.add off len) n then putsK (repF len z) t off fun t => m.putK b (some (.cells ty n kk d t)) fun m => some (some (.tup []), m, nx) else none
    | _ => none
  | _ => none
theorem evClr_mono (z : C) (x : Operand) : ∀ pc s m nx l m' nx', evClr z x pc s m nx = some (l, m', nx') → nx.num ≤ nx'.num := by
  intro pc s m nx l m' nx' h
  simp only [evClr, putsK_eq, Tri.putK_eq, cond_eq_ite] at h
  repeat' split at h
  all_goals first | (cases h; done) | (cases h; exact Nat.le_refl _)
theorem run_clear_row (w : World) (t ty elem : TypeId) (g o n k : Nat) (cur : Array Value) (t' : TypeId) (i : TypeInfo) (zv : Value) (v : Value)
    (hu : P.underlying t = some (.slice elem)) (hi : P.info? elem = some i) (hz : i.zero = some zv) (hv : zv.cells = #[v]) (hn : n ≠ 0)
    (hg : w.heap[g]? = some (.cells cur t' (0, 0))) (hfit : o + n ≤ cur.size) (h1 : v.oneCell' = true) :
    (Builtin.clear_ #[t] ty #[.slice (some ⟨g, o, none⟩) n k]).run P w = .ok (.tuple #[]) (w.setRow g (cur.toList.take o ++ List.replicate n v ++ cur.toList.drop (o + n)).toArray) := by
  have hst := run_storeCells_at P g o t' (List.replicate n v) 0 cur w hg (by simpa using hfit) (fun x hx => by rw [List.eq_of_mem_replicate hx]; exact h1)
  simp only [Nat.add_zero, List.length_replicate] at hst
  obtain ⟨n, rfl⟩ := Nat.exists_eq_succ_of_ne_zero hn
  unfold Builtin.clear_
  simp [run_underlying hu, run_zero hi hz, hv, zeroCells_one, hst]
theorem run_clear_none (w : World) (t ty : TypeId) (a : Option Addr) (n k : Nat) (elem : TypeId) (hu : P.underlying t = some (.slice elem)) (h : a = none ∨ n = 0) :
    (Builtin.clear_ #[t] ty #[.slice a n k]).run P w = .ok (.tuple #[]) w := by
  unfold Builtin.clear_
  rcases h with rfl | rfl
  · simp [run_underlying hu]
  · cases a <;> simp [run_underlying hu]
theorem evClr_ok {c : Call} (ho : o.op = .call c) (hcal : c.callee = .builtin .clear) {x : Operand} (hargs : c.args.toList = [x]) {t e : TypeId} (hty : c.argTypes.toList = [t]) (hu : P.underlying t = some (.slice e)) {z : C} (hz : zeroOf P e = some [z]) : EffOk P pc o (evClr z x pc) := by
  intro s m nx l m' nx' hf E ρ D ev w hp hops hm hfr
  have mx : x ∈ o.op.operands.toList := by simp [ho, Op.operands, Call.operands, args1 hargs]
  have hexec : ∀ v1, ev x = v1 → ∀ v' w', (Builtin.clear_ #[t] o.type #[v1]).run P w = .ok v' w' → (execOp ev o).run P w = .ok (.value v') w' := by
    intro v1 h1 v' w' hrun
    have e2 : c.argTypes = #[t] := by apply Array.ext'; simpa using hty
    simp only [execOp, ho, resolve, invoke, builtin, hcal, args1 hargs, e2, Sem.run_bind, Sem.run_pure, Result.andThen_ok, List.map_toArray, List.map_cons, List.map_nil, h1, hrun]
  unfold evClr at hf
  split at hf
  · rename_i hx
    obtain ⟨x1, x2⟩ := opC_ok hp hops mx hx
    cases hf
    exact ⟨_, w, ρ, hexec _ x2 _ _ (run_clear_none (P := P) w t o.type none 0 0 e hu (.inl rfl)), Turn.refl hm, rfl, fun _ h => nomatch h⟩
  · rename_i b off len cp hx
    obtain ⟨x1, x2⟩ := opC_ok hp hops mx hx
    cases hl0 : Nat.beq len 0 <;> simp only [hl0, cond_true, cond_false] at hf
    · have hl0 := Nat.ne_of_beq_eq_false hl0
      split at hf
      · rename_i ty n kk d tt hb
        cases hle : Nat.ble (Nat.add off len) n <;> simp only [hle, cond_true, cond_false] at hf
        · cases hf
        rw [Nat.ble_eq] at hle
        change off + len ≤ n at hle
        rw [putsK_eq, Tri.putK_eq] at hf
        cases hf
        rw [repF_eq]
        obtain ⟨cs, g1, g2, g3, g4, g5⟩ := hm.mem b _ x1.1 hb
        obtain ⟨i, zv, hi, hzv, hzz⟩ := zeroOf_info hz
        obtain ⟨z1, z2⟩ := hzz E ρ D
        have hrun := run_clear_row (P := P) w t o.type e (ρ b).g off len (cp.val (ρ b).z) cs _ i zv (z.val E ρ) hu hi hzv z2 hl0 g1 (by omega) (C.one (z1 z List.mem_cons_self))
        refine ⟨_, w.setRow (ρ b).g (cs.toList.take off ++ List.replicate len (z.val E ρ) ++ cs.toList.drop (off + len)).toArray, ρ, hexec _ x2 _ _ hrun, ?_, rfl, fun _ h => nomatch h⟩
        refine hm.set (x := .cells ty n kk d (puts (List.replicate len z) tt off)) (ob := .cells (cs.toList.take off ++ List.replicate len (z.val E ρ) ++ cs.toList.drop (off + len)).toArray ty (0, 0)) x1.1 hb ⟨_, rfl, ?_, g3, g4, fun i x hx' => ?_⟩ nx (setRow_heap w _ cs _ ty _ g1) (fun k hk => setRow_other w _ k _ hk) (by simp) rfl rfl rfl
        · simp only [List.size_toArray, List.length_append, List.length_take, List.length_drop, Array.length_toList, List.length_replicate]; omega
        · have hlt := cellAt_lt hx'
          simp only [List.getElem?_toArray]
          have htl : (cs.toList.take off).length = off := by rw [List.length_take, Array.length_toList]; omega
          rcases cellAt_puts hx' with ⟨q1, q2, q3⟩ | ⟨q1, q2⟩
          · rw [List.length_replicate] at q2
            rw [List.getElem?_replicate] at q3
            split at q3
            · cases q3
              refine ⟨z1 z List.mem_cons_self, ?_⟩
              rw [List.getElem?_append_left (by rw [List.length_append, htl, List.length_replicate]; omega), List.getElem?_append_right (by omega), htl, List.getElem?_replicate, if_pos (by omega)]
            · cases q3
          · obtain ⟨p1, p2⟩ := g5 i x q2
            refine ⟨p1, ?_⟩
            rw [List.length_replicate] at q1
            by_cases hi : i < off
            · rw [List.getElem?_append_left (by rw [List.length_append, htl, List.length_replicate]; omega), List.getElem?_append_left (by omega), List.getElem?_take, if_pos hi]
              simpa using p2
            · rw [List.getElem?_append_right (by rw [List.length_append, htl, List.length_replicate]; omega), List.getElem?_drop, List.length_append, htl, List.length_replicate]
              rw [show off + len + (i - (off + len)) = i by omega]
              simpa using p2
      · cases hf
    · have hl0 := Nat.eq_of_beq_eq_true hl0
      subst hl0
      cases hf
      exact ⟨_, w, ρ, hexec _ x2 _ _ (run_clear_none (P := P) w t o.type _ 0 _ e hu (.inr rfl)), Turn.refl hm, rfl, fun _ h => nomatch h⟩
  · cases hf
def evClrM (x : Operand) (pc : Pc) (s : Tri L) (m : Tri B) (nx : Pt) : Option (Option L × Tri B × Pt) := match opC pc s x with
  | some (.map b) => match m.get b with
    | some (.map _ cl) => m.putK b (some (.map [] cl)) fun m => some (some (.tup []), m, nx)
    | _ => none
  | _ => none
theorem evClrM_mono (x : Operand) : ∀ pc s m nx l m' nx', evClrM x pc s m nx = some (l, m', nx') → nx.num ≤ nx'.num := by
  intro pc s m nx l m' nx' h
  simp only [evClrM, Tri.putK_eq] at h
  repeat' split at h
  all_goals first | (cases h; done) | (cases h; exact Nat.le_refl _)
theorem evClrM_ok {c : Call} (ho : o.op = .call c) (hcal : c.callee = .builtin .clear) {x : Operand} (hargs : c.args.toList = [x]) {t kt et : TypeId} (hty : c.argTypes.toList = [t]) (hu : P.underlying t = some (.map kt et)) : EffOk P pc o (evClrM x pc) := by
  intro s m nx l m' nx' hf E ρ D ev w hp hops hm hfr
  have mx : x ∈ o.op.operands.toList := by simp [ho, Op.operands, Call.operands, args1 hargs]
  unfold evClrM at hf
  split at hf
  · rename_i b hx
    obtain ⟨h1, h2⟩ := opC_ok hp hops mx hx
    have h2' : ev x = .map (some (ρ b).g) := h2
    split at hf
    · rename_i es cl hb
      obtain ⟨g1, g2⟩ := hm.mem b _ h1 hb
      have g1' : w.heap[(ρ b).g]? = some (.map (es.map (entV E ρ)).toArray cl) := g1
      rw [Tri.putK_eq] at hf
      cases hf
      have hset : ∀ ob, (setObj (ρ b).g ob).run P w = .ok () { w with heap := w.heap.setIfInBounds (ρ b).g ob } := fun ob => by simp [setObj, Sem.run, g1']
      have e2 : c.argTypes = #[t] := by apply Array.ext'; simpa using hty
      have hrun : (Builtin.clear_ #[t] o.type #[.map (some (ρ b).g)]).run P w = .ok (.tuple #[]) { w with heap := w.heap.setIfInBounds (ρ b).g (.map #[] cl) } := by
        unfold Builtin.clear_
        simp [run_underlying hu, run_getObjM g1', hset]
      have hex : (execOp ev o).run P w = .ok (.value (.tuple #[])) { w with heap := w.heap.setIfInBounds (ρ b).g (.map #[] cl) } := by
        simp only [execOp, ho, resolve, invoke, builtin, hcal, args1 hargs, e2, Sem.run_bind, Sem.run_pure, Result.andThen_ok, List.map_toArray, List.map_cons, List.map_nil, h2', hrun]
      exact ⟨_, _, ρ, hex, hm.setObj (x := .map [] cl) h1 hb ⟨rfl, fun e' he => nomatch he⟩ nx, rfl, fun _ h => nomatch h⟩
    · cases hf
  · cases hf
end
end Go.E3
namespace Go.E3
open Go.Sy
noncomputable section
variable {P : Program} {pc : Pc} {o : Oper}

/-! slices of nothing -/
def orN (f g : Tri L → Option (B × Nk)) (s : Tri L) : Option (B × Nk) := match f s with
  | some l => some l
  | none => g s
theorem NewOk.or {f g : Tri L → Option (B × Nk)} (hf : NewOk P pc o f) (hg : NewOk P pc o g) : NewOk P pc o (orN f g) := by
  intro s x k h
  unfold orN at h
  split at h
  · rename_i l' hl; cases h; exact hf s _ _ hl
  · exact hg s _ _ h
theorem range0 (f : Nat → Value) : Array.map f (Array.range 0) = #[] := by
  apply Array.ext'; simp
theorem BR_none {E : Env} {ρ : Pt → Rb} {D : Pt → Prop} {e : TypeId} : BR E ρ D 0 (.cells e 0 true [] .e) (some (.cells #[] e)) :=
  ⟨#[], rfl, rfl, Nat.le_refl _, fun _ => rfl, fun i _x hx => absurd (cellAt_lt hx) (Nat.not_lt_zero i)⟩
def evMakeZ (pc : Pc) (e : TypeId) (sz bytes : Nat) (l c : Operand) (s : Tri L) : Option (B × Nk) := match litN pc s l, litN pc s c with
  | some n, some k => bif Nat.ble n k && Nat.ble k 1048576 && Nat.ble (Nat.mul bytes k) 281474976710656 && Nat.beq (Nat.mul k sz) 0 then some (.cells e 0 true [] .e, .slc n (.k k)) else none
  | _, _ => none
theorem evMakeZ_ok {t e : TypeId} {l c : Operand} (ho : o.op = .makeSlice t l c) (hu : P.underlying t = some (.slice e)) {sz : Nat} (hs : sizeT P e = some sz) {inf : TypeInfo} (hinf : P.info? e = some inf) : NewOk P pc o (evMakeZ pc e sz inf.bytes l c) := by
  intro s x k0 hf E ρ D ev w hp hops
  unfold evMakeZ at hf
  split at hf
  · rename_i n k hl hc
    obtain ⟨k1, hlv⟩ := litN_ok hp hops (by simp [ho, Op.operands]) hl
    obtain ⟨k2, hcv⟩ := litN_ok hp hops (by simp [ho, Op.operands]) hc
    cases hq : Nat.ble n k && Nat.ble k 1048576 && Nat.ble (Nat.mul inf.bytes k) 281474976710656 && Nat.beq (Nat.mul k sz) 0 <;> simp only [hq, cond_true, cond_false] at hf
    · cases hf
    · cases hf
      simp only [Bool.and_eq_true, Nat.ble_eq] at hq
      obtain ⟨⟨⟨hnk, hkm⟩, hby⟩, hks⟩ := hq
      have hks := Nat.eq_of_beq_eq_true hks
      change inf.bytes * k ≤ _ at hby
      change k * sz = 0 at hks
      refine ⟨.cells #[] e, 0, fun b => ⟨⟨.inr ((rg_succ _ _).2 rfl), hnk, trivial⟩, ?_⟩, fun ρ' D' g => BR_none⟩
      simp only [Nk.at, C.val, upd_same, Cp.val]
      have w1 : IntKind.i64.wrap (n : Int) = n := IntWalk.i64_in n (by omega)
      have w2 : IntKind.i64.wrap (k : Int) = k := IntWalk.i64_in k (by omega)
      have hb1 : ¬ (281474976710656 : Int) < inf.bytes * (k : Int) := by
        have h' : ((inf.bytes * k : Nat) : Int) = inf.bytes * (k : Int) := Int.natCast_mul _ _
        rw [← h']; omega
      have c1 : ¬ (k : Int) < 0 := by omega
      have c2 : ¬ (n : Int) < 0 := by omega
      have c3 : ¬ (k : Int) < n := by omega
      have c3' : ¬ k < n := by omega
      simp [execOp, ho, hlv, hcv, Instr.makeSlice, run_underlying hu, asInt, asIntOf, typeInfo, hinf, w1, w2, hb1, c1, c2, c3]
      rw [run_sizeT hs]
      simp only [Result.andThen_ok]
      simp [hks, newRow]
      rw [range0]
  · cases hf
def evBuildZ (e : TypeId) (_ : Tri L) : Option (B × Nk) := some (.cells e 0 true [] .e, .slc 0 (.k 0))
theorem evBuildZ_ok {t e : TypeId} (ho : o.op = .buildSlice t 0 #[]) (hu : P.underlying t = some (.slice e)) {sz : Nat} (hs : sizeT P e = some sz) : NewOk P pc o (evBuildZ e) := by
  intro s x k0 hf E ρ D ev w hp hops
  cases hf
  refine ⟨.cells #[] e, 0, fun b => ⟨⟨.inr ((rg_succ _ _).2 rfl), Nat.le_refl _, trivial⟩, ?_⟩, fun ρ' D' g => BR_none⟩
  simp only [Nk.at, C.val, upd_same, Cp.val]
  simp [execOp, ho, Instr.buildSlice, run_underlying hu, run_sizeT hs, Instr.fill, newRow]
  rw [range0]
end
end Go.E3
namespace Go.E3
open Go.Sy
noncomputable section
variable {P : Program} {pc : Pc} {o : Oper}

/-! ranges over maps, where there is one order alone -/
def evRange (x : Operand) (pc : Pc) (s : Tri L) (m : Tri B) (nx : Pt) : Option (Option L × Tri B × Pt) := match opC pc s x with
  | some (.map b) => match m.get b with
    | some (.map _ cl) => m.putK nx (some (.miter (some b) cl [] cl)) fun m => nx.sucK fun nx' => some (some (.a (.c (.ptr nx 0))), m, nx')
    | _ => none
  | some .nilm => m.putK nx (some (.miter none 0 [] 0)) fun m => nx.sucK fun nx' => some (some (.a (.c (.ptr nx 0))), m, nx')
  | _ => none
theorem evRange_mono (x : Operand) : ∀ pc s m nx l m' nx', evRange x pc s m nx = some (l, m', nx') → nx.num ≤ nx'.num := by
  intro pc s m nx l m' nx' h
  simp only [evRange, Tri.putK_eq, Pt.sucK_eq] at h
  repeat' split at h
  all_goals first | (cases h; done) | (cases h; rw [Pt.succ_num]; omega)
theorem evRange_ok {t kt et : TypeId} {x : Operand} (ho : o.op = .range t x) (hu : P.underlying t = some (.map kt et)) : EffOk P pc o (evRange x pc) := by
  intro s m nx l m' nx' hf E ρ D ev w hp hops hm hfr
  have mx : x ∈ o.op.operands.toList := by simp [ho, Op.operands]
  unfold evRange at hf
  split at hf
  · rename_i b hx
    obtain ⟨h1, h2⟩ := opC_ok hp hops mx hx
    have h2' : ev x = .map (some (ρ b).g) := h2
    split at hf
    · rename_i es cl hb
      rw [Tri.putK_eq, Pt.sucK_eq] at hf
      cases hf
      have hnx : ¬ D nx := hfr nx ((rg_succ _ _).2 rfl)
      obtain ⟨g1, g2⟩ := hm.mem b _ h1 hb
      have g1' : w.heap[(ρ b).g]? = some (.map (es.map (entV E ρ)).toArray cl) := g1
      have hne : b ≠ nx := fun e => hnx (e ▸ h1)
      have hT := hm.alloc (b := nx) (x := .miter (some b) cl [] cl) hnx (z := 0) (ob := .mapIter (some (ρ b).g) cl #[] cl) ⟨by simp [upd_ne _ _ hne], fun b' hb' => by cases hb'; exact .inl h1⟩
      refine ⟨_, _, _, ?_, hT, rfl, ?_⟩
      · have hrun : (Instr.range t (.map (some (ρ b).g))).run P w = .ok (.pointer (some ⟨w.heap.size, 0, none⟩)) (w.alloc (.mapIter (some (ρ b).g) cl #[] cl)) := by
          unfold Instr.range
          simp [run_underlying hu, run_getObjM g1']
        simp only [execOp, ho, h2', Sem.run_bind, hrun, Result.andThen_ok, L.val, A.val, C.val, upd_same]
        rfl
      · exact .inr ((rg_succ _ _).2 rfl)
    · cases hf
  · rename_i hx
    obtain ⟨h1, h2⟩ := opC_ok hp hops mx hx
    have h2' : ev x = .map none := h2
    rw [Tri.putK_eq, Pt.sucK_eq] at hf
    cases hf
    have hnx : ¬ D nx := hfr nx ((rg_succ _ _).2 rfl)
    have hT := hm.alloc (b := nx) (x := .miter none 0 [] 0) hnx (z := 0) (ob := .mapIter none 0 #[] 0) ⟨rfl, fun b' hb' => nomatch hb'⟩
    refine ⟨_, _, _, ?_, hT, rfl, ?_⟩
    · have hrun : (Instr.range t (.map none)).run P w = .ok (.pointer (some ⟨w.heap.size, 0, none⟩)) (w.alloc (.mapIter none 0 #[] 0)) := by
        unfold Instr.range
        simp [run_underlying hu]
      simp only [execOp, ho, h2', Sem.run_bind, hrun, Result.andThen_ok, L.val, A.val, C.val, upd_same]
      rfl
    · exact .inr ((rg_succ _ _).2 rfl)
  · cases hf
def memN (n : Nat) : List Nat → Bool
  | [] => false
  | k :: r => bif Nat.beq k n then true else memN n r
theorem memN_eq (n : Nat) (l : List Nat) : memN n l = l.contains n := by
  induction l with
  | nil => rfl
  | cons k r ih =>
    simp only [memN, ih, List.contains_cons]
    cases h : Nat.beq k n
    · have : (n == k) = false := by rw [beq_eq_false_iff_ne]; intro e; subst e; rw [Nat.beq_refl] at h; cases h
      rw [this]; rfl
    · have := Nat.eq_of_beq_eq_true h
      subst this; simp
/-- The entries that have not come. -/
def leftE (seen : List Nat) : List Ent → List Ent
  | [] => []
  | e :: r => bif memN e.born seen then leftE seen r else e :: leftE seen r
theorem leftE_eq (seen : List Nat) (es : List Ent) : leftE seen es = es.filter fun e => !seen.contains e.born := by
  induction es with
  | nil => rfl
  | cons e r ih =>
    simp only [leftE, ih, memN_eq, List.filter_cons]
    cases seen.contains e.born <;> simp
/-- Are all entries younger than what came last? -/
def youngE (last : Nat) : List Ent → Bool
  | [] => true
  | e :: r => bif Nat.ble last e.born then youngE last r else false
theorem youngE_eq (last : Nat) (es : List Ent) : youngE last es = es.all fun e => decide (e.born ≥ last) := by
  induction es with
  | nil => rfl
  | cons e r ih =>
    simp only [youngE, ih, List.all_cons]
    cases h : Nat.ble last e.born
    · have : ¬ (e.born ≥ last) := fun hc => by rw [Nat.ble_eq_true_of_le hc] at h; cases h
      simp [this]
    · have := Nat.le_of_ble_eq_true h
      simp [this]
def emptyF {α : Type} : List α → Bool
  | [] => true
  | _ => false
def overL : L := .tup [.c (.bool (.lit 0))]
def evNext (x : Operand) (pc : Pc) (s : Tri L) (m : Tri B) (nx : Pt) : Option (Option L × Tri B × Pt) := match opC pc s x with
  | some (.ptr b 0) => match m.get b with
    | some (.miter none _ _ _) => some (some overL, m, nx)
    | some (.miter (some b') since seen last) => match m.get b' with
      | some (.map es cl) => bif !(emptyF seen) && !(emptyF es) && youngE last es then none else match leftE seen es with
        | [] => some (some overL, m, nx)
        | [e] => bif Nat.blt e.born since then m.putK b (some (.miter (some b') since (seen ++ [e.born]) cl)) fun m => some (some (.tup [.c (.bool (.lit 1)), e.key, e.val]), m, nx) else none
        | _ => none
      | _ => none
    | _ => none
  | _ => none
theorem evNext_mono (x : Operand) : ∀ pc s m nx l m' nx', evNext x pc s m nx = some (l, m', nx') → nx.num ≤ nx'.num := by
  intro pc s m nx l m' nx' h
  simp only [evNext, Tri.putK_eq, cond_eq_ite] at h
  repeat' split at h
  all_goals first | (cases h; done) | (cases h; exact Nat.le_refl _)
theorem emptyF_eq {α : Type} (l : List α) : emptyF l = l.isEmpty := by cases l <;> rfl
theorem run_next_none {w : World} {r since last : Nat} {seen : Array Nat} {t : TypeId} (hg : (getObj r).run P w = .ok (.mapIter none since seen last) w) : (Instr.next (.pointer (some ⟨r, 0, none⟩)) false t).run P w = .ok (.tuple #[.bool false]) w := by
  unfold Instr.next
  simp [hg]
theorem run_next_over {w : World} {r mg since last clock : Nat} {seen : List Nat} {es : List MapEntry} {t : TypeId} (hr : w.heap[r]? = some (.mapIter (some mg) since seen.toArray last)) (hg : w.heap[mg]? = some (.map es.toArray clock))
    (hy : (!seen.isEmpty && !es.isEmpty && es.all fun e => decide (e.born ≥ last)) = false) (hl : (es.filter fun e => !seen.contains e.born) = []) :
    (Instr.next (.pointer (some ⟨r, 0, none⟩)) false t).run P w = .ok (.tuple #[.bool false]) w := by
  have g1 : (getObj r).run P w = .ok (.mapIter (some mg) since seen.toArray last) w := by simp [getObj, Sem.run, hr]
  have g2 : (getObj mg).run P w = .ok (.map es.toArray clock) w := by simp [getObj, Sem.run, hg]
  have hl' : es.toArray.filter (fun e => !seen.toArray.contains e.born) = #[] := by
    rw [List.filter_toArray]
    simp only [List.contains_toArray]
    rw [hl]
  unfold Instr.next
  simp only [Sem.run_bind, g1, g2, Result.andThen_ok]
  have hy2 : (!seen.toArray.isEmpty && !es.toArray.isEmpty && es.toArray.all fun e => decide (e.born ≥ last)) = false := by simpa using hy
  rw [hy2]
  simp only [hl']
  simp [choose, Sem.run, Question.forced]
theorem run_next_one {w : World} {r mg since last clock : Nat} {seen : List Nat} {es : List MapEntry} {e : MapEntry} {t : TypeId} (hr : w.heap[r]? = some (.mapIter (some mg) since seen.toArray last)) (hg : w.heap[mg]? = some (.map es.toArray clock))
    (hy : (!seen.isEmpty && !es.isEmpty && es.all fun e => decide (e.born ≥ last)) = false) (hl : (es.filter fun e => !seen.contains e.born) = [e]) (hb : e.born < since) :
    (Instr.next (.pointer (some ⟨r, 0, none⟩)) false t).run P w = .ok (.tuple #[.bool true, e.key, e.val]) { w with heap := w.heap.setIfInBounds r (.mapIter (some mg) since (seen ++ [e.born]).toArray clock) } := by
  have g1 : (getObj r).run P w = .ok (.mapIter (some mg) since seen.toArray last) w := by simp [getObj, Sem.run, hr]
  have g2 : (getObj mg).run P w = .ok (.map es.toArray clock) w := by simp [getObj, Sem.run, hg]
  have g3 : ∀ ob, (setObj r ob).run P w = .ok () { w with heap := w.heap.setIfInBounds r ob } := fun ob => by simp [setObj, Sem.run, hr]
  have hl' : es.toArray.filter (fun e => !seen.toArray.contains e.born) = #[e] := by
    rw [List.filter_toArray]
    simp only [List.contains_toArray]
    rw [hl]
  unfold Instr.next
  simp only [Sem.run_bind, g1, g2, Result.andThen_ok]
  have hy2 : (!seen.toArray.isEmpty && !es.toArray.isEmpty && es.toArray.all fun e => decide (e.born ≥ last)) = false := by simpa using hy
  rw [hy2]
  simp only [hl']
  have hb2 : ¬ since ≤ e.born := by omega
  simp [hb, hb2, choose, Sem.run, Question.forced]
  simp [g3]
theorem evNext_ok {x : Operand} (ho : o.op = .next x false) : EffOk P pc o (evNext x pc) := by
  intro s m nx l m' nx' hf E ρ D ev w hp hops hm hfr
  have mx : x ∈ o.op.operands.toList := by simp [ho, Op.operands]
  unfold evNext at hf
  split at hf
  · rename_i b hx
    obtain ⟨h1, h2⟩ := opC_ok hp hops mx hx
    have h2' : ev x = .pointer (some ⟨(ρ b).g, 0, none⟩) := h2
    split at hf
    · rename_i since seen last hb
      cases hf
      obtain ⟨g1, g2⟩ := hm.mem b _ h1 hb
      refine ⟨_, w, ρ, ?_, Turn.refl hm, rfl, fun y hy => by simp at hy; subst hy; trivial⟩
      have hrun : (Instr.next (.pointer (some ⟨(ρ b).g, 0, none⟩)) false o.type).run P w = .ok (.tuple #[.bool false]) w := by
        have hg : (getObj (ρ b).g).run P w = .ok (.mapIter none since seen.toArray last) w := by simp [getObj, Sem.run, g1]
        have h0 := run_next_none (P := P) (t := o.type) hg
        exact h0
      simp only [execOp, ho, h2', Sem.run_bind, hrun, Result.andThen_ok]
      rfl
    · rename_i b' since seen last hb
      obtain ⟨g1, g2⟩ := hm.mem b _ h1 hb
      have hb' := g2 b' rfl
      split at hf
      · rename_i es cl hm'
        obtain ⟨q1, q2⟩ := hm.mem b' _ hb' hm'
        have q1' : w.heap[(ρ b').g]? = some (.map (es.map (entV E ρ)).toArray cl) := q1
        cases hy : (!(emptyF seen) && !(emptyF es) && youngE last es) <;> simp only [hy, cond_true, cond_false] at hf
        · have hy' : (!seen.isEmpty && !(es.map (entV E ρ)).isEmpty && (es.map (entV E ρ)).all fun e => decide (e.born ≥ last)) = false := by
            rw [emptyF_eq, emptyF_eq, youngE_eq] at hy
            rw [← hy, List.all_map]
            congr 1
            cases es <;> rfl
          have hfl : ((es.map (entV E ρ)).filter fun e => !seen.contains e.born) = (leftE seen es).map (entV E ρ) := by
            rw [leftE_eq, List.filter_map]; rfl
          split at hf
          · rename_i hl
            cases hf
            rw [hl] at hfl
            refine ⟨_, w, ρ, ?_, Turn.refl hm, rfl, fun y hy => by simp at hy; subst hy; trivial⟩
            have hrun := run_next_over (P := P) (t := o.type) g1 q1' hy' hfl
            simp only [execOp, ho, h2', Sem.run_bind, hrun, Result.andThen_ok]
            rfl
          · rename_i e hl
            cases hbn : Nat.blt e.born since <;> simp only [hbn, cond_true, cond_false] at hf
            · cases hf
            · rw [Tri.putK_eq] at hf
              cases hf
              rw [hl] at hfl
              have hlt : e.born < since := Nat.le_of_ble_eq_true hbn
              have hrun := run_next_one (P := P) (t := o.type) g1 q1' hy' hfl hlt
              have he : e ∈ es := by
                have : e ∈ leftE seen es := by rw [hl]; exact List.mem_cons_self
                rw [leftE_eq] at this
                exact (List.mem_filter.1 this).1
              refine ⟨_, _, ρ, ?_, hm.setObj (x := .miter (some b') since (seen ++ [e.born]) cl) h1 hb ⟨rfl, fun b2 h => by cases h; exact hb'⟩ nx, rfl, fun y hy => ?_⟩
              · simp only [execOp, ho, h2', Sem.run_bind, hrun, Result.andThen_ok]
                rfl
              · simp at hy
                rcases hy with rfl | rfl | rfl
                · trivial
                · rw [un_self]; exact (q2 e he).1
                · rw [un_self]; exact (q2 e he).2
          · cases hf
        · cases hf
      · cases hf
    · cases hf
  · cases hf
/-- The entry that came last. -/
def lastF (seen : List Nat) : Option Nat := match seen with
  | [] => none
  | [n] => some n
  | _ :: r => lastF r
theorem lastF_eq (seen : List Nat) : lastF seen = seen.getLast? := by
  induction seen with
  | nil => rfl
  | cons n r ih => cases r with
    | nil => rfl
    | cons k r => exact ih.trans (by rw [List.getLast?_cons_cons])
def findE (n : Nat) : List Ent → Option Ent
  | [] => none
  | e :: r => bif Nat.beq e.born n then some e else findE n r
theorem findE_eq (n : Nat) (es : List Ent) : findE n es = es.find? fun e => e.born == n := by
  induction es with
  | nil => rfl
  | cons e r ih =>
    simp only [findE, ih, List.find?_cons]
    cases h : Nat.beq e.born n
    · have : (e.born == n) = false := by rw [beq_eq_false_iff_ne]; intro hc; subst hc; rw [Nat.beq_refl] at h; cases h
      rw [this]; rfl
    · have := Nat.eq_of_beq_eq_true h
      subst this; simp
def evEntry (x : Operand) (pc : Pc) (s : Tri L) (m : Tri B) : Option L := match opC pc s x with
  | some (.ptr b 0) => match m.get b with
    | some (.miter (some b') _ seen last) => match lastF seen with
      | some n => match m.get b' with
        | some (.map es cl) => bif Nat.beq cl last then match findE n es with
            | some e => some (.tup [e.key, e.val])
            | none => none
          else none
        | _ => none
      | none => none
    | _ => none
  | _ => none
theorem run_entry {w : World} {r mg since last : Nat} {seen : List Nat} {n : Nat} {es : List MapEntry} {e : MapEntry} (hr : w.heap[r]? = some (.mapIter (some mg) since seen.toArray last)) (hs : seen.getLast? = some n) (hg : w.heap[mg]? = some (.map es.toArray last)) (he : (es.find? fun e => e.born == n) = some e) :
    (Instr.entry (.pointer (some ⟨r, 0, none⟩))).run P w = .ok (.tuple #[e.key, e.val]) w := by
  have g1 : (getObj r).run P w = .ok (.mapIter (some mg) since seen.toArray last) w := by simp [getObj, Sem.run, hr]
  have g2 : (getObj mg).run P w = .ok (.map es.toArray last) w := by simp [getObj, Sem.run, hg]
  have hb : seen.toArray.back? = some n := by rw [List.back?_toArray]; exact hs
  have he' : (es.toArray.find? fun e => e.born == n) = some e := by rw [List.find?_toArray]; exact he
  unfold Instr.entry
  simp only [Sem.run_bind, g1, g2, Result.andThen_ok, hb]
  simp [he']
theorem evEntry_ok {x : Operand} (ho : o.op = .entry x) : LoadOk P pc o (evEntry x pc) := by
  intro s m l hl E ρ D ev w hp hops hm
  have mx : x ∈ o.op.operands.toList := by simp [ho, Op.operands]
  unfold evEntry at hl
  split at hl
  · rename_i b hx
    obtain ⟨h1, h2⟩ := opC_ok hp hops mx hx
    have h2' : ev x = .pointer (some ⟨(ρ b).g, 0, none⟩) := h2
    split at hl
    · rename_i b' since seen last hb
      obtain ⟨g1, g2⟩ := hm.mem b _ h1 hb
      split at hl
      · rename_i n hn
        split at hl
        · rename_i es cl hm'
          obtain ⟨q1, q2⟩ := hm.mem b' _ (g2 b' rfl) hm'
          have q1' : w.heap[(ρ b').g]? = some (.map (es.map (entV E ρ)).toArray cl) := q1
          cases hc : Nat.beq cl last <;> simp only [hc, cond_true, cond_false] at hl
          · cases hl
          have hc := Nat.eq_of_beq_eq_true hc
          subst hc
          split at hl
          · rename_i e he
            cases hl
            rw [findE_eq] at he
            have hmem : e ∈ es := List.mem_of_find?_eq_some he
            have he' : ((es.map (entV E ρ)).find? fun e => e.born == n) = some (entV E ρ e) := by
              rw [List.find?_map]
              have : ((fun e : MapEntry => e.born == n) ∘ entV E ρ) = fun e : Ent => e.born == n := rfl
              rw [this, he]; rfl
            have hrun := run_entry (P := P) g1 (by rw [← lastF_eq]; exact hn) q1' he'
            refine ⟨?_, fun y hy => ?_⟩
            · simp only [execOp, ho, h2', Sem.run_bind, hrun, Result.andThen_ok]
              rfl
            · simp at hy
              rcases hy with rfl | rfl
              · exact (q2 e hmem).1
              · exact (q2 e hmem).2
          · cases hl
        · cases hl
      · cases hl
    · cases hl
  · cases hl
end
end Go.E3
