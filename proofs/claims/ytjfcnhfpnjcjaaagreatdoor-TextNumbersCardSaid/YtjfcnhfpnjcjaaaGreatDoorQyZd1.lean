/- Part Zd1 of a checked reader of Go texts in their model form: it runs a function at terms in the place of numbers, and each part proves that its answers hold of the model. -/
import Derived.Test.YtjfcnhfpnjcjaaaGreatDoorQyZc1
namespace Go.E3
open Go.Sy
noncomputable section
variable {P : Program}

/-! functions of plain values: told once, in no memory -/
def C.flat : C → Bool
  | .ptr _ _ => false
  | .slc _ _ _ _ => false
  | .fn _ _ => false
  | .map _ => false
  | .ifc _ _ _ => false
  | _ => true
def allF {α : Type} (f : α → Bool) (xs : List α) : Bool := List.rec (motive := fun _ => Bool) true (fun x _ ih => bif f x then ih else false) xs
theorem allF_iff {α : Type} {f : α → Bool} {xs : List α} : allF f xs = true ↔ ∀ x ∈ xs, f x = true := by
  induction xs with
  | nil => exact ⟨(fun _ _ h => nomatch h), fun _ => rfl⟩
  | cons x xs ih =>
    show (bif f x then allF f xs else false) = true ↔ _
    cases h : f x
    · simp [h]
    · simp [h, ih]
def A.flat : A → Bool
  | .c x => x.flat
  | .agg xs => allF C.flat xs
def L.flat : L → Bool
  | .a x => x.flat
  | .tup xs => allF A.flat xs
  | .gd _ _ => false
theorem C.flat_ok {x : C} (h : x.flat = true) {E : Env} {ρ : Pt → Rb} {D : Pt → Prop} (hx : x.ok E ρ D) (ρ' : Pt → Rb) (D' : Pt → Prop) : x.ok E ρ' D' ∧ x.val E ρ' = x.val E ρ := by
  cases x <;> first | (cases h; done) | exact ⟨trivial, rfl⟩ | exact ⟨hx, rfl⟩
theorem A.flat_ok {x : A} (h : x.flat = true) {E : Env} {ρ : Pt → Rb} {D : Pt → Prop} (hx : x.ok E ρ D) (ρ' : Pt → Rb) (D' : Pt → Prop) : x.ok E ρ' D' ∧ x.val E ρ' = x.val E ρ := by
  cases x with
  | c x => exact x.flat_ok h hx ρ' D'
  | agg xs =>
    have h' := allF_iff.1 h
    exact ⟨fun x hx' => (x.flat_ok (h' x hx') (hx x hx') ρ' D').1, by simp only [A.val]; rw [List.map_congr_left fun x hx' => (x.flat_ok (h' x hx') (hx x hx') ρ' D').2]⟩
theorem L.flat_ok {x : L} (h : x.flat = true) {E : Env} {ρ : Pt → Rb} {D : Pt → Prop} (hx : x.ok E ρ D) (ρ' : Pt → Rb) (D' : Pt → Prop) : x.ok E ρ' D' ∧ x.val E ρ' = x.val E ρ := by
  cases x with
  | a x => exact x.flat_ok h hx ρ' D'
  | tup xs =>
    have h' := allF_iff.1 h
    exact ⟨fun x hx' => (x.flat_ok (h' x hx') (hx x hx') ρ' D').1, by simp only [L.val]; rw [List.map_congr_left fun x hx' => (x.flat_ok (h' x hx') (hx x hx') ρ' D').2]⟩
  | gd c x => cases h
/-- Types of plain values. -/
def flatT (P : Program) : Nat → TypeId → Bool
  | 0, _ => false
  | n + 1, t => match undF P t with
    | some (.int _) => true
    | some .bool => true
    | some .string => true
    | some (.array _ e) => flatT P n e
    | some (.struct fs) => fs.toList.all fun f => flatT P n f.type
    | _ => false
def flatF (P : Program) (fn : Func) : Bool := Nat.beq fn.nfree 0 && fn.params.toList.all (flatT P 6) && fn.resultTypes.toList.all (flatT P 6)
/-- The world is as it was, but for what is new. -/
theorem Turn.local {E : Env} {ρ ρ' : Pt → Rb} {D : Pt → Prop} {m m' : Tri B} {nx a b : Pt} {w w' : World} (h : Turn E ρ (fun _ => False) .e a w ρ' m' b w') (hm : MR E ρ D m w) : Turn E ρ D m nx w ρ m nx w' where
  le := Nat.le_refl _
  rb _ _ := rfl
  mr := by
    rw [un_self]
    refine ⟨hm.gl.turn (fun k hk _ => h.heap k hk fun _ h => h.elim) (fun b hb => .inl ⟨hb, rfl⟩), fun b x hb hx => ?_, fun b b' x x' hb hb' hx hx' hg => hm.inj b b' x x' hb hb' hx hx' hg⟩
    have := hm.mem b x hb hx
    rw [h.heap _ this.lt fun _ h => h.elim]
    exact this
  off _ _ _ := rfl
  new p hp := (rg_self _ _ hp).elim
  os := h.os
  tape := h.tape
  output := h.output
  size := h.size
  heap k hk _ := h.heap k hk fun _ h => h.elim
theorem MR.none {E E' : Env} {ρ ρ' : Pt → Rb} {D : Pt → Prop} {w : World} (h : GG E ρ D w) (hV : E'.V = E.V) : MR E' ρ' (fun _ => False) .e w := ⟨h.env hV, (fun _ _ h => h.elim), fun _ _ _ _ h => h.elim⟩
def stepG (P : Program) (pc : Pc) (mem : Option Run) (ih : Run) : Run := fun g as m nx => match funF P g with
  | some fn => match fn.body with
    | some body => bif fn.name == "runtime.NumGoroutine" then none else match mem with
      | some run => bif flatF P fn && allF L.flat as then match exF P run pc fn body as .e .z with
          | some (.ret l _ _) => bif l.flat then some (.ret l m nx) else exF P ih pc fn body as m nx
          | some (.pan c _ _) => bif c.flat then some (.pan c m nx) else exF P ih pc fn body as m nx
          | none => exF P ih pc fn body as m nx
        else exF P ih pc fn body as m nx
      | none => exF P ih pc fn body as m nx
    | none => none
  | none => none
theorem stepG_ok {pc : Pc} {mem : Option Run} {ih : Run} (hmem : ∀ r, mem = some r → CallOk P pc r) (hih : CallOk P pc ih) : CallOk P pc (stepG P pc mem ih) := by
  intro g as m nx r h
  unfold stepG at h
  rw [funF_eq] at h
  split at h
  · rename_i fn hf
    split at h
    · rename_i body hb
      cases hn : fn.name == "runtime.NumGoroutine" <;> simp only [hn, cond_true, cond_false] at h
      · have hn' : fn.name ≠ "runtime.NumGoroutine" := by simpa using hn
        have plain : exF P ih pc fn body as m nx = some r → nx.num ≤ r.nx.num ∧ ∀ (E : Env) (ρ : Pt → Rb) (D : Pt → Prop) (w : World), pcOk E pc → (∀ l ∈ as, l.ok E ρ D) → MR E ρ D m w → (∀ b, Rg nx r.nx b → ¬ D b) →
            (∃ fn body, P.funcs[g]? = some fn ∧ fn.body = some body ∧ fn.name ≠ "runtime.NumGoroutine") ∧ Calls P g (as.map (L.val E ρ)).toArray w (CR.ok E ρ D m nx w r) := fun h => by
          obtain ⟨l1, q1⟩ := exF_ok hih hf hb h
          exact ⟨l1, fun E ρ D w hp has hm hfr => ⟨⟨fn, body, hf, hb, hn'⟩, q1 E ρ D w hp has hm hfr⟩⟩
        split at h
        · rename_i run
          cases hq : flatF P fn && allF L.flat as <;> simp only [hq, cond_true, cond_false] at h
          · exact plain h
          · rw [Bool.and_eq_true] at hq
            have hfl := allF_iff.1 hq.2
            have hm1 := hmem _ rfl
            split at h
            · rename_i l m' nx' hx
              cases hl : l.flat <;> simp only [hl, cond_true, cond_false] at h
              · exact plain h
              · cases h
                obtain ⟨l1, q1⟩ := exF_ok hm1 hf hb hx
                refine ⟨Nat.le_refl _, fun E ρ D w hp has hm hfr => ⟨⟨fn, body, hf, hb, hn'⟩, ?_⟩⟩
                refine Calls.mono (q1 E ρ (fun _ => False) w hp (fun l hl => (l.flat_ok (hfl l hl) (has l hl) ρ _).1) (MR.none hm.gl rfl) (fun _ _ h => h)) fun e w' he => ?_
                obtain ⟨ρ', rfl, h2, h3⟩ := he
                obtain ⟨h4, h5⟩ := l.flat_ok hl h2 ρ (Un D (Rg nx nx))
                exact ⟨ρ, by rw [h5], h4, h3.local hm⟩
            · rename_i c m' nx' hx
              cases hl : c.flat <;> simp only [hl, cond_true, cond_false] at h
              · exact plain h
              · cases h
                obtain ⟨l1, q1⟩ := exF_ok hm1 hf hb hx
                refine ⟨Nat.le_refl _, fun E ρ D w hp has hm hfr => ⟨⟨fn, body, hf, hb, hn'⟩, ?_⟩⟩
                refine Calls.mono (q1 E ρ (fun _ => False) w hp (fun l hl => (l.flat_ok (hfl l hl) (has l hl) ρ _).1) (MR.none hm.gl rfl) (fun _ _ h => h)) fun e w' he => ?_
                obtain ⟨ρ', rfl, h2, h3⟩ := he
                obtain ⟨h4, h5⟩ := c.flat_ok hl h2 ρ (Un D (Rg nx nx))
                exact ⟨ρ, by rw [h5], h4, h3.local hm⟩
            · exact plain h
        · exact plain h
      · cases h
    · cases h
  · cases h
def runN (P : Program) (pc : Pc) (mem : Option Run) (n : Nat) : Run := Nat.rec (motive := fun _ => Run) (fun _ _ _ _ => none) (fun _ ih => stepG P pc mem ih) n
def runL (P : Program) (pc : Pc) (k : Nat) : Run := Nat.rec (motive := fun _ => Run) (runN P pc none 40) (fun _ ih => runN P pc (some ih) 40) k
theorem runN_ok {pc : Pc} {mem : Option Run} (hmem : ∀ r, mem = some r → CallOk P pc r) (n : Nat) : CallOk P pc (runN P pc mem n) := by
  induction n with
  | zero => intro g as m nx r h; cases h
  | succ n ih => exact stepG_ok hmem ih
theorem runL_ok (P : Program) (pc : Pc) (k : Nat) : CallOk P pc (runL P pc k) := by
  induction k with
  | zero => exact runN_ok (mem := none) (fun r h => by cases h) 40
  | succ k ih => exact runN_ok (mem := some (runL P pc k)) (fun r h => by cases h; exact ih) 40
end
end Go.E3
namespace Go.E3
open Go.Sy
noncomputable section
variable {P : Program}

/-! two numbers, quick -/
def foldF (o : O2) (a b : Int) : Int := match o with
  | .add => Int.add a b
  | .sub => Int.sub a b
  | .mul => Int.mul a b
  | .tdiv => Int.tdiv a b
  | .tmod => Int.tmod a b
  | .eq => bif eqF a b then 1 else 0
  | .lt => bif ltF a b then 1 else 0
  | .le => bif ltF b a then 0 else 1
  | .and => bif eqF a 0 then 0 else bif eqF b 0 then 0 else 1
  | .or => bif eqF a 0 then (bif eqF b 0 then 0 else 1) else 1
  | .band k => wrapF k (.ofNat (Nat.land (bitsF k a) (bitsF k b)))
  | .bor k => wrapF k (.ofNat (Nat.lor (bitsF k a) (bitsF k b)))
  | .bxor k => wrapF k (.ofNat (Nat.xor (bitsF k a) (bitsF k b)))
  | .bandn k => (O2.bandn k).fold a b
  | .shl k => wrapF k (Int.mul a (.ofNat (Nat.pow 2 (min b.toNat (kbits k)))))
  | .shr k => Int.casesOn a (fun m => .ofNat (Nat.div m (Nat.pow 2 (min b.toNat (kbits k))))) (fun m => .negSucc (Nat.div m (Nat.pow 2 (min b.toNat (kbits k)))))
theorem foldF_eq (o : O2) (a b : Int) : foldF o a b = o.den a b := by
  rw [← O2.fold_eq]
  cases o <;> simp only [foldF, O2.fold, wrapF_eq, bitsF_eq, eqF_eq, ltF_eq, kwrap_eq, toBits_eq]
  case add => rfl
  case sub => rfl
  case mul => rfl
  case eq => cases (a == b) <;> rfl
  case lt => cases ltb a b <;> rfl
  case le =>
    cases h : ltb b a
    · have h1 : leb a b = true := by rw [leb_t]; rw [ltb_f] at h; exact h
      rw [h1]; rfl
    · have h1 : leb a b = false := by rw [leb_f]; rw [ltb_t] at h; exact h
      rw [h1]; rfl
  case and => cases h1 : a == 0 <;> cases h2 : b == 0 <;> simp [h1, h2, bne]
  case or => cases h1 : a == 0 <;> cases h2 : b == 0 <;> simp [h1, h2, bne]
  case band => rfl
  case bor => rfl
  case bxor => rfl
  case shl => rfl
  case shr k =>
    have hp : (0 : Int) < (Nat.pow 2 (min b.toNat (kbits k)) : Nat) := by exact_mod_cast Nat.pow_pos (by decide)
    show _ = Int.fdiv a ((2 ^ min b.toNat (kbits k) : Nat) : Int)
    have e : (Nat.pow 2 (min b.toNat (kbits k))) = 2 ^ min b.toNat (kbits k) := rfl
    rw [e] at hp
    simp only [e]
    generalize 2 ^ min b.toNat (kbits k) = q at *
    rw [Int.fdiv_eq_ediv_of_nonneg _ (by omega)]
    cases a with
    | ofNat m => rfl
    | negSucc m => rw [Int.negSucc_ediv _ hp]; rfl

/-! letters' meanings -/
structure Sl where
  lo : Int
  hi : Int
  t : T
abbrev Sg := List Sl
def Sg.at (σ : Sg) (i : Nat) : Option Sl := Nat.rec (motive := fun _ => Sg → Option Sl) (fun σ => List.rec (motive := fun _ => Option Sl) none (fun x _ _ => some x) σ) (fun _ ih σ => List.rec (motive := fun _ => Option Sl) none (fun _ r _ => ih r) σ) i σ
theorem Sg.at_eq : ∀ (i : Nat) (σ : Sg), σ.at i = σ[i]? := by
  intro i
  induction i with
  | zero => intro σ; cases σ <;> rfl
  | succ i ih => intro σ; cases σ with
    | nil => rfl
    | cons x r => exact (ih r).trans (by simp)
/-- The world of letters that a call's arguments make. -/
def envS (E : Env) (σ : Sg) : Env := ⟨fun i => match σ[i]? with
  | some s => ⟨s.t.den E, fun _ => s.t.den E⟩
  | none => ⟨0, fun _ => 0⟩, E.F, E.V⟩
def SgOk (E : Env) (σ : Sg) : Prop := ∀ s ∈ σ, s.lo ≤ s.t.den E ∧ s.t.den E ≤ s.hi
def un1 (pc : Pc) (o : O1) (a : T) : T := match o with
  | .wrap k => cvF pc k a
  | .not => match a with
    | .lit n => tbF (eqF n 0)
    | a => mkNot a
  | .cl lo hi => .un (.cl lo hi) a
theorem un1_den {E : Env} {pc : Pc} (hp : pcOk E pc) (o : O1) (a : T) : (un1 pc o a).den E = o.den (a.den E) := by
  cases o with
  | wrap k => exact cvF_den hp k a
  | not =>
    simp only [un1]
    split
    · simp only [T.den, O1.den, eqF_eq]; cases (_ == (0 : Int)) <;> rfl
    · exact mkNot_den E _
  | cl lo hi => rfl
def bin2 (pc : Pc) (o : O2) (a b : T) : T := match a with
  | .lit m => match b with
    | .lit n => .lit (foldF o m n)
    | b => bitN pc (mk2 o (.lit m) b)
  | a => bitN pc (mk2 o a b)
theorem bin2_den {E : Env} {pc : Pc} (hp : pcOk E pc) (o : O2) (a b : T) : (bin2 pc o a b).den E = o.den (a.den E) (b.den E) := by
  unfold bin2
  split
  · split
    · simp only [T.den, foldF_eq]
    · rw [bitN_den hp, mk2_den]
  · rw [bitN_den hp, mk2_den]
def fcO {β : Type} (x : Option T) (k : T → Option β) : Option β := match x with
  | some t => fcT t k
  | none => none
theorem fcO_some {β : Type} {x : Option T} {k : T → Option β} {y : β} (h : fcO x k = some y) : ∃ t, x = some t ∧ k t = some y := by
  cases x with
  | none => cases h
  | some t => exact ⟨t, rfl, by rw [← fcT_eq t k]; exact h⟩
/-- Letters put in. -/
def sbT (pc : Pc) (σ : Sg) (t : T) : Option T :=
  T.rec (motive := fun _ => Option T) (fun n => some (.lit n)) (fun i lo hi => match σ.at i with
      | some s => bif eqF s.lo lo && eqF s.hi hi then some s.t else none
      | none => none)
    (fun o _ ih => fcO ih fun a => some (un1 pc o a))
    (fun o _ _ iha ihb => fcO iha fun a => fcO ihb fun b => some (bin2 pc o a b))
    (fun _ _ _ ihc iha ihb => fcO ihc fun c => match dec pc c with
      | some true => iha
      | some false => ihb
      | none => fcO iha fun a => fcO ihb fun b => some (mkIte c a b))
    (fun _ _ _ _ => none) (fun _ _ _ _ _ _ => none) (fun _ _ _ _ => none) (fun _ _ _ _ _ _ _ _ => none) (fun _ _ _ _ _ _ => none) t
theorem sbT_ok {E : Env} {pc : Pc} (hp : pcOk E pc) {σ : Sg} (hσ : SgOk E σ) : ∀ (t : T) {u : T}, sbT pc σ t = some u → u.den E = t.den (envS E σ) := by
  intro t
  induction t with
  | lit n => intro u h; cases h; rfl
  | v i lo hi =>
    intro u h
    change (match σ.at i with
      | some s => bif eqF s.lo lo && eqF s.hi hi then some s.t else none
      | none => none) = some u at h
    rw [Sg.at_eq] at h
    split at h
    · rename_i s hs
      cases hc : eqF s.lo lo && eqF s.hi hi <;> rw [hc] at h
      · cases h
      · cases h
        rw [Bool.and_eq_true, eqF_eq, eqF_eq, beq_iff_eq, beq_iff_eq] at hc
        obtain ⟨rfl, rfl⟩ := hc
        have := hσ s (List.mem_of_getElem? hs)
        simp only [T.den, envS, hs]
        exact (clamp_id this).symm
    · cases h
  | un o a ih =>
    intro u h
    obtain ⟨a', h1, h2⟩ := fcO_some h
    cases h2
    rw [un1_den hp, ih h1]; rfl
  | bin o a b iha ihb =>
    intro u h
    obtain ⟨a', h1, h2⟩ := fcO_some h
    obtain ⟨b', h3, h4⟩ := fcO_some h2
    cases h4
    rw [bin2_den hp, iha h1, ihb h3]; rfl
  | ite c a b ihc iha ihb =>
    intro u h
    obtain ⟨c', h1, h2⟩ := fcO_some h
    have hc := ihc h1
    simp only [T.den, ← hc]
    split at h2
    · rename_i hd
      have := dec_ok hp hd
      simp only [T.tr, bne_iff_ne] at this
      rw [if_neg this]; exact iha h2
    · rename_i hd
      have := dec_ok hp hd
      simp only [T.tr, bne_eq_false_iff_eq] at this
      rw [if_pos this]; exact ihb h2
    · obtain ⟨a', h3, h4⟩ := fcO_some h2
      obtain ⟨b', h5, h6⟩ := fcO_some h4
      cases h6
      rw [mkIte_den, iha h3, ihb h5]
  | sel s i _ _ => intro u h; cases h
  | upd s i x _ _ _ => intro u h; cases h
  | sh s o _ _ => intro u h; cases h
  | blit d o n s _ _ _ _ => intro u h; cases h
  | eqr n a b _ _ _ => intro u h; cases h

/-! .. in values -/
def sbTs (pc : Pc) (σ : Sg) (l : List T) : Option (List T) := List.rec (motive := fun _ => Option (List T)) (some []) (fun x _ ih => fcO (sbT pc σ x) fun t => match ih with
  | some r => some (t :: r)
  | none => none) l
theorem sbTs_ok {E : Env} {pc : Pc} (hp : pcOk E pc) {σ : Sg} (hσ : SgOk E σ) : ∀ {l r : List T}, sbTs pc σ l = some r → r.map (T.den E) = l.map (T.den (envS E σ)) := by
  intro l
  induction l with
  | nil => intro r h; cases h; rfl
  | cons x l ih =>
    intro r h
    obtain ⟨t, h1, h2⟩ := fcO_some (x := sbT pc σ x) (k := fun t => match sbTs pc σ l with
      | some r => some (t :: r)
      | none => none) h
    split at h2
    · rename_i r' hr
      cases h2
      simp only [List.map_cons, sbT_ok hp hσ x h1, ih hr]
    · cases h2
def C.sb (pc : Pc) (σ : Sg) (x : C) : Option C := match x with
  | .int k t => fcO (sbT pc σ t) fun t => some (.int k t)
  | .bool t => fcO (sbT pc σ t) fun t => some (.bool t)
  | .str l => match sbTs pc σ l with
    | some l => some (.str l)
    | none => none
  | .nilp => some .nilp
  | .nils => some .nils
  | .nilf => some .nilf
  | .nilm => some .nilm
  | .nili => some .nili
  | _ => none
theorem C.sb_ok {E : Env} {pc : Pc} (hp : pcOk E pc) {σ : Sg} (hσ : SgOk E σ) {x y : C} (h : x.sb pc σ = some y) (ρ : Pt → Rb) (D : Pt → Prop) (hx : x.ok (envS E σ) ρ D) : y.ok E ρ D ∧ y.val E ρ = x.val (envS E σ) ρ ∧ y.flat = true := by
  unfold C.sb at h
  split at h
  · obtain ⟨t, h1, h2⟩ := fcO_some h
    cases h2
    exact ⟨trivial, by simp only [C.val, sbT_ok hp hσ _ h1], rfl⟩
  · obtain ⟨t, h1, h2⟩ := fcO_some h
    cases h2
    exact ⟨trivial, by simp only [C.val, T.tr, sbT_ok hp hσ _ h1], rfl⟩
  · rename_i l
    split at h
    · rename_i r hr
      cases h
      have e := sbTs_ok hp hσ hr
      refine ⟨?_, ?_, rfl⟩
      · intro t ht
        have : t.den E ∈ r.map (T.den E) := List.mem_map_of_mem ht
        rw [e] at this
        obtain ⟨u, hu, hu2⟩ := List.mem_map.1 this
        rw [← hu2]; exact hx u hu
      · simp only [C.val, strOf]
        have : r.map (fun t => byteOf (t.den E)) = l.map fun t => byteOf (t.den (envS E σ)) := by
          have := congrArg (List.map byteOf) e
          rw [List.map_map, List.map_map] at this
          exact this
        rw [this]
    · cases h
  all_goals first | (cases h; done) | (cases h; exact ⟨trivial, rfl, rfl⟩)
def sbCs (pc : Pc) (σ : Sg) (l : List C) : Option (List C) := List.rec (motive := fun _ => Option (List C)) (some []) (fun x _ ih => match x.sb pc σ with
  | some t => match ih with
    | some r => some (t :: r)
    | none => none
  | none => none) l
theorem sbCs_ok {E : Env} {pc : Pc} (hp : pcOk E pc) {σ : Sg} (hσ : SgOk E σ) (ρ : Pt → Rb) (D : Pt → Prop) : ∀ {l r : List C}, sbCs pc σ l = some r → (∀ x ∈ l, x.ok (envS E σ) ρ D) → (∀ x ∈ r, x.ok E ρ D) ∧ r.map (C.val E ρ) = l.map (C.val (envS E σ) ρ) ∧ allF C.flat r = true := by
  intro l
  induction l with
  | nil => intro r h _; cases h; exact ⟨(fun _ h => nomatch h), rfl, rfl⟩
  | cons x l ih =>
    intro r h hx
    change (match x.sb pc σ with
      | some t => match sbCs pc σ l with
        | some r => some (t :: r)
        | none => none
      | none => none) = some r at h
    split at h
    · rename_i t ht
      split at h
      · rename_i r' hr
        cases h
        obtain ⟨h1, h2, h3⟩ := x.sb_ok hp hσ ht ρ D (hx _ List.mem_cons_self)
        obtain ⟨h4, h5, h6⟩ := ih hr fun y hy => hx y (List.mem_cons_of_mem _ hy)
        refine ⟨fun y hy => ?_, by simp only [List.map_cons, h2, h5], ?_⟩
        · rcases List.mem_cons.1 hy with rfl | hy
          · exact h1
          · exact h4 y hy
        · rw [allF_iff]
          intro y hy
          rcases List.mem_cons.1 hy with rfl | hy
          · exact h3
          · exact allF_iff.1 h6 y hy
      · cases h
    · cases h
def A.sb (pc : Pc) (σ : Sg) (x : A) : Option A := match x with
  | .c x => match x.sb pc σ with
    | some x => some (.c x)
    | none => none
  | .agg xs => match sbCs pc σ xs with
    | some xs => some (.agg xs)
    | none => none
theorem A.sb_ok {E : Env} {pc : Pc} (hp : pcOk E pc) {σ : Sg} (hσ : SgOk E σ) {x y : A} (h : x.sb pc σ = some y) (ρ : Pt → Rb) (D : Pt → Prop) (hx : x.ok (envS E σ) ρ D) : y.ok E ρ D ∧ y.val E ρ = x.val (envS E σ) ρ ∧ y.flat = true := by
  cases x with
  | c x =>
    simp only [A.sb] at h
    split at h
    · rename_i z hz
      cases h
      exact x.sb_ok hp hσ hz ρ D hx
    · cases h
  | agg xs =>
    simp only [A.sb] at h
    split at h
    · rename_i z hz
      cases h
      obtain ⟨h1, h2, h3⟩ := sbCs_ok hp hσ ρ D hz hx
      exact ⟨h1, by simp only [A.val, h2], h3⟩
    · cases h
def sbAs (pc : Pc) (σ : Sg) (l : List A) : Option (List A) := List.rec (motive := fun _ => Option (List A)) (some []) (fun x _ ih => match x.sb pc σ with
  | some t => match ih with
    | some r => some (t :: r)
    | none => none
  | none => none) l
theorem sbAs_ok {E : Env} {pc : Pc} (hp : pcOk E pc) {σ : Sg} (hσ : SgOk E σ) (ρ : Pt → Rb) (D : Pt → Prop) : ∀ {l r : List A}, sbAs pc σ l = some r → (∀ x ∈ l, x.ok (envS E σ) ρ D) → (∀ x ∈ r, x.ok E ρ D) ∧ r.map (A.val E ρ) = l.map (A.val (envS E σ) ρ) ∧ allF A.flat r = true := by
  intro l
  induction l with
  | nil => intro r h _; cases h; exact ⟨(fun _ h => nomatch h), rfl, rfl⟩
  | cons x l ih =>
    intro r h hx
    change (match x.sb pc σ with
      | some t => match sbAs pc σ l with
        | some r => some (t :: r)
        | none => none
      | none => none) = some r at h
    split at h
    · rename_i t ht
      split at h
      · rename_i r' hr
        cases h
        obtain ⟨h1, h2, h3⟩ := x.sb_ok hp hσ ht ρ D (hx _ List.mem_cons_self)
        obtain ⟨h4, h5, h6⟩ := ih hr fun y hy => hx y (List.mem_cons_of_mem _ hy)
        refine ⟨fun y hy => ?_, by simp only [List.map_cons, h2, h5], ?_⟩
        · rcases List.mem_cons.1 hy with rfl | hy
          · exact h1
          · exact h4 y hy
        · rw [allF_iff]
          intro y hy
          rcases List.mem_cons.1 hy with rfl | hy
          · exact h3
          · exact allF_iff.1 h6 y hy
      · cases h
    · cases h
def L.sb (pc : Pc) (σ : Sg) (x : L) : Option L := match x with
  | .a x => match x.sb pc σ with
    | some x => some (.a x)
    | none => none
  | .tup xs => match sbAs pc σ xs with
    | some xs => some (.tup xs)
    | none => none
  | .gd _ _ => none
theorem L.sb_ok {E : Env} {pc : Pc} (hp : pcOk E pc) {σ : Sg} (hσ : SgOk E σ) {x y : L} (h : x.sb pc σ = some y) (ρ : Pt → Rb) (D : Pt → Prop) (hx : x.ok (envS E σ) ρ D) : y.ok E ρ D ∧ y.val E ρ = x.val (envS E σ) ρ ∧ y.flat = true := by
  cases x with
  | a x =>
    simp only [L.sb] at h
    split at h
    · rename_i z hz
      cases h
      exact x.sb_ok hp hσ hz ρ D hx
    · cases h
  | tup xs =>
    simp only [L.sb] at h
    split at h
    · rename_i z hz
      cases h
      obtain ⟨h1, h2, h3⟩ := sbAs_ok hp hσ ρ D hz hx
      exact ⟨h1, by simp only [L.val, h2], h3⟩
    · cases h
  | gd c x => cases h
end
end Go.E3
