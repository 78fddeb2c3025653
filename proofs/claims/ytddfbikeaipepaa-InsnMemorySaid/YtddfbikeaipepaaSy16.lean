/- Part 16 of a checked reader of Go texts in their model form: it runs a function at terms in the place of numbers, and each part proves that its answers hold of the model. -/
import Derived.Test.YtddfbikeaipepaaSy15
namespace Go.Sy
def F2L {α : Type} (r : α → Value → Prop) : List α → List Value → Prop
  | [], [] => True
  | x :: xs, v :: vs => r x v ∧ F2L r xs vs
  | _, _ => False
theorem F2.ofL {α : Type} {r : α → Value → Prop} : ∀ {xs : List α} {vs : List Value}, F2L r xs vs → F2 r xs vs.toArray
  | [], [], _ => ⟨rfl, fun i x h => by simp at h⟩
  | x :: xs, v :: vs, h => by
    obtain ⟨h1, h2⟩ := h
    have ih := F2.ofL h2
    refine ⟨by have := ih.1; simp at this ⊢; exact this, fun i y hy => ?_⟩
    cases i with
    | zero => simp at hy; subst hy; exact ⟨v, by simp, h1⟩
    | succ i =>
      simp at hy
      obtain ⟨u, hu, hr⟩ := ih.2 i y hy
      exact ⟨u, by simpa using hu, hr⟩
  | [], _ :: _, h => h.elim
  | _ :: _, [], h => h.elim

/-- A truth made shorter by what is known. -/
def red (pc : Pc) (t : T) : T :=
  match dec pc t with
  | some b => .lit (tb b)
  | none => match t with
    | .un .not a => mkNot (red pc a)
    | .bin .and a b => mkAndS (red pc a) (red pc b)
    | .bin .or a b => mkOrS (red pc a) (red pc b)
    | .bin .eq a b => bif a.is01 && b.is01 && (red pc a).is01 && (red pc b).is01 then mk2 .eq (red pc a) (red pc b) else .bin .eq a b
    | .ite c a b => mkIte (red pc c) (red pc a) (red pc b)
    | t => t
theorem tr_iff {E : Env} {a b : T} (h : a.tr E = b.tr E) : (a.den E == 0) = (b.den E == 0) := by
  simp only [T.tr, bne] at h
  cases h1 : a.den E == 0 <;> cases h2 : b.den E == 0 <;> simp [h1, h2] at h ⊢
theorem is01_den {E : Env} {a b : T} (ha : a.is01 = true) (hb : b.is01 = true) (h : a.tr E = b.tr E) : a.den E = b.den E := by
  rw [← T.is01_tb E ha, ← T.is01_tb E hb]; simp only [T.tr] at h; rw [h]
theorem red_tr {E : Env} {pc : Pc} (hp : pcOk E pc) (t : T) : (red pc t).tr E = t.tr E := by
  have lt : ∀ b : Bool, (T.lit (tb b)).tr E = b := fun b => by simp only [T.tr, T.den, tb_ne]
  induction t with
  | un o a ih =>
    unfold red
    split
    · rename_i b h; rw [dec_ok hp h, lt]
    · cases o with
      | not =>
        rw [tr_not, ← ih]
        show (mkNot (red pc a)).tr E = _
        simp only [T.tr, mkNot_den, bne, Bool.not_not]
        cases (red pc a).den E == 0 <;> rfl
      | wrap k => rfl
  | bin o a b iha ihb =>
    unfold red
    split
    · rename_i b h; rw [dec_ok hp h, lt]
    · cases o with
      | and => rw [tr_and, ← iha, ← ihb]; simp only [T.tr, mkAndS_den, tb_ne]
      | or => rw [tr_or, ← iha, ← ihb]; simp only [T.tr, mkOrS_den, tb_ne]
      | eq =>
        simp only
        cases h : a.is01 && b.is01 && (red pc a).is01 && (red pc b).is01
        · rfl
        · simp only [Bool.and_eq_true] at h
          obtain ⟨⟨⟨h1, h2⟩, h3⟩, h4⟩ := h
          simp only [cond_true, T.tr, mk2_den, T.den]
          rw [is01_den h3 h1 iha, is01_den h4 h2 ihb]
      | _ => rfl
  | ite c a b ihc iha ihb =>
    unfold red
    split
    · rename_i b h; rw [dec_ok hp h, lt]
    · have hc := tr_iff ihc
      simp only [T.tr, mkIte_den, T.den]
      simp only [T.tr] at iha ihb
      by_cases h : c.den E = 0
      · have : (red pc c).den E = 0 := by simpa [h] using hc
        simp [h, this, ihb]
      · have : ¬ (red pc c).den E = 0 := by intro h'; rw [h'] at hc; simp at hc; exact h hc
        simp [h, this, iha]
  | _ =>
    unfold red
    split
    · rename_i b h; rw [dec_ok hp h, lt]
    · rfl
/-- The first thing to ask. -/
def atom : T → T
  | .un .not a => atom a
  | .bin .and a _ => atom a
  | .bin .or a _ => atom a
  | .ite c _ _ => atom c
  | .bin .eq a b => bif a.is01 && b.is01 then (match a with | .lit _ => atom b | a => atom a) else .bin .eq a b
  | t => t
def pcBad : Pc → Bool
  | [] => false
  | (t, b) :: pc => match dec pc t with
    | some c => c != b || pcBad pc
    | none => pcBad pc
theorem pcBad_ok {E : Env} : ∀ {pc : Pc}, pcBad pc = true → ¬ pcOk E pc
  | [], h => by cases h
  | (t, b) :: pc, h => by
    intro hp
    have hp' : pcOk E pc := fun q hq => hp q (List.mem_cons_of_mem _ hq)
    have h0 := hp (t, b) List.mem_cons_self
    simp only [pcBad] at h
    split at h
    · rename_i c hc
      have := dec_ok hp' hc
      simp only [Bool.or_eq_true] at h
      rcases h with h | h
      · rw [this] at h0; simp [h0] at h
      · exact pcBad_ok h hp'
    · exact pcBad_ok h hp'
/-- Is a truth sure? By asking, one thing after the other. -/
def taut : Nat → Pc → T → Bool
  | 0, _, _ => false
  | n + 1, pc, t => match red pc t with
    | .lit m => m != 0 || pcBad pc
    | t' => pcBad pc || (taut n (addF (atom t') true pc) t' && taut n (addF (atom t') false pc) t')
theorem taut_ok {E : Env} : ∀ {n : Nat} {pc : Pc} {t : T}, taut n pc t = true → pcOk E pc → t.tr E = true := by
  intro n
  induction n with
  | zero => intro pc t h; cases h
  | succ n ih =>
    intro pc t h hp
    rw [← red_tr hp t]
    simp only [taut] at h
    split at h
    · rename_i m hm
      simp only [Bool.or_eq_true] at h
      rcases h with h | h
      · rw [hm]; simpa [T.tr, T.den] using h
      · exact (pcBad_ok h hp).elim
    · simp only [Bool.or_eq_true, Bool.and_eq_true] at h
      rcases h with h | ⟨h1, h2⟩
      · exact (pcBad_ok h hp).elim
      · cases ha : (atom (red pc t)).tr E
        · exact ih h2 (pcOk_addF.2 ⟨ha, hp⟩)
        · exact ih h1 (pcOk_addF.2 ⟨ha, hp⟩)

/-- A law over plain values, whole. -/
def lawChk (P : Program) (sm : Nat → Pc → List A → Option A) (cfg : Nat → Bool) (fuel n : Nat) (f : Nat) (xs : List A) (pc : Pc) : Bool :=
  match P.funcs[f]? with
  | some fn => match fn.body with
    | some c => match evC P sm cfg fuel (cfg f) false c ⟨ini (xs.map L.a) fn.ntmps, [], pc⟩ with
      | some outs => match residue P fn.results.toList outs with
        | some rs => rs.all fun p => taut n p.1 p.2
        | none => false
      | none => false
    | none => false
  | none => false
theorem law_chk {P : Program} {sm : Nat → Pc → List A → Option A} (hsm : SmOk P sm) {cfg : Nat → Bool} {fuel n f : Nat} {xs : List A} {pc : Pc} (h : lawChk P sm cfg fuel n f xs pc = true) (E : Env) {args : Array Value} (hargs : F2 (Ar E (fun _ => 0) 0) xs args) (hpc : pcOk E pc) (w : World) :
    Calls P f args w fun e w' => e = .returned (.bool true) ∧ RowKit.Below w.heap.size w w' := by
  unfold lawChk at h
  split at h
  · rename_i fn hf
    split at h
    · rename_i c hb
      split at h
      · rename_i outs he
        split at h
        · rename_i rs hr
          let X : Cx := ⟨E, 0, fun _ => 0, w⟩
          have hfr : ∀ w', Fr X w' → RowKit.Below w.heap.size w w' := fun w' h => ⟨h.os, h.tape, h.output, h.size, fun k hk => h.block k hk (fun i hi => absurd hi (Nat.not_lt_zero _))⟩
          refine (calls_of_wp (R := fun e w' => e = .returned (.bool true) ∧ Fr X w') hf hb ?_).mono fun e w' ⟨h1, h2⟩ => ⟨h1, hfr w' h2⟩
          have hrel : Rel X (fun _ => 0) ⟨ini (xs.map L.a) fn.ntmps, [], pc⟩ { tmps := args ++ Array.replicate (fn.ntmps - args.size) undef, defers := [] } w := by
            refine ⟨⟨?_, hpc⟩, rfl, ⟨fun i b hi => (by simp at hi), fun i j bi bj hi => (by simp at hi), Nat.le_refl _, fun i hi => absurd hi (Nat.not_lt_zero _), fun i b _ hi => (by simp at hi), ⟨rfl, rfl, rfl, Nat.le_refl _, fun _ _ _ => rfl⟩⟩⟩
            have e1 : F2 (Lr E (fun _ => 0) 0) (xs.map L.a) args := hargs.map _ fun _ _ hr => hr
            exact ini_ok e1 _
          refine (evC_ok P hsm cfg fuel).1 _ _ _ _ he X _ _ w hrel _ (residue_ok hr fun p hp hpp => ?_)
          exact taut_ok (List.all_eq_true.1 h p hp) hpp
        · cases h
      · cases h
    · cases h
  · cases h
theorem clamp_in {lo hi n : Int} (h : lo ≤ n ∧ n ≤ hi) : clamp lo hi n = n := by
  unfold clamp; rw [if_neg (by omega), if_neg (by omega)]
/-- The letters, named. -/
def envOf (l : List Int) : Env := ⟨fun i => l.getD i 0, fun _ _ => 0⟩
theorem Ar_int {l : List Int} {ρ : Nat → Nat} {n : Nat} {k : IntKind} {i : Nat} {x lo hi : Int} (hx : l.getD i 0 = x) (h : lo ≤ x ∧ x ≤ hi) : Ar (envOf l) ρ n (.c (.int k (.v i lo hi))) (.int k x) := by
  show Value.int k x = Value.int k (clamp lo hi (l.getD i 0))
  rw [hx, clamp_in h]
theorem Ar_bool {l : List Int} {ρ : Nat → Nat} {n : Nat} {i : Nat} {x : Bool} (hx : l.getD i 0 = tb x) : Ar (envOf l) ρ n (.c (.bool (.v i 0 1))) (.bool x) := by
  show Value.bool x = Value.bool (clamp 0 1 (l.getD i 0) != 0)
  rw [hx, clamp_in (tb_range x), tb_ne]
theorem Ar_intw {l : List Int} {ρ : Nat → Nat} {n : Nat} {k : IntKind} {i : Nat} {x lo hi : Int} (hx : l.getD i 0 = x) (h1 : lo = kmin k) (h2 : hi = kmax k) (h : (Lit.int k x).wf = true) : Ar (envOf l) ρ n (.c (.int k (.v i lo hi))) (.int k x) := by
  refine Ar_int hx ?_
  rw [h1, h2, kmin_eq, kmax_eq]
  simpa [Lit.wf] using h
theorem smNone (P : Program) : SmOk P (fun _ _ _ => none) := by
  intro g pc xs y h; cases h
end Go.Sy
