/- Part 16 of a checked reader of Go texts in their model form: it runs a function at terms in the place of numbers, and each part proves that its answers hold of the model. -/
import Derived.Test.YtpjmhngcdbpmpaaLy14
namespace Go.Sy

/-! values that their cells decide -/
def C.det : C → Bool
  | .int _ _ | .bool _ => true
  | _ => false
def A.det : A → Bool
  | .c x => x.det
  | .agg xs => xs.all (·.det)
  | .rows _ => false
  | .dead => false
def L.det : L → Bool
  | .a x => x.det
  | .tup xs => xs.all (·.det)
  | .gd _ _ => false
def C.val (E : Env) : C → Value
  | .int k t => .int k (t.den E)
  | .bool t => .bool (t.tr E)
  | _ => undef
def A.val (E : Env) : A → Value
  | .c x => x.val E
  | .agg xs => .agg (xs.map (C.val E)).toArray
  | .rows _ => undef
  | .dead => undef
def L.val (E : Env) : L → Value
  | .a x => x.val E
  | .tup xs => .tuple (xs.map (A.val E)).toArray
  | .gd _ _ => undef
section
variable {E : Env} {ρ : Nat → Rb} {n : Nat}
theorem Cr.det [Fs] {x : C} {v : Value} (h : x.det = true) : Cr E ρ n x v ↔ v = x.val E := by
  cases x <;> simp [C.det] at h <;> exact Iff.rfl
theorem F2.det [Fs] {α : Type} {r : α → Value → Prop} {f : α → Value} {xs : List α} {vs : Array Value} (h : ∀ x ∈ xs, ∀ v, r x v ↔ v = f x) : F2 r xs vs ↔ vs = (xs.map f).toArray := by
  constructor
  · rintro ⟨h1, h2⟩
    apply Array.ext'
    apply List.ext_getElem?
    intro i
    rw [Array.getElem?_toList, List.getElem?_map]
    cases hx : xs[i]? with
    | none =>
      have : xs.length ≤ i := by simpa using hx
      simp [h1, this]
    | some x =>
      obtain ⟨v, h3, h4⟩ := h2 i x hx
      rw [h3, (h x (List.mem_of_getElem? hx) v).1 h4]; rfl
  · rintro rfl
    refine ⟨by simp, fun i x hx => ⟨f x, by simp [hx], (h x (List.mem_of_getElem? hx) _).2 rfl⟩⟩
theorem Ar.det [Fs] {x : A} {v : Value} (h : x.det = true) : Ar E ρ n x v ↔ v = x.val E := by
  cases x with
  | c x => exact Cr.det h
  | agg xs =>
    simp only [A.det, List.all_eq_true] at h
    simp only [Ar, A.val]
    constructor
    · rintro ⟨cs, rfl, h2⟩
      rw [(F2.det (r := Cr E ρ n) (f := C.val E) (fun x hx v => Cr.det (h x hx))).1 h2]
    · rintro rfl
      exact ⟨_, rfl, (F2.det (r := Cr E ρ n) (f := C.val E) (fun x hx v => Cr.det (h x hx))).2 rfl⟩
  | rows cols => simp [A.det] at h
  | dead => simp [A.det] at h
theorem Lr.det [Fs] {x : L} {v : Value} (h : x.det = true) : Lr E ρ n x v ↔ v = x.val E := by
  cases x with
  | a x => exact Ar.det h
  | tup xs =>
    simp only [L.det, List.all_eq_true] at h
    simp only [Lr, L.val]
    constructor
    · rintro ⟨cs, rfl, h2⟩
      rw [(F2.det (r := Ar E ρ n) (f := A.val E) (fun x hx v => Ar.det (h x hx))).1 h2]
    · rintro rfl
      exact ⟨_, rfl, (F2.det (r := Ar E ρ n) (f := A.val E) (fun x hx v => Ar.det (h x hx))).2 rfl⟩
  | gd c x => simp [L.det] at h
end
def L.blk (n : Nat) : L → Bool
  | .a x => x.blk n
  | .tup xs => xs.all (·.blk n)
  | .gd _ x => x.blk n
theorem Lr.unsub [Fs] {E E' : Env} {σ : Sg} {β : Nat → Nat} {ρ ρ' : Nat → Rb} {n n' : Nat} (h : SubOk E E' σ) (hβ : ∀ b, b < n → ρ b = ρ' (β b)) {x : L} {v : Value} (hb : x.blk n = true) (hr : Lr E' ρ' n' (x.sub σ β) v) : Lr E ρ n x v := by
  cases x with
  | a x => exact Ar.unsub h hβ hb hr
  | tup xs => obtain ⟨cs, h1, h2⟩ := hr; exact ⟨cs, h1, F2A.unsub h hβ hb h2⟩
  | gd c x =>
    simp only [Lr, L.sub, T.sub_tr h] at hr
    exact ⟨fun hc => Ar.unsub h hβ hb (hr.1 hc), hr.2⟩
def mL : L → L → Mt
  | .a p, .a x => mA p x
  | .tup ps, .tup xs => mAs ps xs
  | _, _ => []

/-! a card out of a run -/
def startP (c : Pf) (fn : Func) : St := ⟨ini (c.args.map L.a) fn.ntmps, [], c.pre, ⟨[], c.n⟩⟩
/-- What a run tells: facts, letters' meanings, the result's terms. -/
structure Told where
  pc : Pc
  ds : List Df
  ls : List T
def theBody (P : Program) (g : Nat) : Option (Func × Code) := match P.funcs[g]? with
  | some fn => bif fn.name == "runtime.NumGoroutine" then none else match fn.body with
    | some c => some (fn, c)
    | none => none
  | none => none
theorem theBody_ok [Fs] {P : Program} {g : Nat} {fn : Func} {c : Code} (h : theBody P g = some (fn, c)) : P.funcs[g]? = some fn ∧ fn.body = some c ∧ IsFn P g := by
  unfold theBody at h
  split at h
  · rename_i fn' hf
    cases hn : fn'.name == "runtime.NumGoroutine" <;> simp only [hn, cond_true, cond_false] at h
    · split at h
      · rename_i c' hc
        cases h
        exact ⟨hf, hc, fn, hf, by rw [hc]; rfl, hn⟩
      · cases h
    · cases h
  · cases h
def outsP (P : Program) (cf : Cf) (fuel : Nat) (c : Pf) : Option (Func × List Out) := match theBody P c.g with
  | some (fn, body) => (startP c fn).fc fun st0 => (runFB P cf.cfg (fun g => evC P cf fuel g (cf.cfg g) false) c.g body st0).map fun o => (fn, o)
  | none => none
def runPf (P : Program) (cf : Cf) (fuel : Nat) (c : Pf) : Option Told := match outsP P cf fuel c with
  | some (fn, [.good .norm st]) => match resL P st fn.results.toList with
    | some l => let mt := mL c.res l
      bif (c.res.sub (patS st.pc mt) id).beq l && c.res.det && c.res.blk 0 && c.res.bel c.cnt then some ⟨st.pc, st.k.ds, termsOf mt c.cnt []⟩ else none
    | none => none
  | _ => none
theorem rel0 [Fs] {E : Env} {xs : List A} {args : Array Value} {pc : Pc} {k : Nat} {nv : Nat} {w : World} (hF : E.F = Fs.F) (hargs : F2 (Ar E (fun _ => default) 0) xs args) (hpc : pcOk E pc) :
    Rel ⟨E, 0, fun _ => default, w, []⟩ (fun _ => default) ⟨ini (xs.map L.a) k, [], pc, ⟨[], nv⟩⟩ { tmps := args ++ Array.replicate (k - args.size) undef, defers := [] } w := by
  refine ⟨⟨?_, hpc, fun d hd => (nomatch hd), hF⟩, rfl, ⟨fun i b hi => (by simp at hi), fun i j bi bj hi => (by simp at hi), Nat.le_refl _, fun _ hi => absurd hi (Nat.not_lt_zero _), fun i b _ hi => (by simp at hi), ⟨rfl, rfl, rfl, Nat.le_refl _, fun _ _ _ => rfl⟩⟩⟩
  have e1 : F2 (Lr E (fun _ => default) 0) (xs.map L.a) args := hargs.map _ fun _ _ hr => hr
  exact ini_ok e1 _
theorem below_of [Fs] {E : Env} {w w' : World} (h : Fr ⟨E, 0, fun _ => default, w, []⟩ w') : RowKit.Below w.heap.size w w' :=
  ⟨h.os, h.tape, h.output, h.size, fun k hk => h.block k hk (fun _ hi => absurd hi (Nat.not_lt_zero _))⟩
theorem pf_ok [Fs] {P : Program} {cf : Cf} (hcf : CfOk P cf) {fuel : Nat} {c : Pf} {t : Told} (h : runPf P cf fuel c = some t) (hb : c.args.all (·.blk 0) = true)
    (hF : ∀ E : Env, E.F = Fs.F → pcOk E t.pc → (∀ d ∈ t.ds, d.ok E) → Fs.F c.g (letters E c.n) = t.ls.map (T.me E)) : PfOk P c := by
  unfold runPf at h
  split at h
  · rename_i fn st ho
    split at h
    · rename_i l hl
      cases hq : (c.res.sub (patS st.pc (mL c.res l)) id).beq l && c.res.det && c.res.blk 0 && c.res.bel c.cnt <;> simp only [hq, cond_true, cond_false] at h
      · cases h
      cases h
      simp only [Bool.and_eq_true] at hq
      obtain ⟨⟨⟨q1, q2⟩, q3⟩, q4⟩ := hq
      have q1 := L.beq_eq q1
      unfold outsP at ho
      simp only [St.fc_eq] at ho
      split at ho
      · rename_i fn' body hbody
        rw [Option.map_eq_some_iff] at ho
        obtain ⟨outs, hrun, ho⟩ := ho
        cases ho
        obtain ⟨hfn, hbd, his⟩ := theBody_ok hbody
        refine ⟨his, fun E ρ N args hEF hpre hargs => ⟨c.res.val (resE E c.g c.n c.cnt), fun ρ N => (Lr.det q2).2 rfl, fun w => ?_⟩⟩
        have hargs0 : F2 (Ar E (fun _ => default) 0) c.args args := F2A.unsub (E := E) (E' := E) (σ := fun i lo hi => .v i lo hi) (β := id) (ρ' := ρ) (n' := N) ⟨rfl, fun _ _ _ => rfl, fun _ _ _ _ => rfl⟩ (fun b hb => absurd hb (Nat.not_lt_zero _)) hb (by
          refine hargs.map _ fun x v hr => ?_
          exact Ar.sub (E := E) (E' := E) (ρ := ρ) (ρ' := ρ) (n := N) (n' := N) ⟨rfl, fun _ _ _ => rfl, fun _ _ _ _ => rfl⟩ (fun b hb => ⟨hb, rfl⟩) hr)
        have hrel := rel0 (k := fn.ntmps) (nv := c.n) (w := w) hEF hargs0 hpre
        refine (runFB_ok (fun g => (evC_ok P hcf fuel).1 g (cf.cfg g)) c.g _ _ _ _ hfn hbd hrun _ _ _ w rfl hrel (fun e w' => e = .returned (c.res.val (resE E c.g c.n c.cnt)) ∧ Fr ⟨E, 0, fun _ => default, w, []⟩ w') fun o ho => ?_).mono fun e w' ⟨h1, h2⟩ => ⟨h1, below_of h2⟩
        rw [List.mem_singleton] at ho
        subst ho
        intro E' ρ' a' w' L g3
        obtain ⟨v, h1, h2⟩ := resL_ok g3 hl
        refine ⟨g3.dfr, v, h1, ?_, ⟨g3.mr.fr.os, g3.mr.fr.tape, g3.mr.fr.output, g3.mr.fr.size, g3.mr.fr.block⟩⟩
        congr 1
        rw [← q1] at h2
        have hlet : letters E' c.n = letters E c.n := List.map_congr_left fun i hi => L.E.x i (show i < c.n by simpa using hi)
        have hspec := hF E' g3.F g3.pc g3.ds
        rw [hlet] at hspec
        have hs := patS_ok (E := E') g3.pc (mL c.res l)
        have hres : Lr (patE E' (mL c.res l)) (fun _ => default) 0 c.res v := Lr.unsub hs (fun b hb => absurd hb (Nat.not_lt_zero _)) q3 h2
        have hag : Agree (patE E' (mL c.res l)) (resE E c.g c.n c.cnt) c.cnt := by
          refine ⟨(hEF.trans g3.F.symm), fun i hi => ?_⟩
          simp only [resE, if_pos hi, hEF, hspec, termsOf_eq, List.append_nil, List.map_map, List.getElem?_map, List.getElem?_range hi, Option.map_some, Option.getD_some, Function.comp_apply, patE]
        exact (Lr.det q2).1 (hres.agree hag q4)
      · cases ho
    · cases h
  · cases h
end Go.Sy
namespace Go.Sy
/-- Letters for cells of these kinds, from 'i' on. -/
def symK : Nat → List K → List C
  | _, [] => []
  | i, .i k :: ks => .int k (.v i (kmin k) (kmax k)) :: symK (i + 1) ks
  | i, .b :: ks => .bool (.v i 0 1) :: symK (i + 1) ks
def noSm : Nat → St → List A → Option SmR := fun _ _ _ => none
def noLp : Nat → Code → St → (Code → St → Option (List Out)) → Option (List Out) := fun _ _ _ _ => none
theorem noSm_ok [Fs] {P : Program} : SmOk P noSm := fun _ _ _ _ h => nomatch h
theorem noLp_ok [Fs] {P : Program} : LpOk P noLp := fun _ _ _ _ _ _ h => nomatch h
/-- A run's surroundings: cards of functions that only reckon; everything made one. -/
def cfP (l : List Pf) : Cf := ⟨noSm, spOf l, fun _ => true, noLp⟩
theorem cfP_ok [Fs] {P : Program} {l : List Pf} (h : AllP P l) : CfOk P (cfP l) := ⟨noSm_ok, spOf_ok h, noLp_ok⟩
/-- A function without arguments, told by what it answers. -/
def constPf (g : Nat) (y : A) : Pf := ⟨g, 0, [], [], .a y, 0⟩
def runConst (P : Program) (cf : Cf) (fuel g : Nat) : Option A := match outsP P cf fuel ⟨g, 0, [], [], .a .dead, 0⟩ with
  | some (fn, [.good .norm st]) => match resL P st fn.results.toList with
    | some (.a y) => some y
    | _ => none
  | _ => none
theorem const_ok [Fs] {P : Program} {cf : Cf} (hcf : CfOk P cf) {fuel g : Nat} {y : A} {pc : Pc} {ds : List Df} (h : runPf P cf fuel (constPf g y) = some ⟨pc, ds, []⟩) (hF : Fs.F g [] = []) : PfOk P (constPf g y) :=
  pf_ok hcf h rfl fun _ _ _ _ => hF
end Go.Sy
namespace Go.Sy
theorem env_eq [Fs] {E : Env} {x : Nat → Arg} {F : Nat → List Arg → List Arg} (h1 : E.x = x) (h2 : E.F = F) : E = ⟨x, F⟩ := by subst h1; subst h2; rfl
/-! functions told by their own runs -/
theorem T.noF [Fs] (x : Nat → Arg) (F F' : Nat → List Arg → List Arg) (t : T) : t.den ⟨x, F⟩ = t.den ⟨x, F'⟩ ∧ t.row ⟨x, F⟩ = t.row ⟨x, F'⟩ := by
  induction t with
  | un o a ih => cases o <;> exact ⟨by simp only [T.den, ih.1], by funext j; simp only [T.row, ih.1, ih.2]⟩
  | lit n => exact ⟨rfl, rfl⟩
  | v i lo hi => exact ⟨rfl, rfl⟩
  | bin o a b iha ihb => exact ⟨by simp only [T.den, iha.1, ihb.1], by funext j; simp only [T.row, iha.1, ihb.1]⟩
  | ite c a b ihc iha ihb => exact ⟨by simp only [T.den, ihc.1, iha.1, ihb.1], by funext j; simp only [T.row, ihc.1, iha.2, ihb.2]⟩
  | sel s i ihs ihi => exact ⟨by simp only [T.den, ihs.2, ihi.1], by funext j; simp only [T.row, ihs.2, ihi.1]⟩
  | upd s i y ihs ihi ihy => exact ⟨rfl, by funext j; simp only [T.row, ihs.2, ihi.1, ihy.1]⟩
  | sh s o ihs iho => exact ⟨rfl, by funext j; simp only [T.row, ihs.2, iho.1]⟩
  | blit d o n s ihd iho ihn ihs => exact ⟨rfl, by funext j; simp only [T.row, ihd.2, iho.1, ihn.1, ihs.2]⟩
  | eqr n a b ihn iha ihb => exact ⟨by simp only [T.den, ihn.1, iha.2, ihb.2], by funext j; simp only [T.row, ihn.1, iha.2, ihb.2]⟩
theorem T.me_noF [Fs] (x : Nat → Arg) (F F' : Nat → List Arg → List Arg) (t : T) : t.me ⟨x, F⟩ = t.me ⟨x, F'⟩ := by
  unfold T.me; rw [(T.noF x F F' t).1, (T.noF x F F' t).2]
/-- What a card's function tells. -/
structure Fk where
  g : Nat
  n : Nat
  ds : List Df
  ls : List T
def Fk.spec (c : Fk) (F : Nat → List Arg → List Arg) (args : List Arg) : List Arg := c.ls.map (T.me (extL ⟨fun i => args.getD i default, F⟩ c.ds))
/-- Each by those behind it. -/
def mkF : List Fk → Nat → List Arg → List Arg
  | [] => fun _ _ => []
  | c :: r => fun g args => bif Nat.beq g c.g then c.spec (mkF r) args else mkF r g args
/-- One letter behind the other. -/
def contig (n : Nat) : List Df → Option Nat
  | [] => some n
  | d :: r => match contig n r with
    | some h => bif Nat.beq d.lo h && d.args.all (·.bel d.lo) then some d.hi else none
    | none => none
def Df.gs : Df → List Nat
  | .one _ _ => []
  | .call _ g _ _ => [g]
theorem contig_ok [Fs] {E E0 : Env} {n : Nat} (hF : E.F = E0.F) (hx : ∀ i, i < n → E.x i = E0.x i) : ∀ {ds : List Df} {h : Nat}, contig n ds = some h → (∀ d ∈ ds, d.ok E) → Agree (extL E0 ds) E h := by
  intro ds
  induction ds with
  | nil => intro h hc _; cases hc; exact ⟨hF, hx⟩
  | cons d r ih =>
    intro h hc hd
    simp only [contig] at hc
    split at hc
    · rename_i h0 h1
      cases hb : Nat.beq d.lo h0 && d.args.all (·.bel d.lo) <;> simp only [hb, cond_true, cond_false] at hc
      · cases hc
      cases hc
      rw [Bool.and_eq_true] at hb
      have e0 := Nat.eq_of_beq_eq_true hb.1
      have ag := ih h1 fun e he => hd e (List.mem_cons_of_mem _ he)
      have hd0 := hd d List.mem_cons_self
      have hargs := hb.2
      rw [List.all_eq_true] at hargs
      rw [← e0] at ag
      have hFF : (extL E0 r).F = E.F := ag.F.symm
      cases d with
      | one i t =>
        refine ⟨by simp only [extL, Df.ext, setX]; exact ag.F, fun j hj => ?_⟩
        simp only [Df.hi] at hj
        simp only [extL, Df.ext, setX]
        by_cases hji : i ≤ j ∧ j < i + 1
        · rw [if_pos hji, show j = i by omega, ← T.bel_me ag (hargs t List.mem_cons_self)]
          exact hd0
        · rw [if_neg hji]; exact ag.x j (by simp only [Df.lo]; omega)
      | call i g ts cnt =>
        refine ⟨by simp only [extL, Df.ext, setX]; exact ag.F, fun j hj => ?_⟩
        simp only [Df.hi] at hj
        simp only [extL, Df.ext, setX]
        by_cases hji : i ≤ j ∧ j < i + cnt
        · rw [if_pos hji]
          have := hd0 (j - i) (by omega)
          rw [show i + (j - i) = j by omega] at this
          rw [this, hFF]
          congr 2
          congr 1
          exact List.map_congr_left fun t ht => T.bel_me ag (hargs t ht)
        · rw [if_neg hji]; exact ag.x j (by simp only [Df.lo]; omega)
    · cases hc
theorem extL_noF [Fs] {x : Nat → Arg} {F F' : Nat → List Arg → List Arg} : ∀ {ds : List Df}, (∀ d ∈ ds, ∀ g ∈ d.gs, F g = F' g) → (extL ⟨x, F⟩ ds).x = (extL ⟨x, F'⟩ ds).x ∧ (extL ⟨x, F⟩ ds).F = F := by
  intro ds
  induction ds with
  | nil => intro _; exact ⟨rfl, rfl⟩
  | cons d r ih =>
    intro h
    obtain ⟨h1, h2⟩ := ih fun e he => h e (List.mem_cons_of_mem _ he)
    have h3 : (extL ⟨x, F'⟩ r).F = F' := by
      have : ∀ l, (extL ⟨x, F'⟩ l).F = F' := by
        intro l
        induction l with
        | nil => rfl
        | cons d l ih => cases d <;> exact ih
      exact this r
    have hme : ∀ t, T.me (extL ⟨x, F⟩ r) t = T.me (extL ⟨x, F'⟩ r) t := fun t => by
      rw [env_eq h1 h2, T.me_noF _ F F', ← env_eq rfl h3]
    cases d with
    | one i t => exact ⟨by simp only [extL, Df.ext, setX, h1, hme], h2⟩
    | call i g ts cnt =>
      refine ⟨?_, h2⟩
      have hm : ts.map (T.me (extL ⟨x, F⟩ r)) = ts.map (T.me (extL ⟨x, F'⟩ r)) := List.map_congr_left fun t _ => hme t
      simp only [extL, Df.ext, setX, h1, h2, h3, hm, h _ List.mem_cons_self g List.mem_cons_self]
/-- In a table of cards each name stands once; each is told by those behind it. -/
def okF : List Fk → Bool
  | [] => true
  | c :: r => r.all (fun d => !(Nat.beq c.g d.g)) && c.ds.all (fun d => d.gs.all fun g => r.any fun e => Nat.beq g e.g) && (match contig c.n c.ds with | some h => c.ls.all (·.bel h) | none => false) && okF r
theorem mkF_tail [Fs] {l : List Fk} {c : Fk} {g : Nat} (h : (l.any fun e => Nat.beq g e.g) = true) (hn : (l.all fun d => !(Nat.beq c.g d.g)) = true) : mkF (c :: l) g = mkF l g := by
  funext args
  rw [List.any_eq_true] at h
  obtain ⟨e, h1, h2⟩ := h
  rw [List.all_eq_true] at hn
  have := hn e h1
  have hne : Nat.beq g c.g = false := by
    cases hb : Nat.beq g c.g
    · rfl
    · rw [Nat.eq_of_beq_eq_true hb] at h2
      rw [h2] at this; cases this
  simp only [mkF, hne, cond_false]
theorem mkF_mem [Fs] {l1 : List Fk} {c : Fk} {l2 : List Fk} (h : okF (l1 ++ c :: l2) = true) : mkF (l1 ++ c :: l2) c.g = c.spec (mkF l2) ∧ (∀ g, (l2.any fun e => Nat.beq g e.g) = true → mkF (l1 ++ c :: l2) g = mkF l2 g) ∧ okF (c :: l2) = true := by
  induction l1 with
  | nil =>
    refine ⟨by funext args; simp only [List.nil_append, mkF, Nat.beq_refl, cond_true], fun g hg => ?_, h⟩
    simp only [List.nil_append, okF, Bool.and_eq_true] at h
    exact mkF_tail hg h.1.1.1
  | cons d l1 ih =>
    have h' := h
    simp only [List.cons_append, okF, Bool.and_eq_true] at h
    obtain ⟨i1, i2, i3⟩ := ih h.2
    refine ⟨?_, fun g hg => ?_, i3⟩
    · rw [← i1, List.cons_append]
      exact mkF_tail (by rw [List.any_eq_true]; exact ⟨c, by simp, Nat.beq_refl _⟩) h.1.1.1
    · rw [← i2 g hg, List.cons_append]
      refine mkF_tail ?_ h.1.1.1
      rw [List.any_eq_true] at hg ⊢
      obtain ⟨e, e1, e2⟩ := hg
      exact ⟨e, by simp [e1], e2⟩
theorem spec_ok [Fs] {l1 : List Fk} {c : Fk} {l2 : List Fk} (h : okF (l1 ++ c :: l2) = true) {E : Env} (hF : E.F = mkF (l1 ++ c :: l2)) (hd : ∀ d ∈ c.ds, d.ok E) : mkF (l1 ++ c :: l2) c.g (letters E c.n) = c.ls.map (T.me E) := by
  obtain ⟨m1, m2, m3⟩ := mkF_mem h
  rw [m1]
  simp only [okF, Bool.and_eq_true] at m3
  obtain ⟨⟨⟨-, k2⟩, k3⟩, -⟩ := m3
  split at k3
  · rename_i hh hc
    have hx : ∀ i, i < c.n → E.x i = (letters E c.n).getD i default := fun i hi => by
      simp [letters, List.getD_eq_getElem?_getD, hi]
    have ag := contig_ok (E := E) (E0 := ⟨fun i => (letters E c.n).getD i default, E.F⟩) rfl hx hc hd
    unfold Fk.spec
    refine List.map_congr_left fun t ht => ?_
    rw [List.all_eq_true] at k3
    rw [T.bel_me ag (k3 t ht)]
    have hg : ∀ d ∈ c.ds, ∀ g ∈ d.gs, mkF l2 g = E.F g := fun d hd g hg => by
      rw [List.all_eq_true] at k2
      have := k2 d hd
      rw [List.all_eq_true] at this
      rw [hF, m2 g (this g hg)]
    obtain ⟨e1, e2⟩ := extL_noF (x := fun i => (letters E c.n).getD i default) hg
    have h3 : (extL ⟨fun i => (letters E c.n).getD i default, E.F⟩ c.ds).F = E.F := ag.F.symm
    rw [env_eq e1 e2, T.me_noF _ _ E.F, ← env_eq rfl h3]
  · cases k3
end Go.Sy
namespace Go.Sy
/-- Does a run tell this? -/
def chkPf (P : Program) (cf : Cf) (fuel : Nat) (c : Pf) (ds : List Df) (ls : List T) : Bool := match runPf P cf fuel c with
  | some t => c.args.all (·.blk 0) && listB Df.beq t.ds ds && listB T.beq t.ls ls
  | none => false
theorem chkPf_ok [Fs] {P : Program} {cf : Cf} {fuel : Nat} {c : Pf} {ds : List Df} {ls : List T} (h : chkPf P cf fuel c ds ls = true) : ∃ pc, runPf P cf fuel c = some ⟨pc, ds, ls⟩ ∧ c.args.all (·.blk 0) = true := by
  unfold chkPf at h
  split at h
  · rename_i t ht
    simp only [Bool.and_eq_true] at h
    obtain ⟨⟨h0, h1⟩, h2⟩ := h
    obtain ⟨pc, ds', ls'⟩ := t
    have e1 := listB_eq (fun _ _ => Df.beq_eq) h1
    have e2 := listB_eq (fun _ _ => T.beq_eq) h2
    simp only at e1 e2
    subst e1 e2
    exact ⟨pc, ht, h0⟩
  · cases h
theorem card_ok [Fs] {P : Program} {cf : Cf} (hcf : CfOk P cf) {fuel : Nat} {c : Pf} {ds : List Df} {ls : List T} (h : chkPf P cf fuel c ds ls = true) (l1 l2 : List Fk) (hT : Fs.F = mkF (l1 ++ ⟨c.g, c.n, ds, ls⟩ :: l2)) (ho : okF (l1 ++ ⟨c.g, c.n, ds, ls⟩ :: l2) = true) : PfOk P c := by
  obtain ⟨pc, hr, hb⟩ := chkPf_ok h
  refine pf_ok hcf hr hb fun E hE _ hd => ?_
  have := spec_ok (c := ⟨c.g, c.n, ds, ls⟩) ho (E := E) (hE.trans hT) hd
  rw [← hT] at this
  exact this
/-- A term whose row is its number all along. -/
def T.even : T → Bool
  | .lit _ | .bin _ _ _ | .eqr _ _ _ => true
  | .un .not _ => true
  | .un (.wrap _) _ => true
  | _ => false
theorem T.even_row [Fs] {t : T} (h : t.even = true) (E : Env) (j : Int) : t.row E j = t.den E := by
  unfold T.even at h
  split at h <;> first | rfl | cases h
def boolR : L := .a (.c (.bool (.v 0 0 1)))
/-- A law: its one result is true by the plain law. -/
def lawF (g n : Nat) : Fk := ⟨g, n, [], [.lit 1]⟩
theorem law_ok [Fs] {P : Program} {cf : Cf} (hcf : CfOk P cf) {fuel : Nat} {c : Pf} {ds : List Df} {t : T} (h : chkPf P cf fuel c ds [t] = true) (hr : c.res = boolR) (hc : c.cnt = 1) (he : t.even = true) (l2 : List Fk) (hT : Fs.F = mkF (lawF c.g c.n :: l2))
    (hplain : ∀ E : Env, E.F = Fs.F → (∀ d ∈ ds, d.ok E) → t.den E = 1) {E : Env} (hE : E.F = Fs.F) {ρ : Nat → Rb} {N : Nat} {args : Array Value} (hpre : pcOk E c.pre) (ha : F2 (Ar E ρ N) c.args args) (w : World) :
    Calls P c.g args w fun e w' => e = .returned (.bool true) ∧ RowKit.Below w.heap.size w w' := by
  obtain ⟨pc, hrun, hb⟩ := chkPf_ok h
  have hF : ∀ as : List Arg, Fs.F c.g as = [⟨1, fun _ => 1⟩] := fun as => by
    rw [hT]
    have : Nat.beq c.g (lawF c.g c.n).g = true := Nat.beq_refl _
    simp only [mkF, this, cond_true]
    rfl
  have hok : PfOk P c := pf_ok hcf hrun hb fun E hE _ hd => by
    rw [hF]
    have h1 := hplain E hE hd
    simp only [List.map_cons, List.map_nil, T.me, h1]
    congr 2
    funext j
    rw [T.even_row he, h1]
  obtain ⟨-, h2⟩ := hok
  obtain ⟨v, h3, h4⟩ := h2 E ρ N args hE hpre ha
  have h5 := h3 ρ N
  rw [hr] at h5
  simp only [boolR, Lr, Ar, Cr] at h5
  have : v = .bool true := by
    rw [h5]
    congr 1
    simp only [T.tr, T.den, resE, hc, Nat.lt_one_iff, if_pos, hE, hF]
    rfl
  rw [this] at h4
  exact h4 w
end Go.Sy
