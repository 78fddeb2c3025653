/- Part 16 of a checked reader of Go texts in their model form: it runs a function at terms in the place of numbers, and each part proves that its answers hold of the model. -/
import Derived.Test.YtddfbikeaipepaaHy15
namespace Go.Sy

/-! values that their cells decide -/
def C.det : C → Bool
  | .int _ _ | .bool _ => true
  | _ => false
def A.det : A → Bool
  | .c x => x.det
  | .agg xs => xs.all (·.det)
  | .dead => false
def L.det : L → Bool
  | .a x => x.det
  | .tup xs => xs.all (·.det)
  | .gd _ _ => false
def C.val (E : Env) : C → Value
  | .int k t => .int k (t.den E)
  | .bool t => .bool (t.tr E)
  | _ => undef
def A.val (E : Env) : A → Value
  | .c x => x.val E
  | .agg xs => .agg (xs.map (C.val E)).toArray
  | .dead => undef
def L.val (E : Env) : L → Value
  | .a x => x.val E
  | .tup xs => .tuple (xs.map (A.val E)).toArray
  | .gd _ _ => undef
section
variable {E : Env} {ρ : Nat → Rb} {n : Nat}
theorem Cr.det [Fs] {x : C} {v : Value} (h : x.det = true) : Cr E ρ n x v ↔ v = x.val E := by
  cases x <;> simp [C.det] at h <;> exact Iff.rfl
theorem F2.det [Fs] {α : Type} {r : α → Value → Prop} {f : α → Value} {xs : List α} {vs : Array Value} (h : ∀ x ∈ xs, ∀ v, r x v ↔ v = f x) : F2 r xs vs ↔ vs = (xs.map f).toArray := by
  constructor
  · rintro ⟨h1, h2⟩
    apply Array.ext'
    apply List.ext_getElem?
    intro i
    rw [Array.getElem?_toList, List.getElem?_map]
    cases hx : xs[i]? with
    | none =>
      have : xs.length ≤ i := by simpa using hx
      simp [h1, this]
    | some x =>
      obtain ⟨v, h3, h4⟩ := h2 i x hx
      rw [h3, (h x (List.mem_of_getElem? hx) v).1 h4]; rfl
  · rintro rfl
    refine ⟨by simp, fun i x hx => ⟨f x, by simp [hx], (h x (List.mem_of_getElem? hx) _).2 rfl⟩⟩
theorem Ar.det [Fs] {x : A} {v : Value} (h : x.det = true) : Ar E ρ n x v ↔ v = x.val E := by
  cases x with
  | c x => exact Cr.det h
  | agg xs =>
    simp only [A.det, List.all_eq_true] at h
    simp only [Ar, A.val]
    constructor
    · rintro ⟨cs, rfl, h2⟩
      rw [(F2.det (r := Cr E ρ n) (f := C.val E) (fun x hx v => Cr.det (h x hx))).1 h2]
    · rintro rfl
      exact ⟨_, rfl, (F2.det (r := Cr E ρ n) (f := C.val E) (fun x hx v => Cr.det (h x hx))).2 rfl⟩
  | dead => simp [A.det] at h
theorem Lr.det [Fs] {x : L} {v : Value} (h : x.det = true) : Lr E ρ n x v ↔ v = x.val E := by
  cases x with
  | a x => exact Ar.det h
  | tup xs =>
    simp only [L.det, List.all_eq_true] at h
    simp only [Lr, L.val]
    constructor
    · rintro ⟨cs, rfl, h2⟩
      rw [(F2.det (r := Ar E ρ n) (f := A.val E) (fun x hx v => Ar.det (h x hx))).1 h2]
    · rintro rfl
      exact ⟨_, rfl, (F2.det (r := Ar E ρ n) (f := A.val E) (fun x hx v => Ar.det (h x hx))).2 rfl⟩
  | gd c x => simp [L.det] at h
end
def L.blk (n : Nat) : L → Bool
  | .a x => x.blk n
  | .tup xs => xs.all (·.blk n)
  | .gd _ x => x.blk n
theorem Lr.unsub [Fs] {E E' : Env} {σ : Sg} {β : Nat → Nat} {ρ ρ' : Nat → Rb} {n n' : Nat} (h : SubOk E E' σ) (hβ : ∀ b, b < n → ρ b = ρ' (β b)) {x : L} {v : Value} (hb : x.blk n = true) (hr : Lr E' ρ' n' (x.sub σ β) v) : Lr E ρ n x v := by
  cases x with
  | a x => exact Ar.unsub h hβ hb hr
  | tup xs => obtain ⟨cs, h1, h2⟩ := hr; exact ⟨cs, h1, F2A.unsub h hβ hb h2⟩
  | gd c x =>
    simp only [Lr, L.sub, T.sub_tr h] at hr
    exact ⟨fun hc => Ar.unsub h hβ hb (hr.1 hc), hr.2⟩
def mL : L → L → Mt
  | .a p, .a x => mA p x
  | .tup ps, .tup xs => mAs ps xs
  | _, _ => []

/-! a card out of a run -/
def startP (c : Pf) (fn : Func) : St := ⟨ini (c.args.map L.a) fn.ntmps, [], c.pre, ⟨[], c.n⟩⟩
/-- What a run tells: facts, letters' meanings, the result's terms. -/
structure Told where
  pc : Pc
  ds : List Df
  ls : List T
def theBody (P : Program) (g : Nat) : Option (Func × Code) := match P.funcs[g]? with
  | some fn => bif fn.name == "runtime.NumGoroutine" then none else match fn.body with
    | some c => some (fn, c)
    | none => none
  | none => none
theorem theBody_ok [Fs] {P : Program} {g : Nat} {fn : Func} {c : Code} (h : theBody P g = some (fn, c)) : P.funcs[g]? = some fn ∧ fn.body = some c ∧ IsFn P g := by
  unfold theBody at h
  split at h
  · rename_i fn' hf
    cases hn : fn'.name == "runtime.NumGoroutine" <;> simp only [hn, cond_true, cond_false] at h
    · split at h
      · rename_i c' hc
        cases h
        exact ⟨hf, hc, fn, hf, by rw [hc]; rfl, hn⟩
      · cases h
    · cases h
  · cases h
def outsP (P : Program) (cf : Cf) (fuel : Nat) (c : Pf) : Option (Func × List Out) := match theBody P c.g with
  | some (fn, body) => (runF P cf.cfg (fun g => evC P cf fuel g (cf.cfg g) false) c.g body (startP c fn)).map fun o => (fn, o)
  | none => none
def runPf (P : Program) (cf : Cf) (fuel : Nat) (c : Pf) : Option Told := match outsP P cf fuel c with
  | some (fn, [.good .norm st]) => match resL P st fn.results.toList with
    | some l => let mt := mL c.res l
      bif (c.res.sub (patS st.pc mt) id).beq l && c.res.det && c.res.blk 0 && c.res.bel c.cnt then some ⟨st.pc, st.k.ds, termsOf mt c.cnt []⟩ else none
    | none => none
  | _ => none
theorem rel0 [Fs] {E : Env} {xs : List A} {args : Array Value} {pc : Pc} {k : Nat} {nv : Nat} {w : World} (hF : E.F = Fs.F) (hargs : F2 (Ar E (fun _ => default) 0) xs args) (hpc : pcOk E pc) :
    Rel ⟨E, 0, fun _ => default, w⟩ (fun _ => default) ⟨ini (xs.map L.a) k, [], pc, ⟨[], nv⟩⟩ { tmps := args ++ Array.replicate (k - args.size) undef, defers := [] } w := by
  refine ⟨⟨?_, hpc, fun d hd => (nomatch hd), hF⟩, rfl, ⟨fun i b hi => (by simp at hi), fun i j bi bj hi => (by simp at hi), Nat.le_refl _, fun _ hi => absurd hi (Nat.not_lt_zero _), fun i b _ hi => (by simp at hi), ⟨rfl, rfl, rfl, Nat.le_refl _, fun _ _ _ => rfl⟩⟩⟩
  have e1 : F2 (Lr E (fun _ => default) 0) (xs.map L.a) args := hargs.map _ fun _ _ hr => hr
  exact ini_ok e1 _
theorem below_of [Fs] {E : Env} {w w' : World} (h : Fr ⟨E, 0, fun _ => default, w⟩ w') : RowKit.Below w.heap.size w w' :=
  ⟨h.os, h.tape, h.output, h.size, fun k hk => h.block k hk (fun _ hi => absurd hi (Nat.not_lt_zero _))⟩
theorem pf_ok [Fs] {P : Program} {cf : Cf} (hcf : CfOk P cf) {fuel : Nat} {c : Pf} {t : Told} (h : runPf P cf fuel c = some t) (hb : c.args.all (·.blk 0) = true)
    (hF : ∀ E : Env, E.F = Fs.F → pcOk E t.pc → (∀ d ∈ t.ds, d.ok E) → Fs.F c.g (letters E c.n) = t.ls.map (T.me E)) : PfOk P c := by
  unfold runPf at h
  split at h
  · rename_i fn st ho
    split at h
    · rename_i l hl
      cases hq : (c.res.sub (patS st.pc (mL c.res l)) id).beq l && c.res.det && c.res.blk 0 && c.res.bel c.cnt <;> simp only [hq, cond_true, cond_false] at h
      · cases h
      cases h
      simp only [Bool.and_eq_true] at hq
      obtain ⟨⟨⟨q1, q2⟩, q3⟩, q4⟩ := hq
      have q1 := L.beq_eq q1
      unfold outsP at ho
      split at ho
      · rename_i fn' body hbody
        rw [Option.map_eq_some_iff] at ho
        obtain ⟨outs, hrun, ho⟩ := ho
        cases ho
        obtain ⟨hfn, hbd, his⟩ := theBody_ok hbody
        refine ⟨his, fun E ρ N args hEF hpre hargs => ⟨c.res.val (resE E c.g c.n c.cnt), fun ρ N => (Lr.det q2).2 rfl, fun w => ?_⟩⟩
        have hargs0 : F2 (Ar E (fun _ => default) 0) c.args args := F2A.unsub (E := E) (E' := E) (σ := fun i lo hi => .v i lo hi) (β := id) (ρ' := ρ) (n' := N) ⟨rfl, fun _ _ _ => rfl, fun _ _ _ _ => rfl⟩ (fun b hb => absurd hb (Nat.not_lt_zero _)) hb (by
          refine hargs.map _ fun x v hr => ?_
          exact Ar.sub (E := E) (E' := E) (ρ := ρ) (ρ' := ρ) (n := N) (n' := N) ⟨rfl, fun _ _ _ => rfl, fun _ _ _ _ => rfl⟩ (fun b hb => ⟨hb, rfl⟩) hr)
        refine (calls_of_wp (R := fun e w' => e = .returned (c.res.val (resE E c.g c.n c.cnt)) ∧ Fr ⟨E, 0, fun _ => default, w⟩ w') hfn hbd ?_).mono fun e w' ⟨h1, h2⟩ => ⟨h1, below_of h2⟩
        have hrel := rel0 (k := fn.ntmps) (nv := c.n) (w := w) hEF hargs0 hpre
        refine runF_ok (fun g => (evC_ok P hcf fuel).1 g (cf.cfg g)) c.g _ _ _ hrun _ _ _ w hrel _ (fun _ _ => Iff.rfl) fun o ho => ?_
        rw [List.mem_singleton] at ho
        subst ho
        intro E' ρ' a' w' L g3
        obtain ⟨v, h1, h2⟩ := resL_ok g3 hl
        refine ⟨g3.dfr, v, h1, ?_, ⟨g3.mr.fr.os, g3.mr.fr.tape, g3.mr.fr.output, g3.mr.fr.size, g3.mr.fr.block⟩⟩
        congr 1
        rw [← q1] at h2
        have hlet : letters E' c.n = letters E c.n := List.map_congr_left fun i hi => L.E.x i (show i < c.n by simpa using hi)
        have hspec := hF E' g3.F g3.pc g3.ds
        rw [hlet] at hspec
        have hs := patS_ok (E := E') g3.pc (mL c.res l)
        have hres : Lr (patE E' (mL c.res l)) (fun _ => default) 0 c.res v := Lr.unsub hs (fun b hb => absurd hb (Nat.not_lt_zero _)) q3 h2
        have hag : Agree (patE E' (mL c.res l)) (resE E c.g c.n c.cnt) c.cnt := by
          refine ⟨(hEF.trans g3.F.symm), fun i hi => ?_⟩
          simp only [resE, if_pos hi, hEF, hspec, termsOf_eq, List.append_nil, List.map_map, List.getElem?_map, List.getElem?_range hi, Option.map_some, Option.getD_some, Function.comp_apply, patE]
        exact (Lr.det q2).1 (hres.agree hag q4)
      · cases ho
    · cases h
  · cases h
end Go.Sy
