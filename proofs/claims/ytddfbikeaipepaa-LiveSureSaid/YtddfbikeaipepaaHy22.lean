/- Part 22 of a checked reader of Go texts in their model form: it runs a function at terms in the place of numbers, and each part proves that its answers hold of the model. -/
import Derived.Test.YtddfbikeaipepaaHy21
namespace Go.Sy
/-! functions that read memory, and answer with blocks of their own -/
/-- Such a function's card: its name in the table, its number, how many letters come in, the arguments and the blocks that they name (0 .. , none of them written), what must hold; the result and the new blocks (numbers behind), in the letters that came in and 'cnt' ones behind; what holds of them. -/
structure Mf where
  id : Nat
  g : Nat
  n : Nat
  args : List A
  blks : List Bk
  pre : Pc
  res : L
  news : List Bk
  cnt : Nat
  post : Pc
/-- The letters that came in, and those that a function tells. -/
def resX (E : Env) (n cnt : Nat) (rs : List Arg) : Env := ⟨fun i => if i < n then E.x i else if i < n + cnt then (rs[i - n]?).getD default else default, E.F⟩
structure InB (E : Env) (ρ : Nat → Rb) (bs : List Bk) (w : World) : Prop where
  mem : ∀ (i : Nat) (b : Bk), bs[i]? = some b → Br E ρ bs.length (ρ i) b w.heap[(ρ i).g]?
  inj : ∀ (i j : Nat) (bi bj : Bk), bs[i]? = some bi → bs[j]? = some bj → bi.there E → bj.there E → (ρ i).g = (ρ j).g → i = j
structure OutB (E : Env) (ρ0 ρ : Nat → Rb) (B : Nat) (bs : List Bk) (w w' : World) : Prop where
  same : ∀ i, i < B → ρ i = ρ0 i
  mem : ∀ (j : Nat) (b : Bk), bs[j]? = some b → Br E ρ (B + bs.length) (ρ (B + j)) b w'.heap[(ρ (B + j)).g]?
  inj : ∀ (i j : Nat) (bi bj : Bk), bs[i]? = some bi → bs[j]? = some bj → bi.there E → bj.there E → (ρ (B + i)).g = (ρ (B + j)).g → i = j
  new : ∀ (j : Nat) (b : Bk), bs[j]? = some b → b.there E → w.heap.size ≤ (ρ (B + j)).g
def MfOk [Fs] (P : Program) (c : Mf) : Prop := IsFn P c.g ∧ ∀ (E : Env) (ρ : Nat → Rb) (args : Array Value) (w : World), E.F = Fs.F → pcOk E c.pre → F2 (Ar E ρ c.blks.length) c.args args → InB E ρ c.blks w →
  Calls P c.g args w fun e w' => ∃ v ρ', e = .returned v ∧ RowKit.Below w.heap.size w w' ∧ Lr (resX E c.n c.cnt (Fs.F c.id (letters E c.n))) ρ' (c.blks.length + c.news.length) c.res v ∧
    OutB (resX E c.n c.cnt (Fs.F c.id (letters E c.n))) ρ ρ' c.blks.length c.news w w' ∧ pcOk (resX E c.n c.cnt (Fs.F c.id (letters E c.n))) c.post

/-! blocks met with blocks -/
def bC : C → C → List (Nat × Nat)
  | .ptr b _, .ptr d _ => [(b, d)]
  | .pti b _ _ _ _, .pti d _ _ _ _ => [(b, d)]
  | .slc b _ _, .slc d _ _ => [(b, d)]
  | .slr b _ _ _, .slr d _ _ _ => [(b, d)]
  | .sln b _ _, .sln d _ _ => [(b, d)]
  | .pta b _ _ _ _, .pta d _ _ _ _ => [(b, d)]
  | _, _ => []
def bCs : List C → List C → List (Nat × Nat)
  | x :: xs, y :: ys => bC x y ++ bCs xs ys
  | _, _ => []
def bA : A → A → List (Nat × Nat)
  | .c x, .c y => bC x y
  | .agg xs, .agg ys => bCs xs ys
  | _, _ => []
def bAs : List A → List A → List (Nat × Nat)
  | x :: xs, y :: ys => bA x y ++ bAs xs ys
  | _, _ => []
def bL : L → L → List (Nat × Nat)
  | .a x, .a y => bA x y
  | .tup xs, .tup ys => bAs xs ys
  | _, _ => []
def bB : Bk → Bk → List (Nat × Nat)
  | .cells _ xs, .cells _ ys => bCs xs ys
  | _, _ => []
def lookN (i : Nat) : List (Nat × Nat) → Nat
  | [] => i
  | (j, k) :: r => bif Nat.beq i j then k else lookN i r
def mBs : List Bk → List Bk → Mt
  | x :: xs, y :: ys => mB x y ++ mBs xs ys
  | _, _ => []
def bkAt (m : List Bk) (i : Nat) : Bk := (m[i]?).getD .dead
/-- What blocks name in turn. -/
def bBs (m : List Bk) : Nat → List Bk → List (Nat × Nat) → List (Nat × Nat)
  | _, [], bp => bp
  | p, b :: r, bp => bBs m (p + 1) r (bp ++ bB b (bkAt m (lookN p bp)))
def nodupN : List Nat → Bool
  | [] => true
  | x :: r => r.all (fun y => !(Nat.beq x y)) && nodupN r
theorem nodupN_ok [Fs] : ∀ {l : List Nat}, nodupN l = true → ∀ (i j : Nat) (x : Nat), l[i]? = some x → l[j]? = some x → i = j := by
  intro l
  induction l with
  | nil => intro _ i j x h; simp at h
  | cons y r ih =>
    intro h i j x hi hj
    simp only [nodupN, Bool.and_eq_true, List.all_eq_true] at h
    have no : ∀ k, r[k]? = some y → False := fun k hk => by
      have := h.1 y (List.mem_of_getElem? hk)
      rw [Nat.beq_refl] at this; cases this
    cases i with
    | zero =>
      simp at hi; subst hi
      cases j with
      | zero => rfl
      | succ j => simp at hj; exact (no j hj).elim
    | succ i =>
      simp at hi
      cases j with
      | zero => simp at hj; subst hj; exact (no i hi).elim
      | succ j => simp at hj; rw [ih h.2 i j x hi hj]

def resXS (n cnt : Nat) (f : Nat → Int → Int → T) : Sg := fun i lo hi => bif Nat.blt i n then f i lo hi else bif Nat.blt i (n + cnt) then f i lo hi else .un (.cl lo hi) (.lit 0)
theorem resXS_ok [Fs] {E E' : Env} {n cnt : Nat} {rs : List Arg} {f : Nat → Int → Int → T} (hF : E'.F = E.F)
    (h1 : ∀ i, i < n → ∀ lo hi, (f i lo hi).den E' = clamp lo hi (E.x i).n ∧ ∀ j, (f i lo hi).row E' j = clamp lo hi ((E.x i).s j))
    (h2 : ∀ k, k < cnt → ∀ lo hi, (f (n + k) lo hi).den E' = clamp lo hi ((rs[k]?).getD default).n ∧ ∀ j, (f (n + k) lo hi).row E' j = clamp lo hi (((rs[k]?).getD default).s j)) : SubOk (resX E n cnt rs) E' (resXS n cnt f) := by
  have key : ∀ i lo hi, (resXS n cnt f i lo hi).den E' = clamp lo hi ((resX E n cnt rs).x i).n ∧ ∀ j, (resXS n cnt f i lo hi).row E' j = clamp lo hi (((resX E n cnt rs).x i).s j) := by
    intro i lo hi
    unfold resXS resX
    dsimp only
    cases hb : Nat.blt i n
    · have hb' : ¬ i < n := by rw [← Nat.blt_eq, hb]; exact Bool.false_ne_true
      rw [if_neg hb']
      simp only [cond_false]
      cases hc : Nat.blt i (n + cnt)
      · have hc' : ¬ i < n + cnt := by rw [← Nat.blt_eq, hc]; exact Bool.false_ne_true
        rw [if_neg hc']
        exact ⟨rfl, fun j => rfl⟩
      · rw [Nat.blt_eq] at hc
        rw [if_pos hc]
        have := h2 (i - n) (by omega) lo hi
        rw [show n + (i - n) = i by omega] at this
        exact this
    · rw [Nat.blt_eq] at hb
      rw [if_pos hb]
      exact h1 i hb lo hi
  exact ⟨hF, fun i lo hi => (key i lo hi).1, fun i lo hi => (key i lo hi).2⟩

/-! a card out of a run -/
def startM (c : Mf) (fn : Func) : St := ⟨ini (c.args.map L.a) fn.ntmps, c.blks, c.pre, ⟨[], c.n⟩⟩
def outsM (P : Program) (cf : Cf) (fuel : Nat) (c : Mf) : Option (Func × List Out) := match theBody P c.g with
  | some (fn, body) => (runF P cf.cfg (fun g => evC P cf fuel g (cf.cfg g) false) c.g body (startM c fn)).map fun o => (fn, o)
  | none => none
def runSg (n cnt : Nat) (pc : Pc) (mt : Mt) : Sg := resXS n cnt fun i lo hi => bif Nat.blt i n then .v i lo hi else mkCl pc lo hi (lookT i mt)
def theNews (c : Mf) (l : L) : List Nat := (List.range c.news.length).map fun j => lookN (c.blks.length + j) (bL c.res l)
def theBeta (c : Mf) (l : L) : Nat → Nat := fun p => bif Nat.blt p c.blks.length then p else lookN p (bL c.res l)
def runMf (P : Program) (cf : Cf) (fuel : Nat) (c : Mf) : Option Told := match outsM P cf fuel c with
  | some (fn, [.good .norm st]) => match resL P st fn.results.toList with
    | some l =>
      let nb := theNews c l
      let got := nb.map (bkAt st.m)
      let mt := mL c.res l ++ mBs c.news got
      let σ := runSg c.n c.cnt st.pc mt
      let β := theBeta c l
      bif (c.res.sub σ β).beq l && listB Bk.beq (c.news.map (·.sub σ β)) got && nodupN nb && c.res.blk (c.blks.length + c.news.length) && c.news.all (·.blk (c.blks.length + c.news.length)) && c.news.all (fun b => !b.ro) && c.blks.all (·.ro) && sureAll st.pc σ c.post
        then some ⟨st.pc, st.k.ds, (List.range c.cnt).map fun k => lookT (c.n + k) mt⟩ else none
    | none => none
  | _ => none
theorem mf_ok [Fs] {P : Program} {cf : Cf} (hcf : CfOk P cf) {fuel : Nat} {c : Mf} {t : Told} (h : runMf P cf fuel c = some t)
    (hF : ∀ E : Env, E.F = Fs.F → pcOk E t.pc → (∀ d ∈ t.ds, d.ok E) → Fs.F c.id (letters E c.n) = t.ls.map (T.me E)) : MfOk P c := by
  unfold runMf at h
  split at h
  · rename_i fn st ho
    split at h
    · rename_i l hl
      dsimp only at h
      generalize hmt : mL c.res l ++ mBs c.news ((theNews c l).map (bkAt st.m)) = mt at h
      cases hq : (c.res.sub (runSg c.n c.cnt st.pc mt) (theBeta c l)).beq l && listB Bk.beq (c.news.map (·.sub (runSg c.n c.cnt st.pc mt) (theBeta c l))) ((theNews c l).map (bkAt st.m)) && nodupN (theNews c l) && c.res.blk (c.blks.length + c.news.length) && c.news.all (·.blk (c.blks.length + c.news.length)) && c.news.all (fun b => !b.ro) && c.blks.all (·.ro) && sureAll st.pc (runSg c.n c.cnt st.pc mt) c.post <;> simp only [hq, cond_true, cond_false] at h
      · cases h
      cases h
      simp only [Bool.and_eq_true] at hq
      obtain ⟨⟨⟨⟨⟨⟨⟨q1, q2⟩, q3⟩, q4⟩, q5⟩, q6⟩, q7⟩, q8⟩ := hq
      have q1 := L.beq_eq q1
      have q2 := listB_eq (fun _ _ => Bk.beq_eq) q2
      rw [List.all_eq_true] at q5 q6 q7
      unfold outsM at ho
      split at ho
      · rename_i fn' body hbody
        rw [Option.map_eq_some_iff] at ho
        obtain ⟨outs, hrun, ho⟩ := ho
        cases ho
        obtain ⟨hfn, hbd, his⟩ := theBody_ok hbody
        refine ⟨his, fun E ρ args w hEF hpre hargs hin => ?_⟩
        have hrel : Rel ⟨E, 0, ρ, w⟩ ρ (startM c fn) { tmps := args ++ Array.replicate (fn.ntmps - args.size) undef, defers := [] } w := by
          have e1 : F2 (Lr E ρ c.blks.length) (c.args.map L.a) args := hargs.map _ fun _ _ hr => hr
          refine ⟨⟨ini_ok e1 _, hpre, fun d hd => (nomatch hd), hEF⟩, rfl, ⟨hin.mem, hin.inj, Nat.zero_le _, fun _ hi => absurd hi (Nat.not_lt_zero _), fun i b _ hi hro => ?_, ⟨rfl, rfl, rfl, Nat.le_refl _, fun _ _ _ => rfl⟩⟩⟩
          have := q7 b (List.mem_of_getElem? hi)
          rw [hro] at this; cases this
        refine calls_of_wp hfn hbd ?_
        refine runF_ok (fun g => (evC_ok P hcf fuel).1 g (cf.cfg g)) c.g _ _ _ hrun _ _ _ w hrel _ (fun _ _ => Iff.rfl) fun o ho => ?_
        rw [List.mem_singleton] at ho
        subst ho
        intro E' ρ' a' w' L g3
        obtain ⟨v, h1, h2⟩ := resL_ok g3 hl
        refine ⟨g3.dfr, v, h1, v, fun p => ρ' (theBeta c l p), rfl, ⟨g3.mr.fr.os, g3.mr.fr.tape, g3.mr.fr.output, g3.mr.fr.size, fun k hk => g3.mr.fr.block k hk fun _ hi => absurd hi (Nat.not_lt_zero _)⟩, ?_⟩
        have hx : ∀ i, i < c.n → E'.x i = E.x i := fun i hi => L.E.x i hi
        have hlet : letters E' c.n = letters E c.n := List.map_congr_left fun i hi => hx i (by simpa using hi)
        have hspec := hF E' g3.F g3.pc g3.ds
        rw [hlet] at hspec
        have hs : SubOk (resX E c.n c.cnt (Fs.F c.id (letters E c.n))) E' (runSg c.n c.cnt st.pc mt) := by
          refine resXS_ok L.E.F (fun i hi lo hi' => ?_) fun k hk lo hi' => ?_
          · rw [← Nat.blt_eq] at hi
            simp only [hi, cond_true]
            rw [Nat.blt_eq] at hi
            exact ⟨by rw [T.den, hx i hi], fun j => by rw [T.row, hx i hi]⟩
          · have : Nat.blt (c.n + k) c.n = false := by
              cases hb : Nat.blt (c.n + k) c.n
              · rfl
              · rw [Nat.blt_eq] at hb; omega
            simp only [this, cond_false]
            rw [hspec]
            simp only [List.map_map, List.getElem?_map, List.getElem?_range hk, Option.map_some, Option.getD_some, Function.comp_apply]
            exact mkCl_ok g3.pc lo hi' _
        have hβ : ∀ b, b < c.blks.length → theBeta c l b = b := fun b hb => by
          rw [← Nat.blt_eq] at hb
          simp only [theBeta, hb, cond_true]
        have nbj : ∀ j, j < c.news.length → (theNews c l)[j]? = some (theBeta c l (c.blks.length + j)) := fun j hj => by
          have : Nat.blt (c.blks.length + j) c.blks.length = false := by
            cases hb : Nat.blt (c.blks.length + j) c.blks.length
            · rfl
            · rw [Nat.blt_eq] at hb; omega
          simp only [theNews, List.getElem?_map, List.getElem?_range hj, Option.map_some, theBeta, this, cond_false]
        have gotj : ∀ j b, c.news[j]? = some b → b.sub (runSg c.n c.cnt st.pc mt) (theBeta c l) = bkAt st.m (theBeta c l (c.blks.length + j)) := fun j b hj => by
          have h3 : (c.news.map (·.sub (runSg c.n c.cnt st.pc mt) (theBeta c l)))[j]? = some (b.sub (runSg c.n c.cnt st.pc mt) (theBeta c l)) := by rw [List.getElem?_map, hj]; rfl
          rw [q2, List.getElem?_map, nbj j (List.getElem?_eq_some_iff.1 hj).1] at h3
          simpa using h3.symm
        have livej : ∀ j b, c.news[j]? = some b → b.there (resX E c.n c.cnt (Fs.F c.id (letters E c.n))) → st.m[theBeta c l (c.blks.length + j)]? = some (b.sub (runSg c.n c.cnt st.pc mt) (theBeta c l)) ∧ (b.sub (runSg c.n c.cnt st.pc mt) (theBeta c l)).there E' := fun j b hj ht => by
          have h3 := (Bk.there_sub (β := theBeta c l) hs).2 ht
          refine ⟨?_, h3⟩
          have h4 := gotj j b hj
          unfold bkAt at h4
          cases hm : st.m[theBeta c l (c.blks.length + j)]? with
          | none => rw [hm] at h4; simp only [Option.getD_none] at h4; rw [h4] at h3; exact h3.elim
          | some d => rw [hm] at h4; simp only [Option.getD_some] at h4; rw [h4]
        rw [← q1] at h2
        refine ⟨Lr.unsub (β := theBeta c l) (ρ' := ρ') hs (fun b _ => rfl) q4 h2, ⟨fun i hi => ?_, fun j b hj => ?_, fun i j bi bj hi hj h3 h4 heq => ?_, fun j b hj ht => ?_⟩, sureAll_ok g3.pc hs q8⟩
        · rw [hβ i hi]; exact L.ρ i hi
        · refine Br.unsub (β := theBeta c l) (ρ' := ρ') (n' := st.m.length) hs (fun b _ => rfl) (q5 b (List.mem_of_getElem? hj)) ?_
          rw [gotj j b hj]
          unfold bkAt
          cases hm : st.m[theBeta c l (c.blks.length + j)]? with
          | none => trivial
          | some d => exact g3.mr.mem _ _ hm
        · obtain ⟨a1, a2⟩ := livej i bi hi h3
          obtain ⟨b1, b2⟩ := livej j bj hj h4
          have e := g3.mr.inj _ _ _ _ a1 b1 a2 b2 heq
          have e1 := nbj i (List.getElem?_eq_some_iff.1 hi).1
          have e2 := nbj j (List.getElem?_eq_some_iff.1 hj).1
          rw [e] at e1
          exact nodupN_ok q3 i j _ e1 e2
        · obtain ⟨a1, a2⟩ := livej j b hj ht
          have hro : (b.sub (runSg c.n c.cnt st.pc mt) (theBeta c l)).ro = false := by
            rw [Bk.ro_sub]
            have := q6 b (List.mem_of_getElem? hj)
            cases hb : b.ro
            · rfl
            · rw [hb] at this; cases this
          rcases g3.mr.new _ _ (Nat.zero_le _) a1 hro a2 with h5 | ⟨k, hk, _⟩
          · exact h5
          · exact absurd hk (Nat.not_lt_zero _)
      · cases ho
    · cases h
  · cases h
end Go.Sy
