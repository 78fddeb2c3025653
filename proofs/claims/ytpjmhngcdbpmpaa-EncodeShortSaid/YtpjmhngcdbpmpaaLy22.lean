/- Part 22 of a checked reader of Go texts in their model form: it runs a function at terms in the place of numbers, and each part proves that its answers hold of the model. -/
import Derived.Test.YtpjmhngcdbpmpaaLy20
namespace Go.Sy
/-! functions that read memory, and answer with blocks of their own -/
/-- Such a function's card: its name in the table, its number, how many letters come in, the arguments and the blocks that they name (0 .. , none of them written), what must hold; the result and the new blocks (numbers behind), in the letters that came in and 'cnt' ones behind; what holds of them. -/
structure Mf where
  id : Nat
  g : Nat
  n : Nat
  args : List A
  blks : List Bk
  pre : Pc
  res : L
  news : List Bk
  cnt : Nat
  post : Pc
/-- The letters that came in, and those that a function tells. -/
def resX (E : Env) (n cnt : Nat) (rs : List Arg) : Env := ⟨fun i => if i < n then E.x i else if i < n + cnt then (rs[i - n]?).getD default else default, E.F⟩
structure InB (E : Env) (ρ : Nat → Rb) (bs : List Bk) (w : World) : Prop where
  mem : ∀ (i : Nat) (b : Bk), bs[i]? = some b → Br E ρ bs.length (ρ i) b w.heap[(ρ i).g]?
  inj : ∀ (i j : Nat) (bi bj : Bk), bs[i]? = some bi → bs[j]? = some bj → bi.there E → bj.there E → (ρ i).g = (ρ j).g → i = j
structure OutB (E : Env) (ρ0 ρ : Nat → Rb) (B : Nat) (bs : List Bk) (w w' : World) : Prop where
  same : ∀ i, i < B → ρ i = ρ0 i
  mem : ∀ (j : Nat) (b : Bk), bs[j]? = some b → Br E ρ (B + bs.length) (ρ (B + j)) b w'.heap[(ρ (B + j)).g]?
  inj : ∀ (i j : Nat) (bi bj : Bk), bs[i]? = some bi → bs[j]? = some bj → bi.there E → bj.there E → (ρ (B + i)).g = (ρ (B + j)).g → i = j
  new : ∀ (j : Nat) (b : Bk), bs[j]? = some b → b.there E → w.heap.size ≤ (ρ (B + j)).g
def MfOk [Fs] (P : Program) (c : Mf) : Prop := IsFn P c.g ∧ ∀ (E : Env) (ρ : Nat → Rb) (args : Array Value) (w : World), E.F = Fs.F → pcOk E c.pre → F2 (Ar E ρ c.blks.length) c.args args → InB E ρ c.blks w →
  Calls P c.g args w fun e w' => ∃ v ρ', e = .returned v ∧ RowKit.Below w.heap.size w w' ∧ Lr (resX E c.n c.cnt (Fs.F c.id (letters E c.n))) ρ' (c.blks.length + c.news.length) c.res v ∧
    OutB (resX E c.n c.cnt (Fs.F c.id (letters E c.n))) ρ ρ' c.blks.length c.news w w' ∧ pcOk (resX E c.n c.cnt (Fs.F c.id (letters E c.n))) c.post

/-! blocks met with blocks -/
def bC : C → C → List (Nat × Nat)
  | .ptr b _, .ptr d _ => [(b, d)]
  | .pti b _ _ _ _, .pti d _ _ _ _ => [(b, d)]
  | .slc b _ _, .slc d _ _ => [(b, d)]
  | .slr b _ _ _, .slr d _ _ _ => [(b, d)]
  | .sln b _ _, .sln d _ _ => [(b, d)]
  | .pta b _ _ _ _, .pta d _ _ _ _ => [(b, d)]
  | _, _ => []
def bCs : List C → List C → List (Nat × Nat)
  | x :: xs, y :: ys => bC x y ++ bCs xs ys
  | _, _ => []
def bA : A → A → List (Nat × Nat)
  | .c x, .c y => bC x y
  | .agg xs, .agg ys => bCs xs ys
  | _, _ => []
def bAs : List A → List A → List (Nat × Nat)
  | x :: xs, y :: ys => bA x y ++ bAs xs ys
  | _, _ => []
def bL : L → L → List (Nat × Nat)
  | .a x, .a y => bA x y
  | .tup xs, .tup ys => bAs xs ys
  | _, _ => []
def bB : Bk → Bk → List (Nat × Nat)
  | .cells _ xs, .cells _ ys => bCs xs ys
  | _, _ => []
def lookN (i : Nat) : List (Nat × Nat) → Nat
  | [] => i
  | (j, k) :: r => bif Nat.beq i j then k else lookN i r
def mBs : List Bk → List Bk → Mt
  | x :: xs, y :: ys => mB x y ++ mBs xs ys
  | _, _ => []
def bkAt (m : List Bk) (i : Nat) : Bk := (m[i]?).getD .dead
/-- What blocks name in turn. -/
def bBs (m : List Bk) : Nat → List Bk → List (Nat × Nat) → List (Nat × Nat)
  | _, [], bp => bp
  | p, b :: r, bp => bBs m (p + 1) r (bp ++ bB b (bkAt m (lookN p bp)))
def nodupN : List Nat → Bool
  | [] => true
  | x :: r => r.all (fun y => !(Nat.beq x y)) && nodupN r
theorem nodupN_ok [Fs] : ∀ {l : List Nat}, nodupN l = true → ∀ (i j : Nat) (x : Nat), l[i]? = some x → l[j]? = some x → i = j := by
  intro l
  induction l with
  | nil => intro _ i j x h; simp at h
  | cons y r ih =>
    intro h i j x hi hj
    simp only [nodupN, Bool.and_eq_true, List.all_eq_true] at h
    have no : ∀ k, r[k]? = some y → False := fun k hk => by
      have := h.1 y (List.mem_of_getElem? hk)
      rw [Nat.beq_refl] at this; cases this
    cases i with
    | zero =>
      simp at hi; subst hi
      cases j with
      | zero => rfl
      | succ j => simp at hj; exact (no j hj).elim
    | succ i =>
      simp at hi
      cases j with
      | zero => simp at hj; subst hj; exact (no i hi).elim
      | succ j => simp at hj; rw [ih h.2 i j x hi hj]

def resXS (n cnt : Nat) (f : Nat → Int → Int → T) : Sg := fun i lo hi => bif Nat.blt i n then f i lo hi else bif Nat.blt i (n + cnt) then f i lo hi else .un (.cl lo hi) (.lit 0)
theorem resXS_ok [Fs] {E E' : Env} {n cnt : Nat} {rs : List Arg} {f : Nat → Int → Int → T} (hF : E'.F = E.F)
    (h1 : ∀ i, i < n → ∀ lo hi, (f i lo hi).den E' = clamp lo hi (E.x i).n ∧ ∀ j, (f i lo hi).row E' j = clamp lo hi ((E.x i).s j))
    (h2 : ∀ k, k < cnt → ∀ lo hi, (f (n + k) lo hi).den E' = clamp lo hi ((rs[k]?).getD default).n ∧ ∀ j, (f (n + k) lo hi).row E' j = clamp lo hi (((rs[k]?).getD default).s j)) : SubOk (resX E n cnt rs) E' (resXS n cnt f) := by
  have key : ∀ i lo hi, (resXS n cnt f i lo hi).den E' = clamp lo hi ((resX E n cnt rs).x i).n ∧ ∀ j, (resXS n cnt f i lo hi).row E' j = clamp lo hi (((resX E n cnt rs).x i).s j) := by
    intro i lo hi
    unfold resXS resX
    dsimp only
    cases hb : Nat.blt i n
    · have hb' : ¬ i < n := by rw [← Nat.blt_eq, hb]; exact Bool.false_ne_true
      rw [if_neg hb']
      simp only [cond_false]
      cases hc : Nat.blt i (n + cnt)
      · have hc' : ¬ i < n + cnt := by rw [← Nat.blt_eq, hc]; exact Bool.false_ne_true
        rw [if_neg hc']
        exact ⟨rfl, fun j => rfl⟩
      · rw [Nat.blt_eq] at hc
        rw [if_pos hc]
        have := h2 (i - n) (by omega) lo hi
        rw [show n + (i - n) = i by omega] at this
        exact this
    · rw [Nat.blt_eq] at hb
      rw [if_pos hb]
      exact h1 i hb lo hi
  exact ⟨hF, fun i lo hi => (key i lo hi).1, fun i lo hi => (key i lo hi).2⟩

/-! a card out of a run -/
def startM (c : Mf) (fn : Func) : St := ⟨ini (c.args.map L.a) fn.ntmps, c.blks, c.pre, ⟨[], c.n⟩⟩
def outsM (P : Program) (cf : Cf) (fuel : Nat) (c : Mf) : Option (Func × List Out) := match theBody P c.g with
  | some (fn, body) => (startM c fn).fc fun st0 => (runFB P cf.cfg (fun g => evC P cf fuel g (cf.cfg g) false) c.g body st0).map fun o => (fn, o)
  | none => none
def runSg (n cnt : Nat) (pc : Pc) (mt : Mt) : Sg := resXS n cnt fun i lo hi => bif Nat.blt i n then .v i lo hi else mkCl pc lo hi (lookT i mt)
def theNews (c : Mf) (l : L) : List Nat := (List.range c.news.length).map fun j => lookN (c.blks.length + j) (bL c.res l)
def theBeta (c : Mf) (l : L) : Nat → Nat := fun p => bif Nat.blt p c.blks.length then p else lookN p (bL c.res l)
def runMf (P : Program) (cf : Cf) (fuel : Nat) (c : Mf) : Option Told := match outsM P cf fuel c with
  | some (fn, [.good .norm st]) => match resL P st fn.results.toList with
    | some l =>
      let nb := theNews c l
      let got := nb.map (bkAt st.m)
      let mt := mL c.res l ++ mBs c.news got
      let σ := runSg c.n c.cnt st.pc mt
      let β := theBeta c l
      bif (c.res.sub σ β).beq l && listB Bk.beq (c.news.map (·.sub σ β)) got && nodupN nb && c.res.blk (c.blks.length + c.news.length) && c.news.all (·.blk (c.blks.length + c.news.length)) && c.news.all (fun b => !b.ro) && c.blks.all (·.ro) && sureAll st.pc σ c.post
        then some ⟨st.pc, st.k.ds, (List.range c.cnt).map fun k => lookT (c.n + k) mt⟩ else none
    | none => none
  | _ => none
theorem mf_ok [Fs] {P : Program} {cf : Cf} (hcf : CfOk P cf) {fuel : Nat} {c : Mf} {t : Told} (h : runMf P cf fuel c = some t)
    (hF : ∀ E : Env, E.F = Fs.F → pcOk E t.pc → (∀ d ∈ t.ds, d.ok E) → Fs.F c.id (letters E c.n) = t.ls.map (T.me E)) : MfOk P c := by
  unfold runMf at h
  split at h
  · rename_i fn st ho
    split at h
    · rename_i l hl
      dsimp only at h
      generalize hmt : mL c.res l ++ mBs c.news ((theNews c l).map (bkAt st.m)) = mt at h
      cases hq : (c.res.sub (runSg c.n c.cnt st.pc mt) (theBeta c l)).beq l && listB Bk.beq (c.news.map (·.sub (runSg c.n c.cnt st.pc mt) (theBeta c l))) ((theNews c l).map (bkAt st.m)) && nodupN (theNews c l) && c.res.blk (c.blks.length + c.news.length) && c.news.all (·.blk (c.blks.length + c.news.length)) && c.news.all (fun b => !b.ro) && c.blks.all (·.ro) && sureAll st.pc (runSg c.n c.cnt st.pc mt) c.post <;> simp only [hq, cond_true, cond_false] at h
      · cases h
      cases h
      simp only [Bool.and_eq_true] at hq
      obtain ⟨⟨⟨⟨⟨⟨⟨q1, q2⟩, q3⟩, q4⟩, q5⟩, q6⟩, q7⟩, q8⟩ := hq
      have q1 := L.beq_eq q1
      have q2 := listB_eq (fun _ _ => Bk.beq_eq) q2
      rw [List.all_eq_true] at q5 q6 q7
      unfold outsM at ho
      simp only [St.fc_eq] at ho
      split at ho
      · rename_i fn' body hbody
        rw [Option.map_eq_some_iff] at ho
        obtain ⟨outs, hrun, ho⟩ := ho
        cases ho
        obtain ⟨hfn, hbd, his⟩ := theBody_ok hbody
        refine ⟨his, fun E ρ args w hEF hpre hargs hin => ?_⟩
        have hrel : Rel ⟨E, 0, ρ, w, []⟩ ρ (startM c fn) { tmps := args ++ Array.replicate (fn.ntmps - args.size) undef, defers := [] } w := by
          have e1 : F2 (Lr E ρ c.blks.length) (c.args.map L.a) args := hargs.map _ fun _ _ hr => hr
          refine ⟨⟨ini_ok e1 _, hpre, fun d hd => (nomatch hd), hEF⟩, rfl, ⟨hin.mem, hin.inj, Nat.zero_le _, fun _ hi => absurd hi (Nat.not_lt_zero _), fun i b _ hi hro => ?_, ⟨rfl, rfl, rfl, Nat.le_refl _, fun _ _ _ => rfl⟩⟩⟩
          have := q7 b (List.mem_of_getElem? hi)
          rw [hro] at this; cases this
        refine runFB_ok (fun g => (evC_ok P hcf fuel).1 g (cf.cfg g)) c.g _ _ _ _ hfn hbd hrun _ _ _ w rfl hrel _ fun o ho => ?_
        rw [List.mem_singleton] at ho
        subst ho
        intro E' ρ' a' w' L g3
        obtain ⟨v, h1, h2⟩ := resL_ok g3 hl
        refine ⟨g3.dfr, v, h1, v, fun p => ρ' (theBeta c l p), rfl, ⟨g3.mr.fr.os, g3.mr.fr.tape, g3.mr.fr.output, g3.mr.fr.size, fun k hk => g3.mr.fr.block k hk fun _ hi => absurd hi (Nat.not_lt_zero _)⟩, ?_⟩
        have hx : ∀ i, i < c.n → E'.x i = E.x i := fun i hi => L.E.x i hi
        have hlet : letters E' c.n = letters E c.n := List.map_congr_left fun i hi => hx i (by simpa using hi)
        have hspec := hF E' g3.F g3.pc g3.ds
        rw [hlet] at hspec
        have hs : SubOk (resX E c.n c.cnt (Fs.F c.id (letters E c.n))) E' (runSg c.n c.cnt st.pc mt) := by
          refine resXS_ok L.E.F (fun i hi lo hi' => ?_) fun k hk lo hi' => ?_
          · rw [← Nat.blt_eq] at hi
            simp only [hi, cond_true]
            rw [Nat.blt_eq] at hi
            exact ⟨by rw [T.den, hx i hi], fun j => by rw [T.row, hx i hi]⟩
          · have : Nat.blt (c.n + k) c.n = false := by
              cases hb : Nat.blt (c.n + k) c.n
              · rfl
              · rw [Nat.blt_eq] at hb; omega
            simp only [this, cond_false]
            rw [hspec]
            simp only [List.map_map, List.getElem?_map, List.getElem?_range hk, Option.map_some, Option.getD_some, Function.comp_apply]
            exact mkCl_ok g3.pc lo hi' _
        have hβ : ∀ b, b < c.blks.length → theBeta c l b = b := fun b hb => by
          rw [← Nat.blt_eq] at hb
          simp only [theBeta, hb, cond_true]
        have nbj : ∀ j, j < c.news.length → (theNews c l)[j]? = some (theBeta c l (c.blks.length + j)) := fun j hj => by
          have : Nat.blt (c.blks.length + j) c.blks.length = false := by
            cases hb : Nat.blt (c.blks.length + j) c.blks.length
            · rfl
            · rw [Nat.blt_eq] at hb; omega
          simp only [theNews, List.getElem?_map, List.getElem?_range hj, Option.map_some, theBeta, this, cond_false]
        have gotj : ∀ j b, c.news[j]? = some b → b.sub (runSg c.n c.cnt st.pc mt) (theBeta c l) = bkAt st.m (theBeta c l (c.blks.length + j)) := fun j b hj => by
          have h3 : (c.news.map (·.sub (runSg c.n c.cnt st.pc mt) (theBeta c l)))[j]? = some (b.sub (runSg c.n c.cnt st.pc mt) (theBeta c l)) := by rw [List.getElem?_map, hj]; rfl
          rw [q2, List.getElem?_map, nbj j (List.getElem?_eq_some_iff.1 hj).1] at h3
          simpa using h3.symm
        have livej : ∀ j b, c.news[j]? = some b → b.there (resX E c.n c.cnt (Fs.F c.id (letters E c.n))) → st.m[theBeta c l (c.blks.length + j)]? = some (b.sub (runSg c.n c.cnt st.pc mt) (theBeta c l)) ∧ (b.sub (runSg c.n c.cnt st.pc mt) (theBeta c l)).there E' := fun j b hj ht => by
          have h3 := (Bk.there_sub (β := theBeta c l) hs).2 ht
          refine ⟨?_, h3⟩
          have h4 := gotj j b hj
          unfold bkAt at h4
          cases hm : st.m[theBeta c l (c.blks.length + j)]? with
          | none => rw [hm] at h4; simp only [Option.getD_none] at h4; rw [h4] at h3; exact h3.elim
          | some d => rw [hm] at h4; simp only [Option.getD_some] at h4; rw [h4]
        rw [← q1] at h2
        refine ⟨Lr.unsub (β := theBeta c l) (ρ' := ρ') hs (fun b _ => rfl) q4 h2, ⟨fun i hi => ?_, fun j b hj => ?_, fun i j bi bj hi hj h3 h4 heq => ?_, fun j b hj ht => ?_⟩, sureAll_ok g3.pc hs q8⟩
        · rw [hβ i hi]; exact L.ρ i hi
        · refine Br.unsub (β := theBeta c l) (ρ' := ρ') (n' := st.m.length) hs (fun b _ => rfl) (q5 b (List.mem_of_getElem? hj)) ?_
          rw [gotj j b hj]
          unfold bkAt
          cases hm : st.m[theBeta c l (c.blks.length + j)]? with
          | none => trivial
          | some d => exact g3.mr.mem _ _ hm
        · obtain ⟨a1, a2⟩ := livej i bi hi h3
          obtain ⟨b1, b2⟩ := livej j bj hj h4
          have e := g3.mr.inj _ _ _ _ a1 b1 a2 b2 heq
          have e1 := nbj i (List.getElem?_eq_some_iff.1 hi).1
          have e2 := nbj j (List.getElem?_eq_some_iff.1 hj).1
          rw [e] at e1
          exact nodupN_ok q3 i j _ e1 e2
        · obtain ⟨a1, a2⟩ := livej j b hj ht
          have hro : (b.sub (runSg c.n c.cnt st.pc mt) (theBeta c l)).ro = false := by
            rw [Bk.ro_sub]
            have := q6 b (List.mem_of_getElem? hj)
            cases hb : b.ro
            · rfl
            · rw [hb] at this; cases this
          rcases g3.mr.new _ _ (Nat.zero_le _) a1 hro a2 with h5 | ⟨k, hk, _⟩
          · exact h5
          · exact absurd hk (Nat.not_lt_zero _)
      · cases ho
    · cases h
  · cases h
end Go.Sy
namespace Go.Sy
/-! calls of functions that read memory -/
def Bk.toRo : Bk → Bk
  | .cells ty xs => .cells (Nat.add (Nat.mul 2 (Nat.div ty 2)) 1) xs
  | .arr ty n cols => .arr (Nat.add (Nat.mul 2 (Nat.div ty 2)) 1) n cols
  | .dead => .dead
theorem toRo_div [Fs] (t : Nat) : Nat.div (Nat.add (Nat.mul 2 (Nat.div t 2)) 1) 2 = Nat.div t 2 := by
  show (2 * (t / 2) + 1) / 2 = t / 2; omega
theorem toRo_mod [Fs] (t : Nat) : ¬ Nat.beq (Nat.mod (Nat.add (Nat.mul 2 (Nat.div t 2)) 1) 2) 1 = false := by
  have : (2 * (t / 2) + 1) % 2 = 1 := by omega
  show ¬ Nat.beq ((2 * (t / 2) + 1) % 2) 1 = false
  rw [this]; decide
theorem Br.toRo [Fs] {E : Env} {ρ : Nat → Rb} {n : Nat} {z : Rb} {b : Bk} {o : Option Obj} (h : Br E ρ n z b o) : Br E ρ n z b.toRo o := by
  cases b with
  | cells ty xs => obtain ⟨cs, h1, hz, h2⟩ := h; exact ⟨cs, by rw [toRo_div]; exact h1, hz, h2⟩
  | arr ty k cols => exact ⟨h.1, fun hk => let ⟨cs, t, fr, h1, _, h3⟩ := h.2 hk; ⟨cs, t, fr, h1, fun hc => absurd hc (toRo_mod ty), h3⟩⟩
  | dead => trivial
theorem Bk.toRo_there [Fs] {E : Env} {b : Bk} : b.toRo.there E ↔ b.there E := by cases b <;> exact Iff.rfl
section memory
variable {X : Cx} {ρ ρ' : Nat → Rb} {m nb : List Bk} {w : World}
/-- New blocks, behind the others. -/
theorem MemR.more [Fs] (h : MemR X ρ m w) {S : Nat} (hS : X.w0.heap.size ≤ S) (hlive : ∀ (i : Nat) (b : Bk), m[i]? = some b → b.there X.E → (ρ i).g < S) (hρ : ∀ i, i < m.length → ρ' i = ρ i)
    (hmem : ∀ (j : Nat) (b : Bk), nb[j]? = some b → Br X.E ρ' (m.length + nb.length) (ρ' (m.length + j)) b w.heap[(ρ' (m.length + j)).g]?)
    (hinj : ∀ (i j : Nat) (bi bj : Bk), nb[i]? = some bi → nb[j]? = some bj → bi.there X.E → bj.there X.E → (ρ' (m.length + i)).g = (ρ' (m.length + j)).g → i = j)
    (hnew : ∀ (j : Nat) (b : Bk), nb[j]? = some b → b.there X.E → S ≤ (ρ' (m.length + j)).g) : MemR X ρ' (m ++ nb) w := by
  have split : ∀ (i : Nat) (c : Bk), (m ++ nb)[i]? = some c → (i < m.length ∧ m[i]? = some c) ∨ (∃ j, i = m.length + j ∧ nb[j]? = some c) := by
    intro i c hi
    rw [List.getElem?_append] at hi
    split at hi
    · rename_i hl; exact .inl ⟨hl, hi⟩
    · rename_i hl; exact .inr ⟨i - m.length, by omega, hi⟩
  have hl0 := h.len
  refine ⟨fun i c hi => ?_, fun i j bi bj hi hj hbi hbj heq => ?_, by simp; omega, fun i hi => by rw [hρ i (by omega)]; exact h.old i hi, fun i c hn hi hro hc => ?_, h.fr⟩
  · rw [List.length_append]
    rcases split i c hi with ⟨hl, hi'⟩ | ⟨j, rfl, hj⟩
    · rw [hρ i hl]; exact Br.mono hρ (Nat.le_add_right _ _) (h.mem i c hi')
    · exact hmem j c hj
  · rcases split i bi hi with ⟨hl, hi'⟩ | ⟨i', rfl, hi'⟩ <;> rcases split j bj hj with ⟨hl', hj'⟩ | ⟨j', rfl, hj'⟩
    · rw [hρ i hl, hρ j hl'] at heq; exact h.inj i j bi bj hi' hj' hbi hbj heq
    · rw [hρ i hl] at heq
      have := hlive i bi hi' hbi
      have := hnew j' bj hj' hbj
      omega
    · rw [hρ j hl'] at heq
      have := hlive j bj hj' hbj
      have := hnew i' bi hi' hbi
      omega
    · rw [hinj i' j' bi bj hi' hj' hbi hbj heq]
  · rcases split i c hi with ⟨hl, hi'⟩ | ⟨j, rfl, hj⟩
    · rw [hρ i hl]; exact h.new i c hn hi' hro hc
    · have := hnew j c hj hc
      exact .inl (by omega)
end memory
def useSg (n cnt : Nat) (pc : Pc) (mt : Mt) (b : Nat) : Sg := resXS n cnt fun i lo hi => bif Nat.blt i n then mkCl pc lo hi (lookT i mt) else .v (b + (i - n)) lo hi
def useBeta (B : Nat) (bm : Nat → Nat) (len : Nat) : Nat → Nat := fun p => bif Nat.blt p B then bm p else len + (p - B)
def useRes (c : Mf) (st : St) (mt : Mt) (bm : Nat → Nat) (b : Nat) (k : Kn) : SmR :=
  ⟨c.res.sub (useSg c.n c.cnt st.pc mt b) (useBeta c.blks.length bm st.m.length), st.m ++ c.news.map (·.sub (useSg c.n c.cnt st.pc mt b) (useBeta c.blks.length bm st.m.length)),
    pcSub (useSg c.n c.cnt st.pc mt b) c.post ++ st.pc, k⟩
def theBm (c : Mf) (st : St) (xs : List A) (p : Nat) : Nat := lookN p (bBs st.m 0 c.blks (bAs c.args xs))
def useM (c : Mf) (st : St) (xs : List A) : Option SmR :=
  let bm := theBm c st xs
  let got := (List.range c.blks.length).map fun p => bkAt st.m (bm p)
  let mt := mAs c.args xs ++ mBs c.blks got
  bif listB A.fits (c.args.map (·.sub (patS st.pc mt) bm)) xs && listB Bk.beq (c.blks.map (·.sub (patS st.pc mt) bm)) (got.map (·.toRo)) && c.args.all (·.blk c.blks.length) && c.blks.all (·.blk c.blks.length) &&
    nodupN ((List.range c.blks.length).map bm) && (List.range c.blks.length).all (fun p => Nat.blt (bm p) st.m.length) && sureAll st.pc (patS st.pc mt) c.pre && pcBel st.k.nv st.pc && st.m.all (·.bel st.k.nv) && (termsOf mt c.n []).all (·.bel st.k.nv) then
    match findC c.id (termsOf mt c.n []) c.cnt st.k.ds with
    | some b => some (useRes c st mt bm b st.k)
    | none => bif st.k.ds.all (·.bel st.k.nv) then some (useRes c st mt bm st.k.nv ⟨.call st.k.nv c.id (termsOf mt c.n []) c.cnt :: st.k.ds, st.k.nv + c.cnt⟩) else none
  else none
def smOf (l : List Mf) (g : Nat) (st : St) (xs : List A) : Option SmR := match l with
  | [] => none
  | c :: r => bif Nat.beq g c.g then match useM c st xs with
    | some y => some y
    | none => smOf r g st xs
    else smOf r g st xs
def AllM [Fs] (P : Program) : List Mf → Prop
  | [] => True
  | c :: r => MfOk P c ∧ AllM P r
theorem useM_ok [Fs] {P : Program} {c : Mf} (hc : MfOk P c) {st : St} {xs : List A} {r : SmR} (h : useM c st xs = some r) (X : Cx) (ρ : Nat → Rb) (args : Array Value) (w : World) (hF : X.E.F = Fs.F) (hp : pcOk X.E st.pc) (hd : ∀ d ∈ st.k.ds, d.ok X.E)
    (hm : MemR X ρ st.m w) (ha : F2 (Ar X.E ρ st.m.length) xs args) : (∃ fn, P.funcs[c.g]? = some fn ∧ fn.body.isSome = true ∧ (fn.name == "runtime.NumGoroutine") = false) ∧
    Calls P c.g args w fun e w' => ∃ v E' ρ', e = .returned v ∧ Later X.E ρ st.m.length st.k.nv E' ρ' ⟨st.s, r.m, r.pc, r.k⟩ ∧ Lr E' ρ' r.m.length r.l v ∧ MemR (X.at E') ρ' r.m w' ∧ pcOk E' r.pc ∧ ∀ d ∈ r.k.ds, d.ok E' := by
  unfold useM at h
  dsimp only at h
  generalize hbm : theBm c st xs = bm at h
  generalize hmt : mAs c.args xs ++ mBs c.blks ((List.range c.blks.length).map fun p => bkAt st.m (bm p)) = mt at h
  cases hq : listB A.fits (c.args.map (·.sub (patS st.pc mt) bm)) xs && listB Bk.beq (c.blks.map (·.sub (patS st.pc mt) bm)) (((List.range c.blks.length).map fun p => bkAt st.m (bm p)).map (·.toRo)) && c.args.all (·.blk c.blks.length) && c.blks.all (·.blk c.blks.length) &&
    nodupN ((List.range c.blks.length).map bm) && (List.range c.blks.length).all (fun p => Nat.blt (bm p) st.m.length) && sureAll st.pc (patS st.pc mt) c.pre && pcBel st.k.nv st.pc && st.m.all (·.bel st.k.nv) && (termsOf mt c.n []).all (·.bel st.k.nv) <;> simp only [hq, cond_true, cond_false] at h
  · cases h
  simp only [Bool.and_eq_true] at hq
  obtain ⟨⟨⟨⟨⟨⟨⟨⟨⟨q1, q2⟩, q3⟩, q4⟩, q5⟩, q6⟩, q7⟩, q8⟩, q9⟩, q10⟩ := hq
  have q2 := listB_eq (fun _ _ => Bk.beq_eq) q2
  rw [List.all_eq_true] at q4 q6
  have hs := patS_ok hp mt
  replace ha := fitsAll q1 ha
  have hpat : F2 (Ar (patE X.E mt) (fun p => ρ (bm p)) c.blks.length) c.args args := F2A.unsub (β := bm) hs (fun b _ => rfl) q3 ha
  have bmlt : ∀ p, p < c.blks.length → bm p < st.m.length := fun p hp => by
    have := q6 p (by simpa using hp)
    rwa [Nat.blt_eq] at this
  have gotp : ∀ p b, c.blks[p]? = some b → b.sub (patS st.pc mt) bm = (bkAt st.m (bm p)).toRo := fun p b hb => by
    have h3 : (c.blks.map (·.sub (patS st.pc mt) bm))[p]? = some (b.sub (patS st.pc mt) bm) := by rw [List.getElem?_map, hb]; rfl
    rw [q2, List.getElem?_map, List.getElem?_map, List.getElem?_range (List.getElem?_eq_some_iff.1 hb).1] at h3
    simpa using h3.symm
  have bkp : ∀ p, p < c.blks.length → st.m[bm p]? = some (bkAt st.m (bm p)) := fun p hp => by
    unfold bkAt
    rw [List.getElem?_eq_getElem (bmlt p hp)]; rfl
  have hin : InB (patE X.E mt) (fun p => ρ (bm p)) c.blks w := by
    refine ⟨fun p b hb => ?_, fun i j bi bj hi hj h3 h4 heq => ?_⟩
    · have hlt := (List.getElem?_eq_some_iff.1 hb).1
      refine Br.unsub (β := bm) (ρ' := ρ) (n' := st.m.length) hs (fun b _ => rfl) (q4 b (List.mem_of_getElem? hb)) ?_
      rw [gotp p b hb]
      exact (hm.mem _ _ (bkp p hlt)).toRo
    · have hi' := (List.getElem?_eq_some_iff.1 hi).1
      have hj' := (List.getElem?_eq_some_iff.1 hj).1
      have t1 : (bkAt st.m (bm i)).there X.E := by rw [← Bk.toRo_there, ← gotp i bi hi]; exact (Bk.there_sub hs).2 h3
      have t2 : (bkAt st.m (bm j)).there X.E := by rw [← Bk.toRo_there, ← gotp j bj hj]; exact (Bk.there_sub hs).2 h4
      have e := hm.inj _ _ _ _ (bkp i hi') (bkp j hj') t1 t2 heq
      refine nodupN_ok q5 i j (bm i) ?_ ?_
      · rw [List.getElem?_map, List.getElem?_range hi']; rfl
      · rw [List.getElem?_map, List.getElem?_range hj', e]; rfl
  obtain ⟨hfn, hcall⟩ := hc
  refine ⟨hfn, (hcall (patE X.E mt) _ args w hF (sureAll_ok hp hs q7) hpat hin).mono fun e w' ⟨v, ρ1, he, hb, hl, ho, hpost⟩ => ?_⟩
  -- whichever letters stand for the results
  have fin : ∀ (E' : Env) (b : Nat) (k : Kn), r = useRes c st mt bm b k → Agree X.E E' st.k.nv → st.k.nv ≤ k.nv → (∀ d ∈ k.ds, d.ok E') → (∀ j, j < c.cnt → E'.x (b + j) = ((Fs.F c.id (letters (patE X.E mt) c.n))[j]?).getD default) →
      ∃ v E' ρ', e = .returned v ∧ Later X.E ρ st.m.length st.k.nv E' ρ' ⟨st.s, r.m, r.pc, r.k⟩ ∧ Lr E' ρ' r.m.length r.l v ∧ MemR (X.at E') ρ' r.m w' ∧ pcOk E' r.pc ∧ ∀ d ∈ r.k.ds, d.ok E' := by
    intro E' b k hr hag hk hds hx
    subst hr
    have hp' : pcOk E' st.pc := pcOk_agree hag q8 hp
    have hterm : ∀ i, i < c.n → (lookT i mt).me E' = (lookT i mt).me X.E := fun i hi => by
      refine T.bel_me hag ?_
      rw [List.all_eq_true] at q10
      refine q10 _ ?_
      rw [termsOf_eq, List.append_nil]
      exact List.mem_map.2 ⟨i, by simpa using hi, rfl⟩
    have hs' : SubOk (resX (patE X.E mt) c.n c.cnt (Fs.F c.id (letters (patE X.E mt) c.n))) E' (useSg c.n c.cnt st.pc mt b) := by
      refine resXS_ok hag.F (fun i hi lo hi' => ?_) fun j hj lo hi' => ?_
      · have hi0 := hi
        rw [← Nat.blt_eq] at hi
        simp only [hi, cond_true]
        have := mkCl_ok hp' lo hi' (lookT i mt)
        have e2 := hterm i hi0
        have e3 : (lookT i mt).den E' = (lookT i mt).den X.E := congrArg Arg.n e2
        have e4 : (lookT i mt).row E' = (lookT i mt).row X.E := congrArg Arg.s e2
        rw [e3, e4] at this
        exact this
      · have : Nat.blt (c.n + j) c.n = false := by
          cases hb : Nat.blt (c.n + j) c.n
          · rfl
          · rw [Nat.blt_eq] at hb; omega
        simp only [this, cond_false]
        rw [show b + (c.n + j - c.n) = b + j by omega, ← hx j hj]
        exact ⟨rfl, fun _ => rfl⟩
    have hlen : (useRes c st mt bm b k).m.length = st.m.length + c.news.length := by simp [useRes]
    -- the blocks' numbers
    obtain ⟨R, R1, R2⟩ : ∃ R : Nat → Rb, (∀ i, i < st.m.length → R i = ρ i) ∧ ∀ j, R (st.m.length + j) = ρ1 (c.blks.length + j) :=
      ⟨fun i => if i < st.m.length then ρ i else ρ1 (c.blks.length + (i - st.m.length)), fun i hi => if_pos hi, fun j => by
        simp only
        rw [if_neg (by omega)]; congr 1; omega⟩
    have hβ : ∀ p, p < c.blks.length + c.news.length → useBeta c.blks.length bm st.m.length p < st.m.length + c.news.length ∧ R (useBeta c.blks.length bm st.m.length p) = ρ1 p := by
      intro p hp
      unfold useBeta
      cases hb : Nat.blt p c.blks.length
      · have hb' : ¬ p < c.blks.length := by rw [← Nat.blt_eq, hb]; exact Bool.false_ne_true
        simp only [cond_false]
        refine ⟨by omega, ?_⟩
        rw [R2]
        congr 1; omega
      · rw [Nat.blt_eq] at hb
        have := bmlt p hb
        simp only [cond_true]
        rw [R1 _ this]
        exact ⟨by omega, (ho.same p hb).symm⟩
    have hβj : ∀ j, useBeta c.blks.length bm st.m.length (c.blks.length + j) = st.m.length + j := fun j => by
      have : Nat.blt (c.blks.length + j) c.blks.length = false := by
        cases hb : Nat.blt (c.blks.length + j) c.blks.length
        · rfl
        · rw [Nat.blt_eq] at hb; omega
      simp only [useBeta, this, cond_false]; omega
    have newj : ∀ (j : Nat) (b' : Bk), (c.news.map (·.sub (useSg c.n c.cnt st.pc mt b) (useBeta c.blks.length bm st.m.length)))[j]? = some b' → ∃ b0, c.news[j]? = some b0 ∧ b' = b0.sub (useSg c.n c.cnt st.pc mt b) (useBeta c.blks.length bm st.m.length) := fun j b' hj => by
      rw [List.getElem?_map, Option.map_eq_some_iff] at hj
      obtain ⟨b0, h1, h2⟩ := hj
      exact ⟨b0, h1, h2.symm⟩
    have hρj := R2
    refine ⟨v, E', R, he, ⟨hag, R1, ?_, hk⟩, ?_, ?_, ?_, hds⟩
    · show st.m.length ≤ (useRes c st mt bm b k).m.length
      rw [hlen]; omega
    · rw [hlen]
      exact Lr.sub hs' hβ hl
    · have hm1 : MemR (X.at E') ρ st.m w' := (MemR.agree hag q9 hm).below hb
      refine hm1.more (S := w.heap.size) hm.fr.size (fun i b hi hb => ?_) R1 (fun j b' hj => ?_) (fun i j bi bj hi hj h3 h4 heq => ?_) (fun j b' hj ht => ?_)
      · exact (MemR.agree hag q9 hm).live_lt hi hb
      · obtain ⟨b0, h1, rfl⟩ := newj j b' hj
        have h2 := ho.mem j b0 h1
        simp only [List.length_map]
        rw [hρj]
        exact Br.sub hs' hβ h2
      · obtain ⟨b0, h5, rfl⟩ := newj i bi hi
        obtain ⟨b1, h6, rfl⟩ := newj j bj hj
        rw [hρj, hρj] at heq
        exact ho.inj i j b0 b1 h5 h6 ((Bk.there_sub hs').1 h3) ((Bk.there_sub hs').1 h4) heq
      · obtain ⟨b0, h5, rfl⟩ := newj j b' hj
        rw [hρj]
        exact ho.new j b0 h5 ((Bk.there_sub hs').1 ht)
    · intro p hp1
      rcases List.mem_append.1 hp1 with hp1 | hp1
      · exact pcOk_sub hs' hpost p hp1
      · exact hp' p hp1
  split at h
  · rename_i b hb'
    cases h
    refine fin X.E b st.k rfl (Agree.refl _ _) (Nat.le_refl _) hd fun j hj => ?_
    have hdef := findC_ok hd hb'
    rw [hdef j hj, letters_pat, hF]
  · cases hbel : st.k.ds.all (·.bel st.k.nv) <;> simp only [hbel, cond_true, cond_false] at h
    · cases h
    cases h
    have hag := ext_agree X.E (.call st.k.nv c.id (termsOf mt c.n []) c.cnt)
    have hdok := ext_ok (E := X.E) (d := .call st.k.nv c.id (termsOf mt c.n []) c.cnt) q10
    have hme : (termsOf mt c.n []).map (T.me ((Df.call st.k.nv c.id (termsOf mt c.n []) c.cnt).ext X.E)) = (termsOf mt c.n []).map (T.me X.E) := by
      rw [List.all_eq_true] at q10
      exact List.map_congr_left fun t ht => T.bel_me hag (q10 t ht)
    refine fin _ st.k.nv _ rfl hag (Nat.le_add_right _ _) (fun d hd' => ?_) fun j hj => ?_
    · rcases List.mem_cons.1 hd' with rfl | hd'
      · exact hdok
      · rw [List.all_eq_true] at hbel
        exact Df.ok_agree hag (hbel d hd') (hd d hd')
    · rw [hdok j hj, hme, hag.F, letters_pat, hF]
theorem smOf_ok [Fs] {P : Program} : ∀ {l : List Mf}, AllM P l → SmOk P (smOf l) := by
  intro l
  induction l with
  | nil => intro _ g st xs r h; cases h
  | cons c l ih =>
    intro hl g st xs r h
    simp only [smOf] at h
    cases hb : Nat.beq g c.g <;> simp only [hb, cond_true, cond_false] at h
    · exact ih hl.2 g st xs r h
    · split at h
      · rename_i y hy
        cases h
        rw [Nat.eq_of_beq_eq_true hb]
        exact fun X ρ args w hF hp hd hm ha => useM_ok hl.1 hy X ρ args w hF hp hd hm ha
      · exact ih hl.2 g st xs r h
/-- A run's surroundings with cards of both kinds. -/
def cfM (l : List Pf) (lm : List Mf) : Cf := ⟨smOf lm, spOf l, fun _ => true, noLp⟩
theorem cfM_ok [Fs] {P : Program} {l : List Pf} {lm : List Mf} (h : AllP P l) (hm : AllM P lm) : CfOk P (cfM l lm) := ⟨smOf_ok hm, spOf_ok h, noLp_ok⟩
end Go.Sy
namespace Go.Sy
/-- Does a run tell this? -/
def chkMf (P : Program) (cf : Cf) (fuel : Nat) (c : Mf) (ds : List Df) (ls : List T) : Bool := match runMf P cf fuel c with
  | some t => listB Df.beq t.ds ds && listB T.beq t.ls ls
  | none => false
theorem chkMf_ok [Fs] {P : Program} {cf : Cf} {fuel : Nat} {c : Mf} {ds : List Df} {ls : List T} (h : chkMf P cf fuel c ds ls = true) : ∃ pc, runMf P cf fuel c = some ⟨pc, ds, ls⟩ := by
  unfold chkMf at h
  split at h
  · rename_i t ht
    simp only [Bool.and_eq_true] at h
    obtain ⟨h1, h2⟩ := h
    obtain ⟨pc, ds', ls'⟩ := t
    have e1 := listB_eq (fun _ _ => Df.beq_eq) h1
    have e2 := listB_eq (fun _ _ => T.beq_eq) h2
    simp only at e1 e2
    subst e1 e2
    exact ⟨pc, ht⟩
  · cases h
theorem cardM_ok [Fs] {P : Program} {cf : Cf} (hcf : CfOk P cf) {fuel : Nat} {c : Mf} {ds : List Df} {ls : List T} (h : chkMf P cf fuel c ds ls = true) (l1 l2 : List Fk) (hT : Fs.F = mkF (l1 ++ ⟨c.id, c.n, ds, ls⟩ :: l2)) (ho : okF (l1 ++ ⟨c.id, c.n, ds, ls⟩ :: l2) = true) : MfOk P c := by
  obtain ⟨pc, hr⟩ := chkMf_ok h
  refine mf_ok hcf hr fun E hE _ hd => ?_
  have := spec_ok (c := ⟨c.id, c.n, ds, ls⟩) ho (E := E) (hE.trans hT) hd
  rw [← hT] at this
  exact this
end Go.Sy
