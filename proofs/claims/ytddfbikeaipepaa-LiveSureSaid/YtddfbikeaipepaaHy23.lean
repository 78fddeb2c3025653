/- Part 23 of a checked reader of Go texts in their model form: it runs a function at terms in the place of numbers, and each part proves that its answers hold of the model. -/
import Derived.Test.YtddfbikeaipepaaHy22
namespace Go.Sy
/-! calls of functions that read memory -/
def Bk.toRo : Bk → Bk
  | .cells ty xs => .cells (Nat.add (Nat.mul 2 (Nat.div ty 2)) 1) xs
  | .arr ty n cols => .arr (Nat.add (Nat.mul 2 (Nat.div ty 2)) 1) n cols
  | .dead => .dead
theorem toRo_div [Fs] (t : Nat) : Nat.div (Nat.add (Nat.mul 2 (Nat.div t 2)) 1) 2 = Nat.div t 2 := by
  show (2 * (t / 2) + 1) / 2 = t / 2; omega
theorem toRo_mod [Fs] (t : Nat) : ¬ Nat.beq (Nat.mod (Nat.add (Nat.mul 2 (Nat.div t 2)) 1) 2) 1 = false := by
  have : (2 * (t / 2) + 1) % 2 = 1 := by omega
  show ¬ Nat.beq ((2 * (t / 2) + 1) % 2) 1 = false
  rw [this]; decide
theorem Br.toRo [Fs] {E : Env} {ρ : Nat → Rb} {n : Nat} {z : Rb} {b : Bk} {o : Option Obj} (h : Br E ρ n z b o) : Br E ρ n z b.toRo o := by
  cases b with
  | cells ty xs => obtain ⟨cs, h1, h2⟩ := h; exact ⟨cs, by rw [toRo_div]; exact h1, h2⟩
  | arr ty k cols => exact ⟨h.1, fun hk => let ⟨cs, t, fr, h1, _, h3⟩ := h.2 hk; ⟨cs, t, fr, h1, fun hc => absurd hc (toRo_mod ty), h3⟩⟩
  | dead => trivial
theorem Bk.toRo_there [Fs] {E : Env} {b : Bk} : b.toRo.there E ↔ b.there E := by cases b <;> exact Iff.rfl
section memory
variable {X : Cx} {ρ ρ' : Nat → Rb} {m nb : List Bk} {w : World}
/-- New blocks, behind the others. -/
theorem MemR.more [Fs] (h : MemR X ρ m w) {S : Nat} (hS : X.w0.heap.size ≤ S) (hlive : ∀ (i : Nat) (b : Bk), m[i]? = some b → b.there X.E → (ρ i).g < S) (hρ : ∀ i, i < m.length → ρ' i = ρ i)
    (hmem : ∀ (j : Nat) (b : Bk), nb[j]? = some b → Br X.E ρ' (m.length + nb.length) (ρ' (m.length + j)) b w.heap[(ρ' (m.length + j)).g]?)
    (hinj : ∀ (i j : Nat) (bi bj : Bk), nb[i]? = some bi → nb[j]? = some bj → bi.there X.E → bj.there X.E → (ρ' (m.length + i)).g = (ρ' (m.length + j)).g → i = j)
    (hnew : ∀ (j : Nat) (b : Bk), nb[j]? = some b → b.there X.E → S ≤ (ρ' (m.length + j)).g) : MemR X ρ' (m ++ nb) w := by
  have split : ∀ (i : Nat) (c : Bk), (m ++ nb)[i]? = some c → (i < m.length ∧ m[i]? = some c) ∨ (∃ j, i = m.length + j ∧ nb[j]? = some c) := by
    intro i c hi
    rw [List.getElem?_append] at hi
    split at hi
    · rename_i hl; exact .inl ⟨hl, hi⟩
    · rename_i hl; exact .inr ⟨i - m.length, by omega, hi⟩
  have hl0 := h.len
  refine ⟨fun i c hi => ?_, fun i j bi bj hi hj hbi hbj heq => ?_, by simp; omega, fun i hi => by rw [hρ i (by omega)]; exact h.old i hi, fun i c hn hi hro hc => ?_, h.fr⟩
  · rw [List.length_append]
    rcases split i c hi with ⟨hl, hi'⟩ | ⟨j, rfl, hj⟩
    · rw [hρ i hl]; exact Br.mono hρ (Nat.le_add_right _ _) (h.mem i c hi')
    · exact hmem j c hj
  · rcases split i bi hi with ⟨hl, hi'⟩ | ⟨i', rfl, hi'⟩ <;> rcases split j bj hj with ⟨hl', hj'⟩ | ⟨j', rfl, hj'⟩
    · rw [hρ i hl, hρ j hl'] at heq; exact h.inj i j bi bj hi' hj' hbi hbj heq
    · rw [hρ i hl] at heq
      have := hlive i bi hi' hbi
      have := hnew j' bj hj' hbj
      omega
    · rw [hρ j hl'] at heq
      have := hlive j bj hj' hbj
      have := hnew i' bi hi' hbi
      omega
    · rw [hinj i' j' bi bj hi' hj' hbi hbj heq]
  · rcases split i c hi with ⟨hl, hi'⟩ | ⟨j, rfl, hj⟩
    · rw [hρ i hl]; exact h.new i c hn hi' hro hc
    · have := hnew j c hj hc
      exact .inl (by omega)
end memory
def useSg (n cnt : Nat) (pc : Pc) (mt : Mt) (b : Nat) : Sg := resXS n cnt fun i lo hi => bif Nat.blt i n then mkCl pc lo hi (lookT i mt) else .v (b + (i - n)) lo hi
def useBeta (B : Nat) (bm : Nat → Nat) (len : Nat) : Nat → Nat := fun p => bif Nat.blt p B then bm p else len + (p - B)
def useRes (c : Mf) (st : St) (mt : Mt) (bm : Nat → Nat) (b : Nat) (k : Kn) : SmR :=
  ⟨c.res.sub (useSg c.n c.cnt st.pc mt b) (useBeta c.blks.length bm st.m.length), st.m ++ c.news.map (·.sub (useSg c.n c.cnt st.pc mt b) (useBeta c.blks.length bm st.m.length)),
    pcSub (useSg c.n c.cnt st.pc mt b) c.post ++ st.pc, k⟩
def theBm (c : Mf) (st : St) (xs : List A) (p : Nat) : Nat := lookN p (bBs st.m 0 c.blks (bAs c.args xs))
def useM (c : Mf) (st : St) (xs : List A) : Option SmR :=
  let bm := theBm c st xs
  let got := (List.range c.blks.length).map fun p => bkAt st.m (bm p)
  let mt := mAs c.args xs ++ mBs c.blks got
  bif listB A.fits (c.args.map (·.sub (patS st.pc mt) bm)) xs && listB Bk.beq (c.blks.map (·.sub (patS st.pc mt) bm)) (got.map (·.toRo)) && c.args.all (·.blk c.blks.length) && c.blks.all (·.blk c.blks.length) &&
    nodupN ((List.range c.blks.length).map bm) && (List.range c.blks.length).all (fun p => Nat.blt (bm p) st.m.length) && sureAll st.pc (patS st.pc mt) c.pre && pcBel st.k.nv st.pc && st.m.all (·.bel st.k.nv) && (termsOf mt c.n []).all (·.bel st.k.nv) then
    match findC c.id (termsOf mt c.n []) c.cnt st.k.ds with
    | some b => some (useRes c st mt bm b st.k)
    | none => bif st.k.ds.all (·.bel st.k.nv) then some (useRes c st mt bm st.k.nv ⟨.call st.k.nv c.id (termsOf mt c.n []) c.cnt :: st.k.ds, st.k.nv + c.cnt⟩) else none
  else none
def smOf (l : List Mf) (g : Nat) (st : St) (xs : List A) : Option SmR := match l with
  | [] => none
  | c :: r => bif Nat.beq g c.g then match useM c st xs with
    | some y => some y
    | none => smOf r g st xs
    else smOf r g st xs
def AllM [Fs] (P : Program) : List Mf → Prop
  | [] => True
  | c :: r => MfOk P c ∧ AllM P r
theorem useM_ok [Fs] {P : Program} {c : Mf} (hc : MfOk P c) {st : St} {xs : List A} {r : SmR} (h : useM c st xs = some r) (X : Cx) (ρ : Nat → Rb) (args : Array Value) (w : World) (hF : X.E.F = Fs.F) (hp : pcOk X.E st.pc) (hd : ∀ d ∈ st.k.ds, d.ok X.E)
    (hm : MemR X ρ st.m w) (ha : F2 (Ar X.E ρ st.m.length) xs args) : (∃ fn, P.funcs[c.g]? = some fn ∧ fn.body.isSome = true ∧ (fn.name == "runtime.NumGoroutine") = false) ∧
    Calls P c.g args w fun e w' => ∃ v E' ρ', e = .returned v ∧ Later X.E ρ st.m.length st.k.nv E' ρ' ⟨st.s, r.m, r.pc, r.k⟩ ∧ Lr E' ρ' r.m.length r.l v ∧ MemR (X.at E') ρ' r.m w' ∧ pcOk E' r.pc ∧ ∀ d ∈ r.k.ds, d.ok E' := by
  unfold useM at h
  dsimp only at h
  generalize hbm : theBm c st xs = bm at h
  generalize hmt : mAs c.args xs ++ mBs c.blks ((List.range c.blks.length).map fun p => bkAt st.m (bm p)) = mt at h
  cases hq : listB A.fits (c.args.map (·.sub (patS st.pc mt) bm)) xs && listB Bk.beq (c.blks.map (·.sub (patS st.pc mt) bm)) (((List.range c.blks.length).map fun p => bkAt st.m (bm p)).map (·.toRo)) && c.args.all (·.blk c.blks.length) && c.blks.all (·.blk c.blks.length) &&
    nodupN ((List.range c.blks.length).map bm) && (List.range c.blks.length).all (fun p => Nat.blt (bm p) st.m.length) && sureAll st.pc (patS st.pc mt) c.pre && pcBel st.k.nv st.pc && st.m.all (·.bel st.k.nv) && (termsOf mt c.n []).all (·.bel st.k.nv) <;> simp only [hq, cond_true, cond_false] at h
  · cases h
  simp only [Bool.and_eq_true] at hq
  obtain ⟨⟨⟨⟨⟨⟨⟨⟨⟨q1, q2⟩, q3⟩, q4⟩, q5⟩, q6⟩, q7⟩, q8⟩, q9⟩, q10⟩ := hq
  have q2 := listB_eq (fun _ _ => Bk.beq_eq) q2
  rw [List.all_eq_true] at q4 q6
  have hs := patS_ok hp mt
  replace ha := fitsAll q1 ha
  have hpat : F2 (Ar (patE X.E mt) (fun p => ρ (bm p)) c.blks.length) c.args args := F2A.unsub (β := bm) hs (fun b _ => rfl) q3 ha
  have bmlt : ∀ p, p < c.blks.length → bm p < st.m.length := fun p hp => by
    have := q6 p (by simpa using hp)
    rwa [Nat.blt_eq] at this
  have gotp : ∀ p b, c.blks[p]? = some b → b.sub (patS st.pc mt) bm = (bkAt st.m (bm p)).toRo := fun p b hb => by
    have h3 : (c.blks.map (·.sub (patS st.pc mt) bm))[p]? = some (b.sub (patS st.pc mt) bm) := by rw [List.getElem?_map, hb]; rfl
    rw [q2, List.getElem?_map, List.getElem?_map, List.getElem?_range (List.getElem?_eq_some_iff.1 hb).1] at h3
    simpa using h3.symm
  have bkp : ∀ p, p < c.blks.length → st.m[bm p]? = some (bkAt st.m (bm p)) := fun p hp => by
    unfold bkAt
    rw [List.getElem?_eq_getElem (bmlt p hp)]; rfl
  have hin : InB (patE X.E mt) (fun p => ρ (bm p)) c.blks w := by
    refine ⟨fun p b hb => ?_, fun i j bi bj hi hj h3 h4 heq => ?_⟩
    · have hlt := (List.getElem?_eq_some_iff.1 hb).1
      refine Br.unsub (β := bm) (ρ' := ρ) (n' := st.m.length) hs (fun b _ => rfl) (q4 b (List.mem_of_getElem? hb)) ?_
      rw [gotp p b hb]
      exact (hm.mem _ _ (bkp p hlt)).toRo
    · have hi' := (List.getElem?_eq_some_iff.1 hi).1
      have hj' := (List.getElem?_eq_some_iff.1 hj).1
      have t1 : (bkAt st.m (bm i)).there X.E := by rw [← Bk.toRo_there, ← gotp i bi hi]; exact (Bk.there_sub hs).2 h3
      have t2 : (bkAt st.m (bm j)).there X.E := by rw [← Bk.toRo_there, ← gotp j bj hj]; exact (Bk.there_sub hs).2 h4
      have e := hm.inj _ _ _ _ (bkp i hi') (bkp j hj') t1 t2 heq
      refine nodupN_ok q5 i j (bm i) ?_ ?_
      · rw [List.getElem?_map, List.getElem?_range hi']; rfl
      · rw [List.getElem?_map, List.getElem?_range hj', e]; rfl
  obtain ⟨hfn, hcall⟩ := hc
  refine ⟨hfn, (hcall (patE X.E mt) _ args w hF (sureAll_ok hp hs q7) hpat hin).mono fun e w' ⟨v, ρ1, he, hb, hl, ho, hpost⟩ => ?_⟩
  -- whichever letters stand for the results
  have fin : ∀ (E' : Env) (b : Nat) (k : Kn), r = useRes c st mt bm b k → Agree X.E E' st.k.nv → st.k.nv ≤ k.nv → (∀ d ∈ k.ds, d.ok E') → (∀ j, j < c.cnt → E'.x (b + j) = ((Fs.F c.id (letters (patE X.E mt) c.n))[j]?).getD default) →
      ∃ v E' ρ', e = .returned v ∧ Later X.E ρ st.m.length st.k.nv E' ρ' ⟨st.s, r.m, r.pc, r.k⟩ ∧ Lr E' ρ' r.m.length r.l v ∧ MemR (X.at E') ρ' r.m w' ∧ pcOk E' r.pc ∧ ∀ d ∈ r.k.ds, d.ok E' := by
    intro E' b k hr hag hk hds hx
    subst hr
    have hp' : pcOk E' st.pc := pcOk_agree hag q8 hp
    have hterm : ∀ i, i < c.n → (lookT i mt).me E' = (lookT i mt).me X.E := fun i hi => by
      refine T.bel_me hag ?_
      rw [List.all_eq_true] at q10
      refine q10 _ ?_
      rw [termsOf_eq, List.append_nil]
      exact List.mem_map.2 ⟨i, by simpa using hi, rfl⟩
    have hs' : SubOk (resX (patE X.E mt) c.n c.cnt (Fs.F c.id (letters (patE X.E mt) c.n))) E' (useSg c.n c.cnt st.pc mt b) := by
      refine resXS_ok hag.F (fun i hi lo hi' => ?_) fun j hj lo hi' => ?_
      · have hi0 := hi
        rw [← Nat.blt_eq] at hi
        simp only [hi, cond_true]
        have := mkCl_ok hp' lo hi' (lookT i mt)
        have e2 := hterm i hi0
        have e3 : (lookT i mt).den E' = (lookT i mt).den X.E := congrArg Arg.n e2
        have e4 : (lookT i mt).row E' = (lookT i mt).row X.E := congrArg Arg.s e2
        rw [e3, e4] at this
        exact this
      · have : Nat.blt (c.n + j) c.n = false := by
          cases hb : Nat.blt (c.n + j) c.n
          · rfl
          · rw [Nat.blt_eq] at hb; omega
        simp only [this, cond_false]
        rw [show b + (c.n + j - c.n) = b + j by omega, ← hx j hj]
        exact ⟨rfl, fun _ => rfl⟩
    have hlen : (useRes c st mt bm b k).m.length = st.m.length + c.news.length := by simp [useRes]
    -- the blocks' numbers
    obtain ⟨R, R1, R2⟩ : ∃ R : Nat → Rb, (∀ i, i < st.m.length → R i = ρ i) ∧ ∀ j, R (st.m.length + j) = ρ1 (c.blks.length + j) :=
      ⟨fun i => if i < st.m.length then ρ i else ρ1 (c.blks.length + (i - st.m.length)), fun i hi => if_pos hi, fun j => by
        simp only
        rw [if_neg (by omega)]; congr 1; omega⟩
    have hβ : ∀ p, p < c.blks.length + c.news.length → useBeta c.blks.length bm st.m.length p < st.m.length + c.news.length ∧ R (useBeta c.blks.length bm st.m.length p) = ρ1 p := by
      intro p hp
      unfold useBeta
      cases hb : Nat.blt p c.blks.length
      · have hb' : ¬ p < c.blks.length := by rw [← Nat.blt_eq, hb]; exact Bool.false_ne_true
        simp only [cond_false]
        refine ⟨by omega, ?_⟩
        rw [R2]
        congr 1; omega
      · rw [Nat.blt_eq] at hb
        have := bmlt p hb
        simp only [cond_true]
        rw [R1 _ this]
        exact ⟨by omega, (ho.same p hb).symm⟩
    have hβj : ∀ j, useBeta c.blks.length bm st.m.length (c.blks.length + j) = st.m.length + j := fun j => by
      have : Nat.blt (c.blks.length + j) c.blks.length = false := by
        cases hb : Nat.blt (c.blks.length + j) c.blks.length
        · rfl
        · rw [Nat.blt_eq] at hb; omega
      simp only [useBeta, this, cond_false]; omega
    have newj : ∀ (j : Nat) (b' : Bk), (c.news.map (·.sub (useSg c.n c.cnt st.pc mt b) (useBeta c.blks.length bm st.m.length)))[j]? = some b' → ∃ b0, c.news[j]? = some b0 ∧ b' = b0.sub (useSg c.n c.cnt st.pc mt b) (useBeta c.blks.length bm st.m.length) := fun j b' hj => by
      rw [List.getElem?_map, Option.map_eq_some_iff] at hj
      obtain ⟨b0, h1, h2⟩ := hj
      exact ⟨b0, h1, h2.symm⟩
    have hρj := R2
    refine ⟨v, E', R, he, ⟨hag, R1, ?_, hk⟩, ?_, ?_, ?_, hds⟩
    · show st.m.length ≤ (useRes c st mt bm b k).m.length
      rw [hlen]; omega
    · rw [hlen]
      exact Lr.sub hs' hβ hl
    · have hm1 : MemR (X.at E') ρ st.m w' := (MemR.agree hag q9 hm).below hb
      refine hm1.more (S := w.heap.size) hm.fr.size (fun i b hi hb => ?_) R1 (fun j b' hj => ?_) (fun i j bi bj hi hj h3 h4 heq => ?_) (fun j b' hj ht => ?_)
      · exact (MemR.agree hag q9 hm).live_lt hi hb
      · obtain ⟨b0, h1, rfl⟩ := newj j b' hj
        have h2 := ho.mem j b0 h1
        simp only [List.length_map]
        rw [hρj]
        exact Br.sub hs' hβ h2
      · obtain ⟨b0, h5, rfl⟩ := newj i bi hi
        obtain ⟨b1, h6, rfl⟩ := newj j bj hj
        rw [hρj, hρj] at heq
        exact ho.inj i j b0 b1 h5 h6 ((Bk.there_sub hs').1 h3) ((Bk.there_sub hs').1 h4) heq
      · obtain ⟨b0, h5, rfl⟩ := newj j b' hj
        rw [hρj]
        exact ho.new j b0 h5 ((Bk.there_sub hs').1 ht)
    · intro p hp1
      rcases List.mem_append.1 hp1 with hp1 | hp1
      · exact pcOk_sub hs' hpost p hp1
      · exact hp' p hp1
  split at h
  · rename_i b hb'
    cases h
    refine fin X.E b st.k rfl (Agree.refl _ _) (Nat.le_refl _) hd fun j hj => ?_
    have hdef := findC_ok hd hb'
    rw [hdef j hj, letters_pat, hF]
  · cases hbel : st.k.ds.all (·.bel st.k.nv) <;> simp only [hbel, cond_true, cond_false] at h
    · cases h
    cases h
    have hag := ext_agree X.E (.call st.k.nv c.id (termsOf mt c.n []) c.cnt)
    have hdok := ext_ok (E := X.E) (d := .call st.k.nv c.id (termsOf mt c.n []) c.cnt) q10
    have hme : (termsOf mt c.n []).map (T.me ((Df.call st.k.nv c.id (termsOf mt c.n []) c.cnt).ext X.E)) = (termsOf mt c.n []).map (T.me X.E) := by
      rw [List.all_eq_true] at q10
      exact List.map_congr_left fun t ht => T.bel_me hag (q10 t ht)
    refine fin _ st.k.nv _ rfl hag (Nat.le_add_right _ _) (fun d hd' => ?_) fun j hj => ?_
    · rcases List.mem_cons.1 hd' with rfl | hd'
      · exact hdok
      · rw [List.all_eq_true] at hbel
        exact Df.ok_agree hag (hbel d hd') (hd d hd')
    · rw [hdok j hj, hme, hag.F, letters_pat, hF]
theorem smOf_ok [Fs] {P : Program} : ∀ {l : List Mf}, AllM P l → SmOk P (smOf l) := by
  intro l
  induction l with
  | nil => intro _ g st xs r h; cases h
  | cons c l ih =>
    intro hl g st xs r h
    simp only [smOf] at h
    cases hb : Nat.beq g c.g <;> simp only [hb, cond_true, cond_false] at h
    · exact ih hl.2 g st xs r h
    · split at h
      · rename_i y hy
        cases h
        rw [Nat.eq_of_beq_eq_true hb]
        exact fun X ρ args w hF hp hd hm ha => useM_ok hl.1 hy X ρ args w hF hp hd hm ha
      · exact ih hl.2 g st xs r h
/-- A run's surroundings with cards of both kinds. -/
def cfM (l : List Pf) (lm : List Mf) : Cf := ⟨smOf lm, spOf l, fun _ => true, noLp⟩
theorem cfM_ok [Fs] {P : Program} {l : List Pf} {lm : List Mf} (h : AllP P l) (hm : AllM P lm) : CfOk P (cfM l lm) := ⟨smOf_ok hm, spOf_ok h, noLp_ok⟩
end Go.Sy
