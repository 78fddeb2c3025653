/- Part 29 of a checked reader of Go texts in their model form: it runs a function at terms in the place of numbers, and each part proves that its answers hold of the model. -/
import Derived.Test.YtpjmhngcdbpmpaaLy25
namespace Go.Sy
theorem map_get [Fs] {α β : Type} [Inhabited β] {f : α → β} {l : List α} {k : Nat} {x : α} (h : l[k]? = some x) : ((l.map f)[k]?).getD default = f x := by
  rw [List.getElem?_map, h]; rfl
/-- The loop's rule. -/
theorem lpRun_ok [Fs] {P : Program} {l : Ls} (hF : ∀ args, Fs.F l.c.id args = l.c.spec Fs.F args) {body : Code} {st : St} {run : Code → St → Option (List Out)} {outs : List Out} (hrun : RunOk P run) (h : lpRun l body st run = some outs)
    {X : Cx} {ρ : Nat → Rb} {a : Act} {w : World} (hr : Rel X ρ st a w) {Q : Exit → Act → World → Prop} (hs : ∀ o ∈ outs, Sat X ρ st.m.length st.k.nv Q o) : (Code.loop body).wp P Q a w := by
  unfold lpRun at h
  rw [St.fc_eq, fcLs_eq T.fc_eq] at h
  generalize hes : vals l l.c.s (lpMt l st) = es at h
  generalize hgen : lpGen l st = gen at h
  cases hq : lpEntry l st gen es <;> simp only [hq, cond_true, cond_false] at h
  · cases h
  split at h
  case h_2 => cases h
  rename_i os hos
  rw [fcLs_eq Out.fc_eq] at h
  split at h
  case h_2 => cases h
  rename_i rs hrs
  rw [fcLs_eq Out.fc_eq] at h
  cases h
  have h := hrs
  simp only [lpEntry, Bool.and_eq_true] at hq
  obtain ⟨⟨⟨⟨⟨⟨⟨⟨⟨⟨q1, q2⟩, q3⟩, q4⟩, q5⟩, q6⟩, q7⟩, q8⟩, q9⟩, q10⟩, q11⟩ := hq
  have q1 := Nat.eq_of_beq_eq_true q1
  have q3 := Nat.eq_of_beq_eq_true q3
  have hn : l.c.n0 ≤ l.n := Nat.le_add_right _ _
  have hesl : es.length = l.c.s := by rw [← hes]; exact vals_length
  have hgm : gen.m.length = st.m.length := by rw [← hgen]; exact setBs_length
  have hgk : gen.k = ⟨st.k.ds, l.n⟩ := by rw [← hgen]; rfl
  have hgp : gen.pc = l.inv ++ st.pc := by rw [← hgen]; rfl
  have hbel := q2
  simp only [St.bel, Bool.and_eq_true] at hbel
  obtain ⟨⟨⟨b1, b2⟩, b3⟩, b4⟩ := hbel
  rw [List.all_eq_true] at b4
  -- what stands fast holds in whatever letters turn
  have hpc : ∀ E : Env, Agree X.E E l.c.n0 → pcOk E l.inv → pcOk E gen.pc := fun E hE hi => by
    rw [hgp]
    intro p hp
    rcases List.mem_append.1 hp with hp | hp
    · exact hi p hp
    · exact pcOk_agree (by rw [q1]; exact hE) b3 hr.pc p hp
  have hds : ∀ E : Env, Agree X.E E l.c.n0 → ∀ d ∈ gen.k.ds, d.ok E := fun E hE d hd => by
    rw [hgk] at hd
    exact Df.ok_agree (by rw [q1]; exact hE) (b4 d hd) (hr.ds d hd)
  -- at first
  obtain ⟨E0, hE0⟩ : ∃ E0, E0 = resX X.E l.c.n0 l.c.s (es.map (T.me X.E)) := ⟨_, rfl⟩
  have hs0 : SubOk E0 X.E (runSg l.c.n0 l.c.s st.pc (lpMt l st)) := by
    rw [hE0]
    exact runSg_ok hr.pc _ _ _ _ fun k hk => by rw [← hes]; exact vals_get hk
  have resAg : ∀ (E : Env) (t : Nat) (rs : List Arg), Agree X.E E l.c.n0 → Agree X.E (resX E l.c.n0 t rs) l.c.n0 := fun E t rs hE => ⟨hE.F, fun i hi => by simp only [resX, if_pos hi]; exact hE.x i hi⟩
  have resGet : ∀ (E : Env) (t : Nat) (rs : List Arg) (j : Nat), j < t → (resX E l.c.n0 t rs).x (l.c.n0 + j) = (rs[j]?).getD default := fun E t rs j hj => by
    simp only [resX]
    rw [if_neg (by omega), if_pos (by omega)]
    congr 2; omega
  have ag0 : Agree X.E E0 l.c.n0 := by rw [hE0]; exact resAg _ _ _ (Agree.refl _ _)
  have hrel0 : Rel (X.at E0) ρ gen a w :=
    rel_pat (E2 := X.E) (st' := st) hr hs0 q6 q7 (by rw [hgm]; exact hr.mr.len) (hpc E0 ag0 (sureAll_ok hr.pc hs0 q8)) (hds E0 ag0)
  obtain ⟨A0, hA0⟩ : ∃ A0, A0 = (l.par ++ es).map (T.me X.E) := ⟨_, rfl⟩
  have hA0' : hA l.par X.E E0 l.c.n0 l.c.s = A0 := by
    rw [hA0, List.map_append, hA]
    congr 1
    refine List.ext_getElem? fun j => ?_
    by_cases hj : j < l.c.s
    · rw [List.getElem?_map, List.getElem?_range hj, Option.map_some, hE0, resGet _ _ _ _ hj]
      rw [List.getElem?_eq_getElem (by rw [List.length_map, hesl]; exact hj)]; rfl
    · rw [List.getElem?_eq_none (by simp; omega), List.getElem?_eq_none (by rw [List.length_map, hesl]; omega)]
  have hmu : ∀ E : Env, Agree X.E E l.c.n0 → l.c.mu.den (argE Fs.F (hA l.par X.E E l.c.n0 l.c.s)) = l.c.mu.den E := fun E hE => by
    rw [← (T.rok_me (E := E) q11).1]
    exact T.bel_den (n := l.n) (E := clE l.par l.c.n0 E) ⟨hr.F.symm.trans hE.F.symm |>.trans rfl, fun i hi => (hA_x q3 q4 hE i hi).symm⟩ q10
  refine wp_loopN (fun m a w => ∃ (E : Env) (ρ' : Nat → Rb) (k : Nat), Agree X.E E l.c.n0 ∧ (∀ i, i < st.m.length → ρ' i = ρ i) ∧ Rel (X.at E) ρ' gen a w ∧ (l.c.mu.den E).toNat = m ∧ k + m ≤ (l.c.mu.den E0).toNat ∧
      ∀ f r, iter Fs.F l.c f (hA l.par X.E E l.c.n0 l.c.s) = some r → iter Fs.F l.c (f + k) A0 = some r) ?_ (m := (l.c.mu.den E0).toNat) ⟨E0, ρ, 0, ag0, fun _ _ => rfl, hrel0, rfl, by omega, fun f r hf => by rw [← hA0']; exact hf⟩
  rintro m a w ⟨E, ρ', kk, agE, hρ, hrel, hm, hk, hist⟩
  refine hrun _ _ _ hos (X.at E) ρ' a w hrel _ fun o ho => ?_
  obtain ⟨k, wy, x, oo, hwk, hway, hoo⟩ := lpOuts_mem h o ho
  rw [Nat.zero_add] at hway
  cases o with
  | bad pc ds => cases hway
  | good e st' =>
    have hnp : ∀ c, e ≠ .pan c := fun c hc => by subst hc; cases hway
    have hway : (match contig l.n wy.ds with
      | none => none
      | some h => bif wayB l st st' wy (l.c.ways.take k) h then match e with
        | .norm => bif lpGo l gen st' wy then some [] else none
        | e => bif lpX l gen st' wy x then some [lpOut l st gen (l.par ++ es) k e x] else none
        else none) = some oo := by
      cases e <;> first | exact hway | exact absurd rfl (hnp _)
    split at hway
    · cases hway
    rename_i hh hcon
    cases hwb : wayB l st st' wy (l.c.ways.take k) hh <;> simp only [hwb, cond_true, cond_false] at hway
    · cases hway
    suffices core : ∀ E2 ρ2 a2 w2, Later (X.at E).E ρ' gen.m.length gen.k.nv E2 ρ2 st' → Rel ((X.at E).at E2) ρ2 st' a2 w2 → Exit.then (fun a w => ∃ m', m' < m ∧ ∃ (E : Env) (ρ' : Nat → Rb) (k : Nat), Agree X.E E l.c.n0 ∧ (∀ i, i < st.m.length → ρ' i = ρ i) ∧ Rel (X.at E) ρ' gen a w ∧ (l.c.mu.den E).toNat = m' ∧ k + m' ≤ (l.c.mu.den E0).toNat ∧
      ∀ f r, iter Fs.F l.c f (hA l.par X.E E l.c.n0 l.c.s) = some r → iter Fs.F l.c (f + k) A0 = some r) Q e.to a2 w2 by
      cases e with
      | pan c => exact absurd rfl (hnp c)
      | _ => exact core
    intro E2 ρ2 a2 w2 L g3
    have agE2 : Agree E E2 l.n := by have := L.E; rw [hgk] at this; exact this
    have agX2 : Agree X.E E2 l.c.n0 := ⟨agE2.F.trans agE.F, fun i hi => (agE2.x i (by omega)).trans (agE.x i hi)⟩
    obtain ⟨hpick, hvals⟩ := way_ok (X0 := X.E) (E := E) (E2 := E2) hcon hwb hwk q3 q4 agE agE2 g3.pc g3.ds g3.F
    have hmu0 : 0 ≤ l.c.mu.den E := by
      have := decB_ok (E := E) hrel.pc q9
      simpa only [T.tr, mk2_den, O2.den, T.den, tb_ne, leb_t] using this
    have hmu2 : l.c.mu.den E2 = l.c.mu.den E := T.bel_den agE2 q10
    have hρ2 : ∀ i, i < st.m.length → ρ2 i = ρ i := fun i hi => (L.ρ i (by rw [hgm]; exact hi)).trans (hρ i hi)
    have go : ∀ hgo : lpGo l gen st' wy = true, ∃ m', m' < m ∧ ∃ (E : Env) (ρ' : Nat → Rb) (k : Nat), Agree X.E E l.c.n0 ∧ (∀ i, i < st.m.length → ρ' i = ρ i) ∧ Rel (X.at E) ρ' gen a2 w2 ∧ (l.c.mu.den E).toNat = m' ∧ k + m' ≤ (l.c.mu.den E0).toNat ∧
        ∀ f r, iter Fs.F l.c f (hA l.par X.E E l.c.n0 l.c.s) = some r → iter Fs.F l.c (f + k) A0 = some r := fun hgo => by
      simp only [lpGo, Bool.and_eq_true] at hgo
      obtain ⟨⟨⟨⟨⟨g0, g1⟩, g2⟩, g4⟩, g5⟩, g6⟩ := hgo
      have g1 := listB_eq (fun _ _ => T.beq_eq) g1
      generalize mSl st'.s l.sl ++ mBl st'.m l.bl = mt at g1 g2 g4 g5 g6
      have htsl : wy.ts.length = l.c.s := by rw [← g1]; exact vals_length
      have hs' : SubOk (resX E2 l.c.n0 l.c.s (wy.ts.map (T.me E2))) E2 (runSg l.c.n0 l.c.s st'.pc mt) := runSg_ok g3.pc _ _ _ _ fun k hk => by rw [← g1]; exact vals_get hk
      have ag' := resAg E2 l.c.s (wy.ts.map (T.me E2)) agX2
      have hrel' := rel_pat (X := X) (E2 := E2) (st' := st') (gx := gen) g3 hs' g2 g4 (by rw [hgm]; exact hr.mr.len) (hpc _ ag' (sureAll_ok g3.pc hs' g5)) (hds _ ag')
      have hlt : l.c.mu.den (resX E2 l.c.n0 l.c.s (wy.ts.map (T.me E2))) < l.c.mu.den E := by
        have := decB_ok (E := E2) g3.pc g6
        simp only [T.tr, mk2_den, O2.den, tb_ne, ltb_t, T.sub_den hs', hmu2] at this
        exact this
      have hnn : 0 ≤ l.c.mu.den (resX E2 l.c.n0 l.c.s (wy.ts.map (T.me E2))) := by
        have := decB_ok (E := resX E2 l.c.n0 l.c.s (wy.ts.map (T.me E2))) hrel'.pc q9
        simpa only [T.tr, mk2_den, O2.den, T.den, tb_ne, leb_t] using this
      refine ⟨(l.c.mu.den (resX E2 l.c.n0 l.c.s (wy.ts.map (T.me E2)))).toNat, by omega, _, ρ2, kk + 1, ag', hρ2, hrel', rfl, by omega, fun f r hf => ?_⟩
      have h1 := iter_at (f := f) hpick
      simp only [g0, cond_true, hvals] at h1
      have h2 : (hA l.par X.E E l.c.n0 l.c.s).take l.c.n0 ++ wy.ts.map (T.me E2) = hA l.par X.E (resX E2 l.c.n0 l.c.s (wy.ts.map (T.me E2))) l.c.n0 l.c.s := by
        unfold hA
        rw [List.take_left' (by rw [List.length_map, q3])]
        congr 1
        refine List.ext_getElem? fun j => ?_
        by_cases hj : j < l.c.s
        · rw [List.getElem?_map (l := List.range _), List.getElem?_range hj, Option.map_some, resGet _ _ _ _ hj]
          rw [List.getElem?_eq_getElem (by rw [List.length_map, htsl]; exact hj)]; rfl
        · rw [List.getElem?_eq_none (by rw [List.length_map, htsl]; omega), List.getElem?_eq_none (by simp; omega)]
      rw [h2, hf] at h1
      have := hist (f + 1) r h1
      rw [show f + (kk + 1) = f + 1 + kk by omega]; exact this
    have out : ∀ e', (∀ c, e' ≠ .pan c) → lpX l gen st' wy x = true → lpOut l st gen (l.par ++ es) k e' x ∈ outs → Q e'.to a2 w2 := fun e' hne hx hin => by
      simp only [lpX, Bool.and_eq_true] at hx
      obtain ⟨⟨⟨⟨⟨g0, g1⟩, g2⟩, g4⟩, g5⟩, g6⟩ := hx
      have g1 := listB_eq (fun _ _ => T.beq_eq) g1
      generalize mSl st'.s (x.sl ++ l.sl) ++ mBl st'.m (x.bl ++ l.bl) = mt at g1 g2 g4 g5
      rw [Nat.blt_eq] at g6
      have g0 : wy.go = false := by
        cases hg : wy.go
        · rfl
        · rw [hg] at g0; cases g0
      have htsl : wy.ts.length = x.t := by rw [← g1]; exact vals_length
      have hs' : SubOk (resX E2 l.c.n0 x.t (wy.ts.map (T.me E2))) E2 (runSg l.c.n0 x.t st'.pc mt) := runSg_ok g3.pc _ _ _ _ fun k hk => by rw [← g1]; exact vals_get hk
      have ag' := resAg E2 x.t (wy.ts.map (T.me E2)) agX2
      have hxm : (setBs gen.m x.bl).length = gen.m.length := setBs_length
      have hrel' := rel_pat (X := X) (E2 := E2) (st' := st') (gx := ⟨setS gen.s x.sl, setBs gen.m x.bl, [], ⟨[], 0⟩⟩) g3 hs' (by simp only [hxm]; exact g2) (by simp only [hxm]; exact g4) (by simp only [hxm, hgm]; exact hr.mr.len) (fun _ h => nomatch h) (fun _ h => nomatch h)
      -- what the loop tells
      have h1 := iter_at (f := 0) hpick
      simp only [g0, cond_false, hvals] at h1
      have h2 := iter_le (hist _ _ h1) (show 0 + 1 + kk ≤ (l.c.mu.den E0).toNat + 1 by omega)
      have h3 : Fs.F l.c.id A0 = ⟨k, fun _ => k⟩ :: wy.ts.map (T.me E2) := by
        rw [hF, Lk.spec]
        have : l.c.mu.den (argE Fs.F A0) = l.c.mu.den E0 := by rw [← hA0']; exact hmu E0 ag0
        rw [this, h2]; rfl
      -- the letters behind it
      have hargs : (l.par ++ es).all (·.bel l.c.n0) = true := by rw [List.all_append, q4, q5]; rfl
      have hag := ext_agree X.E (.call l.c.n0 l.c.id (l.par ++ es) l.cnt)
      have hdok := ext_ok (E := X.E) (d := .call l.c.n0 l.c.id (l.par ++ es) l.cnt) hargs
      have hme : (l.par ++ es).map (T.me ((Df.call l.c.n0 l.c.id (l.par ++ es) l.cnt).ext X.E)) = A0 := by
        rw [hA0]
        rw [List.all_eq_true] at hargs
        exact List.map_congr_left fun t ht => T.bel_me hag (hargs t ht)
      have hres : ∀ j, j < l.cnt → ((Df.call l.c.n0 l.c.id (l.par ++ es) l.cnt).ext X.E).x (l.c.n0 + j) = ((Fs.F l.c.id A0)[j]?).getD default := fun j hj => by
        rw [hdok j hj, hme, hag.F, hr.F]
      generalize (Df.call l.c.n0 l.c.id (l.par ++ es) l.cnt).ext X.E = E1 at hag hdok hme hres
      have hag : Agree X.E E1 l.c.n0 := hag
      have hso : SubOk (resX E2 l.c.n0 x.t (wy.ts.map (T.me E2))) E1 (outSg l x.t) := by
        refine resXS_ok (hag.F.trans agX2.F.symm) (fun i hi lo hi' => ?_) fun j hj lo hi' => ?_
        · have hi0 := hi
          rw [← Nat.blt_eq] at hi
          simp only [hi, cond_true]
          have e : E1.x i = E2.x i := (hag.x i hi0).trans (agX2.x i hi0).symm
          exact ⟨by rw [T.den, e], fun j => by rw [T.row, e]⟩
        · have : Nat.blt (l.c.n0 + j) l.c.n0 = false := by
            cases hb : Nat.blt (l.c.n0 + j) l.c.n0
            · rfl
            · rw [Nat.blt_eq] at hb; omega
          simp only [this, cond_false]
          have e : E1.x (l.c.n0 + 1 + (l.c.n0 + j - l.c.n0)) = ((wy.ts.map (T.me E2))[j]?).getD default := by
            rw [show l.c.n0 + 1 + (l.c.n0 + j - l.c.n0) = l.c.n0 + (j + 1) by omega, hres (j + 1) (by omega), h3]
            rfl
          rw [← e]
          exact ⟨rfl, fun _ => rfl⟩
      have hidx : (T.bin .eq (.v l.c.n0 0 l.c.ways.length) (.lit k)).tr E1 = true := by
        have e := hres 0 (by omega)
        rw [h3] at e
        have e2 : (E1.x l.c.n0).n = k := by rw [show l.c.n0 = l.c.n0 + 0 from rfl, e]; rfl
        have hkl := (List.getElem?_eq_some_iff.1 hwk).1
        simp only [T.tr, T.den, O2.den, e2, tb_ne]
        rw [clamp_id (by omega)]
        exact beq_self_eq_true _
      have hsat := hs _ hin
      cases e' with
      | pan c => exact absurd rfl (hne c)
      | _ =>
        refine hsat E1 ρ2 a2 w2 ⟨by rw [q1]; exact hag, hρ2, ?_, ?_⟩ (rel_sub (k := ⟨.call l.c.n0 l.c.id (l.par ++ es) l.cnt :: st.k.ds, l.c.n0 + l.cnt⟩) hrel' hso ?_ ?_)
        · simp only [List.length_map, hxm, hgm]; exact Nat.le_refl _
        · simp only [q1]; exact Nat.le_add_right _ _
        · intro p hp
          rcases List.mem_cons.1 hp with rfl | hp
          · exact hidx
          rcases List.mem_append.1 hp with hp | hp
          · exact pcOk_sub hso (sureAll_ok g3.pc hs' g5) p hp
          · exact pcOk_agree (by rw [q1]; exact hag) b3 hr.pc p hp
        · intro d hd
          rcases List.mem_cons.1 hd with rfl | hd
          · exact hdok
          · exact Df.ok_agree (by rw [q1]; exact hag) (b4 d hd) (hr.ds d hd)
    cases e with
    | pan c => exact absurd rfl (hnp c)
    | norm =>
      cases hgo : lpGo l gen st' wy <;> simp only [hgo, cond_true, cond_false] at hway
      · cases hway
      exact go hgo
    | exit id =>
      cases hx : lpX l gen st' wy x <;> simp only [hx, cond_true, cond_false] at hway
      · cases hway
      cases hway
      exact out (.exit id) (fun _ h => nomatch h) hx (hoo _ List.mem_cons_self)
    | ret =>
      cases hx : lpX l gen st' wy x <;> simp only [hx, cond_true, cond_false] at hway
      · cases hway
      cases hway
      exact out .ret (fun _ h => nomatch h) hx (hoo _ List.mem_cons_self)
/-- The first number in a code. -/
def keyOf : Code → Nat
  | .region id _ _ => id
  | .seq a _ => keyOf a
  | .block _ a => keyOf a
  | .cond _ a _ => keyOf a
  | .loop a => keyOf a
  | .scope a => keyOf a
  | _ => 0
def lpOf : List Ls → Nat → Code → St → (Code → St → Option (List Out)) → Option (List Out)
  | [], _, _, _, _ => none
  | l :: r, g, body, st, run => bif Nat.beq g l.g && Nat.beq (keyOf body) l.key then lpRun l body st run else lpOf r g body st run
def AllL [Fs] : List Ls → Prop
  | [] => True
  | l :: r => (∀ args, Fs.F l.c.id args = l.c.spec Fs.F args) ∧ AllL r
theorem lpOf_ok [Fs] {P : Program} : ∀ {l : List Ls}, AllL l → LpOk P (lpOf l) := by
  intro l
  induction l with
  | nil => intro _ g body st run outs _ h; cases h
  | cons c r ih =>
    intro hl g body st run outs hrun h X ρ a w hr Q hs
    simp only [lpOf] at h
    cases hb : Nat.beq g c.g && Nat.beq (keyOf body) c.key <;> simp only [hb, cond_true, cond_false] at h
    · exact ih hl.2 g body st run outs hrun h X ρ a w hr Q hs
    · exact lpRun_ok hl.1 hrun h hr hs
def cfL (l : List Pf) (lm : List Mf) (ll : List Ls) : Cf := ⟨smOf lm, spOf l, fun _ => true, lpOf ll⟩
theorem cfL_ok [Fs] {P : Program} {l : List Pf} {lm : List Mf} {ll : List Ls} (h : AllP P l) (hm : AllM P lm) (hl : AllL ll) : CfOk P (cfL l lm ll) := ⟨smOf_ok hm, spOf_ok h, lpOf_ok hl⟩
end Go.Sy
namespace Go.Sy
/-! a table of functions and loops -/
/-- One function of several, by its first letter. -/
structure Sw where
  id : Nat
  cases : List (Int × Nat)
  dflt : Nat
def lookI (x : Int) (d : Nat) : List (Int × Nat) → Nat
  | [] => d
  | (k, g) :: r => bif x == k then g else lookI x d r
def Sw.pick (c : Sw) (args : List Arg) : Nat := lookI (clamp (kmin .i64) (kmax .i64) (args.getD 0 default).n) c.dflt c.cases
def Sw.spec (c : Sw) (F : Nat → List Arg → List Arg) (args : List Arg) : List Arg := F (c.pick args) args
theorem lookI_mem [Fs] {x : Int} {d : Nat} : ∀ {l : List (Int × Nat)}, lookI x d l ∈ d :: l.map (·.2) := by
  intro l
  induction l with
  | nil => exact List.mem_cons_self
  | cons p r ih =>
    obtain ⟨k, g⟩ := p
    simp only [lookI]
    cases x == k
    · rcases List.mem_cons.1 ih with h | h
      · rw [h]; exact List.mem_cons_self
      · exact List.mem_cons_of_mem _ (List.mem_cons_of_mem _ h)
    · exact List.mem_cons_of_mem _ List.mem_cons_self
inductive Te where
  | card (c : Fk)
  | loop (c : Lk)
  | sw (c : Sw)
def Te.id : Te → Nat
  | .card c => c.g
  | .loop c => c.id
  | .sw c => c.id
def Te.spec : Te → (Nat → List Arg → List Arg) → List Arg → List Arg
  | .card c => c.spec
  | .loop c => c.spec
  | .sw c => c.spec
def mkG : List Te → Nat → List Arg → List Arg
  | [] => fun _ _ => []
  | c :: r => fun g args => bif Nat.beq g c.id then c.spec (mkG r) args else mkG r g args
def Te.gs : Te → List Nat
  | .card c => c.ds.flatMap Df.gs
  | .loop c => c.ways.flatMap fun w => w.ds.flatMap Df.gs
  | .sw c => c.dflt :: c.cases.map (·.2)
def Te.good : Te → Bool
  | .card c => match contig c.n c.ds with | some h => c.ls.all (·.bel h) | none => false
  | .loop _ => true
  | .sw _ => true
def okG : List Te → Bool
  | [] => true
  | c :: r => r.all (fun d => !(Nat.beq c.id d.id)) && c.gs.all (fun g => r.any fun e => Nat.beq g e.id) && c.good && okG r
theorem mkG_tail [Fs] {l : List Te} {c : Te} {g : Nat} (h : (l.any fun e => Nat.beq g e.id) = true) (hn : (l.all fun d => !(Nat.beq c.id d.id)) = true) : mkG (c :: l) g = mkG l g := by
  funext args
  rw [List.any_eq_true] at h
  obtain ⟨e, h1, h2⟩ := h
  rw [List.all_eq_true] at hn
  have := hn e h1
  have hne : Nat.beq g c.id = false := by
    cases hb : Nat.beq g c.id
    · rfl
    · rw [Nat.eq_of_beq_eq_true hb] at h2
      rw [h2] at this; cases this
  simp only [mkG, hne, cond_false]
theorem mkG_mem [Fs] {l1 : List Te} {c : Te} {l2 : List Te} (h : okG (l1 ++ c :: l2) = true) : mkG (l1 ++ c :: l2) c.id = c.spec (mkG l2) ∧ (∀ g, (l2.any fun e => Nat.beq g e.id) = true → mkG (l1 ++ c :: l2) g = mkG l2 g) ∧ okG (c :: l2) = true := by
  induction l1 with
  | nil =>
    refine ⟨by funext args; simp only [List.nil_append, mkG, Nat.beq_refl, cond_true], fun g hg => ?_, h⟩
    simp only [List.nil_append, okG, Bool.and_eq_true] at h
    exact mkG_tail hg h.1.1.1
  | cons d l1 ih =>
    have h' := h
    simp only [List.cons_append, okG, Bool.and_eq_true] at h
    obtain ⟨i1, i2, i3⟩ := ih h.2
    refine ⟨?_, fun g hg => ?_, i3⟩
    · rw [← i1, List.cons_append]
      exact mkG_tail (by rw [List.any_eq_true]; exact ⟨c, by simp, Nat.beq_refl _⟩) h.1.1.1
    · rw [← i2 g hg, List.cons_append]
      refine mkG_tail ?_ h.1.1.1
      rw [List.any_eq_true] at hg ⊢
      obtain ⟨e, e1, e2⟩ := hg
      exact ⟨e, by simp [e1], e2⟩
theorem gs_ok [Fs] {l1 : List Te} {c : Te} {l2 : List Te} (h : okG (l1 ++ c :: l2) = true) : ∀ g ∈ c.gs, mkG l2 g = mkG (l1 ++ c :: l2) g := by
  obtain ⟨_, m2, m3⟩ := mkG_mem h
  simp only [okG, Bool.and_eq_true, List.all_eq_true] at m3
  intro g hg
  exact (m2 g (m3.1.1.2 g hg)).symm
theorem specG_ok [Fs] {l1 : List Te} {c : Fk} {l2 : List Te} (h : okG (l1 ++ .card c :: l2) = true) {E : Env} (hF : E.F = mkG (l1 ++ .card c :: l2)) (hd : ∀ d ∈ c.ds, d.ok E) : mkG (l1 ++ .card c :: l2) c.g (letters E c.n) = c.ls.map (T.me E) := by
  have hgs := gs_ok h
  obtain ⟨m1, m2, m3⟩ := mkG_mem h
  have m1 : mkG (l1 ++ .card c :: l2) c.g = c.spec (mkG l2) := m1
  rw [m1]
  simp only [okG, Bool.and_eq_true] at m3
  have k3 := m3.1.2
  simp only [Te.good] at k3
  split at k3
  · rename_i hh hc
    have hx : ∀ i, i < c.n → E.x i = (letters E c.n).getD i default := fun i hi => by
      simp [letters, List.getD_eq_getElem?_getD, hi]
    have ag := contig_ok (E := E) (E0 := ⟨fun i => (letters E c.n).getD i default, E.F⟩) rfl hx hc hd
    unfold Fk.spec
    refine List.map_congr_left fun t ht => ?_
    rw [List.all_eq_true] at k3
    rw [T.bel_me ag (k3 t ht)]
    have hg : ∀ d ∈ c.ds, ∀ g ∈ d.gs, mkG l2 g = E.F g := fun d hd g hg => by
      rw [hF]
      exact hgs g (List.mem_flatMap.2 ⟨d, hd, hg⟩)
    obtain ⟨e1, e2⟩ := extL_noF (x := fun i => (letters E c.n).getD i default) hg
    have h3 : (extL ⟨fun i => (letters E c.n).getD i default, E.F⟩ c.ds).F = E.F := ag.F.symm
    rw [env_eq e1 e2, T.me_noF _ _ E.F, ← env_eq rfl h3]
  · cases k3
/-! a loop's own function, by whichever table -/
theorem wayE_noF [Fs] {F F' : Nat → List Arg → List Arg} {args : List Arg} {w : Wy} (h : ∀ d ∈ w.ds, ∀ g ∈ d.gs, F g = F' g) : (∀ t : T, t.tr (wayE F args w) = t.tr (wayE F' args w)) ∧ ∀ t : T, T.me (wayE F args w) t = T.me (wayE F' args w) t := by
  obtain ⟨e1, e2⟩ := extL_noF (x := (argE F args).x) h
  have e3 : (wayE F' args w).F = F' := (extL_noF (x := (argE F args).x) (F := F') (F' := F') (ds := w.ds) fun _ _ _ _ => rfl).2
  have hme : ∀ t : T, T.me (wayE F args w) t = T.me (wayE F' args w) t := fun t => by
    have a1 : wayE F args w = ⟨(wayE F' args w).x, F⟩ := env_eq e1 e2
    rw [a1, T.me_noF _ _ F', ← env_eq rfl e3]
  exact ⟨fun t => by unfold T.tr; rw [show t.den (wayE F args w) = t.den (wayE F' args w) from congrArg Arg.n (hme t)], hme⟩
theorem pick_noF [Fs] {F F' : Nat → List Arg → List Arg} {args : List Arg} : ∀ {l : List Wy} {b : Nat}, (∀ w ∈ l, ∀ d ∈ w.ds, ∀ g ∈ d.gs, F g = F' g) → pick F args b l = pick F' args b l := by
  intro l
  induction l with
  | nil => intro b _; rfl
  | cons w r ih =>
    intro b h
    have e : pcB (wayE F args w) w.pc = pcB (wayE F' args w) w.pc := by
      unfold pcB
      refine List.all_congr rfl fun p => ?_
      rw [(wayE_noF (h w List.mem_cons_self)).1]
    simp only [pick, e, ih fun v hv => h v (List.mem_cons_of_mem _ hv)]
theorem pick_mem [Fs] {F : Nat → List Arg → List Arg} {args : List Arg} : ∀ {l : List Wy} {b i : Nat} {w : Wy}, pick F args b l = some (i, w) → w ∈ l := by
  intro l
  induction l with
  | nil => intro b i w h; cases h
  | cons v r ih =>
    intro b i w h
    simp only [pick] at h
    cases hb : pcB (wayE F args v) v.pc <;> simp only [hb, cond_true, cond_false] at h
    · exact List.mem_cons_of_mem _ (ih h)
    · cases h; exact List.mem_cons_self
theorem iter_noF [Fs] {F F' : Nat → List Arg → List Arg} {c : Lk} (h : ∀ w ∈ c.ways, ∀ d ∈ w.ds, ∀ g ∈ d.gs, F g = F' g) : ∀ {k : Nat} {args : List Arg}, iter F c k args = iter F' c k args := by
  intro k
  induction k with
  | zero => intro args; rfl
  | succ k ih =>
    intro args
    simp only [iter, pick_noF h]
    cases hp : pick F' args 0 c.ways with
    | none => rfl
    | some q =>
      obtain ⟨i, w⟩ := q
      have hm := pick_mem hp
      have e : w.ts.map (T.me (wayE F args w)) = w.ts.map (T.me (wayE F' args w)) := List.map_congr_left fun t _ => (wayE_noF (h w hm)).2 t
      simp only [e, ih]
theorem loopG_ok [Fs] {l1 : List Te} {c : Lk} {l2 : List Te} (h : okG (l1 ++ .loop c :: l2) = true) (args : List Arg) : mkG (l1 ++ .loop c :: l2) c.id args = c.spec (mkG (l1 ++ .loop c :: l2)) args := by
  have hgs := gs_ok h
  obtain ⟨m1, _, _⟩ := mkG_mem h
  have m1 : mkG (l1 ++ .loop c :: l2) c.id = c.spec (mkG l2) := m1
  rw [m1]
  unfold Lk.spec
  have e : c.mu.den (argE (mkG l2) args) = c.mu.den (argE (mkG (l1 ++ .loop c :: l2)) args) := (T.noF (fun i => args.getD i default) _ _ c.mu).1
  rw [e, iter_noF fun w hw d hd g hg => hgs g (List.mem_flatMap.2 ⟨w, hw, List.mem_flatMap.2 ⟨d, hd, hg⟩⟩)]
theorem cardG_ok [Fs] {P : Program} {cf : Cf} (hcf : CfOk P cf) {fuel : Nat} {c : Pf} {ds : List Df} {ls : List T} (h : chkPf P cf fuel c ds ls = true) (l1 l2 : List Te) (hT : Fs.F = mkG (l1 ++ .card ⟨c.g, c.n, ds, ls⟩ :: l2)) (ho : okG (l1 ++ .card ⟨c.g, c.n, ds, ls⟩ :: l2) = true) : PfOk P c := by
  obtain ⟨pc, hr, hb⟩ := chkPf_ok h
  refine pf_ok hcf hr hb fun E hE _ hd => ?_
  have := specG_ok (c := ⟨c.g, c.n, ds, ls⟩) ho (E := E) (hE.trans hT) hd
  rw [← hT] at this
  exact this
theorem cardMG_ok [Fs] {P : Program} {cf : Cf} (hcf : CfOk P cf) {fuel : Nat} {c : Mf} {ds : List Df} {ls : List T} (h : chkMf P cf fuel c ds ls = true) (l1 l2 : List Te) (hT : Fs.F = mkG (l1 ++ .card ⟨c.id, c.n, ds, ls⟩ :: l2)) (ho : okG (l1 ++ .card ⟨c.id, c.n, ds, ls⟩ :: l2) = true) : MfOk P c := by
  obtain ⟨pc, hr⟩ := chkMf_ok h
  refine mf_ok hcf hr fun E hE _ hd => ?_
  have := specG_ok (c := ⟨c.id, c.n, ds, ls⟩) ho (E := E) (hE.trans hT) hd
  rw [← hT] at this
  exact this
theorem loop_ok [Fs] (c : Lk) (l1 l2 : List Te) (hT : Fs.F = mkG (l1 ++ .loop c :: l2)) (ho : okG (l1 ++ .loop c :: l2) = true) (args : List Arg) : Fs.F c.id args = c.spec Fs.F args := by
  rw [hT]; exact loopG_ok ho args
theorem sw_ok [Fs] (c : Sw) (l1 l2 : List Te) (hT : Fs.F = mkG (l1 ++ .sw c :: l2)) (h : okG (l1 ++ .sw c :: l2) = true) (args : List Arg) : Fs.F c.id args = Fs.F (c.pick args) args := by
  rw [hT]
  have hgs := gs_ok h
  obtain ⟨m1, _, _⟩ := mkG_mem h
  have m1 : mkG (l1 ++ .sw c :: l2) c.id = c.spec (mkG l2) := m1
  rw [m1]
  exact congrFun (hgs _ lookI_mem) args
/-- A law: its one result is true by the plain law. -/
def lawG (g n : Nat) : Te := .card (lawF g n)
end Go.Sy
