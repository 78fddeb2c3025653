/- Part Zb7d of a checked reader of Go texts in their model form: it runs a function at terms in the place of numbers, and each part proves that its answers hold of the model. -/
import Derived.Test.YtjfcnhfpnjcjaaaGreatDoorQyZb7
namespace Go.E3
open Go.Sy
noncomputable section
variable {P : Program}
variable {run : Run} {pc : Pc} {N : Nat} {ops : Array Oper} {ds : List Dn} {E : Env} {ρ0 : Pt → Rb} {D0 : Pt → Prop} {m0 : Tri B} {nx0 : Pt} {w0 : World} {s0 : Tri L} {dfs : List Deferred}
  {Lm : Nat} {acc : List (Dn × Nat)} {pa : Nat} {pd : List Pq} {s : Tri L} {m : Tri B} {nx : Pt} {listed : Array Bool} {ρ : Pt → Rb} {D : Pt → Prop} {a : Act} {w : World}
/-- Nobody whom it waits for is still to come. -/
def Free (listed : Array Bool) (d : Dn) : Prop := ∀ k, bit d.dp k = true → listed.getD k false = true
theorem Inv.not_dep (I : Inv run pc N ops ds E ρ0 D0 m0 nx0 w0 s0 dfs Lm acc pa pd s m nx listed ρ D a w) {d : Dn} (hf : Free listed d) {q : Pq} (hq : q ∈ pd) : bit d.dp q.d.i = false := by
  cases hb : bit d.dp q.d.i with
  | false => rfl
  | true => exact (((I.lst _).1 (hf _ hb)).2 q hq rfl).elim
theorem tmps_put {dst : Option Tmp} {v : Value} {t : Tmp} (a : Act) (h : dst ≠ some t) : (a.put dst v).tmps[t]? = a.tmps[t]? := by
  cases dst with
  | none => rfl
  | some d =>
    have hne : d ≠ t := fun e => h (by rw [e])
    exact Array.getElem?_setIfInBounds_ne hne
theorem tmps_put_self {dst : Option Tmp} {v : Value} {t : Tmp} (a : Act) (h : dst = some t) (hlt : t < a.tmps.size) : (a.put dst v).tmps[t]? = some v := by
  subst h
  exact Array.getElem?_setIfInBounds_self_of_lt hlt
theorem size_put (a : Act) (dst : Option Tmp) (v : Value) : (a.put dst v).tmps.size = a.tmps.size := by
  cases dst with
  | none => rfl
  | some d => exact Array.size_setIfInBounds
theorem getD_set_self {listed : Array Bool} {i : Nat} (h : i < listed.size) : (listed.setIfInBounds i true).getD i false = true := by simp [h]
/-- A pending one has come. -/
theorem Inv.fin (hR : Rf P N ops ds) {l1 l2 : List Pq} {q : Pq} (I : Inv run pc N ops ds E ρ0 D0 m0 nx0 w0 s0 dfs Lm acc pa (l1 ++ q :: l2) s m nx listed ρ D a w) (hf : Free listed q.d)
    {mA mB : Tri B} {a0 b0 : Pt} {ρ' : Pt → Rb} {w' : World} (hT : Turn E ρ D mA a0 w ρ' mB b0 w') (how : ∀ p, Rg a0 b0 p ↔ q.own p) (hm : ∀ p, Un D (Rg a0 b0) p → m.get p = mB.get p)
    {l' : L} (hl : l'.ok E ρ' (Un D (Rg a0 b0))) (hl' : ∀ t, q.d.o.dst = some t → l' = q.l) :
    Inv run pc N ops ds E ρ0 D0 m0 nx0 w0 s0 dfs Lm acc pa (l1 ++ l2) s m nx (listed.setIfInBounds q.d.i true) ρ' (Un D (Rg a0 b0)) (a.put q.d.o.dst (l'.val E ρ')) w' := by
  have hq : q ∈ l1 ++ q :: l2 := List.mem_append_right _ List.mem_cons_self
  have hsub : ∀ x, x ∈ l1 ++ l2 → x ∈ l1 ++ q :: l2 := fun x hx => by
    rcases List.mem_append.1 hx with h | h
    · exact List.mem_append_left _ h
    · exact List.mem_append_right _ (List.mem_cons_of_mem _ h)
  have hcase : ∀ x, x ∈ l1 ++ q :: l2 → x = q ∨ x ∈ l1 ++ l2 := fun x hx => by
    rcases List.mem_append.1 hx with h | h
    · exact .inr (List.mem_append_left _ h)
    · rcases List.mem_cons.1 h with h | h
      · exact .inl h
      · exact .inr (List.mem_append_right _ h)
  have hpar := I.par
  rw [List.pairwise_append, List.pairwise_cons] at hpar
  have hoth : ∀ x, x ∈ l1 ++ l2 → x.d.i ≠ q.d.i ∧ ∀ p, q.own p → ¬ x.own p := fun x hx => by
    rcases List.mem_append.1 hx with h | h
    · have := hpar.2.2 x h q List.mem_cons_self
      exact ⟨this.1, fun p h1 h2 => this.2.2 p h2 h1⟩
    · have := hpar.2.1.1 x h
      exact ⟨fun e => this.1 e.symm, this.2.2⟩
  obtain ⟨q1, q2, q3, q4, q5⟩ := I.mem q hq
  have hlt : q.d.i < listed.size := by rw [I.lsz]; exact I.low _ q3
  have g := hT.grow
  have hset : ∀ i, (listed.setIfInBounds q.d.i true).getD i false = true ↔ i = q.d.i ∨ listed.getD i false = true := fun i => by
    by_cases h : i = q.d.i
    · subst h; simp [getD_set_self hlt]
    · rw [getD_set_ne false (Ne.symm h)]; simp [h]
  have hout : ∀ x, x ∈ l1 ++ l2 → ∀ t, q.d.o.dst = some t → x.d.o.dst ≠ some t := fun x hx => hR.dsts q.d q1 x.d (I.mem x (hsub x hx)).1 (hoth x hx).1.symm
  exact {
    lsz := by rw [Array.size_setIfInBounds]; exact I.lsz
    lst := fun i => by
      rw [hset, I.lst]
      constructor
      · rintro (rfl | ⟨h1, h2⟩)
        · exact ⟨q3, fun x hx => (hoth x hx).1⟩
        · exact ⟨h1, fun x hx => h2 x (hsub x hx)⟩
      · rintro ⟨h1, h2⟩
        by_cases h : i = q.d.i
        · exact .inl h
        · refine .inr ⟨h1, fun x hx => ?_⟩
          rcases hcase x hx with rfl | hx
          · exact fun e => h e.symm
          · exact h2 x hx
    low := I.low
    acm := I.acm
    anc := I.anc
    clo := fun p hp h k hk => by
      rw [hset] at h ⊢
      rcases h with h | h
      · have ho : p.1.o = q.d.o := by
          have h1 := hR.op p.1 (I.acm p hp).1
          rw [h, hR.op q.d q1] at h1
          exact (Option.some.inj h1).symm
        have hdp : ∀ k, bit p.1.dp k = true → bit q.d.dp k = true := fun k hk => by
          rw [hR.dp _ (I.acm p hp).1, ho, ← hR.dp _ q1] at hk; exact hk
        rcases I.anc p hp k hk with h1 | ⟨p', h1, h2, h3⟩
        · exact .inr (hf k (hdp k h1))
        · exact .inr (I.clo p' h1 (hf _ (hdp _ h2)) k h3)
      · exact .inr (I.clo p hp h k hk)
    pal := I.pal
    mem := fun x hx => I.mem x (hsub x hx)
    dst := fun x hx => I.dst x (hsub x hx)
    par := by
      rw [List.pairwise_append]
      exact ⟨hpar.1, hpar.2.1.2, fun x hx y hy => hpar.2.2 x hx y (List.mem_cons_of_mem _ hy)⟩
    lds := fun x hx => I.lds x (hsub x hx)
    ina := fun x hx => I.ina x (hsub x hx)
    rcd := fun x hx => I.rcd x (hsub x hx)
    agr := fun x hx hlx t ht => by
      obtain ⟨h1, h2⟩ := I.agr x (hsub x hx) hlx t ht
      refine ⟨fun q' hq' => h1 q' (hsub q' hq'), fun hn l hll => ?_⟩
      by_cases hd : q.d.o.dst = some t
      · cases hb : bit x.d.dp q.d.i with
        | true =>
          have := h1 q hq hd hb
          rw [hll] at this
          have e := Option.some.inj this
          rw [e, ← hl' t hd]
          refine ⟨hl, ?_⟩
          exact tmps_put_self a hd (Nat.lt_of_lt_of_le (I.dst q hq t hd).2 I.sz)
        | false =>
          rcases hR.sees x.d (I.mem x (hsub x hx)).1 t ht q.d q1 hd with h | ⟨_, h | h⟩
          · rw [hb] at h; cases h
          · exact ((hoth x hx).1 h).elim
          · have := I.not_dep hf (hsub x hx)
            rw [this] at h; cases h
      · obtain ⟨h3, h4⟩ := h2 (fun q' hq' hd' => by
          rcases hcase q' hq' with rfl | hq'
          · exact (hd hd').elim
          · exact hn q' hq' hd') l hll
        obtain ⟨h5, h6⟩ := l.grow g h3
        exact ⟨h5, by rw [tmps_put a hd, h6]; exact h4⟩
    deq := fun p => by
      constructor
      · rintro (h | h)
        · exact ⟨((I.deq p).1 h).1, fun x hx => ((I.deq p).1 h).2 x (hsub x hx)⟩
        · exact ⟨.inr (I.own q hq p ((how p).1 h)), fun x hx => (hoth x hx).2 p ((how p).1 h)⟩
      · rintro ⟨h1, h2⟩
        by_cases h : q.own p
        · exact .inr ((how p).2 h)
        · refine .inl ((I.deq p).2 ⟨h1, fun x hx => ?_⟩)
          rcases hcase x hx with rfl | hx
          · exact h
          · exact h2 x hx
    own := fun x hx => I.own x (hsub x hx)
    sub := fun p hp => .inl (I.sub p hp)
    ts := I.ts.step I.sub hT
    mr := hT.mr.ext hm
    off := I.off
    le := I.le
    sl := fun t ht l hll => by
      by_cases hd : q.d.o.dst = some t
      · rw [(I.dst q hq t hd).1] at hll
        have e := Option.some.inj hll
        rw [← e, ← hl' t hd]
        exact ⟨hl, tmps_put_self a hd (Nat.lt_of_lt_of_le (I.dst q hq t hd).2 I.sz)⟩
      · obtain ⟨h3, h4⟩ := I.sl t (fun x hx => by
          rcases hcase x hx with rfl | hx
          · exact hd
          · exact ht x hx) l hll
        obtain ⟨h5, h6⟩ := l.grow g h3
        exact ⟨h5, by rw [tmps_put a hd, h6]; exact h4⟩
    old := I.old
    df := by rw [put_defers]; exact I.df
    sz := by rw [size_put]; exact I.sz }
theorem putS_inj {o : Oper} {l l' : L} {s : Tri L} (h : putS o l s = putS o l' s) : ∀ t, o.dst = some t → l = l' := by
  intro t ht
  have h1 := putS_get o l s t
  have h2 := putS_get o l' s t
  rw [if_pos ht] at h1 h2
  rw [h, h2] at h1
  exact (Option.some.inj h1).symm
/-- A pending one may come. -/
theorem Inv.pend (hrun : CallOk P pc run) (hp : pcOk E pc) (hR : Rf P N ops ds) {l1 l2 : List Pq} {q : Pq} (I : Inv run pc N ops ds E ρ0 D0 m0 nx0 w0 s0 dfs Lm acc pa (l1 ++ q :: l2) s m nx listed ρ D a w) (hf : Free listed q.d)
    (hre : isLoad q.d.co.c = true → ∃ l, valL pc q.d.co s m = some l ∧ ∀ t, q.d.o.dst = some t → l = q.l) (K : Act → World → Prop) (Q : Exit → Act → World → Prop)
    (hK : ∀ ρ' D' a' w', Inv run pc N ops ds E ρ0 D0 m0 nx0 w0 s0 dfs Lm acc pa (l1 ++ l2) s m nx (listed.setIfInBounds q.d.i true) ρ' D' a' w' → K a' w') : wpO P ops Q q.d.o K a w := by
  have hq : q ∈ l1 ++ q :: l2 := List.mem_append_right _ List.mem_cons_self
  obtain ⟨q1, q2, q3, q4, q5⟩ := I.mem q hq
  have hco := hR.co q.d q1
  have hnd : ∀ x ∈ l1 ++ q :: l2, bit q.d.dp x.d.i = false := fun x hx => I.not_dep hf hx
  cases hl : isLoad q.d.co.c with
  | true =>
    obtain ⟨l, h1, h2⟩ := hre hl
    have hx := valL_ok (run := run) hco h1 hl nx
    have hnone : q.nw = none := by
      have := I.rcd q hq
      unfold Rec at this
      cases hn : q.nw with
      | none => rfl
      | some xk => obtain ⟨x, k⟩ := xk; rw [hn] at this; rw [this.1] at hl; cases hl
    have hlr : LR E ρ D s a.tmps (q.d.o.looksAt ops) := fun t ht => I.sl t fun x hx hd => by
      rcases hR.sees q.d q1 t ht x.d (I.mem x hx).1 hd with h | ⟨h, _⟩
      · rw [hnd x hx] at h; cases h
      · rw [hl] at h; cases h
    rw [hco] at hx
    obtain ⟨l', e, h3⟩ := exO_loc hrun hx hp hlr I.mr (fun b hb => (rg_self _ _ hb).elim)
    refine h3 K Q fun ρ' w' hT hok => hK _ _ _ _ (I.fin hR hf hT (fun p => ?_) (fun p _ => rfl) hok fun t ht => ?_)
    · unfold Pq.own; rw [hnone]; simp [rg_self]
    · rw [← putS_inj e t ht]; exact h2 t ht
  | false =>
    have hlr : LR E ρ D q.sd a.tmps (q.d.o.looksAt ops) := fun t ht => (I.agr q hq hl t ht).2 fun x hx _ => hnd x hx
    have hrc := I.rcd q hq
    unfold Rec at hrc
    cases hn : q.nw with
    | none =>
      rw [hn] at hrc
      have hx := hrc hl m nx
      rw [hco] at hx
      obtain ⟨l', e, h3⟩ := exO_loc hrun hx hp hlr I.mr (fun b hb => (rg_self _ _ hb).elim)
      refine h3 K Q fun ρ' w' hT hok => hK _ _ _ _ (I.fin hR hf hT (fun p => ?_) (fun p _ => rfl) hok fun t ht => (putS_inj e t ht).symm)
      unfold Pq.own; rw [hn]; simp [rg_self]
    | some xk =>
      obtain ⟨x, k⟩ := xk
      rw [hn] at hrc
      obtain ⟨_, _, g1, g2, g3⟩ := hrc
      have hx := g3 m q.id
      rw [hco] at hx
      have hown : q.own q.id := ⟨by rw [hn]; rfl, rfl⟩
      have hfr : ∀ b, Rg q.id q.id.succ b → ¬ D b := fun b hb hD => by
        rw [rg_succ] at hb
        subst hb
        exact ((I.deq _).1 hD).2 q hq hown
      obtain ⟨l', e, h3⟩ := exO_loc hrun hx hp hlr I.mr hfr
      refine h3 K Q fun ρ' w' hT hok => hK _ _ _ _ (I.fin hR hf hT (fun p => ?_) (fun p _ => ?_) hok fun t ht => ?_)
      · rw [rg_succ]; unfold Pq.own; rw [hn]; simp [eq_comm]
      · rw [Tri.get_put]
        split
        · rename_i e; rw [← e]; exact g2
        · rfl
      · rw [g1]; exact (putS_inj e t ht).symm
end
end Go.E3
namespace Go.E3
open Go.Sy
noncomputable section
variable {P : Program}
variable {run : Run} {pc : Pc} {N : Nat} {ops : Array Oper} {ds : List Dn} {E : Env} {ρ0 : Pt → Rb} {D0 : Pt → Prop} {m0 : Tri B} {nx0 : Pt} {w0 : World} {s0 : Tri L} {dfs : List Deferred}
  {Lm : Nat} {acc : List (Dn × Nat)} {pa : Nat} {pd : List Pq} {s : Tri L} {m : Tri B} {nx : Pt} {listed : Array Bool} {ρ : Pt → Rb} {D : Pt → Prop} {a : Act} {w : World}
theorem Inv.slots (hR : Rf P N ops ds) (I : Inv run pc N ops ds E ρ0 D0 m0 nx0 w0 s0 dfs Lm acc pa pd s m nx listed ρ D a w) {d : Dn} (hd : d ∈ ds) (hL : bit Lm d.i = false) (hf : Free listed d) : LR E ρ D s a.tmps (d.o.looksAt ops) := fun t ht => I.sl t fun q hq he => by
  obtain ⟨q1, q2, q3, q4, q5⟩ := I.mem q hq
  rcases hR.sees d hd t ht q.d q1 he with h | ⟨_, h | h⟩
  · rw [I.not_dep hf hq] at h; cases h
  · rw [h, q3] at hL; cases hL
  · rw [q5 _ h] at hL; cases hL
/-- All whom one waits for, near and far, have come. -/
theorem Inv.far (I : Inv run pc N ops ds E ρ0 D0 m0 nx0 w0 s0 dfs Lm acc pa pd s m nx listed ρ D a w) {d : Dn} (hf : Free listed d) {k : Nat} (hk : bit (ancOf acc d.dp) k = true) : listed.getD k false = true := by
  rcases ancOf_spec _ _ _ hk with h | ⟨p, h1, h2, h3⟩
  · exact hf k h
  · exact I.clo p h1 (hf _ h2) k h3
/-- One of the row has come. -/
theorem Inv.row (hR : Rf P N ops ds) (I : Inv run pc N ops ds E ρ0 D0 m0 nx0 w0 s0 dfs Lm acc pa pd s m nx listed ρ D a w) {d : Dn} (hd : d ∈ ds) (hL : bit Lm d.i = false) (_hdp : ∀ k, bit d.dp k = true → bit Lm k = true) (hf : Free listed d)
    (hin : ∀ t, d.o.dst = some t → t < N) {m' : Tri B} {nx' : Pt} {ρ' : Pt → Rb} {w' : World} {l : L} (hT : Turn E ρ D m nx w ρ' m' nx' w') (hl : l.ok E ρ' (Un D (Rg nx nx'))) :
    Inv run pc N ops ds E ρ0 D0 m0 nx0 w0 s0 dfs (setBit Lm d.i) (acc ++ [(d, ancOf acc d.dp)]) (ancOf acc d.dp) pd (putS d.o l s) m' nx' (listed.setIfInBounds d.i true) ρ' (Un D (Rg nx nx')) (a.put d.o.dst (l.val E ρ')) w' := by
  have hlt : d.i < listed.size := by rw [I.lsz]; exact (Array.getElem?_eq_some_iff.1 (hR.op d hd)).1
  have hset : ∀ i, (listed.setIfInBounds d.i true).getD i false = true ↔ i = d.i ∨ listed.getD i false = true := fun i => by
    by_cases h : i = d.i
    · subst h; simp [getD_set_self hlt]
    · rw [getD_set_ne false (Ne.symm h)]; simp [h]
  have hne : ∀ q ∈ pd, q.d.i ≠ d.i := fun q hq e => by rw [← e, (I.mem q hq).2.2.1] at hL; cases hL
  have hqd : ∀ q ∈ pd, bit q.d.dp d.i = false := fun q hq => by
    cases hb : bit q.d.dp d.i with
    | false => rfl
    | true => rw [(I.mem q hq).2.2.2.2 _ hb] at hL; cases hL
  have hds : ∀ q ∈ pd, ∀ t, q.d.o.dst = some t → d.o.dst ≠ some t := fun q hq => hR.dsts q.d (I.mem q hq).1 d hd (hne q hq)
  have hunl : ∀ q ∈ pd, listed.getD q.d.i false = true → False := fun q hq h => ((I.lst _).1 h).2 q hq rfl
  have g := hT.grow
  have hspl : ∀ p, Rg nx0 nx' p ↔ Rg nx0 nx p ∨ Rg nx nx' p := fun p => Rg.split I.le hT.le
  have hno : ∀ q ∈ pd, ∀ p, q.own p → ¬ D p ∧ ¬ Rg nx nx' p := fun q hq p hp => ⟨fun h => ((I.deq p).1 h).2 q hq hp, fun h => by
    have h1 := (I.own q hq p hp).2
    have h2 := h.1
    omega⟩
  exact {
    lsz := by rw [Array.size_setIfInBounds]; exact I.lsz
    lst := fun i => by
      rw [hset, I.lst, bit_set]
      constructor
      · rintro (rfl | ⟨h1, h2⟩)
        · exact ⟨.inr rfl, hne⟩
        · exact ⟨.inl h1, h2⟩
      · rintro ⟨h1 | h1, h2⟩
        · exact .inr ⟨h1, h2⟩
        · exact .inl h1.symm
    low := fun i hi => by
      rcases (bit_set _ _ _).1 hi with h | h
      · exact I.low i h
      · subst h; rw [I.lsz] at hlt; exact hlt
    acm := fun p hp => by
      rcases List.mem_append.1 hp with hp | hp
      · exact ⟨(I.acm p hp).1, (bit_set _ _ _).2 (.inl (I.acm p hp).2)⟩
      · rw [List.mem_singleton.1 hp]; exact ⟨hd, (bit_set _ _ _).2 (.inr rfl)⟩
    anc := fun p hp k hk => by
      rcases List.mem_append.1 hp with hp | hp
      · rcases I.anc p hp k hk with h | ⟨p', h1, h2⟩
        · exact .inl h
        · exact .inr ⟨p', List.mem_append_left _ h1, h2⟩
      · rw [List.mem_singleton.1 hp] at hk ⊢
        rcases ancOf_spec _ _ _ hk with h | ⟨p', h1, h2⟩
        · exact .inl h
        · exact .inr ⟨p', List.mem_append_left _ h1, h2⟩
    clo := fun p hp h k hk => by
      rw [hset] at h ⊢
      rcases List.mem_append.1 hp with hp | hp
      · rcases h with h | h
        · have := (I.acm p hp).2
          rw [h, hL] at this; cases this
        · exact .inr (I.clo p hp h k hk)
      · rw [List.mem_singleton.1 hp] at hk
        exact .inr (I.far hf hk)
    pal := fun k hk => (bit_set _ _ _).2 (.inl ((I.lst k).1 (I.far hf hk)).1)
    mem := fun q hq => by
      obtain ⟨h1, h2, h3, h4, h5⟩ := I.mem q hq
      exact ⟨h1, h2, (bit_set _ _ _).2 (.inl h3), h4, fun k hk => (bit_set _ _ _).2 (.inl (h5 k hk))⟩
    dst := fun q hq t ht => by rw [putS_get, if_neg (hds q hq t ht)]; exact I.dst q hq t ht
    par := I.par
    lds := fun q hq _ => by
      cases hb : bit (ancOf acc d.dp) q.d.i with
      | false => rfl
      | true => exact (hunl q hq (I.far hf hb)).elim
    ina := fun q hq => by obtain ⟨an, h⟩ := I.ina q hq; exact ⟨an, List.mem_append_left _ h⟩
    rcd := fun q hq => (I.rcd q hq).mem fun p hp => hT.off p (hno q hq p hp).1 (hno q hq p hp).2
    agr := fun q hq hlq t ht => by
      obtain ⟨h1, h2⟩ := I.agr q hq hlq t ht
      refine ⟨h1, fun hn l' hl' => ?_⟩
      have hdt : d.o.dst ≠ some t := fun he => by
        rcases hR.sees q.d (I.mem q hq).1 t ht d hd he with h | ⟨_, h | h⟩
        · rw [hqd q hq] at h; cases h
        · exact hne q hq h
        · rw [I.not_dep hf hq] at h; cases h
      obtain ⟨h3, h4⟩ := h2 hn l' hl'
      obtain ⟨h5, h6⟩ := l'.grow g h3
      exact ⟨h5, by rw [tmps_put a hdt, h6]; exact h4⟩
    deq := fun p => by
      rw [hspl]
      constructor
      · rintro (h | h)
        · exact ⟨((I.deq p).1 h).1.imp id .inl, ((I.deq p).1 h).2⟩
        · exact ⟨.inr (.inr h), fun q hq hp => (hno q hq p hp).2 h⟩
      · rintro ⟨h1 | h1 | h1, h2⟩
        · exact .inl ((I.deq p).2 ⟨.inl h1, h2⟩)
        · exact .inl ((I.deq p).2 ⟨.inr h1, h2⟩)
        · exact .inr h1
    own := fun q hq p hp => (hspl p).2 (.inl (I.own q hq p hp))
    sub := fun p hp => .inl (I.sub p hp)
    ts := I.ts.step I.sub hT
    mr := hT.mr
    off := fun p h1 h2 => by
      rw [hspl] at h2
      rw [hT.off p (fun h => by rcases ((I.deq p).1 h).1 with h | h; exact h1 h; exact h2 (.inl h)) fun h => h2 (.inr h)]
      exact I.off p h1 fun h => h2 (.inl h)
    le := Nat.le_trans I.le hT.le
    sl := fun t ht l' hl' => by
      rw [putS_get] at hl'
      split at hl'
      · rename_i he
        cases hl'
        exact ⟨hl, tmps_put_self a he (Nat.lt_of_lt_of_le (hin t he) I.sz)⟩
      · rename_i he
        obtain ⟨h3, h4⟩ := I.sl t ht l' hl'
        obtain ⟨h5, h6⟩ := l'.grow g h3
        exact ⟨h5, by rw [tmps_put a he, h6]; exact h4⟩
    old := fun t ht => by rw [putS_get, if_neg (ht d hd)]; exact I.old t ht
    df := by rw [put_defers]; exact I.df
    sz := by rw [size_put]; exact I.sz }
/-- The whole turn, when none that makes a block is still to come. -/
theorem Inv.turn (I : Inv run pc N ops ds E ρ0 D0 m0 nx0 w0 s0 dfs Lm acc pa pd s m nx listed ρ D a w) (hn : ∀ q ∈ pd, ∀ p, ¬ q.own p) (hfr : ∀ p, Rg nx0 nx p → ¬ D0 p) : Turn E ρ0 D0 m0 nx0 w0 ρ m nx w ∧ D = Un D0 (Rg nx0 nx) := by
  have hD : D = Un D0 (Rg nx0 nx) := by
    funext p
    exact propext ((I.deq p).trans ⟨fun h => h.1, fun h => ⟨h, fun q hq => hn q hq p⟩⟩)
  refine ⟨?_, hD⟩
  exact {
    le := I.le
    rb := I.ts.rb
    mr := by rw [← hD]; exact I.mr
    off := I.off
    new := fun b hb => I.ts.new b (by rw [hD]; exact .inr hb) (hfr b hb)
    os := I.ts.os
    tape := I.ts.tape
    output := I.ts.output
    size := I.ts.size
    heap := I.ts.heap }

/-! plans -/
theorem plan_new : ∀ {r : List Dn} {Lm : Nat} {acc : List (Dn × Nat)} {prev : Option Nat} {pa : Nat} {ps : List Pl} {fin : List Dn}, plan ds Lm acc prev pa r = some (ps, fin) → ∀ d ∈ r, bit Lm d.i = false := by
  intro r
  induction r with
  | nil => intro Lm acc prev pa ps fin _ d hd; cases hd
  | cons d r ih =>
    intro Lm acc prev pa ps fin h e he
    simp only [plan] at h
    cases hc : bit Lm d.i
    · simp only [hc] at h
      rcases List.mem_cons.1 he with rfl | he
      · exact hc
      · rw [cond_eq_ite] at h
        split at h
        · split at h
          · rename_i h'
            have := ih h' e he
            cases hb : bit Lm e.i with
            | false => rfl
            | true => rw [(bit_set _ _ _).2 (.inl hb)] at this; cases this
          · cases h
        · cases h
    · simp [hc] at h
theorem plan_cons {d : Dn} {r : List Dn} {prev : Option Nat} {ps : List Pl} {fin : List Dn} (h : plan ds Lm acc prev pa (d :: r) = some (ps, fin)) :
    bit Lm d.i = false ∧ (∀ k, bit d.dp k = true → bit Lm k = true) ∧ (∀ q, prev = some q → bit (ancOf acc d.dp) q = true) ∧ ∃ ps', plan ds (setBit Lm d.i) (acc ++ [(d, ancOf acc d.dp)]) (bif d.ch then some d.i else prev) (bif d.ch then ancOf acc d.dp else pa) r = some (ps', fin) ∧
      ps = ⟨d, bif d.ch then loadsOf acc pa else [], acc.all fun p => !(isNew p.1.co.c) || bit (ancOf acc d.dp) p.1.i⟩ :: ps' := by
  have h0 := plan_new h d List.mem_cons_self
  simp only [plan, h0, Bool.not_false, Bool.true_and] at h
  cases hc : (sub2 d.dp Lm && prevOk (ancOf acc d.dp) prev) with
  | false => rw [hc] at h; cases h
  | true =>
    rw [hc] at h
    simp only [cond_true] at h
    rw [Bool.and_eq_true] at hc
    split at h
    · rename_i ps' fin' h'
      cases h
      refine ⟨h0, fun k hk => sub2_spec hc.1 hk, fun q hq => ?_, ps', h', rfl⟩
      subst hq
      exact hc.2
    · cases h
/-- Behind one of the row that hasn't come none may come. -/
theorem plan_wait {c : Nat} (_hc : listed.getD c false = false) (hlow : ∀ i, bit Lm i = false → listed.getD i false = false) : ∀ {r : List Dn} {Lm' : Nat} {acc' : List (Dn × Nat)} {q : Nat} {pa : Nat} {ps : List Pl} {fin : List Dn},
    plan ds Lm' acc' (some q) pa r = some (ps, fin) → (∀ k, bit Lm k = true → bit Lm' k = true) → listed.getD q false = false → (∀ p ∈ acc', listed.getD p.1.i false = true → ∀ k, bit p.2 k = true → listed.getD k false = true) → ∀ d ∈ r, ¬ Free listed d := by
  intro r
  induction r with
  | nil => intro Lm' acc' q pa ps fin _ _ _ _ d hd; cases hd
  | cons d r ih =>
    intro Lm' acc' q pa ps fin h hsub hq hclo e he hf
    obtain ⟨h1, h2, h3, ps', h4, _⟩ := plan_cons h
    have hdl : listed.getD d.i false = false := hlow _ (by
      cases hb : bit Lm d.i with
      | false => rfl
      | true => rw [hsub _ hb] at h1; cases h1)
    rcases List.mem_cons.1 he with rfl | he
    · rcases ancOf_spec _ _ _ (h3 q rfl) with h | ⟨p, g1, g2, g3⟩
      · rw [hf _ h] at hq; cases hq
      · rw [hclo p g1 (hf _ g2) _ g3] at hq; cases hq
    · have hclo' : ∀ p ∈ acc' ++ [(d, ancOf acc' d.dp)], listed.getD p.1.i false = true → ∀ k, bit p.2 k = true → listed.getD k false = true := fun p hp hl => by
        rcases List.mem_append.1 hp with hp | hp
        · exact hclo p hp hl
        · rw [List.mem_singleton.1 hp] at hl
          simp only at hl
          rw [hdl] at hl; cases hl
      have hsub' : ∀ k, bit Lm k = true → bit (setBit Lm' d.i) k = true := fun k hk => (bit_set _ _ _).2 (.inl (hsub k hk))
      cases hch : d.ch with
      | true =>
        rw [hch] at h4
        exact ih h4 hsub' hdl hclo' e he hf
      | false =>
        rw [hch] at h4
        exact ih h4 hsub' hq hclo' e he hf
/-- All are in the plan. -/
theorem plan_all : ∀ {r : List Dn} {Lm : Nat} {acc : List (Dn × Nat)} {prev : Option Nat} {pa : Nat} {ps : List Pl} {fin : List Dn}, plan ds Lm acc prev pa r = some (ps, fin) → ∀ d ∈ ds, bit Lm d.i = true ∨ ∃ e ∈ r, e.i = d.i := by
  intro r
  induction r with
  | nil =>
    intro Lm acc prev pa ps fin h d hd
    simp only [plan] at h
    cases hc : ds.all fun d => bit Lm d.i
    · rw [hc] at h; cases h
    · exact .inl (List.all_eq_true.1 hc d hd)
  | cons e r ih =>
    intro Lm acc prev pa ps fin h d hd
    obtain ⟨h1, h2, h3, ps', h4, _⟩ := plan_cons h
    rcases ih h4 d hd with h | ⟨e', he, hi⟩
    · rcases (bit_set _ _ _).1 h with h | h
      · exact .inl h
      · exact .inr ⟨e, List.mem_cons_self, h⟩
    · exact .inr ⟨e', List.mem_cons_of_mem _ he, hi⟩
end
end Go.E3
namespace Go.E3
open Go.Sy
noncomputable section
variable {P : Program}
variable {run : Run} {pc : Pc} {N : Nat} {ops : Array Oper} {ds : List Dn} {E : Env} {ρ0 : Pt → Rb} {D0 : Pt → Prop} {m0 : Tri B} {nx0 : Pt} {w0 : World} {s0 : Tri L} {dfs : List Deferred}
  {Lm : Nat} {acc : List (Dn × Nat)} {pa : Nat} {pd : List Pq} {s : Tri L} {m : Tri B} {nx : Pt} {listed : Array Bool} {ρ : Pt → Rb} {D : Pt → Prop} {a : Act} {w : World}
theorem exD_nil (fin : List Dn) (s : Tri L) (m : Tri B) (nx : Pt) : exD run pc ops s0 fin [] s m nx = bif reOk pc s m fin then some ⟨.norm, s, m, nx⟩ else none := rfl
theorem exD_cons (fin : List Dn) (p : Pl) (ps : List Pl) (s : Tri L) (m : Tri B) (nx : Pt) : exD run pc ops s0 fin (p :: ps) s m nx = bif reOk pc s m p.re then (match exO run pc p.d.co s m nx with
    | some (.go s m nx) => exD run pc ops s0 fin ps s m nx
    | some (.pan c m nx) => bif p.pk then some ⟨.pan c, wipe ops.toList s0, m, nx⟩ else none
    | none => none) else none := rfl
theorem exD_mono (hrun : CallOk P pc run) (hR : Rf P N ops ds) {x : Out} : ∀ {r : List Dn} {Lm : Nat} {acc : List (Dn × Nat)} {prev : Option Nat} {pa : Nat} {ps : List Pl} {fin : List Dn} {s : Tri L} {m : Tri B} {nx : Pt}, plan ds Lm acc prev pa r = some (ps, fin) → (∀ d ∈ r, d ∈ ds) →
    exD run pc ops s0 fin ps s m nx = some x → nx.num ≤ x.nx.num := by
  intro r
  induction r with
  | nil =>
    intro Lm acc prev pa ps fin s m nx h hd hx
    simp only [plan] at h
    cases hc : ds.all fun d => bit Lm d.i
    · rw [hc] at h; cases h
    · rw [hc] at h; cases h
      rw [exD_nil] at hx
      cases hr : reOk pc s m (loadsOf acc pa)
      · rw [hr] at hx; cases hx
      · rw [hr] at hx; cases hx; exact Nat.le_refl _
  | cons d r ih =>
    intro Lm acc prev pa ps fin s m nx h hd hx
    obtain ⟨h1, h2, h3, ps', h4, rfl⟩ := plan_cons h
    rw [exD_cons, cond_eq_ite] at hx
    split at hx
    · simp only [hR.co d (hd d List.mem_cons_self)] at hx
      split at hx
      · rename_i ho
        exact Nat.le_trans (exO_mono hrun ho) (ih h4 (fun e he => hd e (List.mem_cons_of_mem _ he)) hx)
      · rename_i ho
        rw [cond_eq_ite] at hx
        split at hx
        · cases hx; exact exO_mono hrun ho
        · cases hx
      · cases hx
    · cases hx
theorem wipe_get : ∀ {os : List Oper} {s : Tri L} {t : Tmp} {l : L}, (wipe os s).get (path t) = some l → s.get (path t) = some l ∧ ∀ o ∈ os, o.dst ≠ some t := by
  intro os
  induction os with
  | nil => intro s t l h; exact ⟨h, (fun _ h => nomatch h)⟩
  | cons o os ih =>
    intro s t l h
    obtain ⟨h1, h2⟩ := ih (s := match o.dst with | some d => s.put (path d) none | none => s) h
    cases ho : o.dst with
    | none =>
      rw [ho] at h1
      refine ⟨h1, fun o' ho' => ?_⟩
      rcases List.mem_cons.1 ho' with rfl | ho'
      · rw [ho]; exact fun h => nomatch h
      · exact h2 o' ho'
    | some d =>
      rw [ho] at h1
      simp only [Tri.get_put] at h1
      split at h1
      · cases h1
      · rename_i hne
        refine ⟨h1, fun o' ho' => ?_⟩
        rcases List.mem_cons.1 ho' with rfl | ho'
        · rw [ho]; exact fun h => hne (by cases h; rfl)
        · exact h2 o' ho'
theorem reOk_spec (hR : Rf P N ops ds) {re : List Dn} (h : reOk pc s m re = true) {y : Dn} (hy : y ∈ re) (hd : y ∈ ds) : ∃ l, valL pc y.co s m = some l ∧ ∀ t, y.o.dst = some t → s.get (path t) = some l := by
  have h1 := List.all_eq_true.1 h y hy
  split at h1
  · rename_i l hl
    refine ⟨l, hl, fun t ht => ?_⟩
    have hdst : y.co.dst = some (path t) := by rw [hR.co y hd]; simp only [cO, dstP, ht]
    rw [hdst] at h1
    simp only at h1
    split at h1
    · rename_i l0 h0
      rw [h0, L.beq_eq h1]
    · cases h1
  · cases h1
theorem Inv.look (hR : Rf P N ops ds) (I : Inv run pc N ops ds E ρ0 D0 m0 nx0 w0 s0 dfs Lm acc pa pd s m nx listed ρ D a w) (hre : reOk pc s m (loadsOf acc pa) = true) {q : Pq} (hq : q ∈ pd) (hl : isLoad q.d.co.c = true) : ∃ l, valL pc q.d.co s m = some l ∧ ∀ t, q.d.o.dst = some t → l = q.l := by
  obtain ⟨an, hin⟩ := I.ina q hq
  have hmem : q.d ∈ loadsOf acc pa := List.mem_map.2 ⟨(q.d, an), List.mem_filter.2 ⟨hin, by simp only [hl, I.lds q hq hl]; rfl⟩, rfl⟩
  obtain ⟨l, h1, h2⟩ := reOk_spec hR hre hmem (I.mem q hq).1
  refine ⟨l, h1, fun t ht => ?_⟩
  have h3 := h2 t ht
  rw [(I.dst q hq t ht).1] at h3
  exact (Option.some.inj h3).symm
theorem Inv.getD (I : Inv run pc N ops ds E ρ0 D0 m0 nx0 w0 s0 dfs Lm acc pa pd s m nx listed ρ D a w) {i : Nat} (hi : i < ops.size) (d : Bool) : listed.getD i d = listed.getD i false := by
  rw [← I.lsz] at hi
  simp [hi]
theorem Inv.ready_free (hR : Rf P N ops ds) (I : Inv run pc N ops ds E ρ0 D0 m0 nx0 w0 s0 dfs Lm acc pa pd s m nx listed ρ D a w) {d : Dn} (hd : d ∈ ds) : d.i ∈ Region.ready .any ops listed ↔ listed.getD d.i false = false ∧ Free listed d := by
  have hlt : d.i < ops.size := (Array.getElem?_eq_some_iff.1 (hR.op d hd)).1
  rw [mem_ready, I.getD hlt, hR.op d hd]
  constructor
  · rintro ⟨h1, o, ho, h2⟩
    cases ho
    refine ⟨h1, fun k hk => ?_⟩
    obtain ⟨e, he, hb, rfl⟩ := (hR.dp d hd k).1 hk
    exact h2 e he hb
  · rintro ⟨h1, h2⟩
    exact ⟨h1, _, rfl, fun e he hb => h2 e.on ((hR.dp d hd _).2 ⟨e, he, hb, rfl⟩)⟩
theorem wpOp_wpO {i : Nat} {o : Oper} {Q : Exit → Act → World → Prop} {K : Act → World → Prop} (hi : ops[i]? = some o) (h : wpO P ops Q o K a w) : wpOp P ops Q i K a w := by
  unfold wpOp
  rw [hi]
  exact h
/-- The first of the pending is free. -/
theorem Inv.head_free {q : Pq} {l : List Pq} (I : Inv run pc N ops ds E ρ0 D0 m0 nx0 w0 s0 dfs Lm acc pa (q :: l) s m nx listed ρ D a w) : Free listed q.d := fun k hk => by
  obtain ⟨q1, q2, q3, q4, q5⟩ := I.mem q List.mem_cons_self
  refine (I.lst k).2 ⟨q5 k hk, fun x hx e => ?_⟩
  subst e
  rcases List.mem_cons.1 hx with rfl | hx
  · rw [q4] at hk; cases hk
  · have := (List.pairwise_cons.1 I.par).1 x hx
    rw [this.2.1] at hk; cases hk
theorem draw_main (hrun : CallOk P pc run) (hp : pcOk E pc) (hR : Rf P N ops ds) {x : Out} {Q : Exit → Act → World → Prop} (hfr : ∀ p, Rg nx0 x.nx p → ¬ D0 p) (hpost : x.post E ρ0 D0 N dfs m0 nx0 w0 Q) :
    ∀ (n : Nat) (r : List Dn) (Lm : Nat) (acc : List (Dn × Nat)) (prev : Option Nat) (pa : Nat) (ps : List Pl) (fin : List Dn) (pd : List Pq) (s : Tri L) (m : Tri B) (nx : Pt) (listed : Array Bool) (ρ : Pt → Rb) (D : Pt → Prop) (a : Act) (w : World),
      plan ds Lm acc prev pa r = some (ps, fin) → (∀ d ∈ r, d ∈ ds) → exD run pc ops s0 fin ps s m nx = some x → Inv run pc N ops ds E ρ0 D0 m0 nx0 w0 s0 dfs Lm acc pa pd s m nx listed ρ D a w → n = pd.length + r.length →
      wpAny P .any ops Q n listed a w := by
  intro n
  induction n with
  | zero =>
    intro r Lm acc prev pa ps fin pd s m nx listed ρ D a w hpl hds hx I hn
    have hr : r = [] := List.length_eq_zero_iff.1 (by omega)
    have hpd : pd = [] := List.length_eq_zero_iff.1 (by omega)
    subst hr hpd
    simp only [plan] at hpl
    cases hc : ds.all fun d => bit Lm d.i
    · rw [hc] at hpl; cases hpl
    rw [hc] at hpl; cases hpl
    rw [exD_nil] at hx
    cases hre : reOk pc s m (loadsOf acc pa)
    · rw [hre] at hx; cases hx
    rw [hre] at hx; cases hx
    refine ⟨?_, ?_⟩
    · cases hrd : Region.ready .any ops listed with
      | nil => rfl
      | cons i is =>
        have hi : i ∈ Region.ready .any ops listed := by rw [hrd]; exact List.mem_cons_self
        obtain ⟨h1, o, ho, _⟩ := mem_ready.1 hi
        have hlt : i < ops.size := (Array.getElem?_eq_some_iff.1 ho).1
        obtain ⟨d, hd, rfl⟩ := hR.all i hlt
        rw [I.getD hlt, (I.lst _).2 ⟨List.all_eq_true.1 hc d hd, fun _ h => nomatch h⟩] at h1
        cases h1
    · obtain ⟨hT, hD⟩ := I.turn (fun _ h => nomatch h) hfr
      exact hpost ρ a w hT ⟨by rw [← hD]; exact fun t l hl => I.sl t (fun _ h => nomatch h) l hl, I.sz⟩ I.df
  | succ n ihn =>
    -- a pending one comes
    have pend : ∀ (r : List Dn) (Lm : Nat) (acc : List (Dn × Nat)) (prev : Option Nat) (pa : Nat) (ps : List Pl) (fin : List Dn) (pd : List Pq) (s : Tri L) (m : Tri B) (nx : Pt) (listed : Array Bool) (ρ : Pt → Rb) (D : Pt → Prop) (a : Act) (w : World),
        plan ds Lm acc prev pa r = some (ps, fin) → (∀ d ∈ r, d ∈ ds) → exD run pc ops s0 fin ps s m nx = some x → Inv run pc N ops ds E ρ0 D0 m0 nx0 w0 s0 dfs Lm acc pa pd s m nx listed ρ D a w → n + 1 = pd.length + r.length →
        reOk pc s m (loadsOf acc pa) = true → ∀ q ∈ pd, Free listed q.d → wpOp P ops Q q.d.i (wpAny P .any ops Q n (listed.setIfInBounds q.d.i true)) a w := by
      intro r Lm acc prev pa ps fin pd s m nx listed ρ D a w hpl hds hx I hn hre q hq hf
      have hlook := I.look hR hre hq
      have hop := hR.op q.d (I.mem q hq).1
      obtain ⟨l1, l2, rfl⟩ := List.append_of_mem hq
      refine wpOp_wpO hop (I.pend hrun hp hR hf hlook _ _ fun ρ' D' a' w' I' => ihn r Lm acc prev pa ps fin (l1 ++ l2) s m nx _ ρ' D' a' w' hpl hds hx I' ?_)
      simp only [List.length_append, List.length_cons] at hn ⊢
      omega
    intro r
    induction r with
    | nil =>
      intro Lm acc prev pa ps fin pd s m nx listed ρ D a w hpl hds hx I hn
      have hpl0 := hpl
      have hx0 := hx
      simp only [plan] at hpl
      cases hc : ds.all fun d => bit Lm d.i
      · rw [hc] at hpl; cases hpl
      rw [hc] at hpl; cases hpl
      rw [exD_nil] at hx
      cases hre : reOk pc s m (loadsOf acc pa)
      · rw [hre] at hx; cases hx
      refine ⟨fun hnil => ?_, fun i hi => ?_⟩
      · cases pd with
        | nil => simp at hn
        | cons q l =>
          have hq := (I.mem q List.mem_cons_self)
          have : q.d.i ∈ Region.ready .any ops listed := (I.ready_free hR hq.1).2 ⟨by
            cases hb : listed.getD q.d.i false with
            | false => rfl
            | true => exact (((I.lst _).1 hb).2 q List.mem_cons_self rfl).elim, I.head_free⟩
          rw [hnil] at this; cases this
      · obtain ⟨h1, o, ho, _⟩ := mem_ready.1 hi
        have hlt : i < ops.size := (Array.getElem?_eq_some_iff.1 ho).1
        rw [I.getD hlt] at h1
        obtain ⟨d, hd, rfl⟩ := hR.all i hlt
        have hbL := List.all_eq_true.1 hc d hd
        have hex : ∃ q ∈ pd, q.d.i = d.i := Classical.byContradiction fun hno => by
          rw [(I.lst _).2 ⟨hbL, fun q hq e => hno ⟨q, hq, e⟩⟩] at h1; cases h1
        obtain ⟨q, hq, hqi⟩ := hex
        rw [← hqi] at hi ⊢
        exact pend [] Lm acc prev pa _ _ pd s m nx listed ρ D a w hpl0 hds hx0 I hn hre q hq ((I.ready_free hR (I.mem q hq).1).1 hi).2
    | cons d r ihr =>
      intro Lm acc prev pa ps fin pd s m nx listed ρ D a w hpl hds hx I hn
      have hpl0 := hpl
      have hx0 := hx
      obtain ⟨hL, hdp, hprev, ps', h4, rfl⟩ := plan_cons hpl
      have hd := hds d List.mem_cons_self
      have hds' : ∀ e ∈ r, e ∈ ds := fun e he => hds e (List.mem_cons_of_mem _ he)
      rw [exD_cons] at hx
      cases hch : d.ch with
      | false =>
        rw [hch] at h4 hx
        simp only [cond_false, show reOk pc s m [] = true from rfl, cond_true] at hx h4
        cases ho : exO run pc d.co s m nx with
        | none => rw [ho] at hx; cases hx
        | some os =>
          have hmono : os.nx.num ≤ x.nx.num := by
            rw [ho] at hx
            cases os with
            | go s' m' nx' => exact exD_mono hrun hR h4 hds' hx
            | pan c m' nx' =>
              simp only [cond_eq_ite] at hx
              split at hx
              · cases hx; exact Nat.le_refl _
              · cases hx
          obtain ⟨l, nw, s', m', nx', rfl, I'⟩ := I.absorb hR hd hch hL hdp ho fun p hp => hfr p ⟨hp.1, Nat.lt_of_lt_of_le hp.2 hmono⟩
          rw [ho] at hx
          refine ihr _ _ _ _ _ _ _ s' m' nx' listed ρ D a w h4 hds' hx I' ?_
          simp only [List.length_append, List.length_cons, List.length_nil] at hn ⊢
          omega
      | true =>
        rw [hch] at h4 hx
        simp only [cond_true] at hx h4
        cases hre : reOk pc s m (loadsOf acc pa)
        · rw [hre] at hx; cases hx
        rw [hre] at hx
        simp only [cond_true] at hx
        have hdl : listed.getD d.i false = false := by
          cases hb : listed.getD d.i false with
          | false => rfl
          | true => rw [((I.lst _).1 hb).1] at hL; cases hL
        refine ⟨fun hnil => ?_, fun i hi => ?_⟩
        · cases pd with
          | nil =>
            have : d.i ∈ Region.ready .any ops listed := (I.ready_free hR hd).2 ⟨hdl, fun k hk => (I.lst k).2 ⟨hdp k hk, fun _ h => nomatch h⟩⟩
            rw [hnil] at this; cases this
          | cons q l =>
            have hq := (I.mem q List.mem_cons_self)
            have : q.d.i ∈ Region.ready .any ops listed := (I.ready_free hR hq.1).2 ⟨by
              cases hb : listed.getD q.d.i false with
              | false => rfl
              | true => exact (((I.lst _).1 hb).2 q List.mem_cons_self rfl).elim, I.head_free⟩
            rw [hnil] at this; cases this
        · obtain ⟨h1, o, hoi, _⟩ := mem_ready.1 hi
          have hlt : i < ops.size := (Array.getElem?_eq_some_iff.1 hoi).1
          rw [I.getD hlt] at h1
          obtain ⟨e, he, rfl⟩ := hR.all i hlt
          have hfe := ((I.ready_free hR he).1 hi).2
          cases hbL : bit Lm e.i with
          | true =>
            have hex : ∃ q ∈ pd, q.d.i = e.i := Classical.byContradiction fun hno => by
              rw [(I.lst _).2 ⟨hbL, fun q hq e => hno ⟨q, hq, e⟩⟩] at h1; cases h1
            obtain ⟨q, hq, hqi⟩ := hex
            rw [← hqi] at hi ⊢
            exact pend (d :: r) Lm acc prev pa _ _ pd s m nx listed ρ D a w hpl0 hds hx0 I hn hre q hq ((I.ready_free hR (I.mem q hq).1).1 hi).2
          | false =>
            have hin : e.i = d.i := by
              rcases plan_all hpl0 e he with h | ⟨e', he', hi'⟩
              · rw [hbL] at h; cases h
              · rcases List.mem_cons.1 he' with rfl | he'
                · exact hi'.symm
                · exfalso
                  refine plan_wait (listed := listed) (Lm := Lm) hdl (fun i hi => ?_) h4 (fun k hk => (bit_set _ _ _).2 (.inl hk)) hdl (fun p hp hl => ?_) e' he' ?_
                  · cases hb : listed.getD i false with
                    | false => rfl
                    | true => rw [((I.lst _).1 hb).1] at hi; cases hi
                  · rcases List.mem_append.1 hp with hp | hp
                    · exact I.clo p hp hl
                    · rw [List.mem_singleton.1 hp] at hl
                      simp only at hl
                      rw [hdl] at hl; cases hl
                  · have : e'.i ∈ Region.ready .any ops listed := by rw [hi']; exact hi
                    exact ((I.ready_free hR (hds' e' he')).1 this).2
            rw [hin] at hi ⊢
            have hf := ((I.ready_free hR hd).1 hi).2
            have hlr := I.slots hR hd hL hf
            refine wpOp_wpO (hR.op d hd) ?_
            cases ho : exO run pc d.co s m nx with
            | none => rw [ho] at hx; cases hx
            | some os =>
              rw [ho] at hx
              have hco := hR.co d hd
              rw [hco] at ho
              have hin := exO_in ho
              have hmo := exO_mono hrun ho
              cases os with
              | go s' m' nx' =>
                simp only at hx
                have hmono := exD_mono hrun hR h4 hds' hx
                have hfrD : ∀ b, Rg nx nx' b → ¬ D b := fun b hb hD => by
                  rcases ((I.deq b).1 hD).1 with h | h
                  · exact hfr b ⟨Nat.le_trans I.le hb.1, Nat.lt_of_lt_of_le hb.2 hmono⟩ h
                  · exact absurd h.2 (Nat.not_lt.2 hb.1)
                obtain ⟨l, rfl, h3⟩ := exO_loc hrun ho hp hlr I.mr hfrD
                refine h3 _ _ fun ρ' w' hT hl => ihn r _ _ _ _ _ _ pd _ m' nx' _ ρ' _ _ w' h4 hds' hx (I.row hR hd hL hdp hf hin hT hl) ?_
                simp only [List.length_cons] at hn
                omega
              | pan c m' nx' =>
                simp only [cond_eq_ite] at hx
                split at hx
                · rename_i hpk
                  cases hx
                  have hnone : ∀ q ∈ pd, ∀ p, ¬ q.own p := fun q hq p hown => by
                    have hrc := I.rcd q hq
                    unfold Rec at hrc
                    cases hn : q.nw with
                    | none => have := hown.1; rw [hn] at this; cases this
                    | some xk =>
                      obtain ⟨x, k⟩ := xk
                      rw [hn] at hrc
                      obtain ⟨an, hin⟩ := I.ina q hq
                      have := List.all_eq_true.1 hpk _ hin
                      simp only [hrc.2.1, Bool.not_true, Bool.false_or] at this
                      exact ((I.lst _).1 (I.far hf this)).2 q hq rfl
                  have hfrD : ∀ b, Rg nx nx' b → ¬ D b := fun b hb hD => by
                    rcases ((I.deq b).1 hD).1 with h | h
                    · exact hfr b ⟨Nat.le_trans I.le hb.1, hb.2⟩ h
                    · exact absurd h.2 (Nat.not_lt.2 hb.1)
                  obtain ⟨hT0, hD0⟩ := I.turn hnone fun p hp => hfr p ⟨hp.1, Nat.lt_of_lt_of_le hp.2 hmo⟩
                  have h3 := exO_loc hrun ho hp hlr I.mr hfrD
                  refine h3 _ _ fun ρ' w' hT hc => ?_
                  have g := hT.grow
                  rw [hD0] at hT hc g
                  have hsum := un_rg (D := D0) I.le hmo
                  change Un (Un D0 (Rg nx0 nx)) (Rg nx nx') = Un D0 (Rg nx0 nx') at hsum
                  rw [hsum] at hc g
                  refine hpost ρ' a w' (hT0.trans hT) ⟨fun t l hl => ?_, I.sz⟩ I.df hc
                  obtain ⟨g1, g2⟩ := wipe_get hl
                  rw [← I.old t fun d' hd' he => g2 d'.o (by
                    have := hR.op d' hd'
                    exact Array.mem_toList_iff.2 (Array.mem_of_getElem? this)) he] at g1
                  obtain ⟨g3, g4⟩ := I.sl t (fun q hq he => g2 q.d.o (by
                    have := hR.op q.d (I.mem q hq).1
                    exact Array.mem_toList_iff.2 (Array.mem_of_getElem? this)) he) l g1
                  rw [hD0] at g3
                  obtain ⟨g5, g6⟩ := l.grow g g3
                  exact ⟨g5, by rw [g6]; exact g4⟩
                · cases hx
end
end Go.E3
