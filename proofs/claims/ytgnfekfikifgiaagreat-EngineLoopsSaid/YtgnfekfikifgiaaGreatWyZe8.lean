/- Part Ze8 of a checked reader of Go texts in their model form: it runs a function at terms in the place of numbers, and each part proves that its answers hold of the model. -/
import Derived.Test.YtgnfekfikifgiaaGreatWyZe7
namespace Go.E3
open Go.Sy
noncomputable section
variable {P : Program}
/-! what a told call says of another place's world -/
def shP (b : Pt) : Nat → Pt → Pt → Option Pt
  | 0, _, _ => none
  | n + 1, a, nx => bif a.beq b then some nx else shP b n a.succ nx.succ
theorem shP_ok {b b' : Pt} : ∀ {n : Nat} {a nx : Pt}, shP b n a nx = some b' → ∃ i, i < n ∧ b.num = a.num + i ∧ b'.num = nx.num + i := by
  intro n
  induction n with
  | zero => intro a nx h; cases h
  | succ n ih =>
    intro a nx h
    simp only [shP] at h
    cases hb : a.beq b <;> simp only [hb, cond_true, cond_false] at h
    · obtain ⟨i, h1, h2, h3⟩ := ih h
      rw [Pt.succ_num] at h2 h3
      exact ⟨i + 1, by omega, by omega, by omega⟩
    · cases h
      have := Pt.beq_iff.1 hb
      subst this
      exact ⟨0, by omega, by omega, by omega⟩
/-- The world's number of a told call's block; new ones behind 'nx'. -/
def renG (θ : Th) (n : Nat) (a nx : Pt) (b : Pt) : Option Pt := match θ.at b with
  | some b' => some b'
  | none => shP b n a nx
/-- A told call, the facts it stands under, how many new blocks. -/
structure Gc where
  c : Tc
  f : Pc
  n : Nat
def nodupP : List Pt → Bool
  | [] => true
  | b :: r => not (memP b r) && nodupP r
theorem nodupP_ok : ∀ {l : List Pt}, nodupP l = true → l.Nodup := by
  intro l
  induction l with
  | nil => intro _; exact List.nodup_nil
  | cons b r ih =>
    intro h
    simp only [nodupP, Bool.and_eq_true, Bool.not_eq_true'] at h
    refine List.nodup_cons.2 ⟨fun hm => ?_, ih h.2⟩
    have := memP_iff.2 hm
    rw [this] at h; cases h.1
/-- What is asked once for all. -/
def Tc.neat (c : Tc) (n : Nat) : Bool := Nat.beq c.nx'.num (Nat.add c.nx.num n) && (((c.pre.map Prod.fst).all fun b => Nat.blt b.num c.nx.num) && (allIn (c.pre.map Prod.fst) (c.post.map Prod.fst) && (allIn ((List.range n).map (nthS c.nx)) (c.post.map Prod.fst) &&
  (((c.post.map Prod.fst).all fun b => memP b (c.pre.map Prod.fst) || (Nat.ble c.nx.num b.num && Nat.blt b.num (Nat.add c.nx.num n))) && (nodupP (c.post.map Prod.fst) && (nodupP (c.pre.map Prod.fst) && c.pre.all fun p => p.2.neat))))))
structure Neat (c : Tc) (n : Nat) : Prop where
  nx : c.nx'.num = c.nx.num + n
  low : ∀ b ∈ c.pre.map Prod.fst, b.num < c.nx.num
  pp : ∀ b ∈ c.pre.map Prod.fst, b ∈ c.post.map Prod.fst
  new : ∀ b : Pt, Rg c.nx c.nx' b → b ∈ c.post.map Prod.fst
  post : ∀ b ∈ c.post.map Prod.fst, b ∈ c.pre.map Prod.fst ∨ Rg c.nx c.nx' b
  nd : (c.post.map Prod.fst).Nodup
  ndp : (c.pre.map Prod.fst).Nodup
  bl : ∀ p ∈ c.pre, p.2.neat = true
theorem Tc.neat_ok {c : Tc} {n : Nat} (h : c.neat n = true) : Neat c n := by
  simp only [Tc.neat, Bool.and_eq_true, List.all_eq_true, Bool.or_eq_true, Nat.blt] at h
  obtain ⟨h1, h2, h3, h4, h5, h6, h7, h8⟩ := h
  have hn := Nat.eq_of_beq_eq_true h1
  simp only [Nat.add_eq] at hn
  refine ⟨hn, fun b hb => Nat.le_of_ble_eq_true (h2 b hb), allIn_ok h3, fun b hb => ?_, fun b hb => ?_, nodupP_ok h6, nodupP_ok h7, h8⟩
  · have := hb.1
    have := hb.2
    exact allIn_ok h4 b (List.mem_map.2 ⟨b.num - c.nx.num, List.mem_range.2 (by omega), Pt.num_inj (by rw [nthS_num]; omega)⟩)
  · rcases h5 b hb with h | ⟨h, h'⟩
    · exact .inl (memP_iff.1 h)
    · have := Nat.le_of_ble_eq_true h
      have := Nat.le_of_ble_eq_true h'
      simp only [Nat.add_eq, Nat.succ_eq_add_one] at this
      exact .inr ⟨by omega, by omega⟩
theorem putsB_mem : ∀ {l : List (Pt × B)} {m : Tri B} {p : Pt × B}, (l.map Prod.fst).Nodup → p ∈ l → (putsB l m).get p.1 = some p.2 := by
  intro l
  induction l with
  | nil => intro m p _ h; cases h
  | cons q r ih =>
    intro m p hn h
    rw [List.map_cons, List.nodup_cons] at hn
    rcases List.mem_cons.1 h with rfl | h
    · show (putsB r (m.put p.1 (some p.2))).get p.1 = _
      rw [putsB_off hn.1, Tri.get_put, if_pos rfl]
    · exact ih hn.2 h
theorem triB_mem : ∀ {l : List (Pt × B)} {p : Pt × B}, (l.map Prod.fst).Nodup → p ∈ l → (triB l).get p.1 = some p.2 := by
  intro l
  induction l with
  | nil => intro p _ h; cases h
  | cons q r ih =>
    intro p hn h
    rw [List.map_cons, List.nodup_cons] at hn
    show ((triB r).put q.1 (some q.2)).get p.1 = _
    rw [Tri.get_put]
    rcases List.mem_cons.1 h with rfl | h
    · rw [if_pos rfl]
    · have hm : p.1 ∈ r.map Prod.fst := List.mem_map_of_mem h
      rw [if_neg fun e => hn.1 (by rw [e]; exact hm)]
      exact ih hn.2 h
variable {E : Env} {pc : Pc} {ρ : Pt → Rb} {D : Pt → Prop} {m : Tri B} {w : World} {σ : Sg} {θ : Th} {c : Tc} {n : Nat}
/-- A match of a told call. -/
structure Met (E : Env) (pc : Pc) (D : Pt → Prop) (m : Tri B) (σ : Sg) (θ : Th) (c : Tc) : Prop where
  sg : SgOk E σ
  inj : ThI θ
  d : ThD D θ
  keys : ∀ b, DG θ b → b ∈ c.pre.map Prod.fst
  pre : ∀ p ∈ c.pre, ∃ b' y, θ.at p.1 = some b' ∧ m.get b' = some y ∧ ∀ (ρ : Pt → Rb) (z : Nat) (o : Option Obj), BR E ρ D z y o → BR (envS E σ) (rhoG ρ θ) (DG θ) z p.2 o
theorem Met.mr (M : Met E pc D m σ θ c) (hm : MR E ρ D m w) : MR (envS E σ) (rhoG ρ θ) (DG θ) (triB c.pre) w := by
  refine ⟨⟨(hm.gl.env (ρ' := ρ) (E' := envS E σ) rfl).at_, fun g nt b hg hb => ?_⟩, fun b x hb hx => ?_, fun b b2 x x2 hb hb2 hx hx2 hg => ?_⟩
  · obtain ⟨b', hb'⟩ := hb
    rw [rhoG_at hb']
    exact hm.gl.off g nt b' hg (M.d _ _ hb')
  · obtain ⟨b', y, h1, h2, h3⟩ := M.pre _ (triB_get hx)
    simp only at h1 h3
    rw [rhoG_at h1]
    exact h3 ρ _ _ (hm.mem b' y (M.d _ _ h1) h2)
  · obtain ⟨b', y, h1, h2, _⟩ := M.pre _ (triB_get hx)
    obtain ⟨b2', y2, k1, k2, _⟩ := M.pre _ (triB_get hx2)
    simp only at h1 k1
    rw [rhoG_at h1, rhoG_at k1] at hg
    have := hm.inj b' b2' y y2 (M.d _ _ h1) (M.d _ _ k1) h2 k2 hg
    subst this
    exact M.inj _ _ _ h1 k1
def gposts (pc : Pc) (σ : Sg) (f : Pt → Option Pt) : List (Pt × B) → Option (List (Pt × B))
  | [] => some []
  | p :: r => match f p.1 with
    | some b => match p.2.gs pc σ f with
      | some x => match gposts pc σ f r with
        | some l => some ((b, x) :: l)
        | none => none
      | none => none
    | none => none
theorem gposts_ok {f : Pt → Option Pt} : ∀ {l l' : List (Pt × B)}, gposts pc σ f l = some l' → (∀ q ∈ l', ∃ p ∈ l, f p.1 = some q.1 ∧ p.2.gs pc σ f = some q.2) ∧ ∀ p ∈ l, ∃ q ∈ l', f p.1 = some q.1 := by
  intro l
  induction l with
  | nil => intro l' h; simp only [gposts] at h; cases h; exact ⟨(fun _ h => nomatch h), (fun _ h => nomatch h)⟩
  | cons p r ih =>
    intro l' h
    simp only [gposts] at h
    split at h
    · rename_i b hb
      split at h
      · rename_i x hx
        split at h
        · rename_i l1 h1
          cases h
          obtain ⟨a1, a2⟩ := ih h1
          refine ⟨fun q hq => ?_, fun q hq => ?_⟩
          · rcases List.mem_cons.1 hq with rfl | hq
            · exact ⟨p, List.mem_cons_self, hb, hx⟩
            · obtain ⟨p', h1, h2⟩ := a1 q hq
              exact ⟨p', List.mem_cons_of_mem _ h1, h2⟩
          · rcases List.mem_cons.1 hq with rfl | hq
            · exact ⟨_, List.mem_cons_self, hb⟩
            · obtain ⟨p', h1, h2⟩ := a2 q hq
              exact ⟨p', List.mem_cons_of_mem _ h1, h2⟩
        · cases h
      · cases h
    · cases h
noncomputable def rho3 (ρ ρ1 : Pt → Rb) (D : Pt → Prop) (a nx : Pt) (b : Pt) : Rb := open Classical in if D b then ρ b else if nx.num ≤ b.num then ρ1 (path (a.num + (b.num - nx.num))) else ρ b
/-- What a told call's turn is in the world where it was met. -/
theorem Met.back (M : Met E pc D m σ θ c) (hn : Neat c n) (hp : pcOk E pc) (hm : MR E ρ D m w) {nx nx' : Pt} (hnx : nx'.num = nx.num + n) (hfr : ∀ b, Rg nx nx' b → ¬ D b) {ρ1 : Pt → Rb} {w' : World}
    (hT : Turn (envS E σ) (rhoG ρ θ) (DG θ) (triB c.pre) c.nx w ρ1 (putsB c.post (triB c.pre)) c.nx' w') {po : List (Pt × B)} (hpo : gposts pc σ (renG θ n c.nx nx) c.post = some po) :
    ∃ ρ2, Rn ρ1 (Un (DG θ) (Rg c.nx c.nx')) (renG θ n c.nx nx) ρ2 (Un D (Rg nx nx')) ∧ Turn E ρ D m nx w ρ2 (putsB po m) nx' w' := by
  obtain ⟨p1, p2⟩ := gposts_ok hpo
  have hlo : ∀ b, DG θ b → b.num < c.nx.num := fun b hb => hn.low b (M.keys b hb)
  have two : ∀ b, D b → rho3 ρ ρ1 D c.nx nx b = ρ b := fun b h => by unfold rho3; rw [if_pos h]
  have newEq : ∀ b b0, Rg nx nx' b → Rg c.nx c.nx' b0 → b0.num - c.nx.num = b.num - nx.num → rho3 ρ ρ1 D c.nx nx b = ρ1 b0 := fun b b0 hb hb0 he => by
    unfold rho3
    rw [if_neg (hfr b hb), if_pos hb.1]
    have h1 := hb.1
    have h2 := hb0.1
    rw [show path (c.nx.num + (b.num - nx.num)) = b0 from Pt.num_inj (by rw [path_num]; omega)]
  have renD : ∀ b b', θ.at b = some b' → renG θ n c.nx nx b = some b' := fun b b' h => by unfold renG; rw [h]
  have hRn : Rn ρ1 (Un (DG θ) (Rg c.nx c.nx')) (renG θ n c.nx nx) (rho3 ρ ρ1 D c.nx nx) (Un D (Rg nx nx')) := by
    intro b b' hb hD
    unfold renG at hb
    split at hb
    · rename_i x hx
      cases hb
      refine ⟨.inl (M.d _ _ hx), ?_⟩
      rw [two _ (M.d _ _ hx), hT.rb b ⟨_, hx⟩, rhoG_at hx]
    · obtain ⟨i, h1, h2, h3⟩ := shP_ok hb
      have hb0 : Rg c.nx c.nx' b := ⟨by omega, by have := hn.nx; omega⟩
      have hb1 : Rg nx nx' b' := ⟨by omega, by omega⟩
      exact ⟨.inr hb1, newEq b' b hb1 hb0 (by omega)⟩
  refine ⟨rho3 ρ ρ1 D c.nx nx, hRn, ?_⟩
  have ofN : ∀ b, Rg nx nx' b → ∃ b0, Rg c.nx c.nx' b0 ∧ b0.num - c.nx.num = b.num - nx.num ∧ rho3 ρ ρ1 D c.nx nx b = ρ1 b0 := fun b hb => by
    have h1 := hb.1
    have h2 := hb.2
    have h3 := hn.nx
    have hq : Rg c.nx c.nx' (path (c.nx.num + (b.num - nx.num))) := ⟨by rw [path_num]; omega, by rw [path_num]; omega⟩
    have he : (path (c.nx.num + (b.num - nx.num))).num - c.nx.num = b.num - nx.num := by rw [path_num]; omega
    exact ⟨_, hq, he, newEq _ _ hb hq he⟩
  have newOk : ∀ b, Rg nx nx' b → w.heap.size ≤ (rho3 ρ ρ1 D c.nx nx b).g ∨ ∃ b0, D b0 ∧ (rho3 ρ ρ1 D c.nx nx b).g = (ρ b0).g := fun b hb => by
    obtain ⟨b0, h1, h2, h3⟩ := ofN b hb
    rw [h3]
    rcases hT.new b0 h1 with h | ⟨b1, ⟨b2, h4⟩, h5⟩
    · exact .inl h
    · exact .inr ⟨b2, M.d _ _ h4, by rw [h5, rhoG_at h4]⟩
  have heap' : ∀ k, k < w.heap.size → (∀ b, D b → (ρ b).g ≠ k) → w'.heap[k]? = w.heap[k]? := fun k hk h => hT.heap k hk fun b hb => by
    obtain ⟨b', hb'⟩ := hb
    rw [rhoG_at hb']; exact h b' (M.d _ _ hb')
  -- blocks that are told behind
  have desc : ∀ b x, Un D (Rg nx nx') b → (putsB po m).get b = some x → (∃ b0 x0, renG θ n c.nx nx b0 = some b ∧ Un (DG θ) (Rg c.nx c.nx') b0 ∧ (putsB c.post (triB c.pre)).get b0 = some x0 ∧ x0.gs pc σ (renG θ n c.nx nx) = some x ∧ rho3 ρ ρ1 D c.nx nx b = ρ1 b0) ∨ (D b ∧ (∀ b0, DG θ b0 → θ.at b0 ≠ some b) ∧ m.get b = some x ∧ rho3 ρ ρ1 D c.nx nx b = ρ b) := fun b x hb hx => by
    rcases putsB_get hx with h | ⟨h1, h2⟩
    · obtain ⟨p, g1, g2, g3⟩ := p1 _ h
      have hu : Un (DG θ) (Rg c.nx c.nx') p.1 := by
        rcases hn.post p.1 (List.mem_map_of_mem g1) with h | h
        · obtain ⟨q, hq, hq2⟩ := List.mem_map.1 h
          obtain ⟨b', y, k1, _⟩ := M.pre q hq
          rw [hq2] at k1
          exact .inl ⟨b', k1⟩
        · exact .inr h
      exact .inl ⟨p.1, p.2, g2, hu, putsB_mem hn.nd g1, g3, (hRn _ _ g2 hu).2⟩
    · rcases hb with hb | hb
      · refine .inr ⟨hb, fun b0 h0 he => h2 ?_, h1, two b hb⟩
        obtain ⟨q, hq, hq2⟩ := List.mem_map.1 (hn.pp b0 (M.keys b0 h0))
        obtain ⟨q', hq', h3⟩ := p2 q hq
        rw [hq2, renD _ _ he] at h3
        cases h3
        exact List.mem_map_of_mem hq'
      · exfalso
        obtain ⟨b0, k1, k2, k3⟩ := ofN b hb
        obtain ⟨q, hq, hq2⟩ := List.mem_map.1 (hn.new b0 k1)
        obtain ⟨q', hq', h3⟩ := p2 q hq
        rw [hq2] at h3
        have hno : θ.at b0 = none := by
          cases hh : θ.at b0 with
          | none => rfl
          | some y => have := hlo b0 ⟨y, hh⟩; have := k1.1; omega
        unfold renG at h3
        rw [hno] at h3
        obtain ⟨i, e1, e2, e3⟩ := shP_ok h3
        have : q'.1 = b := Pt.num_inj (by have := hb.1; omega)
        exact h2 (this ▸ List.mem_map_of_mem hq')
  have oldNe : ∀ q x, D q → (∀ b0, DG θ b0 → θ.at b0 ≠ some q) → m.get q = some x → ∀ b0, Un (DG θ) (Rg c.nx c.nx') b0 → (ρ1 b0).g ≠ (ρ q).g := fun q x hq hqi hx b0 hb0 he => by
    have key : ∀ b1 b', θ.at b1 = some b' → (ρ b').g ≠ (ρ q).g := fun b1 b' h1 h2 => by
      have hk := M.keys b1 ⟨_, h1⟩
      obtain ⟨p, hp1, hp2⟩ := List.mem_map.1 hk
      obtain ⟨b2, y, k1, k2, _⟩ := M.pre p hp1
      rw [hp2, h1] at k1
      cases k1
      have := hm.inj b' q y x (M.d _ _ h1) hq k2 hx h2
      exact hqi b1 ⟨_, h1⟩ (this ▸ h1)
    rcases hb0 with hb0 | hb0
    · obtain ⟨b', hb'⟩ := hb0
      rw [hT.rb b0 ⟨_, hb'⟩, rhoG_at hb'] at he
      exact key b0 b' hb' he
    · rcases hT.new b0 hb0 with h | ⟨b1, ⟨b2, h1⟩, h2⟩
      · have := (hm.mem q x hq hx).lt; omega
      · rw [h2, rhoG_at h1] at he; exact key b1 b2 h1 he
  refine ⟨by omega, two, ⟨hm.gl.turn heap' (fun b hb => hb.elim (fun hb => .inl ⟨hb, by rw [two b hb]⟩) fun hb => .inr (newOk b hb)), fun b x hb hx => ?_, fun p q x x' hp' hq' hx hx' hg => ?_⟩, fun b hb hno => ?_, newOk, hT.os, hT.tape, hT.output, hT.size, heap'⟩
  · rcases desc b x hb hx with ⟨b0, x0, g1, g2, g3, g4, g5⟩ | ⟨g1, g2, g3, g4⟩
    · rw [g5]; exact BR.gs_ok hp M.sg hRn g4 (hT.mr.mem b0 x0 g2 g3)
    · have h0 := hm.mem b x g1 g3
      rw [g4, hT.heap _ h0.lt fun b' hb' he => by
        obtain ⟨b1, hb1⟩ := hb'
        rw [rhoG_at hb1] at he
        exact oldNe b x g1 g2 g3 b' (.inl ⟨_, hb1⟩) (by rw [hT.rb b' ⟨_, hb1⟩, rhoG_at hb1]; exact he)]
      exact h0.grow ⟨two, fun _ => .inl⟩
  · rcases desc p x hp' hx with ⟨b0, x0, g1, g2, g3, g4, g5⟩ | ⟨g1, g2, g3, g4⟩ <;> rcases desc q x' hq' hx' with ⟨b1, x1, k1, k2, k3, k4, k5⟩ | ⟨k1, k2, k3, k4⟩
    · rw [g5, k5] at hg
      have := hT.mr.inj b0 b1 x0 x1 g2 k2 g3 k3 hg
      subst this
      rw [g1] at k1; cases k1; rfl
    · rw [g5, k4] at hg; exact (oldNe q x' k1 k2 k3 b0 g2 hg).elim
    · rw [g4, k5] at hg; exact (oldNe p x g1 g2 g3 b1 k2 hg.symm).elim
    · rw [g4, k4] at hg; exact hm.inj p q x x' g1 k1 g3 k3 hg
  · refine putsB_off fun hmem => ?_
    obtain ⟨q, h1, h2⟩ := List.mem_map.1 hmem
    obtain ⟨p, g1, g2, g3⟩ := p1 q h1
    have hu : Un (DG θ) (Rg c.nx c.nx') p.1 := by
      rcases hn.post p.1 (List.mem_map_of_mem g1) with h | h
      · obtain ⟨q0, hq, hq2⟩ := List.mem_map.1 h
        obtain ⟨b', y, k1, _⟩ := M.pre q0 hq
        rw [hq2] at k1
        exact .inl ⟨b', k1⟩
      · exact .inr h
    rcases (hRn _ _ g2 hu).1 with h | h
    · rw [h2] at h; exact hb h
    · rw [h2] at h; exact hno h
/-- Letters' meanings, written out. -/
def fcSg {β : Type} (σ : Sg) : (Sg → β) → β := List.rec (motive := fun _ => (Sg → β) → β) (fun k => k []) (fun s _ ih k => fcT s.t fun t => ih fun r => k (⟨s.lo, s.hi, t⟩ :: r)) σ
theorem fcSg_eq {β : Type} : ∀ (σ : Sg) (k : Sg → β), fcSg σ k = k σ := by
  intro σ
  induction σ with
  | nil => intro k; rfl
  | cons s r ih =>
    intro k
    show fcT s.t (fun t => fcSg r fun r => k (⟨s.lo, s.hi, t⟩ :: r)) = _
    rw [fcT_eq, ih]
/-- Letters, blocks of a told call by what is there. -/
def metG (pc : Pc) (c : Tc) (f : Pc) (as : List L) (m : Tri B) : Option Mg := match mLgs pc c.as as ([], []) with
  | some M => match mPre pc m c.pre M with
    | some M => fcSg M.1 fun σ => bif allIn (M.2.map Prod.fst) (c.pre.map Prod.fst) && condsG pc σ f then some (σ, M.2) else none
    | none => none
  | none => none
theorem metG_ok (hp : pcOk E pc) {f : Pc} {as : List L} {M : Mg} (hn : Neat c n) (h : metG pc c f as m = some M) (hm : MR E ρ D m w) (has : ∀ l ∈ as, l.ok E ρ D) :
    Met E pc D m M.1 M.2 c ∧ pcOk (envS E M.1) f ∧ c.as.map (L.val (envS E M.1) (rhoG ρ M.2)) = as.map (L.val E ρ) ∧ ∀ l ∈ c.as, l.ok (envS E M.1) (rhoG ρ M.2) (DG M.2) := by
  unfold metG at h
  split at h
  · rename_i M0 h0
    split at h
    · rename_i M1 h1
      rw [fcSg_eq] at h
      cases hq : allIn (M1.2.map Prod.fst) (c.pre.map Prod.fst) && condsG pc M1.1 f <;> simp only [hq, cond_true, cond_false] at h
      · cases h
      cases h
      rw [Bool.and_eq_true] at hq
      have R := mLgs_ok hp h0
      obtain ⟨s1, d1, r1⟩ := mPre_ok hp hn.bl h1
      have st := R.st.trans s1
      have hsg : SgOk E M1.1 := st.sg fun _ h => nomatch h
      have hi : ThI M1.2 := st.inj fun b c b' h => by cases h
      have hd : ThD D M1.2 := d1 ρ D w hm (R.d ρ D has fun b b' h => by cases h)
      have hf : Fin' E M1 M1.1 M1.2 := ⟨Ext.refl _, hsg, fun _ _ h => h⟩
      obtain ⟨a1, a2⟩ := R.r _ _ (s1.fin hf) ρ D
      refine ⟨⟨hsg, hi, hd, fun b hb => ?_, fun p hp' => ?_⟩, condsG_ok hp hsg hq.2, a1, a2 has⟩
      · obtain ⟨b', hb'⟩ := hb
        exact allIn_ok hq.1 b (List.mem_map.2 ⟨(b, b'), Th.at_mem hb', rfl⟩)
      · obtain ⟨b', y, k1, k2, k3⟩ := r1 p hp'
        exact ⟨b', y, k1 _ _ hf, k2, fun ρ z o => k3 _ _ hf ρ D z o⟩
    · cases h
  · cases h
/-- A told call, met anywhere. -/
def gcX (pc : Pc) : List Gc → Run
  | [], _, _, _, _ => none
  | k :: r, g, as, m, nx => bif Nat.beq g k.c.g then match metG pc k.c k.f as m with
      | some M => match k.c.l.gs pc M.1 (renG M.2 k.n k.c.nx nx) with
        | some l => match gposts pc M.1 (renG M.2 k.n k.c.nx nx) k.c.post with
          | some po => some (.ret l (putsB po m) (nthS nx k.n))
          | none => gcX pc r g as m nx
        | none => gcX pc r g as m nx
      | none => gcX pc r g as m nx
    else gcX pc r g as m nx
def GcOk (P : Program) (k : Gc) : Prop := TcOk P k.f k.c ∧ k.c.neat k.n = true
theorem gcX_ok {pc : Pc} : ∀ {tab : List Gc}, (∀ k ∈ tab, GcOk P k) → CallOk P pc (gcX pc tab) := by
  intro tab
  induction tab with
  | nil => intro _ g as m nx r h; cases h
  | cons k tab ih =>
    intro ht g as m nx r h
    have rest : gcX pc tab g as m nx = some r → _ := fun h => ih (fun c' hc' => ht c' (List.mem_cons_of_mem _ hc')) g as m nx r h
    simp only [gcX] at h
    cases h1 : Nat.beq g k.c.g <;> simp only [h1, cond_true, cond_false] at h
    · exact rest h
    split at h
    · rename_i M hM
      split at h
      · rename_i l hl
        split at h
        · rename_i po hpo
          cases h
          have h1 := Nat.eq_of_beq_eq_true h1
          subst h1
          obtain ⟨⟨q1, q2⟩, q3⟩ := ht k List.mem_cons_self
          have hn := Tc.neat_ok q3
          have hnx : (nthS nx k.n).num = nx.num + k.n := nthS_num nx k.n
          refine ⟨by show nx.num ≤ (nthS nx k.n).num; omega, fun E ρ D w hp has hm hfr => ?_⟩
          obtain ⟨M1, M2, M3, M4⟩ := metG_ok hp hn hM hm has
          obtain ⟨c1, c2⟩ := q2 (envS E M.1) (rhoG ρ M.2) (DG M.2) (triB k.c.pre) w M2 M4 (M1.mr hm) (fun p hp' => by
            obtain ⟨b', y, k1, _⟩ := M1.pre p hp'
            exact ⟨⟨b', k1⟩, triB_mem hn.ndp hp'⟩) (fun b hb hd => by have := hn.low b (M1.keys b hd); have := hb.1; omega)
          refine ⟨c1, ?_⟩
          rw [M3] at c2
          refine Calls.mono c2 fun e w' he => ?_
          obtain ⟨ρ1, rfl, ho, hT⟩ := he
          obtain ⟨ρ2, hR, hT2⟩ := M1.back hn hp hm hnx hfr hT hpo
          obtain ⟨g1, g2⟩ := L.gs_ok hp M1.sg hR hl ho
          exact ⟨ρ2, by rw [g2], g1, hT2⟩
        · exact rest h
      · exact rest h
    · exact rest h
/-! pieces of loops, met anywhere -/
def GlOk (P : Program) (N : Nat) (x : Code) (k : Lg) (f : Pc) (n : Nat) : Prop := LgOk P f N x k ∧ k.c.neat n = true
structure Gl where
  g : Lg
  f : Pc
  n : Nat
def getLs (s : Tri L) : List Nat → Option (List L)
  | [] => some []
  | i :: is => match s.get (path i) with
    | some x => match getLs s is with
      | some xs => some (x :: xs)
      | none => none
    | none => none
theorem getLs_get {s : Tri L} : ∀ {is : List Nat} {xs : List L}, getLs s is = some xs → is.length = xs.length ∧ ∀ (j i : Nat) (x : L), is[j]? = some i → xs[j]? = some x → s.get (path i) = some x := by
  intro is
  induction is with
  | nil => intro xs h; cases h; exact ⟨rfl, fun j i x h => by simp at h⟩
  | cons i is ih =>
    intro xs h
    simp only [getLs] at h
    split at h
    · rename_i x0 h0
      split at h
      · rename_i xs0 h1
        cases h
        obtain ⟨g1, g2⟩ := ih h1
        refine ⟨by simp [g1], fun j i' x hi hx => ?_⟩
        cases j with
        | zero => simp at hi hx; subst hi; subst hx; exact h0
        | succ j => exact g2 j i' x (by simpa using hi) (by simpa using hx)
      · cases h
    · cases h
def jmGl (pc : Pc) : List Gl → Jm
  | [], _, _, _ => none
  | k :: r, s, m, nx => match getLs s k.g.ids with
    | some as => match metG pc k.g.c k.f as m with
      | some M => match k.g.c.l.gs pc M.1 (renG M.2 k.n k.g.c.nx nx) with
        | some (.tup xs) => match gposts pc M.1 (renG M.2 k.n k.g.c.nx nx) k.g.c.post with
          | some po => some (k.g.k, slotsT k.g.ids (xs.map .a), putsB po m, nthS nx k.n)
          | none => jmGl pc r s m nx
        | _ => jmGl pc r s m nx
      | none => jmGl pc r s m nx
    | none => jmGl pc r s m nx
theorem A.gss_at {f : Pt → Option Pt} : ∀ {xs ys : List A}, A.gss pc σ f xs = some ys → ys.length = xs.length ∧ ∀ (i : Nat) (y : A), ys[i]? = some y → ∃ x, xs[i]? = some x ∧ A.gs pc σ f x = some y := by
  intro xs
  induction xs with
  | nil => intro ys hy; simp only [A.gss] at hy; cases hy; exact ⟨rfl, fun i y h => by simp at h⟩
  | cons x xs ih =>
    intro ys hy
    simp only [A.gss] at hy
    split at hy
    · rename_i y' h1
      split at hy
      · rename_i ys' h2; cases hy
        obtain ⟨a1, a2⟩ := ih h2
        refine ⟨by simp [a1], fun i y h => ?_⟩
        cases i with
        | zero => simp at h; subst h; exact ⟨x, rfl, h1⟩
        | succ i => exact a2 i y (by simpa using h)
      · cases hy
    · cases hy
theorem slotsT_two : ∀ {is : List Nat} {ls ls' : List L} {p : Pt} {l' : L}, ls.length = ls'.length → (slotsT is ls').get p = some l' → ∃ (j : Nat) (l : L), ls[j]? = some l ∧ ls'[j]? = some l' ∧ (slotsT is ls).get p = some l := by
  intro is
  induction is with
  | nil => intro ls ls' p l' _ h; change (Tri.e : Tri L).get p = some l' at h; rw [Tri.get_e] at h; cases h
  | cons i is ih =>
    intro ls ls' p l' hlen h
    cases ls' with
    | nil => change (Tri.e : Tri L).get p = some l' at h; rw [Tri.get_e] at h; cases h
    | cons b ls' =>
      cases ls with
      | nil => simp at hlen
      | cons a ls =>
        simp only [slotsT] at h ⊢
        rw [Tri.get_put] at h ⊢
        split at h
        · rename_i e
          cases h
          exact ⟨0, a, rfl, rfl, by rw [if_pos e]⟩
        · rename_i e
          obtain ⟨j, l, h1, h2, h3⟩ := ih (by simpa using hlen) h
          exact ⟨j + 1, l, by simpa using h1, by simpa using h2, by rw [if_neg e]; exact h3⟩
/-- A told piece of a function's loop, met anywhere. -/
def GlIn (P : Program) (g0 : Nat) (path : List Bool) (k : Gl) : Prop := ∀ N x, LoopIn P g0 path N x → GlOk P N x k.g k.f k.n
theorem jmGl_ok {N : Nat} {x : Code} {pc : Pc} : ∀ {tab : List Gl}, (∀ k ∈ tab, GlOk P N x k.g k.f k.n) → JmOk P pc N x (jmGl pc tab) := by
  intro tab
  induction tab with
  | nil => intro _ s m nx k s' m' nx' h; cases h
  | cons k tab ih =>
    intro ht s m nx kk s' m' nx' h
    have rest : jmGl pc tab s m nx = some (kk, s', m', nx') → _ := fun h => ih (fun c' hc' => ht c' (List.mem_cons_of_mem _ hc')) s m nx kk s' m' nx' h
    simp only [jmGl] at h
    split at h
    · rename_i as has0
      split at h
      · rename_i M hM
        split at h
        · rename_i xs hl
          split at h
          · rename_i po hpo
            cases h
            obtain ⟨⟨q1, q2⟩, q3⟩ := ht k List.mem_cons_self
            have hn := Tc.neat_ok q3
            have hnx : (nthS nx k.n).num = nx.num + k.n := nthS_num nx k.n
            refine ⟨by omega, fun E ρ D a w Q ds n' hp ha hd hm hfr hpost => ?_⟩
            obtain ⟨g1, g2⟩ := getLs_get has0
            have has : ∀ l ∈ as, l.ok E ρ D := fun l hl' => by
              obtain ⟨j, hj, rfl⟩ := List.mem_iff_getElem.1 hl'
              have hj' : j < k.g.ids.length := by omega
              exact (ha.sr _ _ (g2 j _ _ (List.getElem?_eq_getElem hj') (List.getElem?_eq_getElem hj))).1
            obtain ⟨M1, M2, M3, M4⟩ := metG_ok hp hn hM hm has
            have hlen : k.g.c.as.length = as.length := by have := congrArg List.length M3; simpa using this
            have ha' : AR (envS E M.1) (rhoG ρ M.2) (DG M.2) N (slotsT k.g.ids k.g.c.as) a := by
              refine ⟨fun t l hl' => ?_, ha.sz⟩
              obtain ⟨j, e1, e2⟩ := slotsT_get hl'
              have hj : j < k.g.c.as.length := (List.getElem?_eq_some_iff.1 e2).1
              have hj2 : j < as.length := by omega
              have e3 := ha.sr t _ (g2 j t _ e1 (List.getElem?_eq_getElem hj2))
              refine ⟨M4 l (List.mem_of_getElem? e2), ?_⟩
              rw [e3.2]
              have := congrArg (fun l : List Value => l[j]?) M3
              simp only [List.getElem?_map, e2, List.getElem?_eq_getElem hj2, Option.map_some] at this
              exact this.symm
            refine q2 (envS E M.1) (rhoG ρ M.2) (DG M.2) (triB k.g.c.pre) a w Q ds n' M2 ha' hd (M1.mr hm) (fun p hp' => by
              obtain ⟨b', y, k1, _⟩ := M1.pre p hp'
              exact ⟨⟨b', k1⟩, triB_mem hn.ndp hp'⟩) (fun b hb hd => by have := hn.low b (M1.keys b hd); have := hb.1; omega) fun ρ1 a' w' hT ha1 hd1 => ?_
            obtain ⟨ρ2, hR, hT2⟩ := M1.back hn hp hm hnx hfr hT hpo
            refine hpost ρ2 a' w' hT2 ⟨fun t l hl' => ?_, ha1.sz⟩ hd1
            cases hcl : k.g.c.l with
            | tup ys =>
              rw [hcl] at hl
              simp only [L.gs] at hl
              split at hl
              · rename_i zs hz
                cases hl
                obtain ⟨z1, z2⟩ := A.gss_at hz
                have ho : k.g.out = ys.map .a := by unfold Lg.out; rw [hcl]
                obtain ⟨j, l0, f1, f2, f3⟩ := slotsT_two (ls := ys.map .a) (by simp [z1]) hl'
                rw [← ho] at f3
                rw [List.getElem?_map] at f1 f2
                obtain ⟨x1, hx1, rfl⟩ := Option.map_eq_some_iff.1 f2
                obtain ⟨y1, hy1, rfl⟩ := Option.map_eq_some_iff.1 f1
                obtain ⟨y2, hy2, hgs⟩ := z2 j x1 hx1
                rw [hy1] at hy2
                cases hy2
                obtain ⟨o1, o2⟩ := ha1.sr t _ f3
                obtain ⟨v1, v2⟩ := A.gs_ok hp M1.sg hR hgs o1
                refine ⟨v1, ?_⟩
                rw [o2]
                show some (y1.val (envS E M.1) ρ1) = some (x1.val E ρ2)
                rw [v2]
              · cases hl
            | a _ => rw [hcl] at hl; simp only [L.gs] at hl; split at hl <;> cases hl
            | gd _ _ => rw [hcl] at hl; simp only [L.gs] at hl; cases hl
          · exact rest h
        · exact rest h
      · exact rest h
    · exact rest h
theorem jmGlIn_ok {pc : Pc} {g0 : Nat} {path : List Bool} {tab : List Gl} (h : ∀ k ∈ tab, GlIn P g0 path k) : ∀ N x, LoopIn P g0 path N x → JmOk P pc N x (jmGl pc tab) := fun N x hx => jmGl_ok fun k hk => h k hk N x hx
/-- A run, asked at some arguments alone. -/
def ifR (p : List L → Bool) (r : Run) : Run := fun g as m nx => bif p as then r g as m nx else none
theorem ifR_ok {pc : Pc} {p : List L → Bool} {r : Run} (h : CallOk P pc r) : CallOk P pc (ifR p r) := by
  intro g as m nx x hx
  unfold ifR at hx
  cases hp : p as <;> simp only [hp, cond_true, cond_false] at hx
  · cases hx
  · exact h g as m nx x hx
/-- Is a struct's first cell such a number? -/
def fstIs (i : Nat) (n : Int) (as : List L) : Bool := match as[i]? with
  | some (.a (.agg (.int _ (.lit k) :: _))) => eqF k n
  | _ => false
end
end Go.E3
namespace Go.E3
open Go.Sy
noncomputable section
variable {P : Program} {pc : Pc} {N : Nat}
/-! pieces put together of pieces -/
def segJ (j : Jm) (n : Nat) : Tri L → Tri B → Pt → Option (Nat × Tri L × Tri B × Pt) :=
  Nat.rec (motive := fun _ => Tri L → Tri B → Pt → Option (Nat × Tri L × Tri B × Pt)) (fun s m nx => some (0, s, m, nx)) (fun _ ih s m nx => match j s m nx with
    | some (k, s, m, nx) => match ih s m nx with
      | some (c, s, m, nx) => some (Nat.add c k, s, m, nx)
      | none => none
    | none => none) n
theorem segJ_ok {x : Code} {j : Jm} (hj : JmOk P pc N x j) (n : Nat) : ∀ s m nx c s' m' nx', segJ j n s m nx = some (c, s', m', nx') → nx.num ≤ nx'.num ∧ ∀ (E : Env) (ρ : Pt → Rb) (D : Pt → Prop) (a : Act) (w : World) (Q : Exit → Act → World → Prop) (ds : List Deferred) (k : Nat), pcOk E pc → AR E ρ D N s a → a.defers = ds → MR E ρ D m w → (∀ b, Rg nx nx' b → ¬ D b) →
    (∀ ρ' a' w', Turn E ρ D m nx w ρ' m' nx' w' → AR E ρ' (Un D (Rg nx nx')) N s' a' → a'.defers = ds → Code.rounds P x Q k a' w') → Code.rounds P x Q (k + c) a w := by
  induction n with
  | zero =>
    intro s m nx c s' m' nx' h
    cases h
    exact ⟨Nat.le_refl _, fun E ρ D a w Q ds k hp ha hd hm hfr hpost => hpost ρ a w (Turn.refl hm) (by rw [un_self]; exact ha) hd⟩
  | succ n ih =>
    intro s m nx c s' m' nx' h
    change (match j s m nx with
      | some (k, s, m, nx) => match segJ j n s m nx with
        | some (c, s, m, nx) => some (Nat.add c k, s, m, nx)
        | none => none
      | none => none) = some (c, s', m', nx') at h
    split at h
    · rename_i k1 s1 m1 nx1 h1
      split at h
      · rename_i c2 s2 m2 nx2 h2
        cases h
        obtain ⟨l1, q1⟩ := hj _ _ _ _ _ _ _ h1
        obtain ⟨l2, q2⟩ := ih _ _ _ _ _ _ _ h2
        refine ⟨Nat.le_trans l1 l2, fun E ρ D a w Q ds k hp ha hd hm hfr hpost => ?_⟩
        have e : k + Nat.add c2 k1 = (k + c2) + k1 := by show k + (c2 + k1) = _; omega
        rw [e]
        refine q1 E ρ D a w Q ds (k + c2) hp ha hd hm (fresh1 hfr l2) fun ρ' a' w' hT ha' hd' => ?_
        refine q2 E ρ' _ a' w' Q ds k hp ha' hd' hT.mr (fresh2 hfr l1) fun ρ2 a2 w2 hT2 ha2 hd2 => ?_
        have e := un_rg (D := D) hT.le l2
        rw [e] at ha2
        exact hpost ρ2 a2 w2 (hT.trans hT2) ha2 hd2
      · cases h
    · cases h
theorem LgOk.ofJ {x : Code} {j : Jm} (hj : JmOk P pc N x j) {n : Nat} {g : Lg} {s0 : Tri L} {m0 : Tri B} {nx0 : Pt} (hr : segJ j n (slotsT g.ids g.c.as) (triB g.c.pre) g.c.nx = some (g.k, s0, m0, nx0)) {xs : List A} (hx : getA s0 g.ids = some xs) (hle : g.c.nx.num ≤ g.c.nx'.num)
    (hlow : ∀ b ∈ g.c.pre.map Prod.fst, b.num < g.c.nx.num) (has : ∀ l ∈ g.c.as, ∀ b ∈ l.ptrs, b ∈ g.c.pre.map Prod.fst) (hpre : ∀ p ∈ g.c.pre, ∀ b ∈ p.2.ptrs, b ∈ g.c.pre.map Prod.fst)
    {news : List Pt} (hres : ResOk g.c (.ret (.tup xs) m0 nx0) news (.tup xs) m0 nx0) : LgOk P pc N x g := by
  obtain ⟨l1, q1⟩ := segJ_ok hj n _ _ _ _ _ _ _ hr
  refine ⟨hle, fun E ρ D m a w Q ds n hp ha hd hm hD hfr hpost => ?_⟩
  have hDi : ∀ b ∈ g.c.pre.map Prod.fst, D b := fun b hb => by
    obtain ⟨p, h1, rfl⟩ := List.mem_map.1 hb
    exact (hD p h1).1
  have mv : ∀ b, b ∈ g.c.pre.map Prod.fst → (D b ∧ b ∈ g.c.pre.map Prod.fst) ∧ ρ b = ρ b := fun b hb => ⟨⟨hDi b hb, hb⟩, rfl⟩
  have mrf : MR E ρ (fun b => D b ∧ b ∈ g.c.pre.map Prod.fst) (triB g.c.pre) w :=
    ⟨hm.gl.sub rfl fun b hb => ⟨hb.1, rfl⟩, fun b x hb hx => BR.move (hm.mem b x hb.1 (hD _ (triB_get hx)).2) fun b' hb' => mv b' (hpre _ (triB_get hx) b' hb'),
      fun b b' x x' d d' h h' hg => hm.inj b b' x x' d.1 d'.1 (hD _ (triB_get h)).2 (hD _ (triB_get h')).2 hg⟩
  have arf : AR E ρ (fun b => D b ∧ b ∈ g.c.pre.map Prod.fst) N (slotsT g.ids g.c.as) a := by
    refine ⟨fun t l hl => ?_, ha.sz⟩
    obtain ⟨h1, h2⟩ := ha.sr t l hl
    obtain ⟨j, _, h4⟩ := slotsT_get hl
    exact ⟨(L.move h1 fun b hb => mv b (has l (List.mem_of_getElem? h4) b hb)).1, h2⟩
  refine q1 E ρ (fun b => D b ∧ b ∈ g.c.pre.map Prod.fst) a w Q ds n hp arf hd mrf (fun b hb hd => by have := hlow b hd.2; have := hb.1; omega) fun ρ1 a' w' hT ha' hd' => ?_
  obtain ⟨g1, g2⟩ := getA_get hx
  have ho : (L.tup xs).ok E ρ1 (Un (fun b => D b ∧ b ∈ g.c.pre.map Prod.fst) (Rg g.c.nx nx0)) := fun y hy => by
    obtain ⟨j, hj, hy'⟩ := List.mem_iff_getElem.1 hy
    have hj' : j < g.ids.length := by omega
    have := g2 j _ y (List.getElem?_eq_getElem hj') (by rw [List.getElem?_eq_getElem hj, hy'])
    exact (ha'.sr _ _ this).1
  obtain ⟨ρ', h1, h2, h3⟩ := hres.turn hm hD hfr hle ho hT
  refine hpost ρ' a' w' h3 ⟨fun t l hl => ?_, ha'.sz⟩ hd'
  obtain ⟨j, h4, h5⟩ := slotsT_get hl
  unfold Lg.out at h5
  split at h5
  · rename_i ys hys
    rw [hys] at h1 h2
    rw [List.getElem?_map] at h5
    obtain ⟨y, hy, rfl⟩ := Option.map_eq_some_iff.1 h5
    have hlen : xs.length = ys.length := by
      have := congrArg (fun v : Value => match v with | .tuple l => l.size | _ => 0) h1
      simpa [L.val] using this
    have hjx : j < xs.length := by rw [hlen]; exact (List.getElem?_eq_some_iff.1 hy).1
    have h6 := g2 j t _ h4 (List.getElem?_eq_getElem hjx)
    have h7 := (ha'.sr _ _ h6).2
    refine ⟨h2 y (List.mem_of_getElem? hy), ?_⟩
    rw [h7]
    have h8 : (xs[j]).val E ρ1 = y.val E ρ' := by
      have := congrArg (fun v : Value => match v with | .tuple l => l[j]? | _ => none) h1
      simpa [L.val, List.getElem?_eq_getElem hjx, hy] using this
    show some ((xs[j]).val E ρ1) = some (y.val E ρ')
    rw [h8]
  · simp at h5
def lgJB (j : Jm) (n : Nat) (g : Lg) (news : List Pt) : Bool := match segJ j n (slotsT g.ids g.c.as) (triB g.c.pre) g.c.nx with
  | some (k, s0, m0, nx0) => Nat.beq k g.k && (match getA s0 g.ids with
    | some xs => Nat.ble g.c.nx.num g.c.nx'.num && ((g.c.pre.map Prod.fst).all fun b => Nat.blt b.num g.c.nx.num) && (g.c.as.all fun l => allIn l.ptrs (g.c.pre.map Prod.fst)) && (g.c.pre.all fun p => allIn p.2.ptrs (g.c.pre.map Prod.fst)) && allIn (g.c.pre.map Prod.fst) (g.c.post.map Prod.fst) && resB g.c [.ret (.tup xs) m0 nx0] [news]
    | none => false)
  | none => false
theorem LgIn.ofJ {g0 : Nat} {path : List Bool} {j : Jm} (hj : ∀ N x, LoopIn P g0 path N x → JmOk P pc N x j) {g : Lg} (n : Nat) (news : List Pt) (h : lgJB j n g news = true) : LgIn P pc g0 path g := by
  intro N x hx
  unfold lgJB at h
  split at h
  · rename_i k s0 m0 nx0 hr
    rw [Bool.and_eq_true] at h
    have hk := Nat.eq_of_beq_eq_true h.1
    subst hk
    have h := h.2
    split at h
    · rename_i xs hxs
      simp only [Bool.and_eq_true, List.all_eq_true, Nat.blt] at h
      obtain ⟨⟨⟨⟨⟨h0, h3⟩, h4⟩, h5⟩, h7⟩, h9⟩ := h
      obtain ⟨news', l0, m1, nx1, hR⟩ := resB_ok (fun b hb => allIn_ok h7 b hb) h9 _ List.mem_cons_self
      have e := hR.1
      cases e
      exact LgOk.ofJ (hj N x hx) hr hxs (Nat.le_of_ble_eq_true h0) (fun b hb => Nat.le_of_ble_eq_true (h3 b hb)) (fun l hl b hb => allIn_ok (h4 l hl) b hb) (fun p hp b hb => allIn_ok (h5 p hp) b hb) hR
    · cases h
  · cases h
end
end Go.E3
