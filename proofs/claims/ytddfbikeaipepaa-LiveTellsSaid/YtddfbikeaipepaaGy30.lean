/- Part 30 of a checked reader of Go texts in their model form: it runs a function at terms in the place of numbers, and each part proves that its answers hold of the model. -/
import Derived.Test.YtddfbikeaipepaaGy29
namespace Go.Sy
/-! a table of functions and loops -/
inductive Te where
  | card (c : Fk)
  | loop (c : Lk)
def Te.id : Te → Nat
  | .card c => c.g
  | .loop c => c.id
def Te.spec : Te → (Nat → List Arg → List Arg) → List Arg → List Arg
  | .card c => c.spec
  | .loop c => c.spec
def mkG : List Te → Nat → List Arg → List Arg
  | [] => fun _ _ => []
  | c :: r => fun g args => bif Nat.beq g c.id then c.spec (mkG r) args else mkG r g args
def Te.gs : Te → List Nat
  | .card c => c.ds.flatMap Df.gs
  | .loop c => c.ways.flatMap fun w => w.ds.flatMap Df.gs
def Te.good : Te → Bool
  | .card c => match contig c.n c.ds with | some h => c.ls.all (·.bel h) | none => false
  | .loop _ => true
def okG : List Te → Bool
  | [] => true
  | c :: r => r.all (fun d => !(Nat.beq c.id d.id)) && c.gs.all (fun g => r.any fun e => Nat.beq g e.id) && c.good && okG r
theorem mkG_tail [Fs] {l : List Te} {c : Te} {g : Nat} (h : (l.any fun e => Nat.beq g e.id) = true) (hn : (l.all fun d => !(Nat.beq c.id d.id)) = true) : mkG (c :: l) g = mkG l g := by
  funext args
  rw [List.any_eq_true] at h
  obtain ⟨e, h1, h2⟩ := h
  rw [List.all_eq_true] at hn
  have := hn e h1
  have hne : Nat.beq g c.id = false := by
    cases hb : Nat.beq g c.id
    · rfl
    · rw [Nat.eq_of_beq_eq_true hb] at h2
      rw [h2] at this; cases this
  simp only [mkG, hne, cond_false]
theorem mkG_mem [Fs] {l1 : List Te} {c : Te} {l2 : List Te} (h : okG (l1 ++ c :: l2) = true) : mkG (l1 ++ c :: l2) c.id = c.spec (mkG l2) ∧ (∀ g, (l2.any fun e => Nat.beq g e.id) = true → mkG (l1 ++ c :: l2) g = mkG l2 g) ∧ okG (c :: l2) = true := by
  induction l1 with
  | nil =>
    refine ⟨by funext args; simp only [List.nil_append, mkG, Nat.beq_refl, cond_true], fun g hg => ?_, h⟩
    simp only [List.nil_append, okG, Bool.and_eq_true] at h
    exact mkG_tail hg h.1.1.1
  | cons d l1 ih =>
    have h' := h
    simp only [List.cons_append, okG, Bool.and_eq_true] at h
    obtain ⟨i1, i2, i3⟩ := ih h.2
    refine ⟨?_, fun g hg => ?_, i3⟩
    · rw [← i1, List.cons_append]
      exact mkG_tail (by rw [List.any_eq_true]; exact ⟨c, by simp, Nat.beq_refl _⟩) h.1.1.1
    · rw [← i2 g hg, List.cons_append]
      refine mkG_tail ?_ h.1.1.1
      rw [List.any_eq_true] at hg ⊢
      obtain ⟨e, e1, e2⟩ := hg
      exact ⟨e, by simp [e1], e2⟩
theorem gs_ok [Fs] {l1 : List Te} {c : Te} {l2 : List Te} (h : okG (l1 ++ c :: l2) = true) : ∀ g ∈ c.gs, mkG l2 g = mkG (l1 ++ c :: l2) g := by
  obtain ⟨_, m2, m3⟩ := mkG_mem h
  simp only [okG, Bool.and_eq_true, List.all_eq_true] at m3
  intro g hg
  exact (m2 g (m3.1.1.2 g hg)).symm
theorem specG_ok [Fs] {l1 : List Te} {c : Fk} {l2 : List Te} (h : okG (l1 ++ .card c :: l2) = true) {E : Env} (hF : E.F = mkG (l1 ++ .card c :: l2)) (hd : ∀ d ∈ c.ds, d.ok E) : mkG (l1 ++ .card c :: l2) c.g (letters E c.n) = c.ls.map (T.me E) := by
  have hgs := gs_ok h
  obtain ⟨m1, m2, m3⟩ := mkG_mem h
  have m1 : mkG (l1 ++ .card c :: l2) c.g = c.spec (mkG l2) := m1
  rw [m1]
  simp only [okG, Bool.and_eq_true] at m3
  have k3 := m3.1.2
  simp only [Te.good] at k3
  split at k3
  · rename_i hh hc
    have hx : ∀ i, i < c.n → E.x i = (letters E c.n).getD i default := fun i hi => by
      simp [letters, List.getD_eq_getElem?_getD, hi]
    have ag := contig_ok (E := E) (E0 := ⟨fun i => (letters E c.n).getD i default, E.F⟩) rfl hx hc hd
    unfold Fk.spec
    refine List.map_congr_left fun t ht => ?_
    rw [List.all_eq_true] at k3
    rw [T.bel_me ag (k3 t ht)]
    have hg : ∀ d ∈ c.ds, ∀ g ∈ d.gs, mkG l2 g = E.F g := fun d hd g hg => by
      rw [hF]
      exact hgs g (List.mem_flatMap.2 ⟨d, hd, hg⟩)
    obtain ⟨e1, e2⟩ := extL_noF (x := fun i => (letters E c.n).getD i default) hg
    have h3 : (extL ⟨fun i => (letters E c.n).getD i default, E.F⟩ c.ds).F = E.F := ag.F.symm
    rw [env_eq e1 e2, T.me_noF _ _ E.F, ← env_eq rfl h3]
  · cases k3
/-! a loop's own function, by whichever table -/
theorem wayE_noF [Fs] {F F' : Nat → List Arg → List Arg} {args : List Arg} {w : Wy} (h : ∀ d ∈ w.ds, ∀ g ∈ d.gs, F g = F' g) : (∀ t : T, t.tr (wayE F args w) = t.tr (wayE F' args w)) ∧ ∀ t : T, T.me (wayE F args w) t = T.me (wayE F' args w) t := by
  obtain ⟨e1, e2⟩ := extL_noF (x := (argE F args).x) h
  have e3 : (wayE F' args w).F = F' := (extL_noF (x := (argE F args).x) (F := F') (F' := F') (ds := w.ds) fun _ _ _ _ => rfl).2
  have hme : ∀ t : T, T.me (wayE F args w) t = T.me (wayE F' args w) t := fun t => by
    have a1 : wayE F args w = ⟨(wayE F' args w).x, F⟩ := env_eq e1 e2
    rw [a1, T.me_noF _ _ F', ← env_eq rfl e3]
  exact ⟨fun t => by unfold T.tr; rw [show t.den (wayE F args w) = t.den (wayE F' args w) from congrArg Arg.n (hme t)], hme⟩
theorem pick_noF [Fs] {F F' : Nat → List Arg → List Arg} {args : List Arg} : ∀ {l : List Wy} {b : Nat}, (∀ w ∈ l, ∀ d ∈ w.ds, ∀ g ∈ d.gs, F g = F' g) → pick F args b l = pick F' args b l := by
  intro l
  induction l with
  | nil => intro b _; rfl
  | cons w r ih =>
    intro b h
    have e : pcB (wayE F args w) w.pc = pcB (wayE F' args w) w.pc := by
      unfold pcB
      refine List.all_congr rfl fun p => ?_
      rw [(wayE_noF (h w List.mem_cons_self)).1]
    simp only [pick, e, ih fun v hv => h v (List.mem_cons_of_mem _ hv)]
theorem pick_mem [Fs] {F : Nat → List Arg → List Arg} {args : List Arg} : ∀ {l : List Wy} {b i : Nat} {w : Wy}, pick F args b l = some (i, w) → w ∈ l := by
  intro l
  induction l with
  | nil => intro b i w h; cases h
  | cons v r ih =>
    intro b i w h
    simp only [pick] at h
    cases hb : pcB (wayE F args v) v.pc <;> simp only [hb, cond_true, cond_false] at h
    · exact List.mem_cons_of_mem _ (ih h)
    · cases h; exact List.mem_cons_self
theorem iter_noF [Fs] {F F' : Nat → List Arg → List Arg} {c : Lk} (h : ∀ w ∈ c.ways, ∀ d ∈ w.ds, ∀ g ∈ d.gs, F g = F' g) : ∀ {k : Nat} {args : List Arg}, iter F c k args = iter F' c k args := by
  intro k
  induction k with
  | zero => intro args; rfl
  | succ k ih =>
    intro args
    simp only [iter, pick_noF h]
    cases hp : pick F' args 0 c.ways with
    | none => rfl
    | some q =>
      obtain ⟨i, w⟩ := q
      have hm := pick_mem hp
      have e : w.ts.map (T.me (wayE F args w)) = w.ts.map (T.me (wayE F' args w)) := List.map_congr_left fun t _ => (wayE_noF (h w hm)).2 t
      simp only [e, ih]
theorem loopG_ok [Fs] {l1 : List Te} {c : Lk} {l2 : List Te} (h : okG (l1 ++ .loop c :: l2) = true) (args : List Arg) : mkG (l1 ++ .loop c :: l2) c.id args = c.spec (mkG (l1 ++ .loop c :: l2)) args := by
  have hgs := gs_ok h
  obtain ⟨m1, _, _⟩ := mkG_mem h
  have m1 : mkG (l1 ++ .loop c :: l2) c.id = c.spec (mkG l2) := m1
  rw [m1]
  unfold Lk.spec
  have e : c.mu.den (argE (mkG l2) args) = c.mu.den (argE (mkG (l1 ++ .loop c :: l2)) args) := (T.noF (fun i => args.getD i default) _ _ c.mu).1
  rw [e, iter_noF fun w hw d hd g hg => hgs g (List.mem_flatMap.2 ⟨w, hw, List.mem_flatMap.2 ⟨d, hd, hg⟩⟩)]
theorem cardG_ok [Fs] {P : Program} {cf : Cf} (hcf : CfOk P cf) {fuel : Nat} {c : Pf} {ds : List Df} {ls : List T} (h : chkPf P cf fuel c ds ls = true) (l1 l2 : List Te) (hT : Fs.F = mkG (l1 ++ .card ⟨c.g, c.n, ds, ls⟩ :: l2)) (ho : okG (l1 ++ .card ⟨c.g, c.n, ds, ls⟩ :: l2) = true) : PfOk P c := by
  obtain ⟨pc, hr, hb⟩ := chkPf_ok h
  refine pf_ok hcf hr hb fun E hE _ hd => ?_
  have := specG_ok (c := ⟨c.g, c.n, ds, ls⟩) ho (E := E) (hE.trans hT) hd
  rw [← hT] at this
  exact this
theorem cardMG_ok [Fs] {P : Program} {cf : Cf} (hcf : CfOk P cf) {fuel : Nat} {c : Mf} {ds : List Df} {ls : List T} (h : chkMf P cf fuel c ds ls = true) (l1 l2 : List Te) (hT : Fs.F = mkG (l1 ++ .card ⟨c.id, c.n, ds, ls⟩ :: l2)) (ho : okG (l1 ++ .card ⟨c.id, c.n, ds, ls⟩ :: l2) = true) : MfOk P c := by
  obtain ⟨pc, hr⟩ := chkMf_ok h
  refine mf_ok hcf hr fun E hE _ hd => ?_
  have := specG_ok (c := ⟨c.id, c.n, ds, ls⟩) ho (E := E) (hE.trans hT) hd
  rw [← hT] at this
  exact this
theorem loop_ok [Fs] (c : Lk) (l1 l2 : List Te) (hT : Fs.F = mkG (l1 ++ .loop c :: l2)) (ho : okG (l1 ++ .loop c :: l2) = true) (args : List Arg) : Fs.F c.id args = c.spec Fs.F args := by
  rw [hT]; exact loopG_ok ho args
/-- A law: its one result is true by the plain law. -/
def lawG (g n : Nat) : Te := .card (lawF g n)
end Go.Sy
