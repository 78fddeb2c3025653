/- Part 12c of a checked reader of Go texts in their model form: it runs a function at terms in the place of numbers, and each part proves that its answers hold of the model. -/
import Derived.Test.YtddfbikeaipepaaHy12b
namespace Go.Sy
/-! the operations of a region in their order; a guarded call of a card's function splits no way -/
/-- What a guarded call of such a function leaves. -/
def evGd (run : Rn) (st : St) (t : T) (o : Oper) : Option St := match o.op with
  | .call c => match evSpR run (withPc st t true) c with
    | some ⟨.a x, _, k'⟩ => bif st.bel && t.bel st.k.nv && ordered st.k.nv (newOf k'.ds st.k.ds) && listB Df.beq (oldOf k'.ds st.k.ds) st.k.ds && Nat.ble st.k.nv k'.nv then k'.fc fun k' => putF ⟨st.s, st.m, st.pc, k'⟩ o.dst (.gd t x) some else none
    | _ => none
  | _ => none
def evOps2 (P : Program) (run : Rn) (ops : Array Oper) : List Nat → St → Option (List Out)
  | [], st => some [.good .norm st]
  | i :: rest, st => match ops[i]? with
    | none => evOps2 P run ops rest st
    | some o => match evGuard st ops o with
      | none => none
      | some .yes => match evO P run st o with
        | some outs => bindL (evOps2 P run ops rest) outs
        | none => none
      | some .no => putF st o.dst (.tup []) (evOps2 P run ops rest)
      | some (.may t) => match evS P (withPc st t true) o with
        | some ⟨.a x, _, []⟩ => putF st o.dst (.gd t x) (evOps2 P run ops rest)
        | _ => match evGd run st t o with
          | some st1 => evOps2 P run ops rest st1
          | none => match evO P run (withPc st t true) o with
            | some outs => match bindL (evOps2 P run ops rest) outs, evOps2 P run ops rest (putS (withPc st t false) o.dst (.tup [])) with
              | some a, some b => some (a ++ b)
              | _, _ => none
            | none => none
section
variable {P : Program} {X : Cx}
theorem evGd_ok [Fs] {run : Rn} (hrun : RnOk P run) {st st1 : St} {t : T} {o : Oper} (he : evGd run st t o = some st1) {ρ : Nat → Rb} {a : Act} {w : World} (h : Rel X ρ st a w) :
    (t.tr X.E = true → ∀ (next : Act → World → Prop) (Q : Exit → Act → World → Prop), (∀ E' a' w', Later X.E ρ st.m.length st.k.nv E' ρ st1 → Rel (X.at E') ρ st1 a' w' → next a' w') → o.wp P a w next Q) ∧
    (t.tr X.E = false → ∃ E', Later X.E ρ st.m.length st.k.nv E' ρ st1 ∧ Rel (X.at E') ρ st1 (a.put o.dst undef) w) := by
  unfold evGd at he
  split at he
  · rename_i c ho
    split at he
    · rename_i x pc' k' hr
      cases hb : st.bel && t.bel st.k.nv && ordered st.k.nv (newOf k'.ds st.k.ds) && listB Df.beq (oldOf k'.ds st.k.ds) st.k.ds && Nat.ble st.k.nv k'.nv <;> simp only [hb, cond_true, cond_false, Kn.fc_eq, putF_eq] at he
      · cases he
      cases he
      simp only [Bool.and_eq_true, Nat.ble_eq] at hb
      obtain ⟨⟨⟨⟨b1, b2⟩, b3⟩, b4⟩, b5⟩ := hb
      have b4 := listB_eq (fun _ _ => Df.beq_eq) b4
      refine ⟨fun ht next Q hn => ?_, fun ht => ?_⟩
      · obtain ⟨v, E', g, args, hx, hE, hk, hl, hp, hd, hbel, hcall⟩ := evSpR_raw hrun.2.2 (h.withPc ht) ho hr
        have base := h.agree b1 hE
        unfold Oper.wp
        rw [hx]
        refine (hcall w).mono fun e w' ⟨he, hb'⟩ => ?_
        subst he
        have hrel := Rel.put (st := ⟨st.s, st.m, st.pc, k'⟩) ⟨⟨base.slots, base.pc, hd, base.F⟩, base.dfr, base.mr⟩ o.dst (l := .gd t x) (v := v) ⟨fun _ => hl, fun hc => by rw [T.bel_tr hE b2, ht] at hc; cases hc⟩
        exact hn E' _ w' ⟨hE, fun _ _ => rfl, by rw [putS_m]; exact Nat.le_refl _, by rw [putS_k]; exact b5⟩ ⟨hrel.toSRel, hrel.dfr, hrel.mr.below hb'⟩
      · obtain ⟨hE, x2, x3⟩ := extL_ok (E := X.E) b3
        have base := h.agree b1 hE
        refine ⟨extL X.E (newOf k'.ds st.k.ds), ⟨hE, fun _ _ => rfl, by rw [putS_m]; exact Nat.le_refl _, by rw [putS_k]; exact b5⟩, Rel.put (st := ⟨st.s, st.m, st.pc, k'⟩) (v := undef) ⟨⟨base.slots, base.pc, fun d hd => ?_, base.F⟩, base.dfr, base.mr⟩ o.dst (l := .gd t x) ⟨fun hc => (by rw [T.bel_tr hE b2, ht] at hc; cases hc), fun _ => rfl⟩⟩
        rw [← new_old k'.ds st.k.ds, b4] at hd
        rcases List.mem_append.1 hd with hd | hd
        · exact x2 d hd
        · exact base.ds d hd
    · cases he
  · cases he
theorem evOps2_ok [Fs] {run : Rn} (hrun : RnOk P run) {ops : Array Oper} {Q : Exit → Act → World → Prop} : ∀ {l : List Nat} {st : St} {outs : List Out}, evOps2 P run ops l st = some outs →
    ∀ {X : Cx} {ρ : Nat → Rb} {a : Act} {w : World}, Rel X ρ st a w → (∀ x ∈ outs, Sat X ρ st.m.length st.k.nv Q x) → wpOps P ops Q l a w := by
  intro l
  induction l with
  | nil =>
    intro st outs he X ρ a w h hs
    cases he
    exact hs _ List.mem_cons_self X.E ρ a w (Later.refl _ _ _) h
  | cons i rest ih =>
    intro st outs he X ρ a w h hs
    have bind : ∀ {st1 : St} {o : Oper} {outs1 outs2 : List Out}, st1.m = st.m → st1.k = st.k → Rel X ρ st1 a w → evO P run st1 o = some outs1 → bindL (evOps2 P run ops rest) outs1 = some outs2 → (∀ x ∈ outs2, Sat X ρ st.m.length st.k.nv Q x) → o.wp P a w (wpOps P ops Q rest) Q := by
      intro st1 o outs1 outs2 hm hk h1 ho hb hs2
      refine evO_ok hrun h1 ho ?_
      rw [hm, hk]
      refine bindL_ok (Q := Q) (fun st' outs' hf E1 ρ1 a1 w1 L hrel hs' => ?_) (fun e a w he hq => then_of e a w he hq) hb hs2
      exact ih hf hrel fun x hx => (hs' x hx).from L
    have putm : ∀ {ρ : Nat → Rb} {l : L} {dst : Option Tmp} {st1 : St}, st1.m = st.m → st1.k = st.k → ∀ {outs1 : List Out}, (∀ x ∈ outs1, Sat X ρ st.m.length st.k.nv Q x) → ∀ x ∈ outs1, Sat X ρ (putS st1 dst l).m.length (putS st1 dst l).k.nv Q x := by
      intro ρ l dst st1 hm hk outs1 hs1
      rw [putS_m, putS_k, hm, hk]; exact hs1
    simp only [evOps2, putF_eq] at he
    simp only [wpOps]
    split at he
    · rename_i hi
      simp only [hi]
      exact ih he h hs
    · rename_i o hi
      simp only [hi]
      split at he
      · cases he
      · rename_i hg
        have hw : Region.wanted o (yielded ops a.tmps) = true := evGuard_ok h hg
        rw [if_pos hw]
        split at he
        · rename_i outs1 ho
          exact .inl (bind rfl rfl h ho he hs)
        · cases he
      · rename_i hg
        have hw : Region.wanted o (yielded ops a.tmps) = false := evGuard_ok h hg
        rw [if_neg (by simp [hw])]
        exact ih he (h.put o.dst (l := .tup []) (v := undef) undef_ok) (putm rfl rfl hs)
      · rename_i t hg
        have hw : t.tr X.E = Region.wanted o (yielded ops a.tmps) := evGuard_ok h hg
        have skip : ∀ outs', evOps2 P run ops rest (putS (withPc st t false) o.dst (.tup [])) = some outs' → (∀ x ∈ outs', Sat X ρ st.m.length st.k.nv Q x) → t.tr X.E = false → wpOps P ops Q rest (a.put o.dst undef) w := by
          intro outs' h1 h2 h3
          exact ih h1 ((h.withPc h3).put o.dst (l := .tup []) (v := undef) undef_ok) (putm (st1 := withPc st t false) rfl rfl h2)
        split at he
        · rename_i x m hq
          · by_cases ht : t.tr X.E = true
            · rw [if_pos (by rw [← hw]; exact ht)]
              have hrel := h.withPc ht
              obtain ⟨hok, hmm⟩ := evS_ok hrel hq
              obtain ⟨v, w', ρ', hrun', hl, hmr, hρ, hn⟩ := hok (fun t ht => by simp at ht)
              simp only at hmm hl hmr hn
              subst hmm
              left
              have hput : Rel X ρ' (putS st o.dst (.gd t x)) (a.put o.dst v) w' := Rel.put ⟨⟨h.slots.mono fun _ _ => Lr.mono hρ (Nat.le_refl _), h.pc, h.ds, h.F⟩, h.dfr, hmr⟩ o.dst ⟨fun _ => hl, fun hc => by rw [ht] at hc; cases hc⟩
              have := ih he hput (putm rfl rfl fun x hx => (hs x hx).from (st1 := st) (ρ1 := ρ') (E1 := X.E) ⟨Agree.refl _ _, hρ, Nat.le_refl _, Nat.le_refl _⟩)
              unfold Oper.wp
              rcases hrun' with hrun' | ⟨hrun', rfl⟩
              · rw [hrun']; exact this
              · rw [hrun']; exact this
            · have ht' : t.tr X.E = false := by simpa using ht
              rw [if_neg (by rw [← hw]; exact ht)]
              exact ih he (h.put o.dst (l := .gd t x) (v := undef) ⟨fun hc => absurd hc ht, fun _ => rfl⟩) (putm rfl rfl hs)
        · split at he
          · rename_i st1 hgd
            obtain ⟨g1, g2⟩ := evGd_ok hrun hgd h
            by_cases ht : t.tr X.E = true
            · rw [if_pos (by rw [← hw]; exact ht)]
              left
              exact g1 ht _ _ fun E' a' w' L hrel => ih he hrel fun x hx => (hs x hx).from L
            · rw [if_neg (by rw [← hw]; exact ht)]
              obtain ⟨E', L, hrel⟩ := g2 (by simpa using ht)
              exact ih he hrel fun x hx => (hs x hx).from L
          · split at he
            · rename_i outs1 ho
              split at he
              · rename_i oa ob ha hb
                cases he
                by_cases ht : t.tr X.E = true
                · rw [if_pos (by rw [← hw]; exact ht)]
                  exact .inl (bind (st1 := withPc st t true) rfl rfl (h.withPc ht) ho ha fun x hx => hs x (List.mem_append_left _ hx))
                · rw [if_neg (by rw [← hw]; exact ht)]
                  exact skip ob hb (fun x hx => hs x (List.mem_append_right _ hx)) (by simpa using ht)
              · cases he
            · cases he
end
end Go.Sy
