/- Functions, each told by its own run; and what follows from what they tell. -/
import Derived.Test.YtddfbikeaipepaaHy30m
namespace Go.Sy
variable [Fs]
/-- The letters that may turn with those of S. -/
def taint (S : List Nat) : List Df → List Nat
  | [] => S
  | d :: r => let S' := taint S r; bif d.args.all (·.avo S') then S' else ((List.range (d.hi - d.lo)).map fun i => d.lo + i) ++ S'
theorem offExtL {S : List Nat} {E E' : Env} (h : Off S E E') : ∀ {ds : List Df}, Off (taint S ds) (extL E ds) (extL E' ds) := by
  intro ds
  induction ds with
  | nil => exact h
  | cons d r ih =>
    simp only [taint]
    cases hd : d.args.all (·.avo (taint S r)) <;> simp only [cond_true, cond_false]
    · have hin : ∀ j, d.lo ≤ j → j < d.hi → (((List.range (d.hi - d.lo)).map fun i => d.lo + i) ++ taint S r).any (Nat.beq j) = true := fun j h1 h2 => by
        rw [List.any_eq_true]
        exact ⟨j, List.mem_append_left _ (List.mem_map.2 ⟨j - d.lo, List.mem_range.2 (by omega), by omega⟩), Nat.beq_refl j⟩
      refine ⟨?_, fun j hj => ?_⟩
      · have e : ∀ X : Env, (d.ext X).F = X.F := fun X => (ext_agree X d).F
        show (d.ext (Go.Sy.extL E r)).F = (d.ext (Go.Sy.extL E' r)).F
        rw [e, e]; exact ih.1
      · have hout : j < d.lo ∨ d.hi ≤ j := by
          rcases Nat.lt_or_ge j d.lo with h1 | h1
          · exact .inl h1
          · rcases Nat.lt_or_ge j d.hi with h2 | h2
            · rw [hin j h1 h2] at hj; cases hj
            · exact .inr h2
        have hj' : (taint S r).any (Nat.beq j) = false := by
          rw [List.any_append, Bool.or_eq_false_iff] at hj; exact hj.2
        show (d.ext (Go.Sy.extL E r)).x j = (d.ext (Go.Sy.extL E' r)).x j
        rcases hout with h1 | h1
        · rw [(ext_agree _ d).x j h1, (ext_agree _ d).x j h1]; exact ih.2 j hj'
        · rw [ext_above _ d h1, ext_above _ d h1]; exact ih.2 j hj'
    · exact Off.ext ih hd
/-- What a function tells in one place doesn't turn with letters that it doesn't mention. -/
theorem comp_avoid2 {l1 l2 : List Te} {c : Fk} (h : okG (l1 ++ .card c :: l2) = true) (hT : Fs.F = mkG (l1 ++ .card c :: l2)) {S : List Nat} {xs ys : List Arg}
    (hxy : ∀ i, (S.any (Nat.beq i)) = false → xs.getD i default = ys.getD i default) {i : Nat} {t : T} (hi : c.ls[i]? = some t) (ht : t.avo (taint S c.ds) = true) : (Fs.F c.g xs)[i]? = (Fs.F c.g ys)[i]? := by
  have e : ∀ zs, Fs.F c.g zs = c.spec (mkG l2) zs := fun zs => by
    rw [hT]; exact congrFun (mkG_mem h).1 zs
  rw [e, e]
  simp only [Fk.spec, List.getElem?_map, hi, Option.map_some]
  rw [T.avo_me (offExtL (E := ⟨fun i => xs.getD i default, mkG l2⟩) (E' := ⟨fun i => ys.getD i default, mkG l2⟩) ⟨rfl, hxy⟩) ht]
/-- A truth that its shape decides. -/
def T.val3 : T → Option Bool
  | .lit n => some (n != 0)
  | .un .not a => a.val3.map (!·)
  | .bin .eq a b => bif a.beq b then some true else none
  | .bin .and a b => match a.val3, b.val3 with
    | some false, _ => some false
    | _, some false => some false
    | some true, some true => some true
    | _, _ => none
  | .bin .or a b => match a.val3, b.val3 with
    | some true, _ => some true
    | _, some true => some true
    | some false, some false => some false
    | _, _ => none
  | _ => none
omit [Fs] in
theorem T.val3_ok {E : Env} : ∀ {t : T} {b : Bool}, t.val3 = some b → t.tr E = b := by
  have hand : ∀ a b : T, (T.bin .and a b).tr E = (a.tr E && b.tr E) := fun a b => by simp only [T.tr, T.den, O2.den, tb_ne]
  have hor : ∀ a b : T, (T.bin .or a b).tr E = (a.tr E || b.tr E) := fun a b => by simp only [T.tr, T.den, O2.den, tb_ne]
  have hnot : ∀ a : T, (T.un .not a).tr E = !(a.tr E) := fun a => by simp only [T.tr, T.den, O1.den, tb_ne]; cases h : a.den E == 0 <;> simp_all
  intro t
  induction t with
  | lit n => intro b h; cases h; rfl
  | un o a ih =>
    intro b h
    cases o with
    | not =>
      simp only [T.val3, Option.map_eq_some_iff] at h
      obtain ⟨c, h1, rfl⟩ := h
      rw [hnot, ih h1]
    | _ => cases h
  | bin o x y ihx ihy =>
    intro b h
    cases o with
    | eq =>
      simp only [T.val3] at h
      cases hb : x.beq y <;> simp only [hb, cond_true, cond_false] at h
      · cases h
      · cases h
        rw [T.beq_eq hb]
        simp [T.tr, T.den, O2.den, tb]
    | and =>
      simp only [T.val3] at h
      rw [hand]
      split at h
      · rename_i h1; cases h; rw [ihx h1]; rfl
      · rename_i h1 _; cases h; rw [ihy h1, Bool.and_false]
      · rename_i h1 h2; cases h; rw [ihx h1, ihy h2]; rfl
      · cases h
    | or =>
      simp only [T.val3] at h
      rw [hor]
      split at h
      · rename_i h1; cases h; rw [ihx h1]; rfl
      · rename_i h1 _; cases h; rw [ihy h1, Bool.or_true]
      · rename_i h1 h2; cases h; rw [ihx h1, ihy h2]; rfl
      · cases h
    | _ => cases h
  | _ => intro b h; cases h
def T.isTb : T → Bool
  | .bin .and _ _ | .bin .or _ _ | .un .not _ => true
  | _ => false
omit [Fs] in
theorem T.isTb_ok {E : Env} {t : T} (h : t.isTb = true) (ht : t.tr E = true) : t.den E = 1 := by
  unfold T.isTb at h
  split at h <;> first | (simp only [T.tr, T.den, O2.den, O1.den, tb_ne] at ht ⊢; rw [ht]; rfl) | cases h
def sureB2 (c : Fk) (S K : List Nat) (a b cnt : Nat) (xs ys : List T) (t : T) : Bool :=
  K.all (fun k => Nat.blt k cnt && match c.ls[k]? with | some u => u.avo (taint S c.ds) | none => false) && sameOff S 0 xs ys && t.isTb && (match (t.sub (renS a b K)).val3 with | some v => v | none => false)
theorem sure_plain2 {l1 l2 : List Te} {c : Fk} (h : okG (l1 ++ .card c :: l2) = true) (hT : Fs.F = mkG (l1 ++ .card c :: l2)) {ds : List Df} {a b cnt : Nat} {xs ys : List T} {t : T} (h0 : Df.call b c.g ys cnt ∈ ds) (h1 : Df.call a c.g xs cnt ∈ ds) (S K : List Nat)
    (hb : sureB2 c S K a b cnt xs ys t = true) (E : Env) (hE : E.F = Fs.F) (hd : ∀ d ∈ ds, d.ok E) : t.den E = 1 := by
  simp only [sureB2, Bool.and_eq_true] at hb
  obtain ⟨⟨⟨b2, b3⟩, b1⟩, b4⟩ := hb
  have key : ∀ k, K.any (Nat.beq k) = true → E.x (b + k) = E.x (a + k) := fun k hk => by
    rw [List.any_eq_true] at hk
    obtain ⟨k', hk', e⟩ := hk
    have e := Nat.eq_of_beq_eq_true e
    subst e
    rw [List.all_eq_true] at b2
    have := b2 k hk'
    rw [Bool.and_eq_true, Nat.blt_eq] at this
    obtain ⟨hlt, hu⟩ := this
    split at hu
    · rename_i u hu'
      rw [hd _ h0 k hlt, hd _ h1 k hlt, hE]
      congr 1
      exact (comp_avoid2 h hT (fun i hi => sameOff_get b3 i (by rw [Nat.zero_add]; exact hi)) hu' hu).symm
    · cases hu
  have hs : SubOk E E (renS a b K) := by
    have key2 : ∀ i lo hi, (renS a b K i lo hi).den E = clamp lo hi (E.x i).n ∧ ∀ j, (renS a b K i lo hi).row E j = clamp lo hi ((E.x i).s j) := by
      intro i lo hi
      unfold renS
      cases hq : Nat.ble b i && K.any (Nat.beq (i - b))
      · exact ⟨rfl, fun j => rfl⟩
      · rw [Bool.and_eq_true, Nat.ble_eq] at hq
        have := key (i - b) hq.2
        rw [show b + (i - b) = i by omega] at this
        simp only [cond_true, T.den, T.row, this]
        exact ⟨trivial, fun j => trivial⟩
    exact ⟨rfl, fun i lo hi => (key2 i lo hi).1, fun i lo hi j => (key2 i lo hi).2 j⟩
  refine T.isTb_ok b1 ?_
  rw [← T.sub_tr hs]
  split at b4
  · rename_i v hv; rw [T.val3_ok hv]; exact b4
  · cases b4
end Go.Sy
