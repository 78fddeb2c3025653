/- Functions of the instructions, each told by its own run; and what follows from what they tell. -/
import Derived.Test.YtddfbikeaipepaaPlain3
namespace Go.Sy
theorem parts_plain (E : Env) (hE : E.F = Fs.F) (hd : ∀ d ∈ d8, d.ok E) : t8.den E = 1 := by
  rw [d8_eq] at hd
  have y23 := hd (.call 23 26 (a8 23) 1) (by simp) 0 (by omega)
  have y22 := hd (.call 22 26 (a8 22) 1) (by simp) 0 (by omega)
  have y21 := hd (.call 21 26 (a8 21) 1) (by simp) 0 (by omega)
  have y20 := hd (.call 20 26 (a8 20) 1) (by simp) 0 (by omega)
  have y19 := hd (.call 19 26 (a8 19) 1) (by simp) 0 (by omega)
  have y18 := hd (.call 18 26 (a8 18) 1) (by simp) 0 (by omega)
  have y17 := hd (.call 17 26 (a8 17) 1) (by simp) 0 (by omega)
  simp only [Nat.add_zero, hE] at y23 y22 y21 y20 y19 y18 y17
  have dn : ∀ k n, E.x k = ((Fs.F 26 (w8 E n))[0]?).getD default → ((vB k).den E = 1 ∧ PI (w8 E n)) ∨ ((vB k).den E = 0 ∧ ¬ PI (w8 E n)) := by
    intro k n h
    have h1 : (vB k).den E = clamp 0 1 (n26 (w8 E n)) := by simp only [vB, T.den, h]; rfl
    rcases is26 (w8 E n) with ⟨h2, h3⟩ | ⟨h2, h3⟩ <;> rw [h1, h2]
    · exact .inl ⟨rfl, h3⟩
    · exact .inr ⟨rfl, h3⟩
  have z23 := dn 23 23 y23
  have z22 := dn 22 22 y22
  have z21 := dn 21 21 y21
  have z20 := dn 20 20 y20
  have z19 := dn 19 19 y19
  have z18 := dn 18 18 y18
  have z17 := dn 17 17 y17
  clear y23 y22 y21 y20 y19 y18 y17 dn hd
  -- what the letters are
  have ht : t8.tr E = true → t8.den E = 1 := by
    intro h
    unfold T.tr t8 at h
    unfold t8
    simp only [T.den, O2.den] at h ⊢
    rcases tb_cases _ with ⟨_, e⟩ | ⟨_, e⟩
    · exact e
    · rw [e] at h; exact absurd h (by decide)
  apply ht
  have g : ∀ k i, (w8 E k).getD i default = ((w8 E k).getD i default) := fun _ _ => rfl
  have o17 : ∀ k, k = 17 ∨ k = 18 ∨ k = 19 ∨ k = 20 ∨ k = 21 ∨ k = 22 ∨ k = 23 → cI ((w8 E k).getD 0 default) = (vI 0).den E := by
    rintro k (rfl | rfl | rfl | rfl | rfl | rfl | rfl) <;> exact cI_me E 0
  rcases z17 with ⟨n17, p17⟩ | ⟨n17, -⟩
  · have P17 := p17
    unfold PI at P17
    rw [show cI ((w8 E 17).getD 0 default) = (vI 0).den E from cI_me E 0, show cI ((w8 E 17).getD 1 default) = (vI 1).den E from cI_me E 1, show cI ((w8 E 17).getD 2 default) = (vI 2).den E from cI_me E 2, show cI ((w8 E 17).getD 8 default) = (vI 8).den E from cI_me E 8, show cI ((w8 E 17).getD 15 default) = (vI 15).den E from cI_me E 15, show clamp 0 1 ((w8 E 17).getD 14 default).n = (vB 14).den E from clB E 14] at P17
    have hh : i46 (fr aH (w8 E 17)) = true ↔ (vI 0).den E = 33 ∨ (vI 0).den E = 34 ∨ (vI 0).den E = 35 := by
      have e0 : cI ((fr aH (w8 E 17)).getD 0 default) = (vI 0).den E := by
        show cI (T.me (base (w8 E 17) _) (vI 0)) = _
        rw [cI_me]
        exact cI_me E 0
      have := i46_iff (fr aH (w8 E 17))
      rw [e0] at this
      exact this
    obtain ⟨q1, q2, q3, q4, q5, q6, q7, q8⟩ := P17
    -- too long
    have m18 : (vB 18).den E = 0 := by
      rcases z18 with ⟨_, p⟩ | ⟨h, _⟩
      · have := p.p2
        rw [show cI ((w8 E 18).getD 15 default) = 16 from rfl] at this
        omega
      · exact h
    have c16 := clamp_rg (lo := 0) (hi := 255) (n := (E.x 16).n) (by omega)
    have m19 : (vB 19).den E = 0 := by
      rcases z19 with ⟨_, p⟩ | ⟨h, _⟩
      · have := p.p4
        rw [show cI ((w8 E 19).getD 1 default) = clamp 0 255 (E.x 16).n + 16 from cI_of (a := T.me E (.bin .add (.v 16 0 255) (.lit 16))) (by simp only [T.me, T.den, O2.den]; omega)] at this
        omega
      · exact h
    have m20 : (vB 20).den E = 0 := by
      rcases z20 with ⟨_, p⟩ | ⟨h, _⟩
      · have hk : cI ((fr aA (w8 E 20)).getD 0 default) = 9 := rfl
        have := p.p7
        rw [i47_kind _ (by rw [hk]; decide) (by rw [hk]; decide) (by rw [hk]; decide) (by rw [hk]; decide)] at this
        cases this
      · exact h
    have m22 : (vB 22).den E = 0 := by
      rcases z22 with ⟨_, p⟩ | ⟨h, _⟩
      · have hk : cI ((fr aB (w8 E 22)).getD 0 default) = -1 := rfl
        have := p.p8
        rw [i47_kind _ (by rw [hk]; decide) (by rw [hk]; decide) (by rw [hk]; decide) (by rw [hk]; decide)] at this
        cases this
      · exact h
    have m21 : (vB 21).den E = tb ((vI 0).den E == 41 || (vI 0).den E == 42) := by
      rcases z21 with ⟨h, p⟩ | ⟨h, p⟩
      · have := p.p3 rfl
        rw [o17 21 (by omega)] at this
        rw [h, show ((vI 0).den E == 41 || (vI 0).den E == 42) = true by simpa using this]; rfl
      · cases hb : ((vI 0).den E == 41 || (vI 0).den E == 42)
        · rw [h]; rfl
        · exfalso
          apply p
          have hb : (vI 0).den E = 41 ∨ (vI 0).den E = 42 := by simpa using hb
          unfold PI
          rw [o17 21 (by omega), eA (by omega), eB (by omega), eH (by omega), show cI ((w8 E 21).getD 1 default) = (vI 1).den E from cI_me E 1, show cI ((w8 E 21).getD 2 default) = (vI 2).den E from cI_me E 2, show cI ((w8 E 21).getD 8 default) = (vI 8).den E from cI_me E 8, show cI ((w8 E 21).getD 15 default) = (vI 15).den E from cI_me E 15]
          exact ⟨q1, q2, fun _ => hb, q4, q5, q6, q7, q8⟩
    have hc23 : cI ((w8 E 23).getD 1 default) = (clamp 0 255 (E.x 16).n).tmod 15 + 1 ∧ 0 ≤ (clamp 0 255 (E.x 16).n).tmod 15 ∧ (clamp 0 255 (E.x 16).n).tmod 15 < 15 := by
      have hm : 0 ≤ (clamp 0 255 (E.x 16).n).tmod 15 ∧ (clamp 0 255 (E.x 16).n).tmod 15 < 15 := by
        rw [Int.tmod_eq_emod_of_nonneg c16.1]; omega
      exact ⟨cI_of (a := T.me E (.bin .add (.bin .tmod (.v 16 0 255) (.lit 15)) (.lit 1))) (by simp only [T.me, T.den, O2.den]; omega), hm⟩
    have m23 : (vB 23).den E = tb ((vI 0).den E == 33 || (vI 0).den E == 34 || (vI 0).den E == 35) := by
      rcases z23 with ⟨h, p⟩ | ⟨h, p⟩
      · have := p.p5
        rw [hc23.1, eH (by omega), hh] at this
        rw [h, show ((vI 0).den E == 33 || (vI 0).den E == 34 || (vI 0).den E == 35) = true by simp only [Bool.or_eq_true, beq_iff_eq]; omega]; rfl
      · cases hb : ((vI 0).den E == 33 || (vI 0).den E == 34 || (vI 0).den E == 35)
        · rw [h]; rfl
        · exfalso
          apply p
          simp only [Bool.or_eq_true, beq_iff_eq] at hb
          unfold PI
          rw [o17 23 (by omega), eA (by omega), eB (by omega), eH (by omega), hc23.1, show cI ((w8 E 23).getD 2 default) = (vI 2).den E from cI_me E 2, show cI ((w8 E 23).getD 8 default) = (vI 8).den E from cI_me E 8, show cI ((w8 E 23).getD 15 default) = (vI 15).den E from cI_me E 15, show clamp 0 1 ((w8 E 23).getD 14 default).n = (vB 14).den E from clB E 14]
          exact ⟨q1, q2, q3, by omega, .inr (hh.2 (by omega)), q6, q7, q8⟩
    have f : ∀ k, (vB k).den E = 0 → (vB k).tr E = false := fun k h => by unfold T.tr; rw [h]; rfl
    unfold t8
    simp only [trand, tror, trnot, treq]
    have f18 := f 18 m18
    have f19 := f 19 m19
    have f20 := f 20 m20
    have f22 := f 22 m22
    have d21 : (T.bin .or (.bin .eq (vI 0) (.lit 41)) (.bin .eq (vI 0) (.lit 42))).den E = tb ((vI 0).den E == 41 || (vI 0).den E == 42) := by simp only [T.den, O2.den, tb_ne]
    have d23 : (T.bin .or (.bin .or (.bin .eq (vI 0) (.lit 33)) (.bin .eq (vI 0) (.lit 34))) (.bin .eq (vI 0) (.lit 35))).den E = tb ((vI 0).den E == 33 || (vI 0).den E == 34 || (vI 0).den E == 35) := by simp only [T.den, O2.den, tb_ne]
    simp only [vB, vI] at f18 f19 f20 f22 m21 m23 d21 d23
    rw [f18, f19, f20, f22, m21, m23, d21, d23]
    simp
  · have f17 : (vB 17).tr E = false := by unfold T.tr; rw [n17]; rfl
    unfold t8
    simp only [vB] at f17
    simp only [trand, tror, trnot, f17]
    rfl
end Go.Sy
