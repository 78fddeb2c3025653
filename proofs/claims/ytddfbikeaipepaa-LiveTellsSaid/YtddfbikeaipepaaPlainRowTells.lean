/- Functions, each told by its own run; and what follows from what they tell. -/
import Derived.Test.YtddfbikeaipepaaPlainRow4
namespace Go.Sy
theorem plain3 (E : Env) (hE : E.F = Fs.F) (hd : ∀ d ∈ d3, d.ok E) : t3.den E = 1 := by
  have hN := nOf_range E.x
  have e19 : E.x 19 = ((Fs.F 1014 (parA E.x))[0]?).getD default := by
    have h : Df.ok E (.call 19 1014 parI 1) := hd _ (List.mem_of_getElem? (i := 3) rfl)
    have := h 0 (by decide)
    rw [hE] at this; exact this
  have e20 : E.x 20 = ((Fs.F 1015 (parA E.x))[0]?).getD default := by
    have h : Df.ok E (.call 20 1015 parI 1) := hd _ (List.mem_of_getElem? (i := 2) rfl)
    have := h 0 (by decide)
    rw [hE] at this; exact this
  have e21 : E.x 21 = ((Fs.F 2003 ((parA E.x ++ [T.me E (V 17), T.me E (.v 18 0 1), T.me E (V 19), T.me E (V 20)]) ++ [T.me E (.lit 0)]))[0]?).getD default := by
    have h : Df.ok E (.call 21 2003 (parI ++ [V 17, .v 18 0 1, V 19, V 20, .lit 0]) 2) := hd _ (List.mem_of_getElem? (i := 1) rfl)
    have := h 0 (by decide)
    rw [hE] at this; exact this
  have e23 : E.x 23 = ((Fs.F 1018 (parA E.x ++ [T.me E (V 17)]))[0]?).getD default := by
    have h : Df.ok E (.call 23 1018 (parI ++ [V 17]) 1) := hd _ (List.mem_of_getElem? (i := 0) rfl)
    have := h 0 (by decide)
    rw [hE] at this; exact this
  have hit := tells_loop E.x (T.me E (V 17)) (T.me E (.v 18 0 1)) (T.me E (V 19)) (T.me E (V 20))
    (fun j _ _ => by show cl64 (cl64 ((E.x 19).s j)) = _; rw [e19]; exact cl64_cl _)
    (fun j _ _ => by show cl64 (cl64 ((E.x 20).s j)) = _; rw [e20]; exact cl64_cl _)
    (nOf E.x).toNat (T.me E (.lit 0)) (Int.le_refl _) (by show (0 : Int) = _; omega) ((nOf E.x).toNat + 1) (by omega)
  have v21 : (T.v 21 0 5).den E = 4 := by
    have hmu : ∀ l : List Arg, k2003.mu.den (argE Fs.F l) = nOf (argE Fs.F l).x - iOf 21 l := fun l => by kernel_rfl
    have hQ : (parA E.x ++ [T.me E (V 17), T.me E (.v 18 0 1), T.me E (V 19), T.me E (V 20)]).length = 21 := by rw [List.length_append, parA_len]; rfl
    have hi : iOf 21 ((parA E.x ++ [T.me E (V 17), T.me E (.v 18 0 1), T.me E (V 19), T.me E (V 20)]) ++ [T.me E (.lit 0)]) = 0 := by
      have := getD_right (p := parA E.x ++ [T.me E (V 17), T.me E (.v 18 0 1), T.me E (V 19), T.me E (V 20)]) (q := [T.me E (.lit 0)]) (i := 0)
      rw [hQ] at this
      rw [iOf, this]; rfl
    have hn : nOf (argE Fs.F ((parA E.x ++ [T.me E (V 17), T.me E (.v 18 0 1), T.me E (V 19), T.me E (V 20)]) ++ [T.me E (.lit 0)])).x = nOf E.x := clamp_mid (by decide)
    show clamp 0 5 (E.x 21).n = 4
    rw [e21, spec03, Lk.spec, hmu, hi, hn, Int.sub_zero, hit]; rfl
  have v23 : ltb (-1) ((V 17).den E) = true → ltb ((V 17).den E) (nL.den E) = true → True := fun _ _ => trivial
  have h23 : (ltb (-1) ((V 17).den E) && ltb ((V 17).den E) (nL.den E)) = false → (V 23).den E = 63 := fun h => by
    show cl64 (E.x 23).n = 63
    rw [e23]
    have := behind_out (x := E.x) (a := T.me E (V 17)) ?_
    · show cl64 (num (Fs.F 1018 (parA E.x ++ [T.me E (V 17)]))) = 63
      rw [this]; rfl
    · show cl64 (cl64 (E.x 17).n) < 0 ∨ nOf E.x ≤ cl64 (cl64 (E.x 17).n)
      rw [cl64_cl]
      rw [Bool.and_eq_false_iff, ltb_f, ltb_f] at h
      rcases h with h | h
      · left
        have h : cl64 (E.x 17).n ≤ -1 := h
        omega
      · exact .inr h
  have key : t3.tr E = true := by
    unfold t3
    simp only [trand, tror, trnot, treq, trlt, denlit]
    rw [v21]
    change (_ || _) = true
    simp only [V, nL] at h23
    cases hq : ltb (-1) ((T.v 17 (-9223372036854775808) 9223372036854775807).den E) && ltb ((T.v 17 (-9223372036854775808) 9223372036854775807).den E) ((T.v 0 0 9223372036854775807).den E)
    · rw [h23 hq]; simp
    · simp
  exact den_of_tr key
end Go.Sy
