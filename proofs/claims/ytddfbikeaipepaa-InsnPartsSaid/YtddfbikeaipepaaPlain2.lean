/- Functions of the instructions, each told by its own run; and what follows from what they tell. -/
import Derived.Test.YtddfbikeaipepaaPlain1
import Derived.KernelRfl
namespace Go.Sy
def r26 : List Fk := tail0.drop 1
def r47 : List Fk := tail0.drop 2
def tsOf (ds : List Df) (k : Nat) : List T := match ds[k]? with | some (.call _ _ ts _) => ts | _ => []
def aB : List T := tsOf d26 0
def aA : List T := tsOf d26 1
def aH : List T := tsOf d26 4
def base (ws : List Arg) (F : Nat → List Arg → List Arg) : Env := ⟨fun i => ws.getD i default, F⟩
def at26 (ws : List Arg) : Env := extL (base ws (mkF r26)) d26
def at47 (ws : List Arg) : Env := extL (base ws (mkF r47)) d47
theorem spec26 (ws : List Arg) : Fs.F 26 ws = [T.me (at26 ws) t26] := rfl
theorem spec47 (ws : List Arg) : mkF r26 47 ws = [T.me (at47 ws) t47] := rfl
theorem d26_eq : d26 = [.call 20 47 aB 1, .call 19 47 aA 1, .call 18 47 aB 1, .call 17 47 aA 1, .call 16 46 aH 1, .call 16 45 [] 0] := rfl
theorem ord26 : ordered 16 d26 = true := by kernel_rfl
theorem ord47 : ordered 7 d47 = true := by kernel_rfl
theorem belA : (aA ++ aB ++ aH).all (·.bel 16) = true := by kernel_rfl
def i47 (ws : List Arg) : Bool := clamp 0 1 (((mkF r26 47 ws)[0]?).getD default).n != 0
def i46 (ws : List Arg) : Bool := clamp 0 1 (((mkF r26 46 ws)[0]?).getD default).n != 0
def cI (a : Arg) : Int := clamp (-9223372036854775808) 9223372036854775807 a.n
def fr (ts : List T) (ws : List Arg) : List Arg := ts.map (T.me (base ws fun _ _ => []))
def PI (ws : List Arg) : Prop := IsP0 (cI (ws.getD 0 default)) (cI (ws.getD 1 default)) (cI (ws.getD 2 default)) (cI (ws.getD 8 default)) (cI (ws.getD 15 default)) (clamp 0 1 (ws.getD 14 default).n != 0) (i46 (fr aH ws)) (i47 (fr aA ws)) (i47 (fr aB ws))
def n26 (ws : List Arg) : Int := (((Fs.F 26 ws)[0]?).getD default).n
theorem is26 (ws : List Arg) : n26 ws = 1 ∧ PI ws ∨ n26 ws = 0 ∧ ¬ PI ws := by
  have hn : n26 ws = t26.den (at26 ws) := rfl
  obtain ⟨ag, hd, -⟩ := extL_ok (E := base ws (mkF r26)) ord26
  change Agree _ (at26 ws) 16 at ag
  change ∀ d ∈ d26, d.ok (at26 ws) at hd
  have hF : (at26 ws).F = mkF r26 := ag.F
  have me : ∀ t, t.bel 16 = true → T.me (at26 ws) t = T.me (base ws fun _ _ => []) t := fun t ht => (T.bel_me ag ht).trans (T.me_noF _ _ _ _)
  have hbel := belA
  rw [List.all_eq_true] at hbel
  have mA : aA.map (T.me (at26 ws)) = fr aA ws := List.map_congr_left fun t ht => me t (hbel t (by simp [ht]))
  have mB : aB.map (T.me (at26 ws)) = fr aB ws := List.map_congr_left fun t ht => me t (hbel t (by simp [ht]))
  have mH : aH.map (T.me (at26 ws)) = fr aH ws := List.map_congr_left fun t ht => me t (hbel t (by simp [ht]))
  rw [d26_eq] at hd
  have x20 := hd (.call 20 47 aB 1) (by simp) 0 (by omega)
  have x19 := hd (.call 19 47 aA 1) (by simp) 0 (by omega)
  have x18 := hd (.call 18 47 aB 1) (by simp) 0 (by omega)
  have x17 := hd (.call 17 47 aA 1) (by simp) 0 (by omega)
  have x16 := hd (.call 16 46 aH 1) (by simp) 0 (by omega)
  simp only [Nat.add_zero, hF, mA, mB, mH] at x20 x19 x18 x17 x16
  have e17 : (vB 17).tr (at26 ws) = i47 (fr aA ws) := by simp only [vB, T.tr, T.den, x17]; rfl
  have e18 : (vB 18).tr (at26 ws) = i47 (fr aB ws) := by simp only [vB, T.tr, T.den, x18]; rfl
  have e19 : (vB 19).tr (at26 ws) = i47 (fr aA ws) := by simp only [vB, T.tr, T.den, x19]; rfl
  have e20 : (vB 20).tr (at26 ws) = i47 (fr aB ws) := by simp only [vB, T.tr, T.den, x20]; rfl
  have e16 : (vB 16).tr (at26 ws) = i46 (fr aH ws) := by simp only [vB, T.tr, T.den, x16]; rfl
  have xi : ∀ i, i < 16 → (vI i).den (at26 ws) = cI (ws.getD i default) := fun i hi => by simp only [vI, T.den, ag.x i hi]; rfl
  have e14 : (vB 14).tr (at26 ws) = (clamp 0 1 (ws.getD 14 default).n != 0) := by simp only [vB, T.tr, T.den, ag.x 14 (by omega)]; rfl
  have hiff := is_iff (at26 ws) (e19.trans e17.symm) (e20.trans e18.symm)
  rw [xi 0 (by omega), xi 1 (by omega), xi 2 (by omega), xi 8 (by omega), xi 15 (by omega), e14, e16, e17, e18] at hiff
  rcases is_cases (at26 ws) with ⟨h1, h2⟩ | ⟨h1, h2⟩
  · exact .inl ⟨hn.trans h1, hiff.1 h2⟩
  · exact .inr ⟨hn.trans h1, fun hp => by rw [hiff.2 hp] at h2; cases h2⟩
theorem i47_kind (ws : List Arg) (h0 : cI (ws.getD 0 default) ≠ 0) (h1 : cI (ws.getD 0 default) ≠ 1) (h2 : cI (ws.getD 0 default) ≠ 2) (h3 : cI (ws.getD 0 default) ≠ 3) : i47 ws = false := by
  obtain ⟨ag, -, -⟩ := extL_ok (E := base ws (mkF r47)) ord47
  change Agree _ (at47 ws) 7 at ag
  have hx : (vI 0).den (at47 ws) = cI (ws.getD 0 default) := by simp only [vI, T.den, ag.x 0 (by omega)]; rfl
  have ht : t47.tr (at47 ws) = false := by
    unfold t47
    simp only [trand, tror, trnot, treq, trlt, denlit]
    simp only [vI] at hx
    rw [hx]
    have b0 : (cI (ws.getD 0 default) == 0) = false := by simpa using h0
    have b1 : (cI (ws.getD 0 default) == 1) = false := by simpa using h1
    have b2 : (cI (ws.getD 0 default) == 2) = false := by simpa using h2
    have b3 : (cI (ws.getD 0 default) == 3) = false := by simpa using h3
    simp only [b0, b1, b2, b3, Bool.false_and, Bool.and_false, Bool.or_false]
  have hd : t47.den (at47 ws) = 0 := by simpa [T.tr] using ht
  unfold i47
  rw [spec47]
  simp only [List.getElem?_cons_zero, Option.getD_some, T.me, hd]
  rfl
end Go.Sy
