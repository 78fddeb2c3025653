/- Functions of the instructions, each told by its own run; and what follows from what they tell. -/
import Derived.Test.YtddfbikeaipepaaPlain2
namespace Go.Sy
def T.lets (p : Nat → Bool) : T → Bool
  | .lit _ => true
  | .v i _ _ => p i
  | .un _ a => a.lets p
  | .bin _ a b => a.lets p && b.lets p
  | .ite c a b => c.lets p && a.lets p && b.lets p
  | _ => false
theorem T.lets_ok {p : Nat → Bool} {E E' : Env} (h : ∀ i, p i = true → E.x i = E'.x i) : ∀ {t : T}, t.lets p = true → t.den E = t.den E' ∧ t.row E = t.row E' := by
  intro t
  induction t with
  | lit n => intro _; exact ⟨rfl, rfl⟩
  | v i lo hi => intro hp; have := h i hp; exact ⟨by simp only [T.den, this], by funext j; simp only [T.row, this]⟩
  | un o a ih => intro hp; have := ih hp; cases o <;> exact ⟨by simp only [T.den, this.1], by funext j; simp only [T.row, this.1, this.2]⟩
  | bin o a b iha ihb =>
    intro hp
    simp only [T.lets, Bool.and_eq_true] at hp
    exact ⟨by simp only [T.den, (iha hp.1).1, (ihb hp.2).1], by funext j; simp only [T.row, (iha hp.1).1, (ihb hp.2).1]⟩
  | ite c a b ihc iha ihb =>
    intro hp
    simp only [T.lets, Bool.and_eq_true] at hp
    exact ⟨by simp only [T.den, (ihc hp.1.1).1, (iha hp.1.2).1, (ihb hp.2).1], by funext j; simp only [T.row, (ihc hp.1.1).1, (iha hp.1.2).2, (ihb hp.2).2]⟩
  | sel s i _ _ => intro hp; cases hp
  | upd s i x _ _ _ => intro hp; cases hp
  | sh s o _ _ => intro hp; cases hp
  | blit d o n s _ _ _ _ => intro hp; cases hp
  | eqr n a b _ _ _ => intro hp; cases hp
theorem fr_congr {ts : List T} {ls : List Nat} {w w' : List Arg} (h : ls.all (fun _ => true) = true → ∀ i ∈ ls, w.getD i default = w'.getD i default) (ht : ts.all (·.lets (fun i => ls.contains i)) = true) : fr ts w = fr ts w' := by
  unfold fr
  refine List.map_congr_left fun t hm => ?_
  rw [List.all_eq_true] at ht
  have := T.lets_ok (E := base w fun _ _ => []) (E' := base w' fun _ _ => []) (p := fun i => ls.contains i) (fun i hi => h (by simp) i (by simpa using hi)) (ht t hm)
  unfold T.me
  rw [this.1, this.2]
def lA : List Nat := [0, 2, 3, 4, 5, 6, 7]
def lB : List Nat := [0, 8, 9, 10, 11, 12, 13]
def lH : List Nat := [0]
theorem okA : aA.all (·.lets (fun i => lA.contains i)) = true := by kernel_rfl
theorem okB : aB.all (·.lets (fun i => lB.contains i)) = true := by kernel_rfl
theorem okH : aH.all (·.lets (fun i => lH.contains i)) = true := by kernel_rfl
theorem clamp_rg {lo hi n : Int} (h : lo ≤ hi) : lo ≤ clamp lo hi n ∧ clamp lo hi n ≤ hi := by unfold clamp; split <;> (try split) <;> omega
theorem cI_of {a : Arg} (h : -9223372036854775808 ≤ a.n ∧ a.n ≤ 9223372036854775807) : cI a = a.n := clamp_id h
theorem cI_me (E : Env) (i : Nat) : cI (T.me E (vI i)) = (vI i).den E := cI_of (clamp_rg (by omega))
theorem clB (E : Env) (i : Nat) : clamp 0 1 (T.me E (vB i)).n = (vB i).den E := clamp_id (clamp_rg (by omega))
theorem spec46 (ws : List Arg) : mkF r26 46 ws = [T.me (base ws (mkF (tail0.drop 3))) t46] := rfl
theorem i46_iff (ws : List Arg) : i46 ws = true ↔ cI (ws.getD 0 default) = 33 ∨ cI (ws.getD 0 default) = 34 ∨ cI (ws.getD 0 default) = 35 := by
  unfold i46
  rw [spec46]
  have h : t46.tr (base ws (mkF (tail0.drop 3))) = (cI (ws.getD 0 default) == 33 || cI (ws.getD 0 default) == 34 || cI (ws.getD 0 default) == 35) := by
    unfold t46
    simp only [tror, treq, denlit]
    rfl
  have h2 : t46.den (base ws (mkF (tail0.drop 3))) = tb (t46.tr (base ws (mkF (tail0.drop 3)))) := by
    unfold T.tr t46
    simp only [T.den, O2.den, tb_ne]
  simp only [List.getElem?_cons_zero, Option.getD_some, T.me, h2, h]
  generalize cI (ws.getD 0 default) = n
  clear h h2
  rcases tb_cases (n == 33 || n == 34 || n == 35) with ⟨hb, e⟩ | ⟨hb, e⟩ <;> rw [e]
  · simp only [Bool.or_eq_true, beq_iff_eq] at hb
    exact ⟨fun _ => by omega, fun _ => rfl⟩
  · simp only [Bool.or_eq_false_iff, beq_eq_false_iff_ne] at hb
    exact ⟨fun hc => absurd hc (by decide), fun hc => by omega⟩
def a8 (k : Nat) : List T := tsOf d8 (23 - k)
def w8 (E : Env) (k : Nat) : List Arg := (a8 k).map (T.me E)
theorem d8_eq : d8 = [.call 23 26 (a8 23) 1, .call 22 26 (a8 22) 1, .call 21 26 (a8 21) 1, .call 20 26 (a8 20) 1, .call 19 26 (a8 19) 1, .call 18 26 (a8 18) 1, .call 17 26 (a8 17) 1, .call 17 25 [] 0] := rfl
theorem eA {E : Env} {k : Nat} (hk : k = 18 ∨ k = 19 ∨ k = 21 ∨ k = 22 ∨ k = 23) : fr aA (w8 E k) = fr aA (w8 E 17) := by
  refine fr_congr (ls := lA) (fun _ i hi => ?_) okA
  simp only [lA, List.mem_cons, List.not_mem_nil, or_false] at hi
  rcases hk with rfl | rfl | rfl | rfl | rfl <;> rcases hi with rfl | rfl | rfl | rfl | rfl | rfl | rfl <;> rfl
theorem eB {E : Env} {k : Nat} (hk : k = 18 ∨ k = 19 ∨ k = 20 ∨ k = 21 ∨ k = 23) : fr aB (w8 E k) = fr aB (w8 E 17) := by
  refine fr_congr (ls := lB) (fun _ i hi => ?_) okB
  simp only [lB, List.mem_cons, List.not_mem_nil, or_false] at hi
  rcases hk with rfl | rfl | rfl | rfl | rfl <;> rcases hi with rfl | rfl | rfl | rfl | rfl | rfl | rfl <;> rfl
theorem eH {E : Env} {k : Nat} (hk : k = 18 ∨ k = 19 ∨ k = 20 ∨ k = 21 ∨ k = 22 ∨ k = 23) : fr aH (w8 E k) = fr aH (w8 E 17) := by
  refine fr_congr (ls := lH) (fun _ i hi => ?_) okH
  simp only [lH, List.mem_cons, List.not_mem_nil, or_false] at hi
  rcases hk with rfl | rfl | rfl | rfl | rfl | rfl <;> rcases hi with rfl <;> rfl
end Go.Sy
