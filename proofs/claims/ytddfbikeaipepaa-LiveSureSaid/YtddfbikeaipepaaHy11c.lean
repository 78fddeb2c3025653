/- Part 11c of a checked reader of Go texts in their model form: it runs a function at terms in the place of numbers, and each part proves that its answers hold of the model. -/
import Derived.Test.YtddfbikeaipepaaHy11b
namespace Go.Sy
/-! letters given their meanings -/
def setX (E : Env) (i cnt : Nat) (f : Nat → Arg) : Env := { E with x := fun j => if i ≤ j ∧ j < i + cnt then f (j - i) else E.x j }
def Df.ext (E : Env) : Df → Env
  | .one i t => setX E i 1 fun _ => t.me E
  | .call i g args cnt => setX E i cnt fun k => ((E.F g (args.map (T.me E)))[k]?).getD default
/-- (the newest stands first) -/
def extL (E : Env) : List Df → Env
  | [] => E
  | d :: r => d.ext (extL E r)
def Df.lo : Df → Nat
  | .one i _ => i
  | .call i _ _ _ => i
def Df.hi : Df → Nat
  | .one i _ => i + 1
  | .call i _ _ cnt => i + cnt
def Df.args : Df → List T
  | .one _ t => [t]
  | .call _ _ args _ => args
/-- In order: each speaks of letters below its own alone, those behind are below. -/
def ordered (n : Nat) : List Df → Bool
  | [] => true
  | d :: r => Nat.ble n d.lo && d.args.all (·.bel d.lo) && r.all (fun e => Nat.ble e.hi d.lo) && ordered n r
theorem ext_agree [Fs] (E : Env) (d : Df) : Agree E (d.ext E) d.lo := by
  cases d with
  | one i t => exact ⟨rfl, fun j hj => by simp only [Df.ext, setX]; rw [if_neg (by simp only [Df.lo] at hj; omega)]⟩
  | call i g args cnt => exact ⟨rfl, fun j hj => by simp only [Df.ext, setX]; rw [if_neg (by simp only [Df.lo] at hj; omega)]⟩
theorem ext_above [Fs] (E : Env) (d : Df) {j : Nat} (hj : d.hi ≤ j) : (d.ext E).x j = E.x j := by
  cases d with
  | one i t => simp only [Df.ext, setX]; rw [if_neg (by simp only [Df.hi] at hj; omega)]
  | call i g args cnt => simp only [Df.ext, setX]; rw [if_neg (by simp only [Df.hi] at hj; omega)]
theorem ext_ok [Fs] {E : Env} {d : Df} (h : d.args.all (·.bel d.lo) = true) : d.ok (d.ext E) := by
  have ha := ext_agree E d
  rw [List.all_eq_true] at h
  cases d with
  | one i t =>
    have := T.bel_me ha (h t List.mem_cons_self)
    simp only [Df.ok, this]
    simp [Df.ext, setX]
  | call i g args cnt =>
    intro k hk
    have e : args.map (T.me ((Df.call i g args cnt).ext E)) = args.map (T.me E) := List.map_congr_left fun t ht => T.bel_me ha (h t ht)
    rw [e, ha.F]
    simp only [Df.ext, setX]
    rw [if_pos (by omega), show i + k - i = k by omega]
theorem extL_ok [Fs] {E : Env} {n : Nat} : ∀ {l : List Df}, ordered n l = true → Agree E (extL E l) n ∧ (∀ d ∈ l, d.ok (extL E l)) ∧ ∀ j, (∀ d ∈ l, d.hi ≤ j) → (extL E l).x j = E.x j := by
  intro l
  induction l with
  | nil => intro _; exact ⟨Agree.refl _ _, fun d hd => (nomatch hd), fun j _ => rfl⟩
  | cons d r ih =>
    intro h
    simp only [ordered, Bool.and_eq_true, Nat.ble_eq] at h
    obtain ⟨⟨⟨h1, h2⟩, h3⟩, h4⟩ := h
    obtain ⟨g1, g2, g3⟩ := ih h4
    have ha := ext_agree (extL E r) d
    refine ⟨g1.trans (ha.mono h1) (Nat.le_refl _), fun e he => ?_, fun j hj => ?_⟩
    · rcases List.mem_cons.1 he with rfl | he
      · exact ext_ok h2
      · rw [List.all_eq_true] at h3
        have hhi := h3 e he
        rw [Nat.ble_eq] at hhi
        -- 'e' speaks of letters below 'd' alone
        have hb : e.bel d.lo = true := by
          have hord : ∀ {l : List Df}, ordered n l = true → ∀ e ∈ l, e.args.all (·.bel e.lo) = true := by
            intro l
            induction l with
            | nil => intro _ e he; cases he
            | cons d l ih =>
              intro h e he
              simp only [ordered, Bool.and_eq_true] at h
              rcases List.mem_cons.1 he with rfl | he
              · exact h.1.1.2
              · exact ih h.2 e he
          have hbel : ∀ (t : T) {a b : Nat}, a ≤ b → t.bel a = true → t.bel b = true := by
            intro t a b hab
            induction t with
            | lit => intro _; rfl
            | v i lo hi => simp only [T.bel, Nat.blt_eq]; omega
            | un o x ih => exact ih
            | bin o x y ihx ihy => simp only [T.bel, Bool.and_eq_true]; exact fun ⟨p, q⟩ => ⟨ihx p, ihy q⟩
            | ite c x y ihc ihx ihy => simp only [T.bel, Bool.and_eq_true]; exact fun ⟨⟨o, p⟩, q⟩ => ⟨⟨ihc o, ihx p⟩, ihy q⟩
            | sel s i ihs ihi => simp only [T.bel, Bool.and_eq_true]; exact fun ⟨p, q⟩ => ⟨ihs p, ihi q⟩
            | upd s i x ihs ihi ihx => simp only [T.bel, Bool.and_eq_true]; exact fun ⟨⟨o, p⟩, q⟩ => ⟨⟨ihs o, ihi p⟩, ihx q⟩
            | sh s o ihs iho => simp only [T.bel, Bool.and_eq_true]; exact fun ⟨p, q⟩ => ⟨ihs p, iho q⟩
            | blit d o k s ihd iho ihk ihs => simp only [T.bel, Bool.and_eq_true]; exact fun ⟨⟨⟨m, o⟩, p⟩, q⟩ => ⟨⟨⟨ihd m, iho o⟩, ihk p⟩, ihs q⟩
            | eqr k x y ihk ihx ihy => simp only [T.bel, Bool.and_eq_true]; exact fun ⟨⟨o, p⟩, q⟩ => ⟨⟨ihk o, ihx p⟩, ihy q⟩
          have hargs := hord h4 e he
          rw [List.all_eq_true] at hargs
          cases e with
          | one i t =>
            simp only [Df.hi] at hhi
            simp only [Df.bel, Bool.and_eq_true, Nat.blt_eq]
            exact ⟨by omega, hbel t (show i ≤ d.lo by omega) (hargs t List.mem_cons_self)⟩
          | call i g args cnt =>
            simp only [Df.hi] at hhi
            simp only [Df.bel, Bool.and_eq_true, Nat.ble_eq, List.all_eq_true]
            exact ⟨hhi, fun t ht => hbel t (show i ≤ d.lo by omega) (hargs t ht)⟩
        exact Df.ok_agree ha hb (g2 e he)
    · simp only [extL]
      rw [ext_above _ _ (hj d List.mem_cons_self)]
      exact g3 j fun e he => hj e (List.mem_cons_of_mem _ he)
/-- What came up besides. -/
def newOf {α : Type} (l B : List α) : List α := l.take (l.length - B.length)
def oldOf {α : Type} (l B : List α) : List α := l.drop (l.length - B.length)
theorem new_old [Fs] {α : Type} (l B : List α) : newOf l B ++ oldOf l B = l := List.take_append_drop _ _
end Go.Sy
