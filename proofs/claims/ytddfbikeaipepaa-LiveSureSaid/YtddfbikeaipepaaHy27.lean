/- Part 27 of a checked reader of Go texts in their model form: it runs a function at terms in the place of numbers, and each part proves that its answers hold of the model. -/
import Derived.Test.YtddfbikeaipepaaHy26
namespace Go.Sy
/-- A way out of a loop: the slots and blocks that differ from those at its head, how many letters they take, what holds. -/
structure Xp where
  sl : List (Nat × L)
  bl : List (Nat × Bk)
  t : Nat
  post : Pc
/-- A loop of a function: the function, its code's first number; what it tells; the letters that stand fast; the slots and blocks that turn, what holds at its head, its ways out; how many letters it tells. -/
structure Ls where
  g : Nat
  key : Nat
  c : Lk
  par : List T
  sl : List (Nat × L)
  bl : List (Nat × Bk)
  inv : Pc
  ex : List Xp
  cnt : Nat
def setS (t : Tr) : List (Nat × L) → Tr
  | [] => t
  | (i, x) :: r => setS (t.set i x) r
def setBs (m : List Bk) : List (Nat × Bk) → List Bk
  | [] => m
  | (i, b) :: r => setBs (m.set i b) r
theorem setBs_length [Fs] : ∀ {l : List (Nat × Bk)} {m : List Bk}, (setBs m l).length = m.length := by
  intro l
  induction l with
  | nil => intro m; rfl
  | cons p r ih => intro m; obtain ⟨i, b⟩ := p; simp only [setBs, ih, List.length_set]
def mSl (u : Tr) : List (Nat × L) → Mt
  | [] => []
  | (i, x) :: r => (match u.get i with | some y => mL x y | none => []) ++ mSl u r
def mBl (m : List Bk) : List (Nat × Bk) → Mt
  | [] => []
  | (i, x) :: r => mB x (bkAt m i) ++ mBl m r
def decB (pc : Pc) (t : T) (b : Bool) : Bool := match dec pc t with
  | some c => c == b
  | none => false
theorem decB_ok [Fs] {E : Env} {pc : Pc} (hp : pcOk E pc) {t : T} {b : Bool} (h : decB pc t b = true) : t.tr E = b := by
  unfold decB at h
  split at h
  · rename_i c hc
    rw [dec_ok hp hc]; exact beq_iff_eq.1 h
  · cases h
def clash (n : Nat) (pc : Pc) (w v : Wy) : Bool := match contig n (comS w.ds v.ds) with
  | some hc => w.pc.any fun p => p.1.bel hc && decB pc p.1 (!p.2)
  | none => false
def Ls.n (l : Ls) : Nat := l.c.n0 + l.c.s
/-- What each way must be. -/
def wayB (l : Ls) (st st' : St) (w : Wy) (prev : List Wy) (h : Nat) : Bool :=
  listB Df.beq st'.k.ds (w.ds ++ st.k.ds) && w.ds.all (fun d => d.args.all (·.rok l.par l.c.n0)) && w.pc.all (fun p => p.1.bel h && p.1.rok l.par l.c.n0 && decB st'.pc p.1 p.2) &&
    w.ts.all (fun t => t.bel h && t.rok l.par l.c.n0) && prev.all (fun v => v.pc.all (fun p => p.1.rok l.par l.c.n0) && clash l.n st'.pc v w && (contig l.n v.ds).isSome)
def vals (l : Ls) (t : Nat) (mt : Mt) : List T := (List.range t).map fun j => lookT (l.c.n0 + j) mt
def outSg (l : Ls) (t : Nat) : Sg := resXS l.c.n0 t fun i lo hi => bif Nat.blt i l.c.n0 then .v i lo hi else .v (l.c.n0 + 1 + (i - l.c.n0)) lo hi
def lpGo (l : Ls) (gen st' : St) (w : Wy) : Bool :=
  let mt := mSl st'.s l.sl ++ mBl st'.m l.bl
  let σ := runSg l.c.n0 l.c.s st'.pc mt
  w.go && listB T.beq (vals l l.c.s mt) w.ts && gen.s.pat σ gen.m.length st'.s && bksPat σ gen.m.length gen.m st'.m && sureAll st'.pc σ l.inv && decB st'.pc (mk2 .lt (l.c.mu.sub σ) l.c.mu) true
def lpX (l : Ls) (gen st' : St) (w : Wy) (x : Xp) : Bool :=
  let mt := mSl st'.s (x.sl ++ l.sl) ++ mBl st'.m (x.bl ++ l.bl)
  let σ := runSg l.c.n0 x.t st'.pc mt
  !w.go && listB T.beq (vals l x.t mt) w.ts && (setS gen.s x.sl).pat σ gen.m.length st'.s && bksPat σ gen.m.length (setBs gen.m x.bl) st'.m && sureAll st'.pc σ x.post && Nat.blt x.t l.cnt
def lpOut (l : Ls) (st gen : St) (args : List T) (k : Nat) (e : Ex) (x : Xp) : Out :=
  .good e ⟨(setS gen.s x.sl).sub (outSg l x.t) id, (setBs gen.m x.bl).map (·.sub (outSg l x.t) id), (.bin .eq (.v l.c.n0 0 l.c.ways.length) (.lit k), true) :: (pcSub (outSg l x.t) x.post ++ st.pc),
    ⟨.call l.c.n0 l.c.id args l.cnt :: st.k.ds, l.c.n0 + l.cnt⟩⟩
def lpWay (l : Ls) (st gen : St) (args : List T) (k : Nat) (w : Wy) (x : Xp) : Out → Option (List Out)
  | .bad _ _ => none
  | .good e st' => match contig l.n w.ds with
    | none => none
    | some h => bif wayB l st st' w (l.c.ways.take k) h then match e with
      | .norm => bif lpGo l gen st' w then some [] else none
      | e => bif lpX l gen st' w x then some [lpOut l st gen args k e x] else none
      else none
def lpOuts (l : Ls) (st gen : St) (args : List T) : Nat → List Wy → List Xp → List Out → Option (List Out)
  | _, [], _, [] => some []
  | k, w :: ws, x :: xs, o :: os => match lpWay l st gen args k w x o with
    | some a => match lpOuts l st gen args (k + 1) ws xs os with
      | some b => some (a ++ b)
      | none => none
    | none => none
  | _, _, _, _ => none
def lpGen (l : Ls) (st : St) : St := ⟨setS st.s l.sl, setBs st.m l.bl, l.inv ++ st.pc, ⟨st.k.ds, l.n⟩⟩
def lpMt (l : Ls) (st : St) : Mt := mSl st.s l.sl ++ mBl st.m l.bl
def lpEntry (l : Ls) (st gen : St) (es : List T) : Bool :=
  Nat.beq st.k.nv l.c.n0 && st.bel && Nat.beq l.par.length l.c.n0 && l.par.all (·.bel l.c.n0) && es.all (·.bel l.c.n0) && gen.s.pat (runSg l.c.n0 l.c.s st.pc (lpMt l st)) gen.m.length st.s &&
    bksPat (runSg l.c.n0 l.c.s st.pc (lpMt l st)) gen.m.length gen.m st.m && sureAll st.pc (runSg l.c.n0 l.c.s st.pc (lpMt l st)) l.inv && decB gen.pc (mk2 .le (.lit 0) l.c.mu) true && l.c.mu.bel l.n && l.c.mu.rok l.par l.c.n0
def lpRun (l : Ls) (body : Code) (st : St) (run : Code → St → Option (List Out)) : Option (List Out) :=
  (lpGen l st).fc fun gen => fcLs T.fc (vals l l.c.s (lpMt l st)) fun es => bif lpEntry l st gen es then match run body gen with
    | some os => fcLs Out.fc os fun os => match lpOuts l st gen (l.par ++ es) 0 l.c.ways l.ex os with
      | some r => fcLs Out.fc r some
      | none => none
    | none => none
    else none
theorem lpOuts_mem [Fs] {l : Ls} {st gen : St} {args : List T} : ∀ {ws : List Wy} {xs : List Xp} {os outs : List Out} {k : Nat}, lpOuts l st gen args k ws xs os = some outs →
    ∀ o ∈ os, ∃ (j : Nat) (w : Wy) (x : Xp) (oo : List Out), ws[j]? = some w ∧ lpWay l st gen args (k + j) w x o = some oo ∧ ∀ y ∈ oo, y ∈ outs := by
  intro ws
  induction ws with
  | nil =>
    intro xs os outs k h o ho
    cases os with
    | nil => cases ho
    | cons o os => cases h
  | cons w ws ih =>
    intro xs os outs k h o ho
    cases os with
    | nil => cases ho
    | cons o' os =>
      cases xs with
      | nil => cases h
      | cons x xs =>
        simp only [lpOuts] at h
        split at h
        · rename_i a ha
          split at h
          · rename_i b hb
            cases h
            rcases List.mem_cons.1 ho with rfl | ho
            · exact ⟨0, w, x, a, rfl, ha, fun y hy => List.mem_append_left _ hy⟩
            · obtain ⟨j, w', x', oo, h1, h2, h3⟩ := ih hb o ho
              exact ⟨j + 1, w', x', oo, by simpa using h1, by rw [show k + (j + 1) = k + 1 + j by omega]; exact h2, fun y hy => List.mem_append_right _ (h3 y hy)⟩
          · cases h
        · cases h
theorem runSg_ok [Fs] {E : Env} {pc : Pc} (hp : pcOk E pc) (n t : Nat) (mt : Mt) (ts : List T) (hts : ∀ k, k < t → ts[k]? = some (lookT (n + k) mt)) : SubOk (resX E n t (ts.map (T.me E))) E (runSg n t pc mt) := by
  refine resXS_ok rfl (fun i hi lo hi' => ?_) fun k hk lo hi' => ?_
  · rw [← Nat.blt_eq] at hi
    simp only [hi, cond_true]
    exact ⟨rfl, fun j => rfl⟩
  · have : Nat.blt (n + k) n = false := by
      cases hb : Nat.blt (n + k) n
      · rfl
      · rw [Nat.blt_eq] at hb; omega
    simp only [this, cond_false]
    simp only [List.getElem?_map, hts k hk, Option.map_some, Option.getD_some]
    exact mkCl_ok hp lo hi' _
theorem vals_get [Fs] {l : Ls} {t : Nat} {mt : Mt} {k : Nat} (hk : k < t) : (vals l t mt)[k]? = some (lookT (l.c.n0 + k) mt) := by
  simp only [vals, List.getElem?_map, List.getElem?_range hk, Option.map_some]
theorem vals_length [Fs] {l : Ls} {t : Nat} {mt : Mt} : (vals l t mt).length = t := by simp [vals]
end Go.Sy
