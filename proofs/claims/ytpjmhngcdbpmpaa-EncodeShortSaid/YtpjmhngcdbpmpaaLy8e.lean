/- Part 8e of a checked reader of Go texts in their model form: it runs a function at terms in the place of numbers, and each part proves that its answers hold of the model. -/
import Derived.Test.YtpjmhngcdbpmpaaLy8c
import Derived.Laws.AppendOwn
namespace Go.Sy
section run
variable {P : Program} {w : World}
/-- 'append' onto a row's slice. -/
theorem run_app [Fs] {t ty e : TypeId} {inf : TypeInfo} {zv : Value} {sz : Nat} (ht : P.underlying t = some (.slice e)) (hi : P.info? e = some inf) (hz : inf.zero = some zv) (hsize : inf.size = sz) (hzs : zv.cells.size = sz) (hpos : 0 < sz)
    {n cap k c : Nat} {a x : Option Addr} {olds news : List Value} (hn : n ≤ cap) (hcap : n = 0 → cap = 0) (hcm : cap ≤ maxLen)
    (hv : 0 < n → ∃ g cur, a = some ⟨g, 0, none⟩ ∧ w.heap[g]? = some (.cells cur e (0, 0)) ∧ cur.size = cap * sz ∧ cur.toList.take (n * sz) = olds) (hlo : olds.length = n * sz)
    (hx : 0 < k → ∃ ad, x = some ad ∧ ∀ j u, news[j]? = some u → w.cell? (ad.add j) = some u) (hl : news.length = k * sz) (h1 : ∀ u ∈ news, u.oneCell' = true)
    (hb : (n + k) * inf.bytes ≤ 140737488355328) (h63 : n + k ≤ 4611686018427387904) :
    ∃ v' w', (Builtin.append_ #[t, t] ty #[.slice a n cap, .slice x k c]).run P w = .ok v' w' ∧
      ((n + k = 0 ∧ v' = .slice a 0 0 ∧ w' = w) ∨
       (0 < n + k ∧ ∃ g' cap' cur', v' = .slice (some ⟨g', 0, none⟩) (n + k) cap' ∧ n + k ≤ cap' ∧ cap' ≤ maxLen ∧ w'.heap[g']? = some (.cells cur' e (0, 0)) ∧ cur'.size = cap' * sz ∧ cur'.toList.take ((n + k) * sz) = olds ++ news ∧
         ((w.heap.size ≤ g' ∧ w.grownBy w' none) ∨ (0 < n ∧ a = some ⟨g', 0, none⟩ ∧ w.grownBy w' (some g'))))) := by
  subst hsize
  have hml : n + k ≤ maxLen := by simp only [maxLen]; omega
  have hf0 : ∀ y : Option Addr, (Builtin.firstCells inf.size 0 (.slice y 0 c)).run P w = .ok #[] w := by
    intro y; cases y <;> simp [Builtin.firstCells, loadCells, loadCellsFrom]
  -- a new row
  have grown : ∀ (old : Nat) (cs : List Value), cs = olds ++ news → old < n + k → ∃ g' cap' cur', Value.slice (some ⟨w.heap.size, 0, none⟩) (n + k) (grownCap w (n + k) old e) = .slice (some ⟨g', 0, none⟩) (n + k) cap' ∧ n + k ≤ cap' ∧ cap' ≤ maxLen ∧
      (w.drew.alloc (.cells (cs.toArray ++ Builtin.zeroCells zv.cells (grownCap w (n + k) old e - (n + k))) e)).heap[g']? = some (.cells cur' e (0, 0)) ∧ cur'.size = cap' * inf.size ∧ cur'.toList.take ((n + k) * inf.size) = olds ++ news ∧
         ((w.heap.size ≤ g' ∧ w.grownBy (w.drew.alloc (.cells (cs.toArray ++ Builtin.zeroCells zv.cells (grownCap w (n + k) old e - (n + k))) e)) none) ∨ (0 < n ∧ a = some ⟨g', 0, none⟩ ∧ w.grownBy (w.drew.alloc (.cells (cs.toArray ++ Builtin.zeroCells zv.cells (grownCap w (n + k) old e - (n + k))) e)) (some g'))) := by
    intro old cs hcs ho
    subst hcs
    have hge := grownCap_ge w (n + k) old e
    have hcm' : grownCap w (n + k) old e ≤ maxLen := grownCap_le_maxLen w (n + k) old e hml
    have hlen : (olds ++ news).length = (n + k) * inf.size := by rw [List.length_append, hlo, hl, Nat.add_mul]
    refine ⟨_, _, _, rfl, hge, hcm', heap_alloc_new w.drew _, ?_, ?_, .inl ⟨Nat.le_refl _, ⟨rfl, rfl, rfl, by simp, fun k hk _ => heap_alloc_old w.drew _ hk⟩⟩⟩
    · simp only [Array.size_append, List.size_toArray, size_zeroCells, hzs, hlen, ← Nat.add_mul]
      congr 1
      omega
    · simp only [Array.toList_append]
      rw [← hlen]
      exact List.take_left
  by_cases hk : k = 0
  · subst hk
    have hnews : news = [] := List.eq_nil_of_length_eq_zero (by simpa using hl)
    subst hnews
    have hrun : (Builtin.append_ #[t, t] ty #[.slice a n cap, .slice x 0 c]).run P w = .ok (.slice a n cap) w := by
      cases a <;> simp [Builtin.append_, run_underlying ht, sizeOf, typeInfo, hi, Builtin.lenOf, hn, hf0, storeCells]
    refine ⟨_, _, hrun, ?_⟩
    by_cases hn0 : n = 0
    · left
      have := hcap hn0
      subst hn0; subst this
      exact ⟨rfl, rfl, rfl⟩
    · right
      obtain ⟨g, cur, rfl, hg, hs, ht'⟩ := hv (by omega)
      exact ⟨by omega, g, cap, cur, rfl, hn, hcm, hg, hs, by simpa using ht', .inr ⟨by omega, rfl, ⟨rfl, rfl, rfl, Nat.le_refl _, fun _ _ _ => rfl⟩⟩⟩
  · obtain ⟨ad, rfl, hcell⟩ := hx (by omega)
    by_cases hn0 : n = 0
    · have hc0 := hcap hn0
      subst hn0; subst hc0
      have ho : olds = [] := List.eq_nil_of_length_eq_zero (by simpa using hlo)
      subst ho
      cases a with
      | none =>
        have hr := run_append_nil (P := P) w t ty e inf zv ht hi hz ad k c news hl hcell (by omega) (by omega) (by simp only [Nat.zero_add] at hb; omega)
        refine ⟨_, _, hr, .inr ⟨by omega, ?_⟩⟩
        have := grown 0 news (by simp) (by omega)
        simpa only [Nat.zero_add] using this
      | some b =>
        have hr := run_append_grow (P := P) w t ty e inf zv ht hi hz b 0 0 [] (by simp) (fun j v hj => by simp at hj) ad k c news hl hcell (by omega) (by omega) (growslice_fits (by omega) hb)
        refine ⟨_, _, hr, .inr ⟨by omega, ?_⟩⟩
        have := grown 0 news (by simp) (by omega)
        simpa only [Nat.zero_add, Array.empty_append] using this
    · obtain ⟨g, cur, rfl, hg, hs, htake⟩ := hv (by omega)
      by_cases hroom : n + k ≤ cap
      · have hfit : n * inf.size + news.length ≤ cur.size := by rw [hl, hs, ← Nat.add_mul]; exact Nat.mul_le_mul_right _ hroom
        have hr := run_append_room (P := P) w t ty e inf ht hi g n cap cur hg ad k c news hl hcell h1 hroom hfit
        refine ⟨_, _, hr, .inr ⟨by omega, g, cap, _, rfl, hroom, hcm, setRow_heap w g cur _ e _ hg, ?_, ?_, .inr ⟨by omega, rfl, ⟨rfl, rfl, rfl, by simp, fun k _ hk => setRow_other w g k _ (fun e => hk (by rw [e]))⟩⟩⟩⟩
        · simp only [List.size_toArray, List.length_append, List.length_take, List.length_drop, Array.length_toList]
          omega
        · rw [htake]
          have hlen : (olds ++ news).length = (n + k) * inf.size := by rw [List.length_append, hlo, hl, Nat.add_mul]
          rw [← hlen]
          exact List.take_left
      · have holds : ∀ j u, olds[j]? = some u → w.cell? ((⟨g, 0, none⟩ : Addr).add j) = some u := by
          intro j u hj
          rw [addr_add, Nat.zero_add, cell_of_row w g j cur e (0, 0) hg]
          rw [← htake, List.getElem?_take] at hj
          split at hj
          · simpa using hj
          · cases hj
        have hr := run_append_grow (P := P) w t ty e inf zv ht hi hz ⟨g, 0, none⟩ n cap olds hlo holds ad k c news hl hcell (by omega) (by omega) (growslice_fits (by omega) hb)
        refine ⟨_, _, hr, .inr ⟨by omega, ?_⟩⟩
        have := grown cap (olds ++ news) rfl (by omega)
        simpa using this
end run
end Go.Sy
namespace Go.Sy

/-! 'append' -/
structure Box (p : Prop) : Prop where
  out : p
def kcols : List C → Option (List Col)
  | [] => some []
  | .int k _ :: r => (kcols r).map (⟨.i k, 1, .lit 0⟩ :: ·)
  | .bool _ :: r => (kcols r).map (⟨.b, 1, .lit 0⟩ :: ·)
  | _ :: _ => none
/-- Elements written behind the others. -/
def appEls (pc : Pc) (z : Nat) : Nat → List Col → T → List C → Option (List Col)
  | 0, cols, _, ys => match ys with | [] => some cols | _ => none
  | n + 1, cols, i, ys => match wrAs pc i cols 0 (ys.take z) with
    | some cols' => appEls pc z n cols' (mk2 .add i (.lit 1)) (ys.drop z)
    | none => none
def mulT (t : T) (m : Nat) : T := bif Nat.beq m 1 then t else mk2 .mul t (.lit m)
theorem mulT_den [Fs] (E : Env) (t : T) (m : Nat) : (mulT t m).den E = t.den E * m := by
  unfold mulT
  cases h : Nat.beq m 1 <;> simp only [cond_true, cond_false, mk2_den, O2.den, T.den]
  rw [Nat.eq_of_beq_eq_true h]; omega
/-- A row's part laid behind another row. -/
def blitCols (n o k : T) : List Col → List Col → Option (List Col)
  | [], [] => some []
  | c :: cs, d :: ds => bif decide (c.k = d.k) && Nat.beq c.m d.m then
      (blitCols n o k cs ds).map ({ c with s := .blit c.s (mulT n c.m) (mulT k c.m) (.sh d.s (mulT o c.m)) } :: ·) else none
  | _, _ => none
def shCols (o : T) (l : List Col) : List Col := l.map fun c => { c with s := .sh c.s (mulT o c.m) }
section
variable {E : Env} {ρ : Nat → Rb} {N : Nat}
theorem Cells.congr [Fs] {n : Int} {cols : List Col} {cs cs' : Array Value} (h : Cells E n cols cs) (he : ∀ q, q < n.toNat * wid cols → cs'[q]? = cs[q]?) : Cells E n cols cs' := by
  intro i p r c hi hc
  rw [he _ (elem_lt (by omega) (colAt_lt hc).2.2.1)]
  exact h i p r c hi hc
/-- One element more. -/
theorem Cells.push [Fs] {pc : Pc} (hp : pcOk E pc) {K : Nat} {cols cols' : List Col} {cur : Array Value} (h : Cells E K cols cur) {i : T} (hi : i.den E = K) {ys : List C} (hw : wrAs pc i cols 0 ys = some cols') (hl : ys.length = wid cols)
    (hv : ∀ (p : Nat) (y : C), ys[p]? = some y → ∃ v, cur[K * wid cols + p]? = some v ∧ Cr E ρ N y v) (hsz : K * wid cols + wid cols ≤ cur.size) :
    wid cols' = wid cols ∧ Cells E (K + 1 : Nat) cols' cur := by
  let fake : List Value := (List.range (wid cols)).map fun p => match colAt cols p with
    | some (c, r) => c.k.val (c.s.row E (K * c.m + r : Nat))
    | none => default
  have fl : fake.length = wid cols := by simp [fake]
  have hA : Cells E (K + 1 : Nat) cols (lay cur (K * wid cols) fake) := by
    intro i' p r c hi' hc
    have hpw := (colAt_lt hc).2.2.1
    rw [lay_get (by rw [fl]; exact hsz), fl]
    by_cases hik : i' = K
    · subst hik
      rw [if_pos (by omega), show i' * wid cols + p - i' * wid cols = p by omega]
      simp only [fake, List.getElem?_map, List.getElem?_range hpw, Option.map_some, hc]
    · have hlt : i' < K := by omega
      have := elem_lt hlt hpw
      rw [if_neg (by omega)]
      exact h i' p r c (by omega) hc
  let vs : List Value := (cur.toList.drop (K * wid cols)).take (wid cols)
  have vl : vs.length = ys.length := by simp [vs, hl]; omega
  have i0 : 0 ≤ i.den E := by omega
  have iN : (i.den E).toNat = K := by omega
  obtain ⟨g1, g2⟩ := wrAs_ok (ρ := ρ) (N := N) hp i0 hw hA vl (fun j y hj => by
    obtain ⟨v, h1, h2⟩ := hv j y hj
    refine ⟨v, ?_, h2⟩
    have hjl : j < wid cols := by rw [← hl]; exact (List.getElem?_eq_some_iff.1 hj).1
    simp only [vs, List.getElem?_take, hjl, if_true, List.getElem?_drop]
    simpa using h1) (by rw [lay_size, iN, hl]; omega)
  refine ⟨g1, ?_⟩
  rw [iN] at g2
  refine g2.congr fun q hq => ?_
  rw [g1] at hq
  simp only [Int.toNat_natCast] at hq
  rw [Nat.add_zero, lay_get (by rw [lay_size, vl, hl]; omega), vl, hl]
  by_cases hb : K * wid cols ≤ q ∧ q < K * wid cols + wid cols
  · rw [if_pos hb]
    simp only [vs, List.getElem?_take, List.getElem?_drop, show q - K * wid cols < wid cols by omega, if_true]
    rw [show K * wid cols + (q - K * wid cols) = q by omega]
    simp
  · rw [if_neg hb, lay_get (by rw [fl]; exact hsz), fl, if_neg hb]
theorem appEls_ok [Fs] {pc : Pc} (hp : pcOk E pc) {z : Nat} {cur : Array Value} : ∀ {n K : Nat} {cols cols' : List Col} {i : T} {ys : List C}, appEls pc z n cols i ys = some cols' → z = wid cols → Cells E K cols cur → i.den E = K → ys.length = n * z →
    (∀ (p : Nat) (y : C), ys[p]? = some y → ∃ v, cur[K * z + p]? = some v ∧ Cr E ρ N y v) → (K + n) * z ≤ cur.size → wid cols' = z ∧ Cells E (K + n : Nat) cols' cur := by
  intro n
  induction n with
  | zero =>
    intro K cols cols' i ys h hz hc _ hl _ _
    have : ys = [] := List.eq_nil_of_length_eq_zero (by simpa using hl)
    subst this
    cases h
    exact ⟨hz.symm, by simpa using hc⟩
  | succ n ih =>
    intro K cols cols' i ys h hz hc hi hl hv hsz
    simp only [appEls] at h
    split at h
    · rename_i cols1 hw
      rw [Nat.add_mul, Nat.one_mul] at hl
      have hsz' : K * z + z + n * z ≤ cur.size := by
        have e : (K + (n + 1)) * z = K * z + z + n * z := by simp only [Nat.add_mul, Nat.one_mul]; omega
        omega
      obtain ⟨g1, g2⟩ := Cells.push (ρ := ρ) (N := N) hp hc hi hw (by rw [List.length_take, ← hz]; omega) (fun p y hy => by
        rw [← hz]
        rw [List.getElem?_take] at hy
        split at hy
        · exact hv p y hy
        · cases hy) (by rw [← hz]; omega)
      have := ih h (by rw [g1]; exact hz) g2 (by simp only [mk2_den, O2.den, T.den, hi]; omega) (by rw [List.length_drop]; omega) (fun p y hy => by
        rw [List.getElem?_drop] at hy
        obtain ⟨v, h1, h2⟩ := hv _ y hy
        refine ⟨v, ?_, h2⟩
        rw [← h1]; congr 1; rw [Nat.add_mul]; omega) (by simp only [Nat.add_mul, Nat.one_mul]; omega)
      rw [show K + 1 + n = K + (n + 1) by omega] at this
      exact this
    · cases h
theorem blitCols_wid [Fs] {n o k : T} : ∀ {cs ds cs' : List Col}, blitCols n o k cs ds = some cs' → wid cs' = wid cs ∧ wid ds = wid cs := by
  intro cs
  induction cs with
  | nil => intro ds cs' h; cases ds <;> simp [blitCols] at h; subst h; exact ⟨rfl, rfl⟩
  | cons c cs ih =>
    intro ds cs' h
    cases ds with
    | nil => simp [blitCols] at h
    | cons d ds =>
      simp only [blitCols] at h
      cases hb : decide (c.k = d.k) && Nat.beq c.m d.m <;> simp only [hb, cond_true, cond_false] at h
      · cases h
      · rw [Option.map_eq_some_iff] at h
        obtain ⟨l, h1, rfl⟩ := h
        rw [Bool.and_eq_true] at hb
        have hm := Nat.eq_of_beq_eq_true hb.2
        obtain ⟨g1, g2⟩ := ih h1
        exact ⟨by simp only [wid, g1], by simp only [wid, g2, hm]⟩
theorem blitCols_at [Fs] {n o k : T} : ∀ {cs ds cs' : List Col}, blitCols n o k cs ds = some cs' → ∀ {p r : Nat} {c' : Col}, colAt cs' p = some (c', r) →
    ∃ c d, colAt cs p = some (c, r) ∧ colAt ds p = some (d, r) ∧ c'.k = c.k ∧ d.k = c.k ∧ c'.m = c.m ∧ d.m = c.m ∧ c'.s = .blit c.s (mulT n c.m) (mulT k c.m) (.sh d.s (mulT o c.m)) := by
  intro cs
  induction cs with
  | nil => intro ds cs' h; cases ds <;> simp [blitCols] at h; subst h; intro p r c' hc; simp [colAt] at hc
  | cons c cs ih =>
    intro ds cs' h
    cases ds with
    | nil => simp [blitCols] at h
    | cons d ds =>
      simp only [blitCols] at h
      cases hb : decide (c.k = d.k) && Nat.beq c.m d.m <;> simp only [hb, cond_true, cond_false] at h
      · cases h
      · rw [Option.map_eq_some_iff] at h
        obtain ⟨l, h1, rfl⟩ := h
        rw [Bool.and_eq_true, decide_eq_true_eq] at hb
        have hm := Nat.eq_of_beq_eq_true hb.2
        intro p r c' hc
        simp only [colAt] at hc ⊢
        rw [← hm]
        cases hp : Nat.blt p c.m <;> simp only [hp, cond_true, cond_false] at hc ⊢
        · exact ih h1 hc
        · cases hc
          exact ⟨c, d, rfl, rfl, rfl, hb.1.symm, rfl, hm.symm, rfl⟩
theorem blit_ok [Fs] {n o k : T} {K S L : Nat} {cs ds cs' : List Col} {cur : Array Value} (h : blitCols n o k cs ds = some cs') (hn : n.den E = K) (ho : o.den E = S) (hk : k.den E = L) (hc : Cells E K cs cur)
    (hd : ∀ (j p r : Nat) (d : Col), j < L → colAt ds p = some (d, r) → cur[K * wid cs + (j * wid cs + p)]? = some (d.k.val (d.s.row E ((S + j) * d.m + r : Nat)))) : Cells E (K + L : Nat) cs' cur := by
  intro i p r c' hi hc'
  obtain ⟨g1, g2⟩ := blitCols_wid h
  obtain ⟨c, d, h1, h2, h3, h4, h5, h6, h7⟩ := blitCols_at h hc'
  have hr := (colAt_lt h1).1
  have hpw := (colAt_lt h1).2.2.1
  rw [g1, h3, h5, h7]
  simp only [T.row, mulT_den, hn, ho, hk]
  by_cases hlt : i < K
  · rw [if_neg]
    · exact hc i p r c (by omega) h1
    · have : (i + 1) * c.m ≤ K * c.m := Nat.mul_le_mul_right _ hlt
      rw [Nat.add_mul] at this
      have e : ((K : Int) * c.m) = ((K * c.m : Nat) : Int) := by simp
      rw [e]; omega
  · obtain ⟨j, rfl⟩ : ∃ j, i = K + j := ⟨i - K, by omega⟩
    have hj : j < L := by omega
    rw [if_pos]
    · have h8 := hd j p r d hj h2
      rw [h4, h6] at h8
      have e1 : (K + j) * wid cs + p = K * wid cs + (j * wid cs + p) := by rw [Nat.add_mul]; omega
      rw [e1, h8]
      congr 3
      simp only [Nat.add_mul, Int.natCast_add, Int.natCast_mul]
      omega
    · have : (j + 1) * c.m ≤ L * c.m := Nat.mul_le_mul_right _ hj
      rw [Nat.add_mul] at this
      have e : ((K : Int) * c.m) = ((K * c.m : Nat) : Int) := by simp
      have e' : ((L : Int) * c.m) = ((L * c.m : Nat) : Int) := by simp
      have e'' : (K + j) * c.m = K * c.m + j * c.m := by rw [Nat.add_mul]
      rw [e, e', e'']; omega
theorem shCols_wid [Fs] {o : T} {l : List Col} : wid (shCols o l) = wid l := by
  induction l with
  | nil => rfl
  | cons c l ih => simp only [shCols, List.map_cons, wid] at ih ⊢; rw [ih]
theorem shCols_at [Fs] {o : T} : ∀ {l : List Col} {p r : Nat} {c' : Col}, colAt (shCols o l) p = some (c', r) → ∃ c, colAt l p = some (c, r) ∧ c' = { c with s := .sh c.s (mulT o c.m) } := by
  intro l
  induction l with
  | nil => intro p r c' h; simp [shCols, colAt] at h
  | cons c l ih =>
    intro p r c' h
    simp only [shCols, List.map_cons, colAt] at h ⊢
    cases hp : Nat.blt p c.m <;> simp only [hp, cond_true, cond_false] at h ⊢
    · exact ih h
    · cases h; exact ⟨c, rfl, rfl⟩
theorem sh_ok [Fs] {o : T} {S L : Nat} {ds : List Col} {cur : Array Value} (ho : o.den E = S)
    (hd : ∀ (j p r : Nat) (d : Col), j < L → colAt ds p = some (d, r) → cur[j * wid ds + p]? = some (d.k.val (d.s.row E ((S + j) * d.m + r : Nat)))) : Cells E L (shCols o ds) cur := by
  intro i p r c' hi hc'
  obtain ⟨c, h1, rfl⟩ := shCols_at hc'
  rw [shCols_wid, hd i p r c (by omega) h1]
  simp only [T.row, mulT_den, ho]
  congr 3
  simp only [Int.natCast_add, Int.natCast_mul, Int.add_mul]
  omega
end

/-! memory -/
section
variable {X : Cx} {ρ : Nat → Rb} {m : List Bk} {w w' : World}
/-- A block gives way to a new one: in its place of the world's, or in a new one. -/
theorem MemR.move [Fs] (h : MemR X ρ m w) {b : Nat} {bk : Bk} {g : Rb} (hold : ∀ (i : Nat) (c : Bk), i ≠ b → m[i]? = some c → c.there X.E → w'.heap[(ρ i).g]? = w.heap[(ρ i).g]? ∧ (ρ i).g ≠ g.g) (hf' : Fr X w')
    (hg : X.w0.heap.size ≤ g.g ∨ ∃ j, j < X.n0 ∧ g.g = (X.ρ0 j).g) (hb : ∀ ρ' n, m.length ≤ n → (∀ i, i < m.length → ρ' i = ρ i) → Br X.E ρ' n g bk w'.heap[g.g]?) : MemR X (upd ρ m.length g) (m.set b .dead ++ [bk]) w' := by
  have hρ : ∀ i, i < m.length → upd ρ m.length g i = ρ i := fun i hi => upd_ne ρ _ (Nat.ne_of_lt hi)
  have hl0 := h.len
  have split : ∀ (i : Nat) (c : Bk), (m.set b .dead ++ [bk])[i]? = some c → (i < m.length ∧ (c = .dead ∨ (i ≠ b ∧ m[i]? = some c))) ∨ (i = m.length ∧ c = bk) := by
    intro i c hi
    rw [List.getElem?_append] at hi
    split at hi
    · rename_i hl
      rw [List.length_set] at hl
      left
      refine ⟨hl, ?_⟩
      rw [List.getElem?_set] at hi
      split at hi
      · split at hi
        · cases hi; exact .inl rfl
        · cases hi
      · rename_i hne; exact .inr ⟨fun e => hne e.symm, hi⟩
    · rename_i hl
      right
      have hlt := (List.getElem?_eq_some_iff.1 hi).1
      simp at hlt hl
      have : i = m.length := by omega
      subst this
      simp at hi
      exact ⟨rfl, hi.symm⟩
  refine ⟨fun i c hi => ?_, fun i j bi bj hi hj hbi hbj heq => ?_, by simp; omega, fun i hi => ?_, fun i c hn hi hr hc => ?_, hf'⟩
  · rcases split i c hi with ⟨hl, hc⟩ | ⟨rfl, rfl⟩
    · rw [hρ i hl]
      rcases hc with rfl | ⟨hne, hi'⟩
      · trivial
      · exact Br.mono hρ (by simp) ((h.mem i c hi').same fun ht => (hold i c hne hi' ht).1)
    · rw [upd_same]; exact hb _ _ (by simp) hρ
  · rcases split i bi hi with ⟨hl, hc⟩ | ⟨rfl, rfl⟩ <;> rcases split j bj hj with ⟨hl', hc'⟩ | ⟨rfl, rfl⟩
    · rw [hρ i hl, hρ j hl'] at heq
      rcases hc with rfl | ⟨hne, hi'⟩
      · exact hbi.elim
      · rcases hc' with rfl | ⟨hne', hj'⟩
        · exact hbj.elim
        · exact h.inj i j bi bj hi' hj' hbi hbj heq
    · rw [hρ i hl, upd_same] at heq
      rcases hc with rfl | ⟨hne, hi'⟩
      · exact hbi.elim
      · exact absurd heq (hold i bi hne hi' hbi).2
    · rw [hρ j hl', upd_same] at heq
      rcases hc' with rfl | ⟨hne, hj'⟩
      · exact hbj.elim
      · exact absurd heq.symm (hold j bj hne hj' hbj).2
    · rfl
  · rw [hρ i (by omega)]; exact h.old i hi
  · rcases split i c hi with ⟨hl, hcc⟩ | ⟨rfl, rfl⟩
    · rw [hρ i hl]
      rcases hcc with rfl | ⟨hne, hi'⟩
      · exact hc.elim
      · exact h.new i c hn hi' hr hc
    · rw [upd_same]; exact hg
/-- What 'append' leaves of the world. -/
theorem Fr.grown [Fs] (h : MemR X ρ m w) {row : Option Nat} (hg : w.grownBy w' row) (hrow : ∀ g, row = some g → ∃ (b : Nat) (c : Bk), m[b]? = some c ∧ c.ro = false ∧ c.there X.E ∧ (ρ b).g = g) : Fr X w' := by
  have hf := h.fr
  refine ⟨hg.os.trans hf.os, hg.tape.trans hf.tape, hg.output.trans hf.output, Nat.le_trans hf.size hg.size, fun k hk hn => ?_⟩
  rw [hg.block k (Nat.lt_of_lt_of_le hk hf.size), hf.block k hk hn]
  intro e
  obtain ⟨b, c, h1, hr, h2, h3⟩ := hrow k e.symm
  by_cases hin : b < X.n0
  · exact hn b hin (by rw [← h.old b hin]; exact h3)
  · rcases h.new b c (by omega) h1 hr h2 with h4 | ⟨j, h4, h5⟩
    · omega
    · exact hn j h4 (by rw [← h5]; exact h3)
end

/-- Onto what: the block, the length, the columns. -/
def destOf (st : St) (e : TypeId) (sz : Nat) (kc : Option (List Col)) : C → Option (Option Nat × T × List Col)
  | .sln b z n => match st.m[b]? with
    | some (.arr ty k cols) => bif n.beq k && Nat.beq z sz && Nat.beq (wid cols) sz && Nat.beq ty (Nat.mul 2 e) then some (some b, n, cols) else none
    | _ => none
  | .nils => match kc with
    | some cols => bif Nat.beq (wid cols) sz then some (none, .lit 0, cols) else none
    | none => none
  | _ => none
inductive Src where
  | cs (len : Nat) (ys : List C)
  | row (o k : T) (cols : List Col)
def srcOf (st : St) (sz : Nat) : C → Option Src
  | .slc b o len => match st.m[b]? with
    | some (.cells _ xs) => bif Nat.beq ((xs.drop o).take (len * sz)).length (len * sz) then some (.cs len ((xs.drop o).take (len * sz))) else none
    | _ => none
  | .slr b z o n => match st.m[b]? with
    | some (.arr _ k cols) => match dec st.pc (mk2 .le (mk2 .add o n) k) with
      | some true => bif Nat.beq z sz && Nat.beq (wid cols) sz then some (.row o n cols) else none
      | _ => none
    | _ => none
  | .sln b z n => match st.m[b]? with
    | some (.arr _ k cols) => match dec st.pc (mk2 .le n k) with
      | some true => bif Nat.beq z sz && Nat.beq (wid cols) sz then some (.row (.lit 0) n cols) else none
      | _ => none
    | _ => none
  | _ => none
def Src.kcols (sz : Nat) : Src → Option (List Col)
  | .cs _ ys => Go.Sy.kcols (ys.take sz)
  | .row _ _ cols => some (cols.map fun c => { c with s := .lit 0 })
def Src.len : Src → T
  | .cs n _ => .lit n
  | .row _ k _ => k
def appCols (st : St) (sz : Nat) (b : Option Nat) (n : T) (cols : List Col) : Src → Option (List Col)
  | .cs len ys => appEls st.pc sz len cols n ys
  | .row o k ds => match b with
    | some _ => blitCols n o k cols ds
    | none => some (shCols o ds)
def killO (m : List Bk) : Option Nat → List Bk
  | some b => m.set b .dead
  | none => m
def evApp (P : Program) (st : St) (c : Call) : Option OpR :=
  match c.callee, c.args.toList, c.argTypes.toList with
  | .builtin .append, [s, x], [t, t'] => bif Nat.beq t t' then match P.underlying t with
    | some (.slice e) => match P.info? e with
      | some inf => match inf.zero, opC st s, opC st x with
        | some zv, some cs, some cx => bif Nat.beq zv.cells.size inf.size && Nat.blt 0 inf.size && Nat.ble inf.bytes 65536 then match srcOf st inf.size cx.nrm with
          | some src => match destOf st e inf.size (src.kcols inf.size) cs with
            | some (b, n, cols) => match appCols st inf.size b n cols src with
              | some cols' => let len := mk2 .add n src.len
                some ⟨.a (.c (.sln st.m.length inf.size len)), killO st.m b ++ [.arr (Nat.mul 2 e) len cols'], [mk2 .le len (.lit 1073741824)]⟩
              | none => none
            | none => none
          | none => none
          else none
        | _, _, _ => none
      | none => none
    | _ => none
    else none
  | _, _, _ => none
section ops
variable {P : Program} {X : Cx} {ρ : Nat → Rb} {st : St} {a : Act} {w : World} {o : Oper}
/-- What is known of the operand onto which is appended. -/
theorem destOf_ok [Fs] (_h : Rel X ρ st a w) {e : TypeId} {sz : Nat} {kc : Option (List Col)} {c : C} {v : Value} (hv : Cr X.E ρ st.m.length c v) {b : Option Nat} {n : T} {cols : List Col} (hd : destOf st e sz kc c = some (b, n, cols)) :
    wid cols = sz ∧ 0 ≤ n.den X.E ∧ ∃ ad cap, v = .slice ad (n.den X.E).toNat cap ∧ (n.den X.E).toNat ≤ cap ∧ cap ≤ maxLen ∧ ((n.den X.E).toNat = 0 → cap = 0) ∧
      ((b = none ∧ n.den X.E = 0) ∨ ∃ b', b = some b' ∧ st.m[b']? = some (.arr (Nat.mul 2 e) n cols) ∧ (0 < n.den X.E → ad = some ⟨(ρ b').g, 0, none⟩ ∧ cap * sz = (ρ b').z ∧ (ρ b').o = 0)) := by
  unfold destOf at hd
  split at hd
  · rename_i b' z n'
    split at hd
    · rename_i ty k cols' hm
      cases hc : n'.beq k && Nat.beq z sz && Nat.beq (wid cols') sz && Nat.beq ty (Nat.mul 2 e) <;> simp only [hc, cond_true, cond_false] at hd
      · cases hd
      · cases hd
        simp only [Bool.and_eq_true] at hc
        obtain ⟨⟨⟨h1, h2⟩, h3⟩, h4⟩ := hc
        have h1 := T.beq_eq h1
        subst h1
        have h2 := Nat.eq_of_beq_eq_true h2
        subst h2
        have h4 := Nat.eq_of_beq_eq_true h4
        subst h4
        obtain ⟨g1, g2, ad, cap, g3, g4, g5, g6, g7⟩ := hv
        exact ⟨Nat.eq_of_beq_eq_true h3, g2, ad, cap, g3, g4, g5, fun h0 => g6 (by omega), .inr ⟨b', rfl, hm, g7⟩⟩
    · cases hd
  · split at hd
    · rename_i cols'
      cases hc : Nat.beq (wid cols') sz <;> simp only [hc, cond_true, cond_false] at hd
      · cases hd
      · cases hd
        refine ⟨Nat.eq_of_beq_eq_true hc, by simp [T.den], none, 0, ?_, by simp [T.den], by simp [maxLen], fun _ => rfl, .inl ⟨rfl, rfl⟩⟩
        have : v = .slice none 0 0 := hv
        rw [this]; simp [T.den]
    · cases hd
  · cases hd
/-- What is known of what is appended. -/
def SrcR (X : Cx) (ρ : Nat → Rb) (N sz : Nat) (news : List Value) : Src → Prop
  | .cs len ys => ys.length = len * sz ∧ ∀ (p : Nat) (y : C), ys[p]? = some y → ∃ u, news[p]? = some u ∧ Cr X.E ρ N y u
  | .row o k cols => wid cols = sz ∧ 0 ≤ o.den X.E ∧ ∀ (j p r : Nat) (d : Col), j < (k.den X.E).toNat → colAt cols p = some (d, r) → news[j * sz + p]? = some (d.k.val (d.s.row X.E (((o.den X.E).toNat + j) * d.m + r : Nat)))
theorem srcOf_ok [Fs] (h : Rel X ρ st a w) {sz : Nat} {c : C} {v : Value} (hv : Cr X.E ρ st.m.length c v) {src : Src} (hs : srcOf st sz c = some src) :
    0 ≤ src.len.den X.E ∧ ∃ ad cap, ∃ news : List Value, v = .slice ad (src.len.den X.E).toNat cap ∧ news.length = (src.len.den X.E).toNat * sz ∧ (∀ u ∈ news, u.oneCell' = true) ∧
      (0 < (src.len.den X.E).toNat → ∃ d, ad = some d ∧ ∀ j u, news[j]? = some u → w.cell? (d.add j) = some u) ∧ SrcR X ρ st.m.length sz news src := by
  have rows : ∀ (b : Nat) (o n : T) (ty : TypeId) (k : T) (cols : List Col), st.m[b]? = some (.arr ty k cols) → Cr X.E ρ st.m.length (.slr b sz o n) v → o.den X.E + n.den X.E ≤ k.den X.E → wid cols = sz →
      0 ≤ n.den X.E ∧ ∃ ad cap, ∃ news : List Value, v = .slice ad (n.den X.E).toNat cap ∧ news.length = (n.den X.E).toNat * sz ∧ (∀ u ∈ news, u.oneCell' = true) ∧
      (0 < (n.den X.E).toNat → ∃ d, ad = some d ∧ ∀ j u, news[j]? = some u → w.cell? (d.add j) = some u) ∧ SrcR X ρ st.m.length sz news (.row o n cols) := by
    intro b o n ty k cols hm hv hle hw
    obtain ⟨g1, g2, g3, ad, cap, g4, g5, g6⟩ := hv
    obtain ⟨k0, hbr⟩ := h.mr.mem _ _ hm
    refine ⟨g3, ?_⟩
    by_cases hn : 0 < n.den X.E
    · have hk : 0 < k.den X.E := by clear hbr; omega
      obtain ⟨cs0, t0, fr0, h1, _, _, h3', h4⟩ := hbr hk
      clear hbr
      obtain ⟨cs, hcs⟩ : ∃ cs, cs = cs0.extract (ρ b).o cs0.size := ⟨_, rfl⟩
      have hcsz : cs.size = cs0.size - (ρ b).o := by rw [hcs, Array.size_extract]; omega
      have h3 : (k.den X.E).toNat * wid cols ≤ cs.size := by omega
      rw [← hcs] at h4
      have hkn : (o.den X.E).toNat + (n.den X.E).toNat ≤ (k.den X.E).toNat := by omega
      have hsz' : (o.den X.E).toNat * sz + (n.den X.E).toNat * sz ≤ (k.den X.E).toNat * sz := by
        rw [← Nat.add_mul]; exact Nat.mul_le_mul_right _ hkn
      have hsz : (o.den X.E).toNat * sz + (n.den X.E).toNat * sz ≤ cs.size := by rw [hw] at h3; omega
      -- the cells, by their columns
      have at_ : ∀ (j p r : Nat) (d : Col), j < (n.den X.E).toNat → colAt cols p = some (d, r) → ((cs.toList.drop ((o.den X.E).toNat * sz)).take ((n.den X.E).toNat * sz))[j * sz + p]? = some (d.k.val (d.s.row X.E (((o.den X.E).toNat + j) * d.m + r : Nat))) := by
        intro j p r d hj hd
        have hp := (colAt_lt hd).2.2.1
        rw [hw] at hp
        rw [List.getElem?_take, if_pos (elem_lt hj hp), List.getElem?_drop]
        have := h4 ((o.den X.E).toNat + j) p r d (by omega) hd
        rw [hw, Nat.add_mul, Nat.add_assoc] at this
        simpa using this
      refine ⟨ad, cap, (cs.toList.drop ((o.den X.E).toNat * sz)).take ((n.den X.E).toNat * sz), g4, by simp; omega, fun u hu => ?_, fun _ => ⟨_, g6 hn, fun j u hj => ?_⟩, hw, g2, at_⟩
      · obtain ⟨j, hj, hju⟩ := List.mem_iff_getElem.1 hu
        have hg := List.getElem?_eq_getElem hj
        rw [hju] at hg
        have hj2 : j < (n.den X.E).toNat * sz := by
          have := hj
          rw [List.length_take] at this; omega
        have hz : 0 < sz := by
          rcases Nat.eq_zero_or_pos sz with h0 | h0
          · rw [h0] at hj2; omega
          · exact h0
        have hp : j % sz < wid cols := by rw [hw]; exact Nat.mod_lt _ hz
        obtain ⟨c, r, hc⟩ := colAt_some hp
        have := at_ (j / sz) (j % sz) r c (Nat.div_lt_of_lt_mul (by rw [Nat.mul_comm]; exact hj2)) hc
        rw [Nat.div_add_mod' , hg] at this
        have := Option.some.inj this
        rw [this]
        cases c.k <;> rfl
      · rw [addr_add, cell_of_row w _ _ cs0 _ _ h1]
        rw [List.getElem?_take, List.getElem?_drop] at hj
        split at hj
        · rw [Array.getElem?_toList] at hj
          have hq := (Array.getElem?_eq_some_iff.1 hj).1
          rw [hcs, Array.getElem?_extract, if_pos (by omega)] at hj
          rw [Nat.add_assoc]; exact hj
        · cases hj
    · clear hbr
      have hn0 : n.den X.E = 0 := by omega
      exact ⟨ad, cap, [], g4, by simp [hn0], fun u hu => (nomatch hu), fun hk => by omega, hw, g2, fun j p r d hj => by rw [hn0] at hj; exact absurd hj (Nat.not_lt_zero _)⟩
  unfold srcOf at hs
  split at hs
  · rename_i b o' len
    split at hs
    · rename_i ty xs hm
      cases hc : Nat.beq ((xs.drop o').take (len * sz)).length (len * sz) <;> simp only [hc, cond_true, cond_false] at hs
      · cases hs
      · cases hs
        have hl := Nat.eq_of_beq_eq_true hc
        obtain ⟨cs, h1, _, h2⟩ := h.mr.mem _ _ hm
        obtain ⟨g1, cap, g2, g3⟩ := hv
        have hx := F2p.extract' h2 hl
        refine ⟨by simp [Src.len, T.den], some ⟨(ρ b).g, o', none⟩, cap, (cs.extract o' (o' + len * sz)).toList, by rw [g2]; simp [Src.len, T.den], by rw [Array.length_toList, hx.1, hl]; simp [Src.len, T.den], fun u hu => hx.all (fun _ _ => Cr_one) u (Array.mem_toList_iff.1 hu), fun _ => ⟨_, rfl, fun j u hj => ?_⟩, hl, fun p y hy => by rw [Array.getElem?_toList]; exact hx.2 p y hy⟩
        rw [addr_add, cell_of_row w _ _ cs _ (0, 0) h1]
        rw [Array.getElem?_toList, Array.getElem?_extract] at hj
        split at hj
        · exact hj
        · cases hj
    · cases hs
  · rename_i b z o' n
    split at hs
    · rename_i ty k cols hm
      split at hs
      · rename_i hd
        cases hc : Nat.beq z sz && Nat.beq (wid cols) sz <;> simp only [hc, cond_true, cond_false] at hs
        · cases hs
        · cases hs
          rw [Bool.and_eq_true] at hc
          have h1 := Nat.eq_of_beq_eq_true hc.1
          subst h1
          have hle := le_of (E := X.E) (dec_ok h.pc hd)
          simp only [mk2_den, O2.den] at hle
          exact rows b o' n ty k cols hm hv hle (Nat.eq_of_beq_eq_true hc.2)
      · cases hs
    · cases hs
  · rename_i b z n
    split at hs
    · rename_i ty k cols hm
      split at hs
      · rename_i hd
        cases hc : Nat.beq z sz && Nat.beq (wid cols) sz <;> simp only [hc, cond_true, cond_false] at hs
        · cases hs
        · cases hs
          rw [Bool.and_eq_true] at hc
          have h1 := Nat.eq_of_beq_eq_true hc.1
          subst h1
          have hle := le_of (E := X.E) (dec_ok h.pc hd)
          exact rows b (.lit 0) n ty k cols hm (rowOf_ok rfl hv) (by simp only [T.den]; omega) (Nat.eq_of_beq_eq_true hc.2)
      · cases hs
    · cases hs
  · cases hs
theorem kcols_wid [Fs] : ∀ {ys : List C} {cols : List Col}, kcols ys = some cols → wid cols = ys.length := by
  intro ys
  induction ys with
  | nil => intro cols h; cases h; rfl
  | cons y ys ih =>
    intro cols h
    unfold kcols at h
    split at h
    · rename_i he; cases he
    · rename_i he
      cases he
      rw [Option.map_eq_some_iff] at h
      obtain ⟨l, h1, rfl⟩ := h
      simp only [wid, ih h1, List.length_cons]; omega
    · rename_i he
      cases he
      rw [Option.map_eq_some_iff] at h
      obtain ⟨l, h1, rfl⟩ := h
      simp only [wid, ih h1, List.length_cons]; omega
    · cases h
theorem evApp_ok [Fs] (h : Rel X ρ st a w) {c : Call} (ho : o.op = .call c) {r : OpR} (hr : evApp P st c = some r) : OpOk P X ρ st a w o r := by
  unfold evApp at hr
  split at hr
  case h_2 => cases hr
  rename_i s x t t' hcal hargs hty
  cases ht' : Nat.beq t t' <;> simp only [ht', cond_true, cond_false] at hr
  · cases hr
  have ht' := Nat.eq_of_beq_eq_true ht'
  subst ht'
  split at hr
  case h_2 => cases hr
  rename_i e hu
  split at hr
  case h_2 => cases hr
  rename_i inf hinf
  split at hr
  case h_2 => cases hr
  rename_i zv cs cx hz hs hx
  cases hq : Nat.beq zv.cells.size inf.size && Nat.blt 0 inf.size && Nat.ble inf.bytes 65536 <;> simp only [hq, cond_true, cond_false] at hr
  · cases hr
  simp only [Bool.and_eq_true, Nat.blt_eq, Nat.ble_eq] at hq
  obtain ⟨⟨hzs, hpos⟩, hby⟩ := hq
  have hzs := Nat.eq_of_beq_eq_true hzs
  split at hr
  case h_2 => cases hr
  rename_i src hsrc
  split at hr
  case h_2 => cases hr
  rename_i b n cols hdst
  split at hr
  case h_2 => cases hr
  rename_i cols' hcols
  cases hr
  obtain ⟨d1, d2, ad, cap, d3, d4, d5, d6, d7⟩ := destOf_ok h (opC_ok h.toSRel hs) hdst
  obtain ⟨s1, bd, c', news, s3, s4, s5, s6, s7⟩ := srcOf_ok h (C.nrm_ok (opC_ok h.toSRel hx)) hsrc
  replace d7 := Box.mk d7
  replace s6 := Box.mk s6
  intro hrq
  have hle := le_of (hrq _ List.mem_cons_self)
  simp only [mk2_den, O2.den, T.den] at hle
  -- the old cells
  have old : ∃ olds : List Value, olds.length = (n.den X.E).toNat * inf.size ∧ (0 < (n.den X.E).toNat → ∃ b' cur, b = some b' ∧ st.m[b']? = some (.arr (Nat.mul 2 e) n cols) ∧ ad = some ⟨(ρ b').g, 0, none⟩ ∧ w.heap[(ρ b').g]? = some (.cells cur e (0, 0)) ∧ cur.size = cap * inf.size ∧ cur.toList.take ((n.den X.E).toNat * inf.size) = olds) ∧
      (∀ cur' : Array Value, (∀ q, q < (n.den X.E).toNat * inf.size → cur'[q]? = olds[q]?) → Cells X.E (n.den X.E).toNat cols cur') := by
    by_cases hn : 0 < n.den X.E
    · rcases d7.out with ⟨_, h0⟩ | ⟨b', hb', hm, hreal⟩
      · omega
      · obtain ⟨had, hcap, _⟩ := hreal hn
        obtain ⟨_, hbr⟩ := h.mr.mem _ _ hm
        obtain ⟨cur, t0, fr0, h1, hro, h2, h3, h4⟩ := hbr hn
        obtain ⟨rfl, rfl, ho0⟩ := hro (ro_two e)
        rw [tyw] at h1
        rw [ho0, Nat.zero_add] at h3
        rw [ho0, ext_all] at h4
        rw [d1] at h3
        refine ⟨cur.toList.take ((n.den X.E).toNat * inf.size), by rw [List.length_take, Array.length_toList]; omega, fun _ => ⟨b', cur, hb', hm, had, h1, by rw [h2, hcap], rfl⟩, fun cur' he => ?_⟩
        have e : ((n.den X.E).toNat : Int) = n.den X.E := by clear hreal hbr; omega
        rw [e]
        refine h4.congr fun q hq => ?_
        rw [d1] at hq
        rw [he q hq, List.getElem?_take, if_pos hq]; simp
    · have hn0 : (n.den X.E).toNat = 0 := by omega
      rw [hn0]
      exact ⟨[], by simp, fun hk => absurd hk (Nat.lt_irrefl _), fun cur' _ => fun i p r c hi => by omega⟩
  obtain ⟨olds, o1, o2, o3⟩ := old
  replace o2 := Box.mk o2
  replace o3 := Box.mk o3
  have hb47 : ((n.den X.E).toNat + (src.len.den X.E).toNat) * inf.bytes ≤ 140737488355328 := by
    have : ((n.den X.E).toNat + (src.len.den X.E).toNat) * inf.bytes ≤ 1073741824 * 65536 := Nat.mul_le_mul (by omega) hby
    omega
  obtain ⟨v', w', hrun, hcase⟩ := run_app (P := P) (w := w) (t := t) (ty := o.type) (x := bd) (c := c') hu hinf hz rfl hzs hpos d4 d6 d5
    (fun hk => let ⟨b', cur, _, _, q3, q4, q5, q6⟩ := o2.out hk; ⟨_, cur, q3, q4, q5, q6⟩) o1 s6.out s4 s5 hb47 (by omega)
  replace hcase := Box.mk hcase
  have hexec : (execOp a.eval o).run P w = .ok (.value v') w' := by
    have e1 : c.args = #[s, x] := by apply Array.ext'; simpa using hargs
    have e2 : c.argTypes = #[t, t] := by apply Array.ext'; simpa using hty
    simp only [execOp, ho, resolve, invoke, builtin, hcal, e1, e2, Sem.run_bind, Sem.run_pure, Result.andThen_ok, List.map_toArray, List.map_cons, List.map_nil, d3, s3, hrun]
  have hlen : ∀ z, Nat.succ z = z + 1 := fun _ => rfl
  -- the columns, of whatever has these cells
  have hcells : ∀ cur' : Array Value, cur'.toList.take (((n.den X.E).toNat + (src.len.den X.E).toNat) * inf.size) = olds ++ news → wid cols' = inf.size ∧ Cells X.E ((n.den X.E).toNat + (src.len.den X.E).toNat : Nat) cols' cur' := by
    intro cur' hcur
    have hsz : ((n.den X.E).toNat + (src.len.den X.E).toNat) * inf.size ≤ cur'.size := by
      have := congrArg List.length hcur
      rw [List.length_take, List.length_append, o1, s4, ← Nat.add_mul, Array.length_toList] at this
      omega
    have hall : ∀ q, q < ((n.den X.E).toNat + (src.len.den X.E).toNat) * inf.size → cur'[q]? = (olds ++ news)[q]? := by
      intro q hq
      rw [← hcur, List.getElem?_take, if_pos hq]; simp
    have hc0 : Cells X.E (n.den X.E).toNat cols cur' := o3.out cur' fun q hq => by
      rw [hall q (by rw [Nat.add_mul]; omega), List.getElem?_append_left (by rw [o1]; exact hq)]
    have hnew : ∀ q, q < (src.len.den X.E).toNat * inf.size → cur'[(n.den X.E).toNat * inf.size + q]? = news[q]? := by
      intro q hq
      rw [hall _ (by rw [Nat.add_mul]; omega), List.getElem?_append_right (by rw [o1]; omega), o1]
      congr 1; omega
    cases src with
    | cs len ys =>
      obtain ⟨k1, k2⟩ := s7
      simp only [appCols] at hcols
      simp only [Src.len, T.den, Int.toNat_natCast] at hnew hsz ⊢
      exact appEls_ok (ρ := ρ) (N := st.m.length) h.pc hcols d1.symm hc0 (by omega) k1 (fun p y hy => by
        obtain ⟨u, u1, u2⟩ := k2 p y hy
        exact ⟨u, by rw [hnew p (by rw [← k1]; exact (List.getElem?_eq_some_iff.1 hy).1)]; exact u1, u2⟩) hsz
    | row so k ds =>
      obtain ⟨k1, k2, k3⟩ := s7
      simp only [Src.len] at hnew hsz ⊢
      cases b with
      | some b' =>
        simp only [appCols] at hcols
        refine ⟨(blitCols_wid hcols).1.trans d1, blit_ok (S := (so.den X.E).toNat) hcols (by omega) (by omega) (by simp only [Src.len] at s1; omega) hc0 fun j p r d hj hd => ?_⟩
        have hp := (colAt_lt hd).2.2.1
        rw [k1] at hp
        rw [d1, hnew _ (elem_lt hj hp)]
        exact k3 j p r d hj hd
      | none =>
        simp only [appCols, Option.some.injEq] at hcols
        subst hcols
        have hn0 : (n.den X.E).toNat = 0 := by
          rcases d7.out with ⟨_, h0⟩ | ⟨b', hb', _⟩
          · omega
          · cases hb'
        rw [hn0] at hnew ⊢
        simp only [Nat.zero_mul, Nat.zero_add] at hnew ⊢
        refine ⟨shCols_wid.trans k1, sh_ok (S := (so.den X.E).toNat) (by omega) fun j p r d hj hd => ?_⟩
        have hp := (colAt_lt hd).2.2.1
        rw [k1] at hp
        rw [k1, hnew _ (elem_lt hj hp)]
        exact k3 j p r d hj hd
  have hnb : (n.den X.E).toNat + (src.len.den X.E).toNat = (n.den X.E + src.len.den X.E).toNat := by omega
  -- the block that gives way
  have kl : killO st.m b = st.m.set (b.getD st.m.length) .dead := by
    cases b with
    | none => simp only [killO, Option.getD_none]; rw [List.set_eq_of_length_le (Nat.le_refl _)]
    | some b' => rfl
  rcases hcase.out with ⟨q1, q2, q3⟩ | ⟨q1, g', cap', cur', q2, q3, q4, q5, q6, q7, q8⟩
  · subst q2; subst q3
    refine ⟨_, w', upd ρ st.m.length ⟨w'.heap.size, 0, 0⟩, .inl hexec, ?_, ?_, fun i hi => upd_ne _ _ (Nat.ne_of_lt hi), by rw [kl]; simp⟩
    · have hz0 : (mk2 .add n src.len).den X.E = 0 := by simp only [mk2_den, O2.den]; omega
      refine ⟨by rw [kl]; simp, by omega, ad, 0, by rw [hz0]; rfl, by omega, by simp [maxLen], fun _ => rfl, fun hk => by omega⟩
    · rw [kl]
      refine h.mr.move (fun i c hne hi hc => ⟨rfl, ?_⟩) h.mr.fr (.inl h.mr.fr.size) fun ρ' n' _ _ => ⟨by simp only [mk2_den, O2.den]; omega, fun hk => by simp only [mk2_den, O2.den] at hk; omega⟩
      exact Nat.ne_of_lt (h.mr.live_lt hi hc)
  · subst q2
    obtain ⟨hw, hcl⟩ := hcells cur' q7
    refine ⟨_, w', upd ρ st.m.length ⟨g', cur'.size, 0⟩, .inl hexec, ?_, ?_, fun i hi => upd_ne _ _ (Nat.ne_of_lt hi), by rw [kl]; simp⟩
    · have hz0 : (mk2 .add n src.len).den X.E = n.den X.E + src.len.den X.E := by simp only [mk2_den, O2.den]
      refine ⟨by rw [kl]; simp, by omega, _, cap', by rw [hz0, hnb], by rw [hz0, ← hnb]; exact q3, q4, fun hk => by omega, fun hk => ?_⟩
      simp only [upd_same]
      exact ⟨trivial, q6.symm, trivial⟩
    · rw [kl]
      have hbr : ∀ ρ' n', st.m.length ≤ n' → (∀ i, i < st.m.length → ρ' i = ρ i) → Br X.E ρ' n' ⟨g', cur'.size, 0⟩ (.arr (Nat.mul 2 e) (mk2 .add n src.len) cols') w'.heap[g']? := fun ρ' n' _ _ => ⟨by simp only [mk2_den, O2.den]; omega, fun hk => ⟨cur', _, _, q5, fun _ => ⟨(tyw e).symm, rfl, rfl⟩, rfl, by
          simp only [mk2_den, O2.den]
          rw [← hnb, hw, q6, Nat.zero_add]; exact Nat.mul_le_mul_right _ q3, by
          have e : (mk2 .add n src.len).den X.E = ((n.den X.E).toNat + (src.len.den X.E).toNat : Nat) := by simp only [mk2_den, O2.den]; omega
          rw [e, ext_all]; exact hcl⟩⟩
      rcases q8 with ⟨hge, hgr⟩ | ⟨hn0, had, hgr⟩
      · refine h.mr.move (fun i c hne hi hc => ?_) (Fr.grown h.mr hgr (fun g hg => by cases hg)) (.inl (Nat.le_trans h.mr.fr.size hge)) hbr
        have := h.mr.live_lt hi hc
        exact ⟨hgr.block _ this (by simp), by simp only; omega⟩
      · obtain ⟨b', cur, r1, r2, r3, r4, r5, r6⟩ := o2.out hn0
        have hg' : g' = (ρ b').g := by rw [r3] at had; cases had; rfl
        subst hg'
        have hth : (Bk.arr (Nat.mul 2 e) n cols).there X.E := show 0 < n.den X.E by omega
        subst r1
        refine h.mr.move (fun i c hne hi hc => ?_) (Fr.grown h.mr hgr (fun g hg => ⟨b', _, r2, ro_two e, hth, by cases hg; rfl⟩)) ?_ hbr
        · have hne' : (ρ i).g ≠ (ρ b').g := fun e => hne (h.mr.inj i b' _ _ hi r2 hc hth e)
          exact ⟨hgr.block _ (h.mr.live_lt hi hc) (by simp [hne']), hne'⟩
        · by_cases hin : b' < X.n0
          · exact .inr ⟨b', hin, by rw [h.mr.old b' hin]⟩
          · exact h.mr.new b' _ (by omega) r2 (ro_two e) hth
end ops
end Go.Sy
