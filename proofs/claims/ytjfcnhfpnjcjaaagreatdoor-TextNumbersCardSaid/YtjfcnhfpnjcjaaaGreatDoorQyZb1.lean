/- Part Zb1 of a checked reader of Go texts in their model form: it runs a function at terms in the place of numbers, and each part proves that its answers hold of the model. -/
import Derived.Test.YtjfcnhfpnjcjaaaGreatDoorQyZa12
import Derived.Laws.Externs
import Derived.Laws.IdiomStrings
import Derived.Lib.Bytealg
import Derived.Lib.UnsafeStr
import Derived.Lib.MakeNoZero
import Derived.Lib.Builder
namespace Go.E3
open Go.Sy
noncomputable section

/-! operations, made ready -/
inductive Cop where
  | pure (f : Pc → Tri L → Option L)
  | load (f : Pc → Tri L → Tri B → Option L)
  | new (f : Pc → Tri L → Option (B × Nk))
  | eff (f : Pc → Tri L → Tri B → Pt → Option (Option L × Tri B × Pt))
  | call (f : Operand) (args : List Operand)
  | pan (x : Operand)
  | bad
def EffMono (f : Pc → Tri L → Tri B → Pt → Option (Option L × Tri B × Pt)) : Prop := ∀ pc s m nx l m' nx', f pc s m nx = some (l, m', nx') → nx.num ≤ nx'.num
def CopOk (P : Program) (o : Oper) : Cop → Prop
  | .pure f => ∀ pc, PureOk P pc o (f pc)
  | .load f => ∀ pc, LoadOk P pc o (f pc)
  | .new f => ∀ pc, NewOk P pc o (f pc)
  | .eff f => (∀ pc, EffOk P pc o (f pc)) ∧ EffMono f
  | .call f args => ∃ c, o.op = .call c ∧ c.callee = .value f ∧ c.args.toList = args
  | .pan x => o.op = .panic x
  | .bad => True
theorem evStore_mono (sz : Nat) (x y : Operand) : EffMono fun pc => evStore pc sz x y := by
  intro pc s m nx l m' nx' h
  simp only [evStore, putsK_eq, Tri.putK_eq, cond_eq_ite] at h
  repeat' split at h
  all_goals first | (cases h; done) | (cases h; exact Nat.le_refl _)
theorem evApp_mono (e sz : Nat) (x y : Operand) : EffMono fun pc => evApp pc e sz x y := by
  intro pc s m nx l m' nx' h
  simp only [evApp, putsK_eq, Tri.putK_eq, Pt.sucK_eq, cond_eq_ite] at h
  repeat' split at h
  all_goals first | (cases h; done) | (cases h; exact Nat.le_refl _) | (cases h; rw [Pt.succ_num]; omega)

/-! which operation is which -/
/-- Loading, by a type. -/
def cLoad (P : Program) (t : TypeId) (x : Operand) : Cop := match isAggT P t, sizeT P t with
  | some a, some n => .load fun pc => evLoad pc a n x
  | _, _ => .bad
theorem cLoad_ok {P : Program} {o : Oper} {t : TypeId} {x : Operand} (ho : o.op = .load t x) : CopOk P o (cLoad P t x) := by
  unfold cLoad
  split
  · rename_i a n h1 h2; exact fun pc => evLoad_ok ho h1 h2
  · trivial
def cStore (P : Program) (t : TypeId) (x y : Operand) : Cop := match sizeT P t with
  | some n => .eff fun pc => evStore pc n x y
  | _ => .bad
theorem cStore_ok {P : Program} {o : Oper} {t : TypeId} {x y : Operand} (ho : o.op = .store t x y) : CopOk P o (cStore P t x y) := by
  unfold cStore
  split
  · rename_i n h1; exact ⟨fun pc => evStore_ok ho h1, evStore_mono _ _ _⟩
  · trivial
def cAlloc (P : Program) (e : TypeId) : Cop := match zeroOf P e with
  | some z => .new fun _ => evAlloc z e
  | _ => .bad
theorem cAlloc_ok {P : Program} {o : Oper} {e : TypeId} (ho : o.op = .alloc e) : CopOk P o (cAlloc P e) := by
  unfold cAlloc
  split
  · rename_i z h1; exact fun pc => evAlloc_ok ho h1
  · trivial
def cMakeS (P : Program) (t : TypeId) (l c : Operand) : Cop := match undF P t with
  | some (.slice e) => match sizeT P e, infoF P e, zeroOf P e with
    | some sz, some inf, some z => .new fun pc => orN (evMakeS pc e sz inf.bytes z l c) (evMakeZ pc e sz inf.bytes l c)
    | _, _, _ => .bad
  | _ => .bad
theorem cMakeS_ok {P : Program} {o : Oper} {t : TypeId} {l c : Operand} (ho : o.op = .makeSlice t l c) : CopOk P o (cMakeS P t l c) := by
  unfold cMakeS
  simp only [undF_eq, infoF_eq]
  split
  · rename_i e hu
    split
    · rename_i sz inf z h1 h2 h3; exact fun pc => (evMakeS_ok ho hu h1 h2 h3).or (evMakeZ_ok ho hu h1 h2)
    · trivial
  · trivial
def cBuildS (P : Program) (t : TypeId) (len : Nat) (ps : Array (Nat × Operand)) : Cop := match undF P t with
  | some (.slice e) => match sizeT P e, zeroOf P e with
    | some sz, some z => match len, ps.toList with
      | 0, [] => .new fun _ => evBuildZ e
      | _, _ => .new fun pc => evBuildS pc e sz z len ps.toList
    | _, _ => .bad
  | _ => .bad
theorem cBuildS_ok {P : Program} {o : Oper} {t : TypeId} {len : Nat} {ps : Array (Nat × Operand)} (ho : o.op = .buildSlice t len ps) : CopOk P o (cBuildS P t len ps) := by
  unfold cBuildS
  simp only [undF_eq]
  split
  · rename_i e hu
    split
    · rename_i sz z h1 h2
      split
      · rename_i hps
        have : ps = #[] := by apply Array.ext'; simpa using hps
        subst this
        exact fun pc => evBuildZ_ok ho hu h1
      · exact fun pc => evBuildS_ok ho hu h1 h2
    · trivial
  · trivial
def orP (f g : Tri L → Option L) (s : Tri L) : Option L := match f s with
  | some l => some l
  | none => g s
theorem PureOk.or {P : Program} {pc : Pc} {o : Oper} {f g : Tri L → Option L} (hf : PureOk P pc o f) (hg : PureOk P pc o g) : PureOk P pc o (orP f g) := by
  intro s l h
  unfold orP at h
  split at h
  · rename_i l' hl; cases h; exact hf s _ hl
  · exact hg s l h
def cBuild (P : Program) (t : TypeId) (ps : Array (Nat × Operand)) : Cop := match placesOf P t, zeroOf P t with
  | some pl, some z => bif Nat.ble 1 z.length then .pure fun pc => orP (evBuild pc pl z ps.toList) (evBuildT pc pl z ps.toList) else .pure fun pc => evBuild pc pl z ps.toList
  | _, _ => .bad
theorem cBuild_ok {P : Program} {o : Oper} {t : TypeId} {ps : Array (Nat × Operand)} (ho : o.op = .build t ps) : CopOk P o (cBuild P t ps) := by
  unfold cBuild
  split
  · rename_i pl z h1 h2
    cases h : Nat.ble 1 z.length <;> simp only [cond_true, cond_false]
    · exact fun pc => evBuild_ok ho h1 h2
    · rw [Nat.ble_eq] at h
      exact fun pc => (evBuild_ok ho h1 h2).or (evBuildT_ok ho h1 h2 h)
  · trivial
def cField (P : Program) (s : TypeId) (x : Operand) (f : Nat) : Cop := match undF P s with
  | some (.struct fs) => match fs[f]? with
    | some fd => match sizeT P fd.type with
      | some (_ + 1) => .pure fun pc => evField pc fd.offset x
      | _ => .bad
    | none => .bad
  | _ => .bad
theorem cField_ok {P : Program} {o : Oper} {s : TypeId} {x : Operand} {f : Nat} (ho : o.op = .fieldAddr s x f) : CopOk P o (cField P s x f) := by
  unfold cField
  simp only [undF_eq]
  split
  · rename_i fs hu
    split
    · rename_i fd hf
      split
      · rename_i n hn; exact fun pc => evField_ok ho hu hf hn
      · trivial
    · trivial
  · trivial
def cFieldV (P : Program) (t : TypeId) (x : Operand) (f : Nat) : Cop := match undF P t with
  | some (.struct fs) => match fs[f]? with
    | some fd => match isAggT P fd.type, sizeT P fd.type with
      | some a, some n => .pure fun pc => evFieldV pc a n fd.offset x
      | _, _ => .bad
    | none => .bad
  | _ => .bad
theorem cFieldV_ok {P : Program} {o : Oper} {t : TypeId} {x : Operand} {f : Nat} (ho : o.op = .field t x f) : CopOk P o (cFieldV P t x f) := by
  unfold cFieldV
  simp only [undF_eq]
  split
  · rename_i fs hu
    split
    · rename_i fd hf
      split
      · rename_i a n h1 h2; exact fun pc => evFieldV_ok ho hu hf h1 h2
      · trivial
    · trivial
  · trivial
def cIndexA (P : Program) (t : TypeId) (x i : Operand) : Cop := match undF P t with
  | some (.array n e) => match sizeT P e with
    | some sz => .pure fun pc => evIxA pc n sz x i
    | none => .bad
  | some (.slice e) => match sizeT P e with
    | some sz => .pure fun pc => evIxS pc sz x i
    | none => .bad
  | _ => .bad
theorem cIndexA_ok {P : Program} {o : Oper} {t : TypeId} {x i : Operand} (ho : o.op = .indexAddr t x i) : CopOk P o (cIndexA P t x i) := by
  unfold cIndexA
  simp only [undF_eq]
  split
  · rename_i n e hu
    split
    · rename_i sz h1; exact fun pc => evIxA_ok ho hu h1
    · trivial
  · rename_i e hu
    split
    · rename_i sz h1; exact fun pc => evIxS_ok ho hu h1
    · trivial
  · trivial
def cIndexV (P : Program) (t : TypeId) (x i : Operand) : Cop := match undF P t with
  | some (.array n e) => match isAggT P e, sizeT P e with
    | some a, some sz => .pure fun pc => evIndexV pc a n sz x i
    | _, _ => .bad
  | some .string => .pure fun pc => evIndexS pc x i
  | _ => .bad
theorem cIndexV_ok {P : Program} {o : Oper} {t : TypeId} {x i : Operand} (ho : o.op = .index t x i) : CopOk P o (cIndexV P t x i) := by
  unfold cIndexV
  simp only [undF_eq]
  split
  · rename_i n e hu
    split
    · rename_i a sz h1 h2; exact fun pc => evIndexV_ok ho hu h1 h2
    · trivial
  · rename_i hu; exact fun pc => evIndexS_ok ho hu
  · trivial
def cSlice (P : Program) (t : TypeId) (x : Operand) (lo hi mx : Option Operand) : Cop := match undF P t with
  | some (.slice e) => match sizeT P e with
    | some sz => .pure fun pc => evSliceS pc sz x lo hi mx
    | none => .bad
  | some (.array n e) => match sizeT P e with
    | some sz => .pure fun pc => evSliceA pc n sz x lo hi mx
    | none => .bad
  | some .string => match mx with
    | none => .pure fun pc => evSliceT pc x lo hi
    | _ => .bad
  | _ => .bad
theorem cSlice_ok {P : Program} {o : Oper} {t : TypeId} {x : Operand} {lo hi mx : Option Operand} (ho : o.op = .slice t x lo hi mx) : CopOk P o (cSlice P t x lo hi mx) := by
  unfold cSlice
  simp only [undF_eq]
  split
  · rename_i e hu
    split
    · rename_i sz h1; exact fun pc => evSliceS_ok ho hu h1
    · trivial
  · rename_i n e hu
    split
    · rename_i sz h1; exact fun pc => evSliceA_ok ho hu h1
    · trivial
  · rename_i hu
    split
    · exact fun pc => evSliceT_ok ho hu
    · trivial
  · trivial
def cConv (P : Program) (src dst : TypeId) (x : Operand) : Cop := match undF P src, undF P dst with
  | some _, some (.int k) => .pure fun pc => evConv pc k x
  | _, _ => .bad
theorem cConv_ok {P : Program} {o : Oper} {src dst : TypeId} {x : Operand} (ho : o.op = .convert src dst x) : CopOk P o (cConv P src dst x) := by
  unfold cConv
  simp only [undF_eq]
  split
  · rename_i d k h1 h2; exact fun pc => evConv_ok ho h1 h2
  · trivial
def cBi (P : Program) (b : Builtin) (args : List Operand) (ts : List TypeId) : Cop := match b, args, ts with
  | .len, [x], t :: _ => match undF P t with
    | some (.slice _) => .pure fun pc => evLenS pc x
    | some .string => .pure fun pc => evLenT pc x
    | some (.array n _) => .pure fun _ => evLenA n
    | some (.map _ _) => .load fun pc => evLenM pc x
    | _ => .bad
  | .cap, [x], t :: _ => match undF P t with
    | some (.slice _) => .pure fun pc => evCap pc x
    | _ => .bad
  | .min, [x, y], _ => .pure fun pc => evMM pc false x y
  | .max, [x, y], _ => .pure fun pc => evMM pc true x y
  | .append, [x, y], [t, t'] => bif Nat.beq t t' then match undF P t with
    | some (.slice e) => match infoF P e with
      | some inf => match inf.zero with
        | some zv => bif Nat.beq zv.cells.size inf.size && Nat.ble 1 inf.size && Nat.ble inf.bytes 65536 then .eff fun pc => evApp pc e inf.size x y else .bad
        | none => .bad
      | none => .bad
    | _ => .bad
    else .bad
  | .copy, [x, y], [t, _] => match undF P t with
    | some (.slice e) => match (infoF P e).map (·.size) with
      | some sz => .eff fun pc => evCopy sz x y pc
      | none => .bad
    | _ => .bad
  | .delete, [x, i], t :: _ => match undF P t with
    | some (.map kt _) => bif keyDom P kt then .eff fun pc => evDel P kt x i pc else .bad
    | _ => .bad
  | .clear, [x], [t] => match undF P t with
    | some (.slice e) => match zeroOf P e with
      | some [z] => .eff fun pc => evClr z x pc
      | _ => .bad
    | some (.map _ _) => .eff fun pc => evClrM x pc
    | _ => .bad
  | _, _, _ => .bad
theorem cBi_ok {P : Program} {o : Oper} {c : Call} {b : Builtin} (ho : o.op = .call c) (hc : c.callee = .builtin b) : CopOk P o (cBi P b c.args.toList c.argTypes.toList) := by
  have ht0 : ∀ {t l}, c.argTypes.toList = t :: l → c.argTypes[0]? = some t := fun h => by
    rw [← Array.getElem?_toList, h]; rfl
  generalize ha : c.args.toList = args
  generalize ht : c.argTypes.toList = ts
  unfold cBi
  simp only [undF_eq, infoF_eq]
  split
  · split
    · rename_i hu; exact fun pc => evLenS_ok ho hc ha (ht0 ht) hu
    · rename_i hu; exact fun pc => evLenT_ok ho hc ha (ht0 ht) hu
    · rename_i hu; exact fun pc => evLenA_ok ho hc ha (ht0 ht) hu
    · rename_i hu; exact fun pc => evLenM_ok ho hc ha (ht0 ht) hu
    · trivial
  · split
    · rename_i hu; exact fun pc => evCap_ok ho hc ha (ht0 ht) hu
    · trivial
  · exact fun pc => evMM_ok (mx := false) ho hc ha
  · exact fun pc => evMM_ok (mx := true) ho hc ha
  · rename_i x y t t'
    cases htt : Nat.beq t t' <;> simp only [cond_true, cond_false]
    · trivial
    · have := Nat.eq_of_beq_eq_true htt
      subst this
      split
      · rename_i e hu
        split
        · rename_i inf hinf
          split
          · rename_i zv hz
            cases hq : Nat.beq zv.cells.size inf.size && Nat.ble 1 inf.size && Nat.ble inf.bytes 65536 <;> simp only [cond_true, cond_false]
            · trivial
            · simp only [Bool.and_eq_true, Nat.ble_eq, Nat.beq_eq] at hq
              exact ⟨fun pc => evApp_ok ho hc ha ht hu hinf hz hq.1.1 hq.1.2 hq.2, evApp_mono _ _ _ _⟩
          · trivial
        · trivial
      · trivial
  · split
    · rename_i e hu
      split
      · rename_i hs; exact ⟨fun pc => evCopy_ok ho hc ha ht hu hs, evCopy_mono _ _ _⟩
      · trivial
    · trivial
  · split
    · rename_i kt et hu
      cases h : keyDom P kt <;> simp only [cond_true, cond_false]
      · trivial
      · exact ⟨fun pc => evDel_ok ho hc ha (ht0 ht) hu h, evDel_mono _ _ _ _⟩
    · trivial
  · split
    · rename_i hu
      split
      · rename_i hz; exact ⟨fun pc => evClr_ok ho hc ha ht hu hz, evClr_mono _ _⟩
      · trivial
    · rename_i hu; exact ⟨fun pc => evClrM_ok ho hc ha ht hu, evClrM_mono _⟩
    · trivial
  · trivial
end
end Go.E3
namespace Go.E3
open Go.Sy
noncomputable section
variable {P : Program} {pc : Pc} {o : Oper}

/-! bytes -/
def byteR (pc : Pc) (t : T) : Bool := match t with
  | .lit n => not (ltF n 0) && not (ltF 255 n)
  | t => (rngP pc t).within 0 255
theorem byteR_ok {E : Env} (hp : pcOk E pc) {t : T} (h : byteR pc t = true) : 0 ≤ t.den E ∧ t.den E ≤ 255 := by
  unfold byteR at h
  split at h
  · rename_i k
    simp only [Bool.and_eq_true, Bool.not_eq_true', ltF_eq, ltb_f] at h
    exact h
  · exact Iv.within_has h (rngP_has t hp)
def bytesC (pc : Pc) (xs : List C) : Option (List T) := List.rec (motive := fun _ => Option (List T)) (some []) (fun x _ ih => match x with
  | .int .u8 t => bif byteR pc t then (match ih with
    | some l => some (t :: l)
    | none => none) else none
  | _ => none) xs
theorem bytesC_ok {E : Env} (hp : pcOk E pc) (ρ : Pt → Rb) : ∀ {xs : List C} {ts : List T}, bytesC pc xs = some ts → (∀ t ∈ ts, 0 ≤ t.den E ∧ t.den E ≤ 255) ∧ xs.map (C.val E ρ) = ts.map (fun t => Value.int .u8 (t.den E)) := by
  intro xs
  induction xs with
  | nil => intro ts h; cases h; exact ⟨(fun _ h => nomatch h), rfl⟩
  | cons x xs ih =>
    intro ts h
    change (match (generalizing := false) x with
      | .int .u8 t => bif byteR pc t then (match bytesC pc xs with
        | some l => some (t :: l)
        | none => none) else none
      | _ => none) = some ts at h
    split at h
    · rename_i t
      cases hb : byteR pc t <;> simp only [hb, cond_true, cond_false] at h
      · cases h
      · split at h
        · rename_i l hl
          cases h
          obtain ⟨h1, h2⟩ := ih hl
          refine ⟨fun t' ht => ?_, by simp only [List.map_cons, h2]; rfl⟩
          rcases List.mem_cons.1 ht with rfl | ht
          · exact byteR_ok hp hb
          · exact h1 t' ht
        · cases h
    · cases h
/-- The bytes of terms. -/
def ubs (E : Env) (ts : List T) : List UInt8 := ts.map fun t => byteOf (t.den E)
theorem ubs_val {E : Env} {ts : List T} (h : ∀ t ∈ ts, 0 ≤ t.den E ∧ t.den E ≤ 255) : ts.map (fun t => Value.int .u8 (t.den E)) = (ubs E ts).map fun u => Value.int .u8 u.toNat := by
  unfold ubs
  rw [List.map_map]
  exact List.map_congr_left fun t ht => by simp only [Function.comp_apply, byteOf_val (h t ht)]

/-! functions that the model itself answers -/
/-- The place of a byte. -/
def ixB (pc : Pc) (c : T) (i : Nat) (l : List T) : Option Int := match l with
  | [] => some (.negSucc 0)
  | t :: r => match dec pc (mk2 .eq t c) with
    | some true => some (.ofNat i)
    | some false => ixB pc c (Nat.succ i) r
    | none => none
/-- How many bytes are alike. -/
def cntB (pc : Pc) (c : T) (n : Nat) (l : List T) : Option Nat := match l with
  | [] => some n
  | t :: r => match dec pc (mk2 .eq t c) with
    | some true => cntB pc c (Nat.succ n) r
    | some false => cntB pc c n r
    | none => none
theorem eq_byte {E : Env} {s t : T} (hs : 0 ≤ s.den E ∧ s.den E ≤ 255) (ht : 0 ≤ t.den E ∧ t.den E ≤ 255) : (byteOf (s.den E) == byteOf (t.den E)) = (mk2 .eq s t).tr E := by rw [tr_eq2, byteOf_inj hs ht]
theorem ixB_ok {E : Env} (hp : pcOk E pc) {c : T} (hc : 0 ≤ c.den E ∧ c.den E ≤ 255) : ∀ {l : List T} {i : Nat} {n : Int}, (∀ t ∈ l, 0 ≤ t.den E ∧ t.den E ≤ 255) → ixB pc c i l = some n → (n = -1 ∧ Lib.indexByte (ubs E l) (byteOf (c.den E)) = -1) ∨ (0 ≤ Lib.indexByte (ubs E l) (byteOf (c.den E)) ∧ n = i + Lib.indexByte (ubs E l) (byteOf (c.den E))) := by
  intro l
  induction l with
  | nil => intro i n _ h; cases h; exact .inl ⟨rfl, rfl⟩
  | cons t r ih =>
    intro i n hl h
    have ht := hl t List.mem_cons_self
    simp only [ixB] at h
    have hb := eq_byte ht hc
    unfold ubs
    simp only [List.map_cons, Lib.indexByte]
    split at h
    · rename_i hd
      rw [dec_ok hp hd] at hb
      cases h
      rw [if_pos hb]
      exact .inr ⟨Int.le_refl _, by simp⟩
    · rename_i hd
      rw [dec_ok hp hd] at hb
      rw [if_neg (by rw [hb]; exact Bool.false_ne_true)]
      change (n = -1 ∧ (if Lib.indexByte (ubs E r) _ == -1 then _ else Lib.indexByte (ubs E r) _ + 1) = -1) ∨ (0 ≤ (if Lib.indexByte (ubs E r) _ == -1 then _ else Lib.indexByte (ubs E r) _ + 1) ∧ n = i + (if Lib.indexByte (ubs E r) _ == -1 then _ else Lib.indexByte (ubs E r) _ + 1))
      rcases ih (fun t' ht' => hl t' (List.mem_cons_of_mem _ ht')) h with ⟨h1, h2⟩ | ⟨h1, h2⟩
      · rw [h2]; exact .inl ⟨h1, rfl⟩
      · right
        have hne : (Lib.indexByte (ubs E r) (byteOf (c.den E)) == -1) = false := by rw [beq_eq_false_iff_ne]; omega
        rw [hne]
        simp only [Bool.false_eq_true, if_false]
        refine ⟨by omega, ?_⟩
        rw [h2]; push_cast; omega
    · cases h
theorem cntB_ok {E : Env} (hp : pcOk E pc) {c : T} (hc : 0 ≤ c.den E ∧ c.den E ≤ 255) : ∀ {l : List T} {i n : Nat}, (∀ t ∈ l, 0 ≤ t.den E ∧ t.den E ≤ 255) → cntB pc c i l = some n → n = i + Lib.countByte (ubs E l) (byteOf (c.den E)) := by
  intro l
  induction l with
  | nil => intro i n _ h; cases h; rfl
  | cons t r ih =>
    intro i n hl h
    have ht := hl t List.mem_cons_self
    simp only [cntB] at h
    have hb := eq_byte ht hc
    have e : Lib.countByte (ubs E (t :: r)) (byteOf (c.den E)) = Lib.countByte (ubs E r) (byteOf (c.den E)) + (if (byteOf (t.den E) == byteOf (c.den E)) = true then 1 else 0) := by
      unfold Lib.countByte ubs
      rw [List.map_cons, List.count_cons]
    rw [e]
    split at h
    · rename_i hd
      rw [dec_ok hp hd] at hb
      rw [if_pos hb, ih (fun t' ht' => hl t' (List.mem_cons_of_mem _ ht')) h]; omega
    · rename_i hd
      rw [dec_ok hp hd] at hb
      rw [if_neg (by rw [hb]; exact Bool.false_ne_true), ih (fun t' ht' => hl t' (List.mem_cons_of_mem _ ht')) h]; omega
    · cases h
def evIxB (pc : Pc) (x y : Operand) (s : Tri L) : Option L := match opC pc s x, opC pc s y with
  | some (.str l), some (.int .u8 c) => bif byteR pc c then match ixB pc c 0 l with
    | some n => some (.a (.c (.int .i64 (.lit n))))
    | none => none
    else none
  | _, _ => none
def evCntB (pc : Pc) (x y : Operand) (s : Tri L) : Option L := match opC pc s x, opC pc s y with
  | some (.str l), some (.int .u8 c) => bif byteR pc c then match cntB pc c 0 l with
    | some n => some (.a (.c (.int .i64 (.lit (.ofNat n)))))
    | none => none
    else none
  | _, _ => none
def evNoZ (pc : Pc) (e : TypeId) (x : Operand) (s : Tri L) (m : Tri B) (nx : Pt) : Option (Option L × Tri B × Pt) := match opC pc s x with
  | some (.int .i64 (.lit (.ofNat n))) => bif Nat.ble n 65536 then m.putK nx (some (.cells e n false [] .e)) fun m => nx.sucK fun nx' => some (some (.a (.c (.slc nx 0 n (.r 1 0)))), m, nx') else none
  | _ => none
theorem evNoZ_mono (e : TypeId) (x : Operand) : EffMono fun pc => evNoZ pc e x := by
  intro pc s m nx l m' nx' h
  simp only [evNoZ, Tri.putK_eq, Pt.sucK_eq, cond_eq_ite] at h
  repeat' split at h
  all_goals first | (cases h; done) | (cases h; rw [Pt.succ_num]; omega)
/-! bytes held against each other -/
def cmpT (pc : Pc) : List T → List T → T
  | [], [] => .lit 0
  | [], _ :: _ => .lit (-1)
  | _ :: _, [] => .lit 1
  | s :: r, t :: r' => match dec pc (mk2 .eq s t) with
    | some true => cmpT pc r r'
    | some false => mkIte (mk2 .lt s t) (.lit (-1)) (.lit 1)
    | none => mkIte (mk2 .eq s t) (cmpT pc r r') (mkIte (mk2 .lt s t) (.lit (-1)) (.lit 1))
def cmpL : List Nat → List Nat → Int
  | [], [] => 0
  | [], _ :: _ => -1
  | _ :: _, [] => 1
  | s :: r, t :: r' => if s = t then cmpL r r' else if s < t then -1 else 1
theorem cmpL_at : ∀ {as bs : List Nat}, (∀ i x y : Nat, as[i]? = some x → bs[i]? = some y → (∀ j, j < i → as[j]? = bs[j]?) → x ≠ y → cmpL as bs = if x < y then -1 else 1) ∧
    ((∀ j, j < Nat.min as.length bs.length → as[j]? = bs[j]?) → cmpL as bs = if as.length < bs.length then -1 else if bs.length < as.length then 1 else 0) := by
  intro as
  induction as with
  | nil =>
    intro bs
    cases bs with
    | nil => exact ⟨fun i x y h => by simp at h, fun _ => by simp [cmpL]⟩
    | cons b bs => exact ⟨fun i x y h => by simp at h, fun _ => by simp [cmpL]⟩
  | cons a as ih =>
    intro bs
    cases bs with
    | nil => exact ⟨fun i x y _ h => by simp at h, fun _ => by simp [cmpL]⟩
    | cons b bs =>
      obtain ⟨h1, h2⟩ := @ih bs
      refine ⟨fun i x y hx hy hj hne => ?_, fun hj => ?_⟩
      · cases i with
        | zero =>
          simp at hx hy
          subst hx; subst hy
          simp [cmpL, hne]
        | succ i =>
          simp at hx hy
          have h0 := hj 0 (by omega)
          simp at h0
          simp only [cmpL, h0, if_true]
          exact h1 i x y hx hy (fun j hj' => by simpa using hj (j + 1) (by omega)) hne
      · have h0 := hj 0 (by simp)
        simp at h0
        simp only [cmpL, h0, if_true]
        rw [h2 fun j hj' => by simpa using hj (j + 1) (by simp at hj' ⊢; omega)]
        simp only [List.length_cons]
        split <;> split <;> (try split) <;> (try split) <;> first | rfl | omega
theorem cmp_list (A B : ByteArray) : Extern.BytealgCompare.cmp A B = cmpL (A.data.toList.map (·.toNat)) (B.data.toList.map (·.toNat)) := by
  have la : (A.data.toList.map (·.toNat)).length = A.size := by rw [List.length_map, Array.length_toList]; rfl
  have lb : (B.data.toList.map (·.toNat)).length = B.size := by rw [List.length_map, Array.length_toList]; rfl
  have ga : ∀ i, i < A.size → (A.data.toList.map (·.toNat))[i]? = some (A[i]!).toNat := fun i hi => by
    have hi' : i < A.data.size := hi
    rw [List.getElem?_map, Array.getElem?_toList, Array.getElem?_eq_getElem hi']
    have : A[i]! = A.data[i] := by
      rw [getElem!_pos A i hi]; rfl
    rw [this]; rfl
  have gb : ∀ i, i < B.size → (B.data.toList.map (·.toNat))[i]? = some (B[i]!).toNat := fun i hi => by
    have hi' : i < B.data.size := hi
    rw [List.getElem?_map, Array.getElem?_toList, Array.getElem?_eq_getElem hi']
    have : B[i]! = B.data[i] := by
      rw [getElem!_pos B i hi]; rfl
    rw [this]; rfl
  obtain ⟨h1, h2⟩ := cmpL_at (as := A.data.toList.map (·.toNat)) (bs := B.data.toList.map (·.toNat))
  unfold Extern.BytealgCompare.cmp
  split
  · rename_i i hi
    rw [List.find?_range_eq_some] at hi
    obtain ⟨g1, g2, g3⟩ := hi
    rw [List.mem_range] at g2
    have gA : i < A.size := Nat.lt_of_lt_of_le g2 (Nat.min_le_left _ _)
    have gB : i < B.size := Nat.lt_of_lt_of_le g2 (Nat.min_le_right _ _)
    have hne : A[i]! ≠ B[i]! := by simpa using g1
    rw [h1 i _ _ (ga i gA) (gb i gB) (fun j hj => ?_) fun e => hne (UInt8.toNat_inj.1 e)]
    · simp only [UInt8.lt_iff_toNat_lt]
    · rw [ga j (by omega), gb j (by omega)]
      have := g3 j hj
      simp at this
      rw [this]
  · rename_i hi
    rw [List.find?_range_eq_none] at hi
    have hall : ∀ j, j < Nat.min (A.data.toList.map (·.toNat)).length (B.data.toList.map (·.toNat)).length → (A.data.toList.map (·.toNat))[j]? = (B.data.toList.map (·.toNat))[j]? := fun j hj => by
      rw [la, lb] at hj
      have hA : j < A.size := Nat.lt_of_lt_of_le hj (Nat.min_le_left _ _)
      have hB : j < B.size := Nat.lt_of_lt_of_le hj (Nat.min_le_right _ _)
      rw [ga j hA, gb j hB]
      have := hi j (Nat.lt_min.2 ⟨hA, hB⟩)
      simp at this
      rw [this]
    rw [h2 hall, la, lb]
theorem run_loadBytes {P : Program} {w : World} : ∀ (news : List Value) (bs : List Nat) (ad : Addr) (acc : ByteArray), (∀ j u, news[j]? = some u → w.cell? (ad.add j) = some u) → news = bs.map (fun b => Value.int .u8 (b : Nat)) → (∀ b ∈ bs, b < 256) →
    ∃ B, (Extern.Bytes.loadBytes ad news.length acc).run P w = .ok B w ∧ B.data.toList.map (·.toNat) = acc.data.toList.map (·.toNat) ++ bs := by
  intro news
  induction news with
  | nil =>
    intro bs ad acc _ h2 _
    cases bs with
    | nil => exact ⟨acc, rfl, by simp⟩
    | cons b bs => cases h2
  | cons v news ih =>
    intro bs ad acc h1 h2 h3
    cases bs with
    | nil => cases h2
    | cons b bs =>
      simp only [List.map_cons, List.cons.injEq] at h2
      obtain ⟨rfl, h2⟩ := h2
      have hv : w.cell? ad = some (.int .u8 (b : Nat)) := by
        have := h1 0 _ rfl
        simpa [Addr.add] using this
      have hadd : ∀ j, (ad.add 1).add j = ad.add (j + 1) := fun j => by
        unfold Addr.add
        by_cases hj : j = 0
        · subst hj; simp
        · simp [hj]; omega
      obtain ⟨B, g1, g2⟩ := ih bs (ad.add 1) (acc.push ((b : Int).toNat.toUInt8)) (fun j u hj => by rw [hadd]; exact h1 (j + 1) u (by simpa using hj)) h2 (fun b hb => h3 b (List.mem_cons_of_mem _ hb))
      refine ⟨B, ?_, ?_⟩
      · simp only [List.length_cons, Extern.Bytes.loadBytes, Sem.run_bind, run_load, hv, Result.andThen_ok]
        exact g1
      · rw [g2]
        have hb : b < 256 := h3 b List.mem_cons_self
        have e : ((b : Int).toNat.toUInt8).toNat = b := by
          simp; omega
        simp [ByteArray.push]
        exact hb

theorem cmR1 : Extern.allNextRows.lookup "internal/bytealg.Compare" = none := by kernel_rfl
theorem cmR3 : Extern.allGenericRows.lookup "internal/bytealg.Compare" = none := by kernel_rfl
theorem cmR4 : Extern.allTypedRows.lookup "internal/bytealg.Compare" = none := by kernel_rfl
theorem cmR5 : Extern.allRows.lookup "internal/bytealg.Compare" = some Extern.BytealgCompare.compare := by kernel_rfl
theorem cmpT_ok {E : Env} (hp : pcOk E pc) : ∀ {ts us : List T}, (∀ t ∈ ts, 0 ≤ t.den E) → (∀ t ∈ us, 0 ≤ t.den E) → (cmpT pc ts us).den E = cmpL (ts.map fun t => (t.den E).toNat) (us.map fun t => (t.den E).toNat) := by
  intro ts
  induction ts with
  | nil => intro us _ _; cases us <;> rfl
  | cons t ts ih =>
    intro us h1' h2'
    cases us with
    | nil => rfl
    | cons u us =>
      have h1 := h1' t List.mem_cons_self
      have h2 := h2' u List.mem_cons_self
      have ih' := @ih us (fun t' ht => h1' t' (List.mem_cons_of_mem _ ht)) (fun t' ht => h2' t' (List.mem_cons_of_mem _ ht))
      have full : (mkIte (mk2 .eq t u) (cmpT pc ts us) (mkIte (mk2 .lt t u) (.lit (-1)) (.lit 1))).den E = cmpL ((t :: ts).map fun t => (t.den E).toNat) ((u :: us).map fun t => (t.den E).toNat) := by
        simp only [den_ite, tr_eq2, tr_lt2, List.map_cons, cmpL, ih', T.den, beq_iff_eq, decide_eq_true_eq]
        by_cases he : t.den E = u.den E
        · simp [he]
        · have : ¬ (t.den E).toNat = (u.den E).toNat := by omega
          simp only [he, this, if_false]
          by_cases hl : t.den E < u.den E
          · rw [if_pos hl, if_pos (by omega)]
          · rw [if_neg hl, if_neg (by omega)]
      simp only [cmpT]
      split
      · rename_i hd
        have := dec_ok hp hd
        rw [← full, den_ite, this]; rfl
      · rename_i hd
        have := dec_ok hp hd
        rw [← full, den_ite (c := mk2 .eq t u), this]; rfl
      · exact full
/-- The bytes of a slice, a string. -/
def srcB (pc : Pc) (m : Tri B) (c : C) : Option (List T) := match c with
  | .str l => some l
  | c => match srcC 1 m c with
    | some (_, xs) => bytesC pc xs
    | none => none
theorem srcB_ok {E : Env} {ρ : Pt → Rb} {D : Pt → Prop} {m : Tri B} {w : World} (hp : pcOk E pc) (hm : MR E ρ D m w) {c : C} (hc : c.ok E ρ D) {ts : List T} (h : srcB pc m c = some ts) :
    ∃ B : ByteArray, (Extern.Bytes.bytesOf (c.val E ρ)).run P w = .ok B w ∧ B.data.toList.map (·.toNat) = ts.map (fun t => (t.den E).toNat) ∧ ∀ t ∈ ts, 0 ≤ t.den E := by
  unfold srcB at h
  split at h
  · cases h
    obtain ⟨b, e1, e2⟩ := strOf_data E ts
    refine ⟨b, by rw [show (C.str ts).val E ρ = strOf E ts from rfl, e1]; rfl, ?_, fun t ht => (hc t ht).1⟩
    rw [e2, List.map_map]
    exact List.map_congr_left fun t ht => by
      have := byteOf_val (hc t ht)
      simp only [Function.comp_apply]
      omega
  · split at h
    · rename_i c k xs hsrc
      obtain ⟨s1, s2, ad, cap, s3, s4⟩ := srcC_ok hm hc hsrc
      obtain ⟨t1, t2⟩ := bytesC_ok hp ρ h
      rw [Nat.mul_one] at s2
      rw [s3]
      have hlen : ts.length = k := by rw [← s2]; have := congrArg List.length t2; simpa using this.symm
      refine Nat.eq_zero_or_pos k |>.elim (fun h0 => ?_) fun hpos => ?_
      · subst h0
        have : ts = [] := List.eq_nil_of_length_eq_zero hlen
        subst this
        refine ⟨.empty, ?_, rfl, fun _ h => nomatch h⟩
        cases ad <;> simp [Extern.Bytes.bytesOf, Extern.Bytes.loadBytes]
      · obtain ⟨d, rfl, hcell⟩ := s4 hpos
        have hv : xs.map (C.val E ρ) = (ts.map fun t => (t.den E).toNat).map (fun b => Value.int .u8 (b : Nat)) := by
          rw [t2, List.map_map]
          exact List.map_congr_left fun t ht => by simp only [Function.comp_apply]; rw [Int.toNat_of_nonneg (t1 t ht).1]
        obtain ⟨B, g1, g2⟩ := run_loadBytes (P := P) (w := w) (xs.map (C.val E ρ)) _ d .empty hcell hv (fun b hb => by
          obtain ⟨t, ht, rfl⟩ := List.mem_map.1 hb
          have := (t1 t ht).2
          have := (t1 t ht).1
          omega)
        rw [List.length_map, s2] at g1
        exact ⟨B, g1, by rw [g2]; rfl, fun t ht => (t1 t ht).1⟩
    · cases h
def evCmpE (pc : Pc) (x y : Operand) (s : Tri L) (m : Tri B) : Option L := match opC pc s x, opC pc s y with
  | some cx, some cy => match srcB pc m cx, srcB pc m cy with
    | some ts, some us => some (.a (.c (.int .i64 (cmpT pc ts us))))
    | _, _ => none
  | _, _ => none
/-- Which. -/
def extOf (P : Program) (g : Nat) : Option Func := match funF P g with
  | some fn => bif fn.body.isNone && (fn.origin == "") && !(fn.name == "runtime.NumGoroutine") then some fn else none
  | none => none
def cExt (P : Program) (g : Nat) (args : List Operand) : Option Cop := match extOf P g with
  | some fn => bif fn.name == "internal/bytealg.IndexByteString" then (match args with
      | [x, y] => some (.pure fun pc => evIxB pc x y)
      | _ => none)
    else bif fn.name == "internal/bytealg.CountString" then (match args with
      | [x, y] => some (.pure fun pc => evCntB pc x y)
      | _ => none)
    else bif fn.name == "internal/abi.NoEscape" then (match args with
      | [x] => some (.pure fun _ s => raw s x)
      | _ => none)
    else bif fn.name == "internal/bytealg.MakeNoZero" then (match args, fn.resultTypes.toList with
      | [x], [t] => match undF P t with
        | some (.slice e) => some (.eff fun pc => evNoZ pc e x)
        | _ => none
      | _, _ => none)
    else bif fn.name == "internal/bytealg.Compare" then (match args with
      | [x, y] => some (.load fun pc => evCmpE pc x y)
      | _ => none)
    else none
  | none => none
section rows
theorem ixR1 : Extern.allNextRows.lookup "internal/bytealg.IndexByteString" = none := by kernel_rfl
theorem ixR3 : Extern.allGenericRows.lookup "internal/bytealg.IndexByteString" = none := by kernel_rfl
theorem ixR4 : Extern.allTypedRows.lookup "internal/bytealg.IndexByteString" = none := by kernel_rfl
theorem ixR5 : Extern.allRows.lookup "internal/bytealg.IndexByteString" = some Extern.BytealgIndexByte.indexByte := by kernel_rfl
theorem cnR1 : Extern.allNextRows.lookup "internal/bytealg.CountString" = none := by kernel_rfl
theorem cnR3 : Extern.allGenericRows.lookup "internal/bytealg.CountString" = none := by kernel_rfl
theorem cnR4 : Extern.allTypedRows.lookup "internal/bytealg.CountString" = none := by kernel_rfl
theorem cnR5 : Extern.allRows.lookup "internal/bytealg.CountString" = some Extern.BytealgCount.count := by kernel_rfl
theorem neR1 : Extern.allNextRows.lookup "internal/abi.NoEscape" = none := by kernel_rfl
theorem neR3 : Extern.allGenericRows.lookup "internal/abi.NoEscape" = none := by kernel_rfl
theorem neR4 : Extern.allTypedRows.lookup "internal/abi.NoEscape" = none := by kernel_rfl
theorem neR5 : Extern.allRows.lookup "internal/abi.NoEscape" = some Extern.AbiNoEscape.same := by kernel_rfl
theorem mzR1 : Extern.allNextRows.lookup "internal/bytealg.MakeNoZero" = none := by kernel_rfl
theorem mzR3 : Extern.allGenericRows.lookup "internal/bytealg.MakeNoZero" = none := by kernel_rfl
theorem mzR4 : Extern.allTypedRows.lookup "internal/bytealg.MakeNoZero" = some Extern.BytealgMakeNoZero.makeNoZero := by kernel_rfl
theorem noR2 : Extern.allNextRows.lookup "" = none := by kernel_rfl
end rows
/-- A call that the model answers. -/
theorem exec_ext {c : Call} (ho : o.op = .call c) {g : Nat} (hc : c.callee = .value (.func g)) {fn : Func} (hf : extOf P g = some fn) {e : Array Value → Sem Value} (hn : fn.origin = "" → Extern.findNext fn = none) (he : fn.origin = "" → Extern.find fn = some e) (ev : Operand → Value) (hfun : ev (.func g) = .func (.func g) #[] #[]) {w w' : World} {v : Value}
    (hr : (e (c.args.map ev)).run P w = .ok v w') : (execOp ev o).run P w = .ok (.value v) w' := by
  unfold extOf at hf
  rw [funF_eq] at hf
  split at hf
  · rename_i fn' hfn
    cases hq : fn'.body.isNone && (fn'.origin == "") && !(fn'.name == "runtime.NumGoroutine") <;> simp only [hq, cond_true, cond_false] at hf
    · cases hf
    · cases hf
      simp only [Bool.and_eq_true, beq_iff_eq, Bool.not_eq_true'] at hq
      obtain ⟨⟨h1, h2⟩, h3⟩ := hq
      have hcf := run_callFunc_extern hfn h3 h1 (hn h2) (he h2) (c.args.map ev) w
      rw [hr] at hcf
      simp only [Result.andThen_ok] at hcf
      simp only [execOp, ho, resolve, hc, hfun, Deferred.ofValue, invoke, Sem.run_bind, Sem.run_pure, Result.andThen_ok]
      simpa using hcf
  · cases hf
theorem ev_func {E : Env} {ρ : Pt → Rb} {D : Pt → Prop} {s : Tri L} {ev : Operand → Value} {c : Call} (ho : o.op = .call c) {g : Nat} (hc : c.callee = .value (.func g)) (hops : OpsR E ρ D s ev o.op.operands.toList) : ev (.func g) = .func (.func g) #[] #[] :=
  (hops (.func g) (by simp [ho, Op.operands, Call.operands, hc]) (.a (.c (.fn g []))) rfl).2
theorem mem_args {c : Call} (ho : o.op = .call c) {x : Operand} (hx : x ∈ c.args.toList) : x ∈ o.op.operands.toList := by
  simp only [ho, Op.operands, Call.operands]
  cases c.callee <;> simp <;> first | exact .inr (by simpa using hx) | simpa using hx
theorem cExt_ok {c : Call} (ho : o.op = .call c) {g : Nat} (hc : c.callee = .value (.func g)) {x : Cop} (h : cExt P g c.args.toList = some x) : CopOk P o x := by
  unfold cExt at h
  split at h
  case h_2 => cases h
  rename_i fn hf
  cases h1 : fn.name == "internal/bytealg.IndexByteString" <;> simp only [h1, cond_true, cond_false] at h
  case true =>
    rw [beq_iff_eq] at h1
    split at h
    case h_2 => cases h
    rename_i x y hargs
    cases h
    intro pc s l hl E ρ D ev hp hops
    change evIxB pc x y s = some l at hl
    unfold evIxB at hl
    split at hl
    case h_2 => cases hl
    rename_i l0 c0 hx hy
    cases hb : byteR pc c0 <;> simp only [hb, cond_true, cond_false] at hl
    · cases hl
    split at hl
    case h_2 => cases hl
    rename_i n hn
    cases hl
    obtain ⟨x1, x2⟩ := opC_ok hp hops (mem_args ho (by rw [hargs]; simp)) hx
    obtain ⟨y1, y2⟩ := opC_ok hp hops (mem_args ho (by rw [hargs]; simp)) hy
    have hc0 := byteR_ok (E := E) hp hb
    have hi := ixB_ok hp hc0 x1 hn
    refine ⟨fun w => ?_, trivial⟩
    refine exec_ext ho hc hf (e := Extern.BytealgIndexByte.indexByte) (fun h2 => by unfold Extern.findNext; simp only [h1, h2, ixR1, noR2]; rfl) (fun h2 => by unfold Extern.find; simp only [h1, ixR3, ixR4, ixR5]; rfl) ev (ev_func ho hc hops) ?_
    rw [args2 hargs]
    simp only [List.map_toArray, List.map_cons, List.map_nil, x2, y2]
    obtain ⟨b, e1, e2⟩ := strOf_data E l0
    show (Extern.BytealgIndexByte.indexByte #[strOf E l0, .int .u8 (c0.den E)]).run P w = _
    rw [e1, Lib.run_indexByteString, e2]
    show _ = Result.ok (Value.int .i64 n) w
    have e3 : (c0.den E).toNat.toUInt8 = byteOf (c0.den E) := rfl
    rw [e3]
    change (_ ∧ Lib.indexByte (l0.map fun t => byteOf (t.den E)) _ = _) ∨ (_ ∧ n = _ + Lib.indexByte (l0.map fun t => byteOf (t.den E)) _) at hi
    rcases hi with ⟨q1, q2⟩ | ⟨q1, q2⟩
    · rw [q2, q1]
    · rw [q2]; simp
  cases h2 : fn.name == "internal/bytealg.CountString" <;> simp only [h2, cond_true, cond_false] at h
  case true =>
    rw [beq_iff_eq] at h2
    split at h
    case h_2 => cases h
    rename_i x y hargs
    cases h
    intro pc s l hl E ρ D ev hp hops
    change evCntB pc x y s = some l at hl
    unfold evCntB at hl
    split at hl
    case h_2 => cases hl
    rename_i l0 c0 hx hy
    cases hb : byteR pc c0 <;> simp only [hb, cond_true, cond_false] at hl
    · cases hl
    split at hl
    case h_2 => cases hl
    rename_i n hn
    cases hl
    obtain ⟨x1, x2⟩ := opC_ok hp hops (mem_args ho (by rw [hargs]; simp)) hx
    obtain ⟨y1, y2⟩ := opC_ok hp hops (mem_args ho (by rw [hargs]; simp)) hy
    have hc0 := byteR_ok (E := E) hp hb
    have hi := cntB_ok hp hc0 x1 hn
    refine ⟨fun w => ?_, trivial⟩
    refine exec_ext ho hc hf (e := Extern.BytealgCount.count) (fun h3 => by unfold Extern.findNext; simp only [h2, h3, cnR1, noR2]; rfl) (fun h3 => by unfold Extern.find; simp only [h2, cnR3, cnR4, cnR5]; rfl) ev (ev_func ho hc hops) ?_
    rw [args2 hargs]
    simp only [List.map_toArray, List.map_cons, List.map_nil, x2, y2]
    obtain ⟨b, e1, e2⟩ := strOf_data E l0
    show (Extern.BytealgCount.count #[strOf E l0, .int .u8 (c0.den E)]).run P w = _
    rw [e1, Lib.run_countString, e2]
    show _ = Result.ok (Value.int .i64 (Int.ofNat n)) w
    have e3 : (c0.den E).toNat.toUInt8 = byteOf (c0.den E) := rfl
    rw [e3, hi, Nat.zero_add]
    rfl
  cases h3 : fn.name == "internal/abi.NoEscape" <;> simp only [h3, cond_true, cond_false] at h
  case true =>
    rw [beq_iff_eq] at h3
    split at h
    case h_2 => cases h
    rename_i x hargs
    cases h
    intro pc s l hl E ρ D ev hp hops
    obtain ⟨x1, x2⟩ := hops x (mem_args ho (by rw [hargs]; simp)) l hl
    refine ⟨fun w => ?_, x1⟩
    refine exec_ext ho hc hf (e := Extern.AbiNoEscape.same) (fun h4 => by unfold Extern.findNext; simp only [h3, h4, neR1, noR2]; rfl) (fun h4 => by unfold Extern.find; simp only [h3, neR3, neR4, neR5]; rfl) ev (ev_func ho hc hops) ?_
    rw [args1 hargs]
    simp only [List.map_toArray, List.map_cons, List.map_nil, x2]
    rfl
  cases h4 : fn.name == "internal/bytealg.MakeNoZero" <;> simp only [h4, cond_true, cond_false] at h
  case false =>
    cases h5 : fn.name == "internal/bytealg.Compare" <;> simp only [h5, cond_true, cond_false] at h
    case false => cases h
    rw [beq_iff_eq] at h5
    split at h
    case h_2 => cases h
    rename_i x y hargs
    cases h
    intro pc s m l hl E ρ D ev w hp hops hm
    change evCmpE pc x y s m = some l at hl
    unfold evCmpE at hl
    split at hl
    case h_2 => cases hl
    rename_i cx cy hx hy
    split at hl
    case h_2 => cases hl
    rename_i ts us hts hus
    cases hl
    obtain ⟨x1, x2⟩ := opC_ok hp hops (mem_args ho (by rw [hargs]; simp)) hx
    obtain ⟨y1, y2⟩ := opC_ok hp hops (mem_args ho (by rw [hargs]; simp)) hy
    obtain ⟨A', a1, a2, a3⟩ := srcB_ok (P := P) hp hm x1 hts
    obtain ⟨B', b1, b2, b3⟩ := srcB_ok (P := P) hp hm y1 hus
    refine ⟨?_, trivial⟩
    refine exec_ext ho hc hf (e := Extern.BytealgCompare.compare) (fun h6 => by unfold Extern.findNext; simp only [h5, h6, cmR1, noR2]; rfl) (fun h6 => by unfold Extern.find; simp only [h5, cmR3, cmR4, cmR5]; rfl) ev (ev_func ho hc hops) ?_
    rw [args2 hargs]
    simp only [List.map_toArray, List.map_cons, List.map_nil, x2, y2]
    show Sem.run P (do pure (goInt (Extern.BytealgCompare.cmp (← Extern.Bytes.bytesOf (cx.val E ρ)) (← Extern.Bytes.bytesOf (cy.val E ρ))))) w = _
    simp only [Sem.run_bind, a1, b1, Result.andThen_ok, Sem.run_pure, cmp_list, a2, b2]
    show Result.ok (Value.int .i64 _) w = Result.ok (Value.int .i64 ((cmpT pc ts us).den E)) w
    rw [cmpT_ok hp a3 b3]
  rw [beq_iff_eq] at h4
  split at h
  case h_2 => cases h
  rename_i x t hargs hres
  rw [undF_eq] at h
  split at h
  case h_2 => cases h
  rename_i e hu
  cases h
  refine ⟨fun pc => ?_, evNoZ_mono _ _⟩
  intro s m nx l m' nx' hl E ρ D ev w hp hops hm hfr
  change evNoZ pc e x s m nx = some (l, m', nx') at hl
  unfold evNoZ at hl
  split at hl
  case h_2 => cases hl
  rename_i n hx
  cases hb : Nat.ble n 65536 <;> simp only [hb, cond_true, cond_false] at hl
  · cases hl
  rw [Nat.ble_eq] at hb
  rw [Tri.putK_eq, Pt.sucK_eq] at hl
  cases hl
  obtain ⟨x1, x2⟩ := opC_ok hp hops (mem_args ho (by rw [hargs]; simp)) hx
  have hnx : ¬ D nx := hfr nx ((rg_succ _ _).2 rfl)
  have hr2 : fn.resultTypes = #[t] := by apply Array.ext'; simpa using hres
  obtain ⟨cs, hrun, hle, hmax⟩ := Lib.run_makeNoZero (P := P) w fn.params t e hu n (by omega)
  have hml := hmax (by simp only [maxLen]; omega)
  refine ⟨_, _, upd ρ nx ⟨w.heap.size, cs.size⟩, exec_ext ho hc hf (e := Extern.BytealgMakeNoZero.makeNoZero fn.params #[t]) (fun h5 => by unfold Extern.findNext; simp only [h4, h5, mzR1, noR2]; rfl) (fun h5 => by unfold Extern.find; simp only [h4, mzR3, mzR4, hr2]; rfl) ev (ev_func ho hc hops) (by
    rw [args1 hargs]
    simp only [List.map_toArray, List.map_cons, List.map_nil, x2]
    exact hrun), ?_, ?_, ?_⟩
  · exact (hm.drew.drew.alloc (z := cs.size) (x := .cells e n false [] .e) (ob := .cells cs e) hnx ⟨cs, rfl, rfl, hle, fun h => by simp at h, fun i y hy => by
      rw [cellAt_e] at hy
      split at hy <;> cases hy⟩).undraw.undraw
  · simp only [L.val, A.val, C.val, upd_same, Cp.val, Nat.div_one, Nat.sub_zero]
  · refine ⟨.inr ((rg_succ _ _).2 rfl), ?_, ?_⟩
    · simp only [Cp.val, upd_same, Nat.div_one, Nat.sub_zero]; exact hle
    · simp only [Cp.fit, upd_same, Nat.div_one, Nat.mul_one]; exact ⟨trivial, hml⟩
end
end Go.E3
