/- Part 8k of a checked reader of Go texts in their model form: it runs a function at terms in the place of numbers, and each part proves that its answers hold of the model. -/
import Derived.Test.YtpjmhngcdbpmpaaLy8i
import Derived.KernelRfl
import Derived.Laws.Externs
import Derived.Laws.BytesString
import Derived.Laws.Strings
namespace Go.Sy
section ops
variable {P : Program} {X : Cx} {ρ : Nat → Rb} {st : St} {a : Act} {w : World} {o : Oper}
def byteC (pc : Pc) : C → Option T
  | .int .u8 t => match dec pc (mk2 .le (.lit 0) t), dec pc (mk2 .le t (.lit 255)) with
    | some true, some true => some t
    | _, _ => none
  | _ => none
def bytesC (pc : Pc) : List C → Option (List T)
  | [] => some []
  | x :: r => match byteC pc x, bytesC pc r with
    | some t, some l => some (t :: l)
    | _, _ => none
def cmpT (pc : Pc) : List T → List T → T
  | [], [] => .lit 0
  | [], _ :: _ => .lit (-1)
  | _ :: _, [] => .lit 1
  | s :: r, t :: r' => match dec pc (mk2 .eq s t) with
    | some true => cmpT pc r r'
    | some false => mkIte (mk2 .lt s t) (.lit (-1)) (.lit 1)
    | none => mkIte (mk2 .eq s t) (cmpT pc r r') (mkIte (mk2 .lt s t) (.lit (-1)) (.lit 1))
section
theorem rowsC1 [Fs] : Extern.allNextRows.lookup "internal/bytealg.Compare" = none := by kernel_rfl
theorem rowsC2 [Fs] : Extern.allNextRows.lookup "" = none := by kernel_rfl
theorem rowsC3 [Fs] : Extern.allGenericRows.lookup "internal/bytealg.Compare" = none := by kernel_rfl
theorem rowsC4 [Fs] : Extern.allTypedRows.lookup "internal/bytealg.Compare" = none := by kernel_rfl
theorem rowsC5 [Fs] : Extern.allRows.lookup "internal/bytealg.Compare" = some Extern.BytealgCompare.compare := by kernel_rfl
theorem find_cmp [Fs] {fn : Func} (h : fn.name = "internal/bytealg.Compare") : Extern.find fn = some Extern.BytealgCompare.compare := by
  unfold Extern.find
  simp only [h, rowsC3, rowsC4, rowsC5]; rfl
theorem next_cmp [Fs] {fn : Func} (h : fn.name = "internal/bytealg.Compare") (h2 : fn.origin = "") : Extern.findNext fn = none := by
  unfold Extern.findNext
  simp only [h, h2, rowsC1, rowsC2]; rfl
end
def cmpL : List Nat → List Nat → Int
  | [], [] => 0
  | [], _ :: _ => -1
  | _ :: _, [] => 1
  | s :: r, t :: r' => if s = t then cmpL r r' else if s < t then -1 else 1
theorem cmpL_at [Fs] : ∀ {as bs : List Nat}, (∀ i x y : Nat, as[i]? = some x → bs[i]? = some y → (∀ j, j < i → as[j]? = bs[j]?) → x ≠ y → cmpL as bs = if x < y then -1 else 1) ∧
    ((∀ j, j < Nat.min as.length bs.length → as[j]? = bs[j]?) → cmpL as bs = if as.length < bs.length then -1 else if bs.length < as.length then 1 else 0) := by
  intro as
  induction as with
  | nil =>
    intro bs
    cases bs with
    | nil => exact ⟨fun i x y h => by simp at h, fun _ => by simp [cmpL]⟩
    | cons b bs => exact ⟨fun i x y h => by simp at h, fun _ => by simp [cmpL]⟩
  | cons a as ih =>
    intro bs
    cases bs with
    | nil => exact ⟨fun i x y _ h => by simp at h, fun _ => by simp [cmpL]⟩
    | cons b bs =>
      obtain ⟨h1, h2⟩ := @ih bs
      refine ⟨fun i x y hx hy hj hne => ?_, fun hj => ?_⟩
      · cases i with
        | zero =>
          simp at hx hy
          subst hx; subst hy
          simp [cmpL, hne]
        | succ i =>
          simp at hx hy
          have h0 := hj 0 (by omega)
          simp at h0
          simp only [cmpL, h0, if_true]
          exact h1 i x y hx hy (fun j hj' => by simpa using hj (j + 1) (by omega)) hne
      · have h0 := hj 0 (by simp)
        simp at h0
        simp only [cmpL, h0, if_true]
        rw [h2 fun j hj' => by simpa using hj (j + 1) (by simp at hj' ⊢; omega)]
        simp only [List.length_cons]
        split <;> split <;> (try split) <;> (try split) <;> first | rfl | omega
theorem cmp_list [Fs] (A B : ByteArray) : Extern.BytealgCompare.cmp A B = cmpL (A.data.toList.map (·.toNat)) (B.data.toList.map (·.toNat)) := by
  have la : (A.data.toList.map (·.toNat)).length = A.size := by rw [List.length_map, Array.length_toList]; rfl
  have lb : (B.data.toList.map (·.toNat)).length = B.size := by rw [List.length_map, Array.length_toList]; rfl
  have ga : ∀ i, i < A.size → (A.data.toList.map (·.toNat))[i]? = some (A[i]!).toNat := fun i hi => by
    have hi' : i < A.data.size := hi
    rw [List.getElem?_map, Array.getElem?_toList, Array.getElem?_eq_getElem hi']
    have : A[i]! = A.data[i] := by
      rw [getElem!_pos A i hi]; rfl
    rw [this]; rfl
  have gb : ∀ i, i < B.size → (B.data.toList.map (·.toNat))[i]? = some (B[i]!).toNat := fun i hi => by
    have hi' : i < B.data.size := hi
    rw [List.getElem?_map, Array.getElem?_toList, Array.getElem?_eq_getElem hi']
    have : B[i]! = B.data[i] := by
      rw [getElem!_pos B i hi]; rfl
    rw [this]; rfl
  obtain ⟨h1, h2⟩ := cmpL_at (as := A.data.toList.map (·.toNat)) (bs := B.data.toList.map (·.toNat))
  unfold Extern.BytealgCompare.cmp
  split
  · rename_i i hi
    rw [List.find?_range_eq_some] at hi
    obtain ⟨g1, g2, g3⟩ := hi
    rw [List.mem_range] at g2
    have gA : i < A.size := Nat.lt_of_lt_of_le g2 (Nat.min_le_left _ _)
    have gB : i < B.size := Nat.lt_of_lt_of_le g2 (Nat.min_le_right _ _)
    have hne : A[i]! ≠ B[i]! := by simpa using g1
    rw [h1 i _ _ (ga i gA) (gb i gB) (fun j hj => ?_) fun e => hne (UInt8.toNat_inj.1 e)]
    · simp only [UInt8.lt_iff_toNat_lt]
    · rw [ga j (by omega), gb j (by omega)]
      have := g3 j hj
      simp at this
      rw [this]
  · rename_i hi
    rw [List.find?_range_eq_none] at hi
    have hall : ∀ j, j < Nat.min (A.data.toList.map (·.toNat)).length (B.data.toList.map (·.toNat)).length → (A.data.toList.map (·.toNat))[j]? = (B.data.toList.map (·.toNat))[j]? := fun j hj => by
      rw [la, lb] at hj
      have hA : j < A.size := Nat.lt_of_lt_of_le hj (Nat.min_le_left _ _)
      have hB : j < B.size := Nat.lt_of_lt_of_le hj (Nat.min_le_right _ _)
      rw [ga j hA, gb j hB]
      have := hi j (Nat.lt_min.2 ⟨hA, hB⟩)
      simp at this
      rw [this]
    rw [h2 hall, la, lb]
theorem run_loadBytes [Fs] {P : Program} {w : World} : ∀ (news : List Value) (bs : List Nat) (ad : Addr) (acc : ByteArray), (∀ j u, news[j]? = some u → w.cell? (ad.add j) = some u) → news = bs.map (fun b => Value.int .u8 (b : Nat)) → (∀ b ∈ bs, b < 256) →
    ∃ B, (Extern.Bytes.loadBytes ad news.length acc).run P w = .ok B w ∧ B.data.toList.map (·.toNat) = acc.data.toList.map (·.toNat) ++ bs := by
  intro news
  induction news with
  | nil =>
    intro bs ad acc _ h2 _
    cases bs with
    | nil => exact ⟨acc, rfl, by simp⟩
    | cons b bs => cases h2
  | cons v news ih =>
    intro bs ad acc h1 h2 h3
    cases bs with
    | nil => cases h2
    | cons b bs =>
      simp only [List.map_cons, List.cons.injEq] at h2
      obtain ⟨rfl, h2⟩ := h2
      have hv : w.cell? ad = some (.int .u8 (b : Nat)) := by
        have := h1 0 _ rfl
        simpa [Addr.add] using this
      have hadd : ∀ j, (ad.add 1).add j = ad.add (j + 1) := fun j => by
        unfold Addr.add
        by_cases hj : j = 0
        · subst hj; simp
        · simp [hj]; omega
      obtain ⟨B, g1, g2⟩ := ih bs (ad.add 1) (acc.push ((b : Int).toNat.toUInt8)) (fun j u hj => by rw [hadd]; exact h1 (j + 1) u (by simpa using hj)) h2 (fun b hb => h3 b (List.mem_cons_of_mem _ hb))
      refine ⟨B, ?_, ?_⟩
      · simp only [List.length_cons, Extern.Bytes.loadBytes, Sem.run_bind, run_load, hv, Result.andThen_ok]
        exact g1
      · rw [g2]
        have hb : b < 256 := h3 b List.mem_cons_self
        have e : ((b : Int).toNat.toUInt8).toNat = b := by
          simp; omega
        simp [ByteArray.push]
        exact hb
/-- 'bytealg.Compare'. -/
def evCmp (P : Program) (st : St) (c : Call) : Option OpR :=
  match c.callee, c.args.toList with
  | .value f, [x, y] => match opC st f with
    | some (.fn g) => match P.funcs[g]? with
      | some fn => bif (fn.name == "internal/bytealg.Compare") && (fn.origin == "") && fn.body.isNone then match opN st x, opN st y with
        | some cx, some cy => match cellsSrc st 1 cx, cellsSrc st 1 cy with
          | some (_, xs), some (_, ys) => match bytesC st.pc xs, bytesC st.pc ys with
            | some ts, some us => some ⟨.a (.c (.int .i64 (cmpT st.pc ts us))), st.m, []⟩
            | _, _ => none
          | _, _ => none
        | _, _ => none
        else none
      | none => none
    | _ => none
  | _, _ => none
theorem evCmp_ok [Fs] (h : Rel X ρ st a w) {c : Call} (ho : o.op = .call c) {r : OpR} (hr : evCmp P st c = some r) : OpOk P X ρ st a w o r := by
  unfold evCmp at hr
  split at hr
  case h_2 => cases hr
  rename_i f x y hcal hargs
  split at hr
  case h_2 => cases hr
  rename_i g hg
  split at hr
  case h_2 => cases hr
  rename_i fn hfn
  cases hq : (fn.name == "internal/bytealg.Compare") && (fn.origin == "") && fn.body.isNone <;> simp only [hq, cond_true, cond_false] at hr
  · cases hr
  simp only [Bool.and_eq_true, beq_iff_eq] at hq
  obtain ⟨⟨hname, horig⟩, hbody⟩ := hq
  split at hr
  case h_2 => cases hr
  rename_i cx cy hx hy
  split at hr
  case h_2 => cases hr
  rename_i kx xs ky ys hsx hsy
  split at hr
  case h_2 => cases hr
  rename_i ts us hts hus
  cases hr
  have hfv := opC_ok h.toSRel hg
  simp only [Cr] at hfv
  -- bytes of cells
  have key : ∀ {c : C} {k : Nat} {xs : List C} {ts : List T} {v : Value}, Cr X.E ρ st.m.length c v → cellsSrc st 1 c = some (k, xs) → bytesC st.pc xs = some ts → ∃ B : ByteArray, (Extern.Bytes.bytesOf v).run P w = .ok B w ∧ B.data.toList.map (·.toNat) = ts.map fun t => (t.den X.E).toNat := by
    intro c k xs ts v hv hs ht
    obtain ⟨ad, cap, news, s3, s4, s5, s6, s7, s8⟩ := cellsSrc_ok h hv hs
    rw [Nat.mul_one] at s4 s6
    have hb : ∀ {xs : List C} {ts : List T} {news : List Value}, bytesC st.pc xs = some ts → xs.length = news.length → (∀ (p : Nat) (y : C), xs[p]? = some y → ∃ u, news[p]? = some u ∧ Cr X.E ρ st.m.length y u) →
        news = (ts.map fun t => (t.den X.E).toNat).map (fun b => Value.int .u8 (b : Nat)) ∧ ∀ b ∈ ts.map (fun t => (t.den X.E).toNat), b < 256 := by
      intro xs
      induction xs with
      | nil =>
        intro ts news ht hl _
        cases ht
        have := List.eq_nil_of_length_eq_zero hl.symm
        subst this
        exact ⟨rfl, fun b hb => by simp at hb⟩
      | cons x xs ih =>
        intro ts news ht hl hx
        simp only [bytesC] at ht
        split at ht
        · rename_i t l hbt hl2
          cases ht
          cases news with
          | nil => simp at hl
          | cons u news =>
            obtain ⟨i1, i2⟩ := ih hl2 (by simpa using hl) (fun p y hy => by
              obtain ⟨v, h1, h2⟩ := hx (p + 1) y (by simpa using hy)
              exact ⟨v, by simpa using h1, h2⟩)
            unfold byteC at hbt
            split at hbt
            · rename_i t'
              split at hbt
              · rename_i hd1 hd2
                cases hbt
                obtain ⟨v, h1, h2⟩ := hx 0 _ rfl
                simp at h1
                subst h1
                simp only [Cr] at h2
                have r1 := le_of (dec_ok h.pc hd1)
                have r2 := le_of (dec_ok h.pc hd2)
                simp only [T.den] at r1 r2
                refine ⟨?_, fun b hb => ?_⟩
                · simp only [List.map_cons]
                  rw [← i1, h2, Int.toNat_of_nonneg r1]
                · simp only [List.map_cons, List.mem_cons] at hb
                  rcases hb with rfl | hb
                  · omega
                  · exact i2 b hb
              · cases hbt
            · cases hbt
        · cases ht
    obtain ⟨hn, hlt⟩ := hb ht (s6.trans s4.symm) s7
    by_cases hk : 0 < k
    · obtain ⟨d0, rfl, hcell⟩ := s8 hk
      obtain ⟨B, g1, g2⟩ := run_loadBytes (P := P) (w := w) news _ d0 .empty hcell hn hlt
      refine ⟨B, ?_, by rw [g2]; rfl⟩
      rw [s3]
      simp only [Extern.Bytes.bytesOf]
      rw [s4] at g1
      exact g1
    · have hk0 : k = 0 := by omega
      subst hk0
      have hn0 : news = [] := List.eq_nil_of_length_eq_zero s4
      rw [hn0] at hn
      have hts0 : ts = [] := by
        cases ts with
        | nil => rfl
        | cons t l => cases hn
      subst hts0
      refine ⟨.empty, ?_, rfl⟩
      rw [s3]
      cases ad <;> simp [Extern.Bytes.bytesOf, Extern.Bytes.loadBytes]
  obtain ⟨A, a1, a2⟩ := key (opN_ok h.toSRel hx) hsx hts
  obtain ⟨B, b1, b2⟩ := key (opN_ok h.toSRel hy) hsy hus
  have hcmp : ∀ {ts us : List T}, (cmpT st.pc ts us).den X.E = cmpL (ts.map fun t => (t.den X.E).toNat) (us.map fun t => (t.den X.E).toNat) ∨ ¬ ((∀ t ∈ ts, 0 ≤ t.den X.E) ∧ ∀ t ∈ us, 0 ≤ t.den X.E) := by
    intro ts
    induction ts with
    | nil => intro us; left; cases us <;> rfl
    | cons t ts ih =>
      intro us
      cases us with
      | nil => left; rfl
      | cons u us =>
        by_cases hp : (∀ t' ∈ t :: ts, 0 ≤ t'.den X.E) ∧ ∀ t' ∈ u :: us, 0 ≤ t'.den X.E
        · left
          have h1 := hp.1 t List.mem_cons_self
          have h2 := hp.2 u List.mem_cons_self
          have ih' := (@ih us).resolve_right (fun hn => hn ⟨fun t' ht => hp.1 t' (List.mem_cons_of_mem _ ht), fun t' ht => hp.2 t' (List.mem_cons_of_mem _ ht)⟩)
          have eqt : (mk2 .eq t u).tr X.E = (t.den X.E == u.den X.E) := by simp only [T.tr, mk2_den, O2.den, tb_ne]
          have ltt : (mk2 .lt t u).tr X.E = decide (t.den X.E < u.den X.E) := by simp only [T.tr, mk2_den, O2.den, tb_ne]; rfl
          have full : (mkIte (mk2 .eq t u) (cmpT st.pc ts us) (mkIte (mk2 .lt t u) (.lit (-1)) (.lit 1))).den X.E = cmpL ((t :: ts).map fun t => (t.den X.E).toNat) ((u :: us).map fun t => (t.den X.E).toNat) := by
            simp only [den_ite, eqt, ltt, List.map_cons, cmpL, ih', T.den, beq_iff_eq, decide_eq_true_eq]
            by_cases he : t.den X.E = u.den X.E
            · simp [he]
            · have : ¬ (t.den X.E).toNat = (u.den X.E).toNat := by omega
              simp only [he, this, if_false]
              by_cases hl : t.den X.E < u.den X.E
              · rw [if_pos hl, if_pos (by omega)]
              · rw [if_neg hl, if_neg (by omega)]
          simp only [cmpT]
          split
          · rename_i hd
            have := dec_ok h.pc hd
            rw [← full, den_ite, this]; rfl
          · rename_i hd
            have := dec_ok h.pc hd
            rw [← full, den_ite (c := mk2 .eq t u), this]; rfl
          · exact full
        · exact .inr hp
  have pos : ∀ {xs : List C} {ts : List T}, bytesC st.pc xs = some ts → ∀ t ∈ ts, 0 ≤ t.den X.E := by
    intro xs
    induction xs with
    | nil => intro ts ht t h'; cases ht; cases h'
    | cons x xs ih =>
      intro ts ht t h'
      simp only [bytesC] at ht
      split at ht
      · rename_i t0 l hbt hl2
        cases ht
        rcases List.mem_cons.1 h' with rfl | h'
        · unfold byteC at hbt
          split at hbt
          · split at hbt
            · rename_i hd1 hd2
              cases hbt
              have r1 := le_of (dec_ok h.pc hd1)
              simpa only [T.den] using r1
            · cases hbt
          · cases hbt
        · exact ih hl2 t h'
      · cases ht
  have hfin := (@hcmp ts us).resolve_right (fun hn => hn ⟨pos hts, pos hus⟩)
  refine OpOk.pure h (v := .int .i64 (cmpL (ts.map fun t => (t.den X.E).toNat) (us.map fun t => (t.den X.E).toNat))) fun _ => ⟨?_, by simp only [Lr, Ar, Cr]; rw [hfin]⟩
  have e1 : c.args = #[x, y] := by apply Array.ext'; simpa using hargs
  have hne : (fn.name == "runtime.NumGoroutine") = false := by rw [hname]; rfl
  have hcf := run_callFunc_extern hfn hne hbody (next_cmp hname horig) (find_cmp hname) #[a.eval x, a.eval y] w
  have hrun : (Extern.BytealgCompare.compare #[a.eval x, a.eval y]).run P w = .ok (.int .i64 (cmpL (ts.map fun t => (t.den X.E).toNat) (us.map fun t => (t.den X.E).toNat))) w := by
    show Sem.run P (do pure (goInt (Extern.BytealgCompare.cmp (← Extern.Bytes.bytesOf (a.eval x)) (← Extern.Bytes.bytesOf (a.eval y))))) w = _
    simp only [Sem.run_bind, a1, b1, Result.andThen_ok, Sem.run_pure, cmp_list, a2, b2]
    rfl
  rw [hrun] at hcf
  simp only [Result.andThen_ok] at hcf
  simp only [execOp, ho, resolve, hcal, hfv, e1, Deferred.ofValue, invoke, Sem.run_bind, Sem.run_pure, Result.andThen_ok, List.map_toArray, List.map_cons, List.map_nil]
  simpa using hcf
end ops
end Go.Sy
namespace Go.Sy
section ops
variable {P : Program} {X : Cx} {ρ : Nat → Rb} {st : St} {a : Act} {w : World} {o : Oper}
def cmpI : List Int → List Int → Int
  | [], [] => 0
  | [], _ :: _ => -1
  | _ :: _, [] => 1
  | s :: r, t :: r' => if s = t then cmpI r r' else if s < t then -1 else 1
theorem cmpT_den [Fs] {E : Env} {pc : Pc} (hp : pcOk E pc) : ∀ {ts us : List T}, (cmpT pc ts us).den E = cmpI (ts.map fun t => t.den E) (us.map fun t => t.den E) := by
  intro ts
  induction ts with
  | nil => intro us; cases us <;> rfl
  | cons t ts ih =>
    intro us
    cases us with
    | nil => rfl
    | cons u us =>
      have eqt : (mk2 .eq t u).tr E = (t.den E == u.den E) := by simp only [T.tr, mk2_den, O2.den, tb_ne]
      have ltt : (mk2 .lt t u).tr E = decide (t.den E < u.den E) := by simp only [T.tr, mk2_den, O2.den, tb_ne]; rfl
      have full : (mkIte (mk2 .eq t u) (cmpT pc ts us) (mkIte (mk2 .lt t u) (.lit (-1)) (.lit 1))).den E = cmpI ((t :: ts).map fun t => t.den E) ((u :: us).map fun t => t.den E) := by
        simp only [den_ite, eqt, ltt, List.map_cons, cmpI, @ih us, T.den, beq_iff_eq, decide_eq_true_eq]
      simp only [cmpT]
      split
      · rename_i hd
        have := dec_ok hp hd
        rw [← full, den_ite, this]; rfl
      · rename_i hd
        have := dec_ok hp hd
        rw [← full, den_ite (c := mk2 .eq t u), this]; rfl
      · exact full
theorem cmpI_bytes [Fs] : ∀ {as bs : List UInt8}, (cmpI (as.map fun b => (b.toNat : Int)) (bs.map fun b => (b.toNat : Int)) = 0 ↔ as = bs) ∧ (cmpI (as.map fun b => (b.toNat : Int)) (bs.map fun b => (b.toNat : Int)) < 0 ↔ Op.bytesLess as bs = true) := by
  intro as
  induction as with
  | nil =>
    intro bs
    cases bs with
    | nil => simp [cmpI, Op.bytesLess]
    | cons b bs => simp [cmpI, Op.bytesLess]
  | cons a as ih =>
    intro bs
    cases bs with
    | nil => simp [cmpI, Op.bytesLess]
    | cons b bs =>
      obtain ⟨h1, h2⟩ := @ih bs
      by_cases he : a = b
      · subst he
        simp only [List.map_cons, cmpI, if_true, h1, h2, Op.bytesLess]
        simp
      · have hne : ¬ ((a.toNat : Int) = b.toNat) := fun e => he (UInt8.toNat_inj.1 (by omega))
        simp only [List.map_cons, cmpI, hne, if_false, Op.bytesLess]
        by_cases hl : a < b
        · have : (a.toNat : Int) < b.toNat := by have := UInt8.lt_iff_toNat_lt.1 hl; omega
          simp [this, hl, he]
        · have : ¬ (a.toNat : Int) < b.toNat := fun e => hl (UInt8.lt_iff_toNat_lt.2 (by omega))
          simp [this, hl, he]
theorem toList_data [Fs] (b : ByteArray) : b.toList = b.data.toList := by
  unfold ByteArray.toList
  rw [ByteArray.toList_loop_eq b _ 0 [] rfl (Nat.zero_le _)]
  simp
/-- The bytes of a string that is known byte by byte. -/
def strTs (pc : Pc) : C → Option (List T)
  | .str (.lit k) s => bif leb 0 k && leb k 4096 then some ((List.range k.toNat).map fun i => selP pc (.lit (i : Nat)) s) else none
  | .raw (.string b) => some (b.data.toList.map fun u => .lit (u.toNat : Nat))
  | _ => none
theorem strTs_ok [Fs] {E : Env} {n : Nat} {pc : Pc} (hp : pcOk E pc) {c : C} {v : Value} (hv : Cr E ρ n c v) {ts : List T} (h : strTs pc c = some ts) : ∃ b : ByteArray, v = .string b ∧ ts.map (fun t => t.den E) = b.data.toList.map fun u => (u.toNat : Int) := by
  unfold strTs at h
  split at h
  · rename_i k s
    cases hc : leb 0 k && leb k 4096 <;> simp only [hc, cond_true, cond_false] at h
    · cases h
    · cases h
      rw [Bool.and_eq_true, leb_t, leb_t] at hc
      obtain ⟨b, h1, h2, h3⟩ := hv
      refine ⟨b, h1, ?_⟩
      simp only [T.den] at h2
      refine List.ext_getElem? fun i => ?_
      simp only [List.getElem?_map, Array.getElem?_toList]
      by_cases hi : i < b.data.size
      · have hi' : i < k.toNat := by have : b.size = b.data.size := rfl; omega
        rw [List.getElem?_range hi', Array.getElem?_eq_getElem hi]
        simp only [Option.map_some, selP_den hp, T.den]
        rw [h3 i _ (Array.getElem?_eq_getElem hi)]
      · have hi' : ¬ i < k.toNat := by have : b.size = b.data.size := rfl; omega
        rw [List.getElem?_eq_none (by simp; omega), Array.getElem?_eq_none (by omega)]; rfl
  · rename_i b
    cases h
    exact ⟨b, hv.1, by rw [List.map_map]; rfl⟩
  · cases h
/-- Strings held against one another. -/
def evStrB (_ : Program) (st : St) (op : BinOp) (x y : Operand) : Option OpR :=
  match opC st x, opC st y with
  | some cx, some cy => match strTs st.pc cx, strTs st.pc cy with
    | some ts, some us => (fun d => match op with
      | .eql => some ⟨.a (.c (.bool (norm st.pc (mk2 .eq d (.lit 0))))), st.m, []⟩
      | .neq => some ⟨.a (.c (.bool (norm st.pc (mkNot (mk2 .eq d (.lit 0)))))), st.m, []⟩
      | .lss => some ⟨.a (.c (.bool (norm st.pc (mk2 .lt d (.lit 0))))), st.m, []⟩
      | .leq => some ⟨.a (.c (.bool (norm st.pc (mk2 .le d (.lit 0))))), st.m, []⟩
      | _ => none : T → Option OpR) (cmpT st.pc ts us)
    | _, _ => none
  | _, _ => none
/-- A row of terms. -/
def rowT : Nat → T → List T → T
  | _, s, [] => s
  | i, s, t :: r => rowT (i + 1) (.upd s (.lit i) t) r
theorem rowT_at [Fs] {E : Env} : ∀ {ts : List T} {i : Nat} {s : T} {j : Nat}, (rowT i s ts).row E (j : Nat) = if i ≤ j ∧ j < i + ts.length then ((ts[j - i]?).map (fun t => t.den E)).getD 0 else s.row E (j : Nat) := by
  intro ts
  induction ts with
  | nil => intro i s j; simp only [rowT, List.length_nil, Nat.add_zero]; rw [if_neg (by omega)]
  | cons t r ih =>
    intro i s j
    simp only [rowT]
    rw [ih]
    by_cases hj : j = i
    · subst hj
      rw [if_neg (by omega), if_pos (by simp)]
      simp [T.row, T.den]
    · by_cases h2 : i + 1 ≤ j ∧ j < i + 1 + r.length
      · rw [if_pos h2, if_pos (by simp; omega)]
        have : j - i = (j - (i + 1)) + 1 := by omega
        rw [this, List.getElem?_cons_succ]
      · rw [if_neg h2, if_neg (by simp; omega)]
        simp only [T.row]
        exact if_neg fun e => hj (by have : (j : Int) = i := e; omega)
/-- Bytes as a string. -/
def evStrC (P : Program) (st : St) (src dst : TypeId) (x : Operand) : Option OpR :=
  match P.underlying src, P.underlying dst with
  | some (.slice e), some .string => match P.underlying e, opN st x with
    | some (.int .u8), some cx => match cellsSrc st 1 cx with
      | some (k, xs) => match bytesC st.pc xs with
        | some ts => bif Nat.beq ts.length k then some ⟨.a (.c (.str (.lit (k : Nat)) (rowT 0 (.lit 0) ts))), st.m, []⟩ else none
        | none => none
      | none => none
    | _, _ => none
  | _, _ => none
theorem bytes_of [Fs] (h : Rel X ρ st a w) {c : C} {k : Nat} {xs : List C} {ts : List T} {v : Value} (hv : Cr X.E ρ st.m.length c v) (hs : cellsSrc st 1 c = some (k, xs)) (ht : bytesC st.pc xs = some ts) :
    ∃ ad cap, v = .slice ad k cap ∧ ts.length = k ∧ (∀ t ∈ ts, 0 ≤ t.den X.E ∧ t.den X.E ≤ 255) ∧ (0 < k → ∃ d, ad = some d ∧ (loadCells d k).run P w = .ok ((ts.map fun t => t.den X.E).map (Value.int .u8)).toArray w) := by
  obtain ⟨ad, cap, news, s3, s4, s5, s6, s7, s8⟩ := cellsSrc_ok h hv hs
  rw [Nat.mul_one] at s4 s6
  have hb : ∀ {xs : List C} {ts : List T} {news : List Value}, bytesC st.pc xs = some ts → xs.length = news.length → (∀ (p : Nat) (y : C), xs[p]? = some y → ∃ u, news[p]? = some u ∧ Cr X.E ρ st.m.length y u) →
      news = (ts.map fun t => t.den X.E).map (Value.int .u8) ∧ ts.length = xs.length ∧ ∀ t ∈ ts, 0 ≤ t.den X.E ∧ t.den X.E ≤ 255 := by
    intro xs
    induction xs with
    | nil =>
      intro ts news ht hl _
      cases ht
      have := List.eq_nil_of_length_eq_zero hl.symm
      subst this
      exact ⟨rfl, rfl, fun _ h => nomatch h⟩
    | cons x xs ih =>
      intro ts news ht hl hx
      simp only [bytesC] at ht
      split at ht
      · rename_i t l hbt hl2
        cases ht
        cases news with
        | nil => simp at hl
        | cons u news =>
          obtain ⟨i1, i2, i3⟩ := ih hl2 (by simpa using hl) (fun p y hy => by
            obtain ⟨v, h1, h2⟩ := hx (p + 1) y (by simpa using hy)
            exact ⟨v, by simpa using h1, h2⟩)
          unfold byteC at hbt
          split at hbt
          · rename_i t'
            split at hbt
            · rename_i hd1 hd2
              cases hbt
              obtain ⟨v, h1, h2⟩ := hx 0 _ rfl
              simp at h1
              subst h1
              simp only [Cr] at h2
              have r1 := le_of (dec_ok h.pc hd1)
              have r2 := le_of (dec_ok h.pc hd2)
              simp only [T.den] at r1 r2
              refine ⟨by simp only [List.map_cons]; rw [← i1, h2], by simp [i2], fun t ht => ?_⟩
              rcases List.mem_cons.1 ht with rfl | ht
              · exact ⟨r1, r2⟩
              · exact i3 t ht
            · cases hbt
          · cases hbt
      · cases ht
  obtain ⟨hn, hl, hr⟩ := hb ht (s6.trans s4.symm) s7
  refine ⟨ad, cap, s3, by rw [hl, s6], hr, fun hk => ?_⟩
  obtain ⟨d, rfl, hcell⟩ := s8 hk
  refine ⟨d, rfl, ?_⟩
  have := run_loadCells_list (P := P) w d news hcell
  rw [s4] at this
  rw [this, hn]
theorem foldl_bytes [Fs] : ∀ (ns : List Int) (s : ByteArray), (ns.foldl (fun r n => r.push (UInt8.ofNat n.toNat)) s).data.toList = s.data.toList ++ ns.map fun n => UInt8.ofNat n.toNat := by
  intro ns
  induction ns with
  | nil => intro s; simp
  | cons n ns ih => intro s; simp only [List.foldl_cons, ih, List.map_cons]; simp [ByteArray.push]
theorem evStrC_ok [Fs] (h : Rel X ρ st a w) {src dst : TypeId} {x : Operand} (ho : o.op = .convert src dst x) {r : OpR} (hr : evStrC P st src dst x = some r) : OpOk P X ρ st a w o r := by
  unfold evStrC at hr
  split at hr
  case h_2 => cases hr
  rename_i e hu hd
  split at hr
  case h_2 => cases hr
  rename_i cx he hx
  split at hr
  case h_2 => cases hr
  rename_i k xs hs
  split at hr
  case h_2 => cases hr
  rename_i ts ht
  cases hb : Nat.beq ts.length k <;> simp only [hb, cond_true, cond_false] at hr
  · cases hr
  cases hr
  obtain ⟨ad, cap, v1, v2, v3, v4⟩ := bytes_of (P := P) h (opN_ok h.toSRel hx) hs ht
  obtain ⟨B, hB⟩ : ∃ B : ByteArray, B = ((ts.map fun t => t.den X.E).foldl (fun r n => r.push (UInt8.ofNat n.toNat)) ByteArray.empty) := ⟨_, rfl⟩
  have hdata : B.data.toList = (ts.map fun t => t.den X.E).map fun n => UInt8.ofNat n.toNat := by rw [hB, foldl_bytes]; rfl
  have hsize : B.size = k := by
    have : B.data.toList.length = k := by rw [hdata]; simp [v2]
    rw [← this, Array.length_toList]; rfl
  refine OpOk.pure h (v := .string B) fun _ => ⟨?_, ?_⟩
  · have hc : (convert src dst (a.eval x)).run P w = .ok (.string B) w := by
      rw [v1, run_convert_bytes_string w src dst e ad k cap hu he hd]
      by_cases hk : 0 < k
      · obtain ⟨d, rfl, hl⟩ := v4 hk
        rw [run_bytesToString w d k cap _ hl, hB]
      · have hk0 : k = 0 := by omega
        subst hk0
        have : ts = [] := List.eq_nil_of_length_eq_zero v2
        subst this
        cases ad with
        | none => rw [hB]; rfl
        | some d =>
          have hl : (loadCells d 0).run P w = .ok (([] : List Int).map (Value.int .u8)).toArray w := by simpa using run_loadCells_list (P := P) w d [] (by simp)
          rw [run_bytesToString w d 0 cap [] hl, hB]; rfl
    simp only [execOp, ho, Sem.run_bind, hc, Result.andThen_ok]; rfl
  · refine ⟨B, rfl, by rw [hsize]; rfl, fun i u hi => ?_⟩
    have hi2 : B.data.toList[i]? = some u := by rw [Array.getElem?_toList]; exact hi
    rw [hdata, List.map_map, List.getElem?_map, Option.map_eq_some_iff] at hi2
    obtain ⟨t, ht1, ht2⟩ := hi2
    rw [rowT_at]
    have hlt := (List.getElem?_eq_some_iff.1 ht1).1
    rw [if_pos ⟨Nat.zero_le _, by omega⟩, Nat.sub_zero, ht1]
    obtain ⟨r1, r2⟩ := v3 t (List.mem_of_getElem? ht1)
    simp only [Option.map_some, Option.getD_some]
    rw [← ht2]
    simp only [Function.comp_apply, UInt8.toNat_ofNat']
    omega
theorem evStrB_ok [Fs] (h : SRel X ρ st a) {op : BinOp} {t yt : TypeId} {x y : Operand} (ho : o.op = .binOp op t x y yt) {r : OpR} (hr : evStrB P st op x y = some r) : OpQ P X ρ st a o r := by
  unfold evStrB at hr
  split at hr
  case h_2 => cases hr
  rename_i cx cy hx hy
  split at hr
  case h_2 => cases hr
  rename_i ts us hts hus
  obtain ⟨A, a1, a2⟩ := strTs_ok h.pc (opC_ok h hx) hts
  obtain ⟨B, b1, b2⟩ := strTs_ok h.pc (opC_ok h hy) hus
  have hd : (cmpT st.pc ts us).den X.E = cmpI (A.data.toList.map fun u => (u.toNat : Int)) (B.data.toList.map fun u => (u.toNat : Int)) := by rw [cmpT_den h.pc, a2, b2]
  obtain ⟨k1, k2⟩ := cmpI_bytes (as := A.data.toList) (bs := B.data.toList)
  rw [← hd] at k1 k2
  have hrun : ∀ (v : Value) (w : World), (Op.stringOp op A B).run P w = .ok v w → (op = .eql ∨ op = .neq ∨ op = .lss ∨ op = .leq) → (execOp a.eval o).run P w = .ok (.value v) w := by
    intro v w hv hop
    have hg : (eqGuard op t x y (.string A) (.string B)).run P w = .ok () w := by
      rcases hop with rfl | rfl | rfl | rfl <;> rfl
    have hb : binOp op t (.string A) (.string B) = Op.stringOp op A B := by
      rcases hop with rfl | rfl | rfl | rfl <;> rfl
    simp only [execOp, ho, a1, b1, Sem.run_bind, hg, Result.andThen_ok, hb, hv]; rfl
  have heq : (A.toList == B.toList) = decide ((cmpT st.pc ts us).den X.E = 0) := by
    rw [toList_data, toList_data]
    by_cases he : A.data.toList = B.data.toList
    · rw [decide_eq_true (k1.2 he), he]; simp
    · rw [decide_eq_false fun e => he (k1.1 e)]; simpa using he
  have hlt : Op.bytesLess A.toList B.toList = decide ((cmpT st.pc ts us).den X.E < 0) := by
    rw [toList_data, toList_data]
    cases hb : Op.bytesLess A.data.toList B.data.toList
    · rw [decide_eq_false fun e => by rw [k2.1 e] at hb; cases hb]
    · rw [decide_eq_true (k2.2 hb)]
  have teq : (mk2 .eq (cmpT st.pc ts us) (.lit 0)).tr X.E = decide ((cmpT st.pc ts us).den X.E = 0) := by
    simp only [T.tr, mk2_den, O2.den, tb_ne, T.den]; rfl
  have tlt : (mk2 .lt (cmpT st.pc ts us) (.lit 0)).tr X.E = decide ((cmpT st.pc ts us).den X.E < 0) := by
    simp only [T.tr, mk2_den, O2.den, tb_ne, T.den]; rfl
  have tle : (mk2 .le (cmpT st.pc ts us) (.lit 0)).tr X.E = decide ((cmpT st.pc ts us).den X.E ≤ 0) := by
    simp only [T.tr, mk2_den, O2.den, tb_ne, T.den]; rfl
  split at hr
  · cases hr
    exact OpQ.pure (v := .bool (A.toList == B.toList)) fun w _ => ⟨hrun _ w rfl (by simp), by simp only [Lr, Ar, Cr, norm_tr h.pc, teq, heq]⟩
  · cases hr
    exact OpQ.pure (v := .bool !(A.toList == B.toList)) fun w _ => ⟨hrun _ w rfl (by simp), by simp only [Lr, Ar, Cr, norm_tr h.pc, tr_mkNot, teq, heq]⟩
  · cases hr
    exact OpQ.pure (v := .bool (Op.bytesLess A.toList B.toList)) fun w _ => ⟨hrun _ w rfl (by simp), by simp only [Lr, Ar, Cr, norm_tr h.pc, tlt, hlt]⟩
  · cases hr
    refine OpQ.pure (v := .bool (Op.bytesLess A.toList B.toList || A.toList == B.toList)) fun w _ => ⟨hrun _ w rfl (by simp), ?_⟩
    simp only [Lr, Ar, Cr, norm_tr h.pc, tle, hlt, heq]
    congr 1
    by_cases h1 : (cmpT st.pc ts us).den X.E < 0
    · rw [decide_eq_true h1, decide_eq_true (by omega : (cmpT st.pc ts us).den X.E ≤ 0)]; rfl
    · by_cases h2 : (cmpT st.pc ts us).den X.E = 0
      · rw [decide_eq_true h2, decide_eq_true (by omega : (cmpT st.pc ts us).den X.E ≤ 0)]; simp
      · rw [decide_eq_false h1, decide_eq_false h2, decide_eq_false (by omega)]; rfl
  · cases hr
end ops
end Go.Sy
