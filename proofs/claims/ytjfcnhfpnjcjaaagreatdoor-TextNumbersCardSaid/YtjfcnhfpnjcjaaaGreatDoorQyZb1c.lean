/- Part Zb1c of a checked reader of Go texts in their model form: it runs a function at terms in the place of numbers, and each part proves that its answers hold of the model. -/
import Derived.Test.YtjfcnhfpnjcjaaaGreatDoorQyZb1
namespace Go.E3
open Go.Sy
noncomputable section
variable {P : Program} {pc : Pc} {o : Oper}

/-! bytes and strings -/
def isU8 (P : Program) (e : TypeId) : Bool := match undF P e with
  | some (.int .u8) => true
  | _ => false
theorem isU8_ok {e : TypeId} (h : isU8 P e = true) : P.underlying e = some (.int .u8) := by
  unfold isU8 at h
  rw [undF_eq] at h
  split at h
  · rename_i hu; exact hu
  · cases h
/-- 'string(b)'. -/
def evB2S (pc : Pc) (x : Operand) (s : Tri L) (m : Tri B) : Option L := match opC pc s x with
  | some c => match srcC 1 m c with
    | some (_, xs) => match bytesC pc xs with
      | some ts => some (.a (.c (.str ts)))
      | none => none
    | none => none
  | none => none
theorem evB2S_ok {src dst e : TypeId} {x : Operand} (ho : o.op = .convert src dst x) (hs : P.underlying src = some (.slice e)) (he : P.underlying e = some (.int .u8)) (hd : P.underlying dst = some .string) : LoadOk P pc o (evB2S pc x) := by
  intro s m l hl E ρ D ev w hp hops hm
  unfold evB2S at hl
  split at hl
  case h_2 => cases hl
  rename_i c hx
  split at hl
  case h_2 => cases hl
  rename_i k xs hsrc
  split at hl
  case h_2 => cases hl
  rename_i ts hts
  cases hl
  obtain ⟨x1, x2⟩ := opC_ok hp hops (by simp [ho, Op.operands]) hx
  obtain ⟨s1, s2, ad, cap, s3, s4⟩ := srcC_ok hm x1 hsrc
  obtain ⟨t1, t2⟩ := bytesC_ok hp ρ hts
  rw [Nat.mul_one] at s2
  refine ⟨?_, t1⟩
  have hlen : (ubs E ts).length = k := by rw [← s2]; have := congrArg List.length t2; simp only [List.length_map] at this; rw [this]; simp [ubs]
  simp only [execOp, ho, x2, s3]
  have key : (convert src dst (.slice ad k cap)).run P w = .ok (.string ⟨(ubs E ts).toArray⟩) w := by
    rcases Nat.eq_zero_or_pos k with h0 | hpos
    · subst h0
      have hnil : ubs E ts = [] := List.eq_nil_of_length_eq_zero hlen
      rw [run_convert_bytes_string w src dst e ad 0 cap hs he hd, hnil]
      cases ad with
      | none => rfl
      | some a =>
        have := run_bytesToString (P := P) w a 0 cap [] (by simp [loadCells, loadCellsFrom])
        exact this
    · obtain ⟨d, rfl, hcell⟩ := s4 hpos
      rw [← hlen]
      refine run_convert_bytes_back w src dst e d cap (ubs E ts) hs he hd fun j hj => hcell j _ ?_
      rw [t2, ubs_val t1, List.getElem?_map, List.getElem?_eq_getElem hj]; rfl
  simp only [Sem.run_bind, key, Result.andThen_ok]
  rfl
/-- '[]byte(s)': to be read alone. -/
def evS2B (x : Operand) (pc : Pc) (s : Tri L) (m : Tri B) (nx : Pt) : Option (Option L × Tri B × Pt) := match opC pc s x with
  | some (.str l) => bif Nat.ble l.length 65536 then m.putK nx (some (.ro l.length (puts (l.map fun t => C.int .u8 t) .e 0))) fun m => nx.sucK fun nx' => some (some (.a (.c (.slc nx 0 l.length (.r 1 0)))), m, nx') else none
  | _ => none
theorem evS2B_mono (x : Operand) : EffMono (evS2B x) := by
  intro pc s m nx l m' nx' h
  simp only [evS2B, Tri.putK_eq, Pt.sucK_eq, cond_eq_ite] at h
  repeat' split at h
  all_goals first | (cases h; done) | (cases h; rw [Pt.succ_num]; omega)
theorem evS2B_ok {src dst e : TypeId} {x : Operand} (ho : o.op = .convert src dst x) (hs : P.underlying src = some .string) (hd : P.underlying dst = some (.slice e)) (he : P.underlying e = some (.int .u8)) : EffOk P pc o (evS2B x pc) := by
  intro s m nx l m' nx' hf E ρ D ev w hp hops hm hfr
  unfold evS2B at hf
  split at hf
  case h_2 => cases hf
  rename_i ts hx
  cases hb : Nat.ble ts.length 65536 <;> simp only [hb, cond_true, cond_false] at hf
  · cases hf
  rw [Nat.ble_eq] at hb
  rw [Tri.putK_eq, Pt.sucK_eq] at hf
  cases hf
  obtain ⟨x1, x2⟩ := opC_ok hp hops (by simp [ho, Op.operands]) hx
  have hnx : ¬ D nx := hfr nx ((rg_succ _ _).2 rfl)
  obtain ⟨b, e1, e2⟩ := strOf_data E ts
  have hsz : b.size = ts.length := by
    have := congrArg List.length e2
    rw [List.length_map, Array.length_toList] at this
    exact this
  have hrun := run_bytes_of_string (P := P) w src dst e b hs hd he
  have hge := grownCap_ge w b.size 0 e
  have hcm := grownCap_le_maxLen w b.size 0 e (by rw [hsz]; simp only [maxLen]; omega)
  generalize hcap : grownCap w b.size 0 e = cap at hrun hge hcm
  have hrs : (bytesRow b cap).size = cap := by
    unfold bytesRow
    rw [Array.size_append, Array.size_map, Array.size_replicate]
    show b.size + (cap - b.size) = cap
    omega
  refine ⟨_, _, upd ρ nx ⟨w.heap.size, cap⟩, by
    simp only [execOp, ho, x2, C.val, e1, Sem.run_bind, hrun, Result.andThen_ok]; rfl, ?_, ?_, ?_⟩
  · exact (hm.drew.alloc (z := cap) (x := .ro ts.length (puts (ts.map fun t => C.int .u8 t) .e 0)) (ob := .cells (bytesRow b cap) e ((bytesRow b cap).size, (bytesRow b cap).size + 1)) hnx ⟨_, _, _, rfl, fun i y hy => by
      have hy' := cellAt_list hy
      rw [List.getElem?_map] at hy'
      obtain ⟨t, ht, rfl⟩ := Option.map_eq_some_iff.1 hy'
      refine ⟨trivial, ?_⟩
      have hi := (List.getElem?_eq_some_iff.1 ht).1
      unfold bytesRow
      have hbl : i < (b.data.map (fun b => Value.int .u8 b.toNat)).size := by
        rw [Array.size_map]; show i < b.size; omega
      rw [Array.getElem?_append_left hbl, Array.getElem?_map]
      have : b.data[i]? = some (byteOf (t.den E)) := by
        rw [← Array.getElem?_toList, e2, List.getElem?_map, ht]; rfl
      rw [this]
      simp only [Option.map_some, C.val]
      rw [byteOf_val (x1 t (List.mem_of_getElem? ht))]⟩).undraw
  · simp only [L.val, A.val, C.val, upd_same, Cp.val, Nat.div_one, Nat.sub_zero, hsz]
  · refine ⟨.inr ((rg_succ _ _).2 rfl), ?_, ?_⟩
    · simp only [Cp.val, upd_same, Nat.div_one, Nat.sub_zero]; omega
    · simp only [Cp.fit, upd_same, Nat.div_one, Nat.mul_one]; exact ⟨trivial, hcm⟩

/-! pointers -/
def szNe (P : Program) (t : TypeId) : Bool := match infoF P t with
  | some i => not (Nat.beq i.size 0)
  | none => false
theorem szNe_ok {t : TypeId} (h : szNe P t = true) : ∃ i, P.info? t = some i ∧ i.size ≠ 0 := by
  unfold szNe at h
  rw [infoF_eq] at h
  split at h
  · rename_i i hi
    refine ⟨i, hi, fun hz => ?_⟩
    rw [hz] at h; cases h
  · cases h
def evToU (pc : Pc) (x : Operand) (s : Tri L) (m : Tri B) : Option L := match opC pc s x with
  | some (.ptr b o) => match m.get b with
    | some (.cells _ n _ _ _) => bif Nat.ble (Nat.succ o) n then some (.a (.c (.ptr b o))) else none
    | _ => none
  | _ => none
theorem evToU_ok {src dst t : TypeId} {x : Operand} (ho : o.op = .convert src dst x) (hs : P.underlying src = some (.pointer t)) (hd : P.underlying dst = some .unsafePointer) (ht : szNe P t = true) : LoadOk P pc o (evToU pc x) := by
  intro s m l hl E ρ D ev w hp hops hm
  unfold evToU at hl
  split at hl
  case h_2 => cases hl
  rename_i b o1 hx
  split at hl
  case h_2 => cases hl
  rename_i ty n k d t' hb
  cases hq : Nat.ble (Nat.succ o1) n <;> simp only [hq, cond_true, cond_false] at hl
  · cases hl
  rw [Nat.ble_eq] at hq
  cases hl
  obtain ⟨x1, x2⟩ := opC_ok hp hops (by simp [ho, Op.operands]) hx
  obtain ⟨cs, g1, g2, g3, g4, g5⟩ := hm.mem b _ x1 hb
  obtain ⟨i, hi, hz⟩ := szNe_ok ht
  have := Lib.run_to_unsafe (P := P) w (e := ty) (cells := cs.size) ⟨(ρ b).g, o1, none⟩ hs hd hi hz (by simp [World.shape?, g1]) (by show o1 < cs.size; rw [g2]; omega)
  refine ⟨?_, x1⟩
  simp only [execOp, ho, x2, C.val, Sem.run_bind, this, Result.andThen_ok]
  rfl
def evFrU (P : Program) (pc : Pc) (u : TypeId) (x : Operand) (s : Tri L) (m : Tri B) : Option L := match opC pc s x with
  | some (.ptr b o) => match m.get b with
    | some (.cells e n true _ _) => bif liesAt P P.depth e (n / P.cellsOf e) o u 1 then some (.a (.c (.ptr b o))) else none
    | _ => none
  | _ => none
theorem evFrU_ok {src dst u : TypeId} {x : Operand} (ho : o.op = .convert src dst x) (hs : P.underlying src = some .unsafePointer) (hd : P.underlying dst = some (.pointer u)) {i : TypeInfo} (hu : P.info? u = some i) : LoadOk P pc o (evFrU P pc u x) := by
  intro s m l hl E ρ D ev w hp hops hm
  unfold evFrU at hl
  split at hl
  case h_2 => cases hl
  rename_i b o1 hx
  split at hl
  case h_2 => cases hl
  rename_i e n d t' hb
  cases hq : liesAt P P.depth e (n / P.cellsOf e) o1 u 1 <;> simp only [hq, cond_true, cond_false] at hl
  · cases hl
  cases hl
  obtain ⟨x1, x2⟩ := opC_ok hp hops (by simp [ho, Op.operands]) hx
  obtain ⟨cs, g1, g2, g3, g4, g5⟩ := hm.mem b _ x1 hb
  have hcs : cs.size = n := by rw [g2]; exact g4 rfl
  have := Lib.run_from_unsafe (P := P) w (e := e) (cells := n) ⟨(ρ b).g, o1, none⟩ hs hd hu (by simp [World.shape?, g1, hcs]) hq
  refine ⟨?_, x1⟩
  simp only [execOp, ho, x2, C.val, Sem.run_bind, this, Result.andThen_ok]
  rfl
/-- Conversions. -/
def cConv2 (P : Program) (src dst : TypeId) (x : Operand) : Cop := match undF P src with
  | some (.slice e) => match undF P dst with
    | some .string => bif isU8 P e then .load fun pc => evB2S pc x else .bad
    | _ => .bad
  | some .string => match undF P dst with
    | some (.slice e) => bif isU8 P e then .eff (evS2B x) else .bad
    | some .string => .pure fun pc s => match opC pc s x with
      | some (.str l) => some (.a (.c (.str l)))
      | _ => none
    | _ => .bad
  | some (.pointer t) => match undF P dst with
    | some .unsafePointer => bif szNe P t then .load fun pc => evToU pc x else .bad
    | _ => .bad
  | some .unsafePointer => match undF P dst with
    | some (.pointer u) => match infoF P u with
      | some _ => .load fun pc => evFrU P pc u x
      | none => .bad
    | _ => .bad
  | _ => cConv P src dst x
theorem cConv2_ok {src dst : TypeId} {x : Operand} (ho : o.op = .convert src dst x) : CopOk P o (cConv2 P src dst x) := by
  unfold cConv2
  rw [undF_eq, undF_eq]
  split
  · rename_i e hs
    split
    · rename_i hd
      cases he : isU8 P e <;> simp only [cond_true, cond_false]
      · trivial
      · exact fun pc => evB2S_ok ho hs (isU8_ok he) hd
    · trivial
  · rename_i hs
    split
    · rename_i e hd
      cases he : isU8 P e <;> simp only [cond_true, cond_false]
      · trivial
      · exact ⟨fun pc => evS2B_ok ho hs hd (isU8_ok he), evS2B_mono x⟩
    · rename_i hd
      intro pc s l hl E ρ D ev hp hops
      change (match opC pc s x with
        | some (.str l) => some (L.a (.c (.str l)))
        | _ => none) = some l at hl
      split at hl
      · rename_i ts hx
        cases hl
        obtain ⟨x1, x2⟩ := opC_ok hp hops (by simp [ho, Op.operands]) hx
        refine ⟨fun w => ?_, x1⟩
        obtain ⟨b, e1, e2⟩ := strOf_data E ts
        have : (convert src dst (.string b)).run P w = .ok (.string b) w := by simp [convert, run_underlying hs, run_underlying hd]
        simp only [execOp, ho, x2, C.val, e1, Sem.run_bind, this, Result.andThen_ok, L.val, A.val]
        rfl
      · cases hl
    · trivial
  · rename_i t hs
    split
    · rename_i hd
      cases ht : szNe P t <;> simp only [cond_true, cond_false]
      · trivial
      · exact fun pc => evToU_ok ho hs hd ht
    · trivial
  · rename_i hs
    split
    · rename_i u hd
      rw [infoF_eq]
      split
      · rename_i i hi; exact fun pc => evFrU_ok ho hs hd hi
      · trivial
    · trivial
  · exact cConv_ok ho

/-! unsafe.SliceData, unsafe.String -/
def evSData (pc : Pc) (x : Operand) (s : Tri L) : Option L := match opC pc s x with
  | some .nils => some (.a (.c .nilp))
  | some (.slc b o (_ + 1) _) => some (.a (.c (.ptr b o)))
  | _ => none
theorem evSData_ok {c : Call} (ho : o.op = .call c) (hcal : c.callee = .builtin .unsafeSliceData) {x : Operand} (hargs : c.args.toList = [x]) : PureOk P pc o (evSData pc x) := by
  intro s l hl E ρ D ev hp hops
  have mx : x ∈ o.op.operands.toList := mem_args ho (by rw [hargs]; simp)
  have hexec : ∀ v1, ev x = v1 → ∀ v' w w', (Builtin.unsafeSliceData_ c.argTypes o.type #[v1]).run P w = .ok v' w' → (execOp ev o).run P w = .ok (.value v') w' := by
    intro v1 h1 v' w w' hrun
    simp only [execOp, ho, resolve, invoke, builtin, hcal, args1 hargs, Sem.run_bind, Sem.run_pure, Result.andThen_ok, List.map_toArray, List.map_cons, List.map_nil, h1, hrun]
  unfold evSData at hl
  split at hl
  · rename_i hx
    cases hl
    obtain ⟨x1, x2⟩ := opC_ok hp hops mx hx
    exact ⟨fun w => hexec _ x2 _ w w (Lib.run_unsafeSliceData_nil w c.argTypes o.type 0 0), trivial⟩
  · rename_i b o1 n cp hx
    cases hl
    obtain ⟨x1, x2⟩ := opC_ok hp hops mx hx
    exact ⟨fun w => hexec _ x2 _ w w (Lib.run_unsafeSliceData_row w c.argTypes o.type _ _ _ (by have := x1.2.1; omega)), x1.1⟩
  · cases hl
def evUStr (e : TypeId) (x y : Operand) (pc : Pc) (s : Tri L) (m : Tri B) (nx : Pt) : Option (Option L × Tri B × Pt) := match opC pc s y with
  | some (.int .i64 (.lit (.ofNat n))) => match opC pc s x with
    | some .nilp => bif Nat.beq n 0 then some (some (.a (.c (.str []))), m, nx) else none
    | some (.ptr b o) => bif Nat.beq n 0 then some (some (.a (.c (.str []))), m, nx) else bif Nat.beq o 0 && Nat.ble n 65536 then match m.get b with
      | some (.cells ty q _ d t) => bif Nat.beq ty e then match rdCells q d t n 0 with
        | some xs => match bytesC pc xs with
          | some ts => m.putK b (some (.ro 0 .e)) fun m => some (some (.a (.c (.str ts))), m, nx)
          | none => none
        | none => none
        else none
      | _ => none
      else none
    | _ => none
  | _ => none
theorem evUStr_mono (e : TypeId) (x y : Operand) : EffMono (evUStr e x y) := by
  intro pc s m nx l m' nx' h
  simp only [evUStr, Tri.putK_eq, cond_eq_ite] at h
  repeat' split at h
  all_goals first | (cases h; done) | (cases h; exact Nat.le_refl _)
theorem evUStr_ok {c : Call} (ho : o.op = .call c) (hcal : c.callee = .builtin .unsafeString) {x y : Operand} (hargs : c.args.toList = [x, y]) {pt it e : TypeId} (hty : c.argTypes.toList = [pt, it]) (hpt : P.underlying pt = some (.pointer e)) (hce : P.cellsOf e = 1) : EffOk P pc o (evUStr e x y pc) := by
  intro s m nx l m' nx' hf E ρ D ev w hp hops hm hfr
  have mx : x ∈ o.op.operands.toList := mem_args ho (by rw [hargs]; simp)
  have my : y ∈ o.op.operands.toList := mem_args ho (by rw [hargs]; simp)
  have e2 : c.argTypes = #[pt, it] := by apply Array.ext'; simpa using hty
  have hexec : ∀ v1 v2, ev x = v1 → ev y = v2 → ∀ v' w', (Builtin.unsafeString_ #[pt, it] o.type #[v1, v2]).run P w = .ok v' w' → (execOp ev o).run P w = .ok (.value v') w' := by
    intro v1 v2 h1 h2 v' w' hrun
    simp only [execOp, ho, resolve, invoke, builtin, hcal, args2 hargs, e2, Sem.run_bind, Sem.run_pure, Result.andThen_ok, List.map_toArray, List.map_cons, List.map_nil, h1, h2, hrun]
  unfold evUStr at hf
  split at hf
  case h_2 => cases hf
  rename_i n hy
  obtain ⟨y1, y2⟩ := opC_ok hp hops my hy
  change ev y = .int .i64 (n : Int) at y2
  split at hf
  case h_3 => cases hf
  · rename_i hx
    obtain ⟨x1, x2⟩ := opC_ok hp hops mx hx
    cases h0 : Nat.beq n 0 <;> simp only [h0, cond_true, cond_false] at hf
    · cases hf
    · have h0 := Nat.eq_of_beq_eq_true h0
      subst h0
      cases hf
      exact ⟨_, w, ρ, hexec _ _ x2 y2 _ _ (Lib.run_unsafeString_none w pt it o.type none), Turn.refl hm, rfl, fun _ h => nomatch h⟩
  · rename_i b o1 hx
    obtain ⟨x1, x2⟩ := opC_ok hp hops mx hx
    cases h0 : Nat.beq n 0 <;> simp only [h0, cond_true, cond_false] at hf
    · have hn0 := Nat.ne_of_beq_eq_false h0
      cases hq : Nat.beq o1 0 && Nat.ble n 65536 <;> simp only [hq, cond_true, cond_false] at hf
      · cases hf
      rw [Bool.and_eq_true, Nat.ble_eq] at hq
      obtain ⟨ho1, hn⟩ := hq
      have ho1 := Nat.eq_of_beq_eq_true ho1
      subst ho1
      split at hf
      case h_2 => cases hf
      rename_i ty q k d t hb
      cases hte : Nat.beq ty e <;> simp only [hte, cond_true, cond_false] at hf
      · cases hf
      have hte := Nat.eq_of_beq_eq_true hte
      subst hte
      split at hf
      case h_2 => cases hf
      rename_i xs hxs
      split at hf
      case h_2 => cases hf
      rename_i ts hts
      rw [Tri.putK_eq] at hf
      cases hf
      obtain ⟨cs, g1, g2, g3, g4, g5⟩ := hm.mem b _ x1 hb
      obtain ⟨p1, p2, p3⟩ := rdCells_val g5 (Nat.pos_of_ne_zero hn0) hxs
      obtain ⟨t1, t2⟩ := bytesC_ok hp ρ hts
      have hlen : (ubs E ts).length = n := by
        rw [← (rdCells_ok hxs).1]
        have := congrArg List.length t2
        simp only [List.length_map] at this
        rw [this]; simp [ubs]
      have hrun := Lib.run_unsafeString_row (P := P) w pt it o.type ty hpt hce (ρ b).g cs.size (by simp [World.shape?, g1]) (ubs E ts) (fun h => hn0 (by rw [← hlen, h]; rfl)) (by rw [hlen]; omega) (by rw [hlen]; omega) (fun j u hj => by
        rw [addr_add, Nat.zero_add, cell_of_row w _ _ cs _ _ g1]
        have hjl : j < xs.length := by
          have := (List.getElem?_eq_some_iff.1 hj).1
          rw [hlen] at this; rw [(rdCells_ok hxs).1]; exact this
        have h5 := (g5 _ _ ((rdCells_ok hxs).2 j xs[j] (List.getElem?_eq_getElem hjl))).2
        rw [Nat.zero_add] at h5
        rw [h5]
        have h6 : (xs.map (C.val E ρ))[j]? = some (xs[j].val E ρ) := by rw [List.getElem?_map, List.getElem?_eq_getElem hjl]; rfl
        rw [t2, ubs_val t1, List.getElem?_map, hj] at h6
        exact h6.symm)
      rw [hlen] at hrun
      have hfz : (w.freeze ⟨(ρ b).g, 0, none⟩ n).heap[(ρ b).g]? = some (.cells cs ty (0, 0)) ∨ ∃ fz, (w.freeze ⟨(ρ b).g, 0, none⟩ n).heap[(ρ b).g]? = some (.cells cs ty fz) := by
        unfold World.freeze
        split
        · exact .inl g1
        · right
          simp only [Array.getElem?_modify, if_true, g1, Option.map_some]
          exact ⟨_, rfl⟩
      have hfz2 : ∃ fz, (w.freeze ⟨(ρ b).g, 0, none⟩ n).heap[(ρ b).g]? = some (.cells cs ty fz) := hfz.elim (fun h => ⟨_, h⟩) id
      obtain ⟨fz, hfz3⟩ := hfz2
      have hfrz : ∀ k, k ≠ (ρ b).g → (w.freeze ⟨(ρ b).g, 0, none⟩ n).heap[k]? = w.heap[k]? := by
        intro k hk
        unfold World.freeze
        split
        · rfl
        · simp only [Array.getElem?_modify]
          rw [if_neg (fun e => hk e.symm)]
      have hfrs : w.heap.size ≤ (w.freeze ⟨(ρ b).g, 0, none⟩ n).heap.size ∧ (w.freeze ⟨(ρ b).g, 0, none⟩ n).os = w.os ∧ (w.freeze ⟨(ρ b).g, 0, none⟩ n).tape = w.tape ∧ (w.freeze ⟨(ρ b).g, 0, none⟩ n).output = w.output := by
        unfold World.freeze
        split
        · exact ⟨Nat.le_refl _, rfl, rfl, rfl⟩
        · exact ⟨by simp, rfl, rfl, rfl⟩
      refine ⟨_, w.freeze ⟨(ρ b).g, 0, none⟩ n, ρ, hexec _ _ x2 y2 _ _ hrun, hm.set (x := .ro 0 .e) x1 hb (ob := .cells cs ty fz) ⟨cs, ty, fz, rfl, fun i y hy => by rw [cellAt_e] at hy; split at hy <;> cases hy⟩ nx hfz3 hfrz hfrs.1 hfrs.2.1 hfrs.2.2.1 hfrs.2.2.2, rfl, t1⟩
    · have h0 := Nat.eq_of_beq_eq_true h0
      subst h0
      cases hf
      exact ⟨_, w, ρ, hexec _ _ x2 y2 _ _ (Lib.run_unsafeString_none w pt it o.type _), Turn.refl hm, rfl, fun _ h => nomatch h⟩
/-! a string's bytes appended, copied -/
theorem strCells_ubs {E : Env} {ts : List T} {b : ByteArray} (hb : b.data.toList = ts.map fun t => byteOf (t.den E)) (ht : ∀ t ∈ ts, 0 ≤ t.den E ∧ t.den E ≤ 255) (ρ : Pt → Rb) : Lib.strCells b = (ts.map fun t => C.int .u8 t).map (C.val E ρ) := by
  unfold Lib.strCells
  rw [hb, List.map_map, List.map_map]
  exact List.map_congr_left fun t h => by simp only [Function.comp_apply, C.val, byteOf_val (ht t h)]
theorem run_copy_str (w : World) (dT sT ty elem : TypeId) (g o dLen dCap : Nat) (s : ByteArray) (cur : Array Value) (t : TypeId)
    (hu : P.underlying dT = some (.slice elem)) (hs : (P.info? elem).map (·.size) = some 1)
    (hg : w.heap[g]? = some (.cells cur t (0, 0))) (hn : s.size ≤ dLen) (hfit : o + s.size ≤ cur.size) :
    (Builtin.copy_ #[dT, sT] ty #[.slice (some ⟨g, o, none⟩) dLen dCap, .string s]).run P w =
      .ok (goInt s.size) (w.setRow g (cur.toList.take o ++ Lib.strCells s ++ cur.toList.drop (o + s.size)).toArray) := by
  have hf := Lib.run_firstCells_string (P := P) w 1 s
  have hl := Lib.strCells_length s
  have hst := run_storeCells_at P g o t (Lib.strCells s) 0 cur w hg (by rw [hl]; simpa using hfit) (Lib.strCells_oneCell s)
  rw [hl] at hst
  have hmin : min s.size dLen = s.size := Nat.min_eq_left hn
  cases hq : P.info? elem with
  | none => simp [hq] at hs
  | some i =>
    have hi : i.size = 1 := by simpa [hq] using hs
    simp [Builtin.copy_, run_underlying hu, Builtin.lenOf, sizeOf, typeInfo, hq, hi, Nat.min_def, hn, hf, hst]
def evCopyS (x y : Operand) (pc : Pc) (s : Tri L) (m : Tri B) (nx : Pt) : Option (Option L × Tri B × Pt) := match opC pc s y with
  | some (.str l) => match opC pc s x with
    | some (.slc b off len _) => bif Nat.ble l.length len then match m.get b with
      | some (.cells ty n kk d t) => bif Nat.ble (Nat.add off l.length) n then putsK (l.map fun t => C.int .u8 t) t off fun t => m.putK b (some (.cells ty n kk d t)) fun m => some (some (.a (.c (.int .i64 (.lit (.ofNat l.length))))), m, nx) else none
      | _ => none
      else none
    | _ => none
  | _ => none
theorem evCopyS_mono (x y : Operand) : EffMono (evCopyS x y) := by
  intro pc s m nx l m' nx' h
  simp only [evCopyS, putsK_eq, Tri.putK_eq, cond_eq_ite] at h
  repeat' split at h
  all_goals first | (cases h; done) | (cases h; exact Nat.le_refl _)
theorem setRow_cells {E : Env} {ρ : Pt → Rb} {D : Pt → Prop} {n off : Nat} {d : List C} {t : Tri C} {ys : List C} {cs : Array Value} (g5 : ∀ i x, cellAt n d t i = some x → x.ok E ρ D ∧ cs[i]? = some (x.val E ρ)) (hys : ∀ y ∈ ys, y.ok E ρ D) (hle : off + ys.length ≤ cs.size) {i : Nat} {z : C} (hz : cellAt n d (puts ys t off) i = some z) :
    z.ok E ρ D ∧ ((cs.toList.take off ++ ys.map (C.val E ρ) ++ cs.toList.drop (off + ys.length)).toArray)[i]? = some (z.val E ρ) := by
  simp only [List.getElem?_toArray]
  have htl : (cs.toList.take off).length = off := by rw [List.length_take, Array.length_toList]; omega
  have hl : (ys.map (C.val E ρ)).length = ys.length := List.length_map _
  rcases cellAt_puts hz with ⟨z1, z2, z3⟩ | ⟨z1, z2⟩
  · refine ⟨hys z (List.mem_of_getElem? z3), ?_⟩
    rw [List.getElem?_append_left (by rw [List.length_append, htl, hl]; omega), List.getElem?_append_right (by omega), htl, List.getElem?_map, z3]; rfl
  · obtain ⟨p1, p2⟩ := g5 i z z2
    refine ⟨p1, ?_⟩
    by_cases hi : i < off
    · rw [List.getElem?_append_left (by rw [List.length_append, htl, hl]; omega), List.getElem?_append_left (by omega), List.getElem?_take, if_pos hi]
      simpa using p2
    · rw [List.getElem?_append_right (by rw [List.length_append, htl, hl]; omega), List.getElem?_drop, List.length_append, htl, hl]
      rw [show off + ys.length + (i - (off + ys.length)) = i by omega]
      simpa using p2
theorem evCopyS_ok {c : Call} (ho : o.op = .call c) (hcal : c.callee = .builtin .copy) {x y : Operand} (hargs : c.args.toList = [x, y]) {t t' e : TypeId} (hty : c.argTypes.toList = [t, t']) (hu : P.underlying t = some (.slice e)) (hsz : (P.info? e).map (·.size) = some 1) : EffOk P pc o (evCopyS x y pc) := by
  intro s m nx l m' nx' hf E ρ D ev w hp hops hm hfr
  have mx : x ∈ o.op.operands.toList := mem_args ho (by rw [hargs]; simp)
  have my : y ∈ o.op.operands.toList := mem_args ho (by rw [hargs]; simp)
  have hexec : ∀ v1 v2, ev x = v1 → ev y = v2 → ∀ v' w', (Builtin.copy_ #[t, t'] o.type #[v1, v2]).run P w = .ok v' w' → (execOp ev o).run P w = .ok (.value v') w' := by
    intro v1 v2 h1 h2 v' w' hrun
    have e2 : c.argTypes = #[t, t'] := by apply Array.ext'; simpa using hty
    simp only [execOp, ho, resolve, invoke, builtin, hcal, args2 hargs, e2, Sem.run_bind, Sem.run_pure, Result.andThen_ok, List.map_toArray, List.map_cons, List.map_nil, h1, h2, hrun]
  unfold evCopyS at hf
  split at hf
  case h_2 => cases hf
  rename_i ts hy
  obtain ⟨y1, y2⟩ := opC_ok hp hops my hy
  split at hf
  case h_2 => cases hf
  rename_i b off len cp hx
  obtain ⟨x1, x2⟩ := opC_ok hp hops mx hx
  cases hle : Nat.ble ts.length len <;> simp only [hle, cond_true, cond_false] at hf
  · cases hf
  rw [Nat.ble_eq] at hle
  split at hf
  case h_2 => cases hf
  rename_i ty n kk d tt hb
  cases hfit : Nat.ble (Nat.add off ts.length) n <;> simp only [hfit, cond_true, cond_false] at hf
  · cases hf
  rw [Nat.ble_eq] at hfit
  change off + ts.length ≤ n at hfit
  rw [putsK_eq, Tri.putK_eq] at hf
  cases hf
  obtain ⟨cs, g1, g2, g3, g4, g5⟩ := hm.mem b _ x1.1 hb
  obtain ⟨bs, e1, e2⟩ := strOf_data E ts
  have hsz2 : bs.size = ts.length := by
    have := congrArg List.length e2
    rw [List.length_map, Array.length_toList] at this
    exact this
  have hsc := strCells_ubs e2 y1 ρ
  have hrun := run_copy_str (P := P) w t t' o.type e (ρ b).g off len (cp.val (ρ b).z) bs cs ty hu hsz g1 (by rw [hsz2]; exact hle) (by rw [hsz2]; omega)
  rw [hsc, hsz2] at hrun
  have hyl : (ts.map fun t => C.int .u8 t).length = ts.length := List.length_map _
  refine ⟨_, w.setRow (ρ b).g (cs.toList.take off ++ (ts.map fun t => C.int .u8 t).map (C.val E ρ) ++ cs.toList.drop (off + ts.length)).toArray, ρ, hexec _ _ x2 (by rw [y2]; simp only [C.val]; exact e1) _ _ hrun, ?_, rfl, trivial⟩
  refine hm.set (x := .cells ty n kk d (puts (ts.map fun t => C.int .u8 t) tt off)) (ob := .cells (cs.toList.take off ++ (ts.map fun t => C.int .u8 t).map (C.val E ρ) ++ cs.toList.drop (off + ts.length)).toArray ty (0, 0)) x1.1 hb ⟨_, rfl, ?_, g3, g4, fun i z hz' => ?_⟩ nx (setRow_heap w _ cs _ ty _ g1) (fun k hk => setRow_other w _ k _ hk) (by simp) rfl rfl rfl
  · simp only [List.size_toArray, List.length_append, List.length_take, List.length_drop, Array.length_toList, List.length_map]; omega
  · have := setRow_cells (off := off) g5 (ys := ts.map fun t => C.int .u8 t) (fun y hy => by obtain ⟨t, _, rfl⟩ := List.mem_map.1 hy; trivial) (by rw [hyl]; omega) hz'
    rw [hyl] at this
    exact this
/-- 'append' of a string onto a block's slice. -/
theorem run_app2S {w : World} {t u ty e : TypeId} {inf : TypeInfo} {zv : Value} (ht : P.underlying t = some (.slice e)) (hus : P.underlying u = some .string) (hi : P.info? e = some inf) (hz : inf.zero = some zv) (hsize : inf.size = 1) (hzs : zv.cells.size = 1)
    {n cap g : Nat} {cur : Array Value} {s : ByteArray} (hn : n ≤ cap) (hcm : cap ≤ maxLen)
    (hg : w.heap[g]? = some (.cells cur e (0, 0))) (hs : cur.size = cap)
    (hb : (n + s.size) * inf.bytes ≤ 140737488355328) (h63 : n + s.size ≤ 4611686018427387904) :
    ∃ g' cap' cur' w', (Builtin.append_ #[t, u] ty #[.slice (some ⟨g, 0, none⟩) n cap, .string s]).run P w = .ok (.slice (some ⟨g', 0, none⟩) (n + s.size) cap') w' ∧
      n + s.size ≤ cap' ∧ cap' ≤ maxLen ∧ w'.heap[g']? = some (.cells cur' e (0, 0)) ∧ cur'.size = cap' ∧ cur'.toList.take (n + s.size) = cur.toList.take n ++ Lib.strCells s ∧
      ((w.heap.size ≤ g' ∧ w.grownBy w' none) ∨ (g' = g ∧ w.grownBy w' (some g))) := by
  have hml : n + s.size ≤ maxLen := by simp only [maxLen]; omega
  have hlo : (cur.toList.take n).length = n := by rw [List.length_take, Array.length_toList]; omega
  have hl := Lib.strCells_length s
  by_cases hroom : n + s.size ≤ cap
  · have hr := Lib.run_append_room_string (P := P) w t u ty e inf ht hus hi hsize g n cap cur hg s hroom (by omega)
    refine ⟨g, cap, _, _, hr, hroom, hcm, setRow_heap w g cur _ e _ hg, ?_, ?_, .inr ⟨rfl, ⟨rfl, rfl, rfl, by simp, fun k _ hk => setRow_other w g k _ (fun e => hk (by rw [e]))⟩⟩⟩
    · simp only [List.size_toArray, List.length_append, List.length_take, List.length_drop, Array.length_toList, hl]
      omega
    · have hlen : (cur.toList.take n ++ Lib.strCells s).length = n + s.size := by rw [List.length_append, hlo, hl]
      rw [← hlen]
      exact List.take_left
  · have holds : ∀ j v, (cur.toList.take n)[j]? = some v → w.cell? ((⟨g, 0, none⟩ : Addr).add j) = some v := by
      intro j v hj
      rw [addr_add, Nat.zero_add, cell_of_row w g j cur e (0, 0) hg]
      rw [List.getElem?_take] at hj
      split at hj
      · simpa using hj
      · cases hj
    have hr := Lib.run_append_grow_string (P := P) w t u ty e inf zv ht hus hi hz ⟨g, 0, none⟩ n cap _ (by rw [hlo, hsize, Nat.mul_one]) holds s (by omega) (by omega) (growslice_fits (by omega) hb)
    have hge := grownCap_ge w (n + s.size) cap e
    have hcm' : grownCap w (n + s.size) cap e ≤ maxLen := grownCap_le_maxLen w (n + s.size) cap e hml
    have hlen : (cur.toList.take n ++ Lib.strCells s).length = n + s.size := by rw [List.length_append, hlo, hl]
    have harr : (cur.toList.take n).toArray ++ (Lib.strCells s).toArray = (cur.toList.take n ++ Lib.strCells s).toArray := by simp
    refine ⟨_, _, _, _, hr, hge, hcm', heap_alloc_new w.drew _, ?_, ?_, .inl ⟨Nat.le_refl _, ⟨rfl, rfl, rfl, by simp, fun k hk _ => heap_alloc_old w.drew _ hk⟩⟩⟩
    · rw [harr]
      simp only [Array.size_append, List.size_toArray, size_zeroCells, hzs, hlen, Nat.mul_one]
      omega
    · rw [harr]
      simp only [Array.toList_append]
      rw [← hlen]
      exact List.take_left
def evAppS (e : TypeId) (x y : Operand) (pc : Pc) (s : Tri L) (m : Tri B) (nx : Pt) : Option (Option L × Tri B × Pt) := match opC pc s y with
  | some (.str l) => match opC pc s x with
    | some .nils => bif Nat.beq l.length 0 then none else bif Nat.ble l.length 65536 then putsK (l.map fun t => C.int .u8 t) .e 0 fun t => m.putK nx (some (.cells e l.length false [] t)) fun m => nx.sucK fun nx' => some (some (.a (.c (.slc nx 0 l.length (.r 1 0)))), m, nx') else none
    | some (.slc b o n (.r 1 0)) => bif Nat.beq o 0 && Nat.ble (Nat.add n l.length) 65536 then match m.get b with
      | some (.cells ty q _ d t) => bif Nat.beq ty e && Nat.ble n q then putsK (l.map fun t => C.int .u8 t) t n fun t => m.putK b none fun m => m.putK nx (some (.cells e (Nat.add n l.length) false d t)) fun m => nx.sucK fun nx' => some (some (.a (.c (.slc nx 0 (Nat.add n l.length) (.r 1 0)))), m, nx') else none
      | _ => none
      else none
    | _ => none
  | _ => none
theorem evAppS_mono (e : TypeId) (x y : Operand) : EffMono (evAppS e x y) := by
  intro pc s m nx l m' nx' h
  simp only [evAppS, putsK_eq, Tri.putK_eq, Pt.sucK_eq, cond_eq_ite] at h
  repeat' split at h
  all_goals first | (cases h; done) | (cases h; exact Nat.le_refl _) | (cases h; rw [Pt.succ_num]; omega)
theorem evAppS_ok {c : Call} (ho : o.op = .call c) (hcal : c.callee = .builtin .append) {x y : Operand} (hargs : c.args.toList = [x, y]) {t u e : TypeId} (hty : c.argTypes.toList = [t, u]) (hu : P.underlying t = some (.slice e)) (hus : P.underlying u = some .string) {inf : TypeInfo} (hinf : P.info? e = some inf) {zv : Value} (hz : inf.zero = some zv) (hsize : inf.size = 1) (hzs : zv.cells.size = 1) (hby : inf.bytes ≤ 65536) : EffOk P pc o (evAppS e x y pc) := by
  intro s m nx l m' nx' hf E ρ D ev w hp hops hm hfr
  have mx : x ∈ o.op.operands.toList := mem_args ho (by rw [hargs]; simp)
  have my : y ∈ o.op.operands.toList := mem_args ho (by rw [hargs]; simp)
  have hexec : ∀ v1 v2, ev x = v1 → ev y = v2 → ∀ v' w', (Builtin.append_ #[t, u] o.type #[v1, v2]).run P w = .ok v' w' → (execOp ev o).run P w = .ok (.value v') w' := by
    intro v1 v2 h1 h2 v' w' hrun
    have e2 : c.argTypes = #[t, u] := by apply Array.ext'; simpa using hty
    simp only [execOp, ho, resolve, invoke, builtin, hcal, args2 hargs, e2, Sem.run_bind, Sem.run_pure, Result.andThen_ok, List.map_toArray, List.map_cons, List.map_nil, h1, h2, hrun]
  unfold evAppS at hf
  split at hf
  case h_2 => cases hf
  rename_i ts hy
  obtain ⟨y1, y2⟩ := opC_ok hp hops my hy
  obtain ⟨bs, e1, e2⟩ := strOf_data E ts
  have hsz2 : bs.size = ts.length := by
    have := congrArg List.length e2
    rw [List.length_map, Array.length_toList] at this
    exact this
  have hsc := strCells_ubs e2 y1 ρ
  have hyl : (ts.map fun t => C.int .u8 t).length = ts.length := List.length_map _
  have hyok : ∀ y ∈ ts.map (fun t => C.int .u8 t), y.ok E ρ D := fun y hy => by obtain ⟨t, _, rfl⟩ := List.mem_map.1 hy; trivial
  have y2' : ev y = .string bs := by rw [y2]; exact e1
  split at hf
  case h_3 => cases hf
  · rename_i hx
    obtain ⟨x1, x2⟩ := opC_ok hp hops mx hx
    cases h0 : Nat.beq ts.length 0 <;> simp only [h0, cond_true, cond_false] at hf
    case true => cases hf
    have h0 := Nat.ne_of_beq_eq_false h0
    cases hle : Nat.ble ts.length 65536 <;> simp only [hle, cond_true, cond_false] at hf
    · cases hf
    rw [Nat.ble_eq] at hle
    rw [putsK_eq, Tri.putK_eq, Pt.sucK_eq] at hf
    cases hf
    have hnx : ¬ D nx := hfr nx ((rg_succ _ _).2 rfl)
    have hb47 : bs.size * inf.bytes ≤ 281474976710656 := by
      have : bs.size * inf.bytes ≤ 65536 * 65536 := Nat.mul_le_mul (by omega) hby
      omega
    have hrun := run_append_nil_string (P := P) w t u o.type e inf zv hu hus hinf hz bs (by omega) (by omega) hb47
    have hge := grownCap_ge w bs.size 0 e
    have hcml := grownCap_le_maxLen w bs.size 0 e (by simp only [maxLen]; omega)
    have e3 : (bs.data.map fun b => Value.int .u8 b.toNat) = (Lib.strCells bs).toArray := by
      apply Array.ext'
      simp [Lib.strCells]
    rw [e3] at hrun
    generalize hcap : grownCap w bs.size 0 e = cap at *
    have hcs : ((Lib.strCells bs).toArray ++ Builtin.zeroCells zv.cells (cap - bs.size)).size = cap * 1 := by
      simp only [Array.size_append, List.size_toArray, size_zeroCells, hzs, Lib.strCells_length]; omega
    obtain ⟨q1, q2, q3⟩ := app_new (e := e) (sz := 1) (n := ts.length) (cap := cap) (t := puts (ts.map fun t => C.int .u8 t) .e 0) hm hnx (by omega) hcs (by omega) hcml fun i z hz' => by
      rw [Nat.mul_one] at hz'
      have := cellAt_list hz'
      refine ⟨hyok z (List.mem_of_getElem? this), ?_⟩
      have hi := (List.getElem?_eq_some_iff.1 this).1
      rw [hyl] at hi
      rw [Array.getElem?_append_left (by simp [Lib.strCells_length]; omega), hsc, List.getElem?_toArray, List.getElem?_map, this]; rfl
    rw [Nat.mul_one] at q1 q2 q3
    simp only [Nat.mul_one] at q1
    refine ⟨_, _, _, hexec _ _ x2 y2' _ _ hrun, q1, ?_, q2⟩
    simp only [L.val, A.val]; rw [hsz2]; exact congrArg _ q3.symm
  · rename_i b o1 n hx
    obtain ⟨x1, x2⟩ := opC_ok hp hops mx hx
    obtain ⟨hbD, hncap, hfit⟩ := x1
    cases hq : Nat.beq o1 0 && Nat.ble (Nat.add n ts.length) 65536 <;> simp only [hq, cond_true, cond_false] at hf
    · cases hf
    rw [Bool.and_eq_true, Nat.ble_eq] at hq
    obtain ⟨hq1, hq2⟩ := hq
    have hq1 := Nat.eq_of_beq_eq_true hq1
    subst hq1
    change n + ts.length ≤ 65536 at hq2
    split at hf
    case h_2 => cases hf
    rename_i ty q kk dd tt hb
    cases hr : Nat.beq ty e && Nat.ble n q <;> simp only [hr, cond_true, cond_false] at hf
    · cases hf
    rw [Bool.and_eq_true, Nat.ble_eq] at hr
    obtain ⟨hr1, hr2⟩ := hr
    have hr1 := Nat.eq_of_beq_eq_true hr1
    subst hr1
    rw [putsK_eq, Tri.putK_eq, Tri.putK_eq, Pt.sucK_eq] at hf
    cases hf
    have hnx : ¬ D nx := hfr nx ((rg_succ _ _).2 rfl)
    obtain ⟨cs, g1, g2, g3, g4, g5⟩ := hm.mem b _ hbD hb
    simp only [Cp.val, Nat.div_one, Nat.sub_zero] at hncap
    simp only [Cp.fit, Nat.div_one, Nat.mul_one] at hfit
    have hb47 : (n + bs.size) * inf.bytes ≤ 140737488355328 := by
      have : (n + bs.size) * inf.bytes ≤ 65536 * 65536 := Nat.mul_le_mul (by omega) hby
      omega
    obtain ⟨g', cap', cur', w', hrun, q3, q4, q5, q6, q7, q8⟩ := run_app2S (P := P) (w := w) (ty := o.type) (s := bs) hu hus hinf hz hsize hzs hncap hfit.2 g1 g2 hb47 (by omega)
    rw [hsz2] at hrun q3 q7
    rw [hsc] at q7
    have ho : w'.os = w.os ∧ w'.tape = w.tape ∧ w'.output = w.output := by rcases q8 with ⟨_, q8⟩ | ⟨_, q8⟩ <;> exact ⟨q8.os, q8.tape, q8.output⟩
    have hrd : ∀ i, i < n + ts.length → cur'[i]? = (cs.toList.take n ++ (ts.map fun t => C.int .u8 t).map (C.val E ρ))[i]? := by
      intro i hi
      rw [← q7, List.getElem?_take, if_pos hi]; simp
    have htl : (cs.toList.take n).length = n := by rw [List.length_take, Array.length_toList]; omega
    have key : ∀ i z, cellAt (n + ts.length) dd (puts (ts.map fun t => C.int .u8 t) tt n) i = some z → z.ok E ρ D ∧ cur'[i]? = some (z.val E ρ) := by
      intro i z hz'
      have hi := cellAt_lt hz'
      rw [hrd i hi]
      rcases cellAt_puts hz' with ⟨z1, z2, z3⟩ | ⟨z1, z2⟩
      · refine ⟨hyok z (List.mem_of_getElem? z3), ?_⟩
        rw [List.getElem?_append_right (by omega), htl, List.getElem?_map, z3]; rfl
      · rw [hyl] at z1
        have hin : i < n := by omega
        obtain ⟨p1, p2⟩ := g5 i z (cellAt_to z2 (by omega))
        refine ⟨p1, ?_⟩
        rw [List.getElem?_append_left (by omega), List.getElem?_take, if_pos hin]
        simpa using p2
    have hT := hm.grown (x := .cells ty (n + ts.length) false dd (puts (ts.map fun t => C.int .u8 t) tt n)) (z := cap') hbD ⟨_, hb⟩ hnx (g' := g') (w' := w') ⟨cur', q5, q6, q3, (fun h => by cases h), fun i z hz' => by
      obtain ⟨h1, h2⟩ := key i z hz'
      obtain ⟨h3, h4⟩ := z.grow (grow_upd hnx ⟨g', cap'⟩ (Rg nx nx.succ)) h1
      exact ⟨h3, by rw [h2, h4]⟩⟩ (q8.elim .inl fun h => .inr ⟨h.1, by rw [h.1]; exact h.2⟩) ho.1 ho.2.1 ho.2.2
    refine ⟨_, w', _, hexec _ _ (x2.trans (by simp only [C.val, Cp.val, Nat.div_one, Nat.sub_zero])) y2' _ _ hrun, hT, ?_, ?_⟩
    · simp only [L.val, A.val, C.val, upd_same, Cp.val, Nat.div_one, Nat.sub_zero]; rfl
    · refine ⟨.inr ((rg_succ _ _).2 rfl), ?_, ?_⟩
      · simp only [Cp.val, upd_same, Nat.div_one, Nat.sub_zero]; exact q3
      · simp only [Cp.fit, upd_same, Nat.div_one, Nat.mul_one]; exact ⟨trivial, q4⟩
/-- 'append(nil, make(..)...)'. -/
def evAppZ (e : TypeId) (sz : Nat) (z : List C) (x y : Operand) (pc : Pc) (s : Tri L) (m : Tri B) (nx : Pt) : Option (Option L × Tri B × Pt) := match opC pc s y with
  | some (.int _ (.lit (.ofNat n))) => match opC pc s x with
    | some .nils => bif Nat.beq n 0 then some (some (.a (.c .nils)), m, nx) else bif Nat.ble n 65536 then m.putK nx (some (.cells e (Nat.mul n sz) false z .e)) fun m => nx.sucK fun nx' => some (some (.a (.c (.slc nx 0 n (.r sz 0)))), m, nx') else none
    | _ => none
  | _ => none
theorem evAppZ_mono (e : TypeId) (sz : Nat) (z : List C) (x y : Operand) : EffMono (evAppZ e sz z x y) := by
  intro pc s m nx l m' nx' h
  simp only [evAppZ, Tri.putK_eq, Pt.sucK_eq, cond_eq_ite] at h
  repeat' split at h
  all_goals first | (cases h; done) | (cases h; exact Nat.le_refl _) | (cases h; rw [Pt.succ_num]; omega)
theorem evAppZ_ok {c : Call} (ho : o.op = .call c) (hcal : c.callee = .builtin .append) {x y : Operand} (hargs : c.args.toList = [x, y]) {t ti e : TypeId} (hty : c.argTypes.toList = [t, ti]) (hu : P.underlying t = some (.slice e)) {ik : IntKind} (hui : P.underlying ti = some (.int ik)) {inf : TypeInfo} (hinf : P.info? e = some inf) {z : List C} (hz : zeroOf P e = some z) (hzl : z.length = inf.size) (hpos : 0 < inf.size) (hby : inf.bytes ≤ 65536) : EffOk P pc o (evAppZ e inf.size z x y pc) := by
  intro s m nx l m' nx' hf E ρ D ev w hp hops hm hfr
  have mx : x ∈ o.op.operands.toList := mem_args ho (by rw [hargs]; simp)
  have my : y ∈ o.op.operands.toList := mem_args ho (by rw [hargs]; simp)
  unfold evAppZ at hf
  split at hf
  case h_2 => cases hf
  rename_i kk n hy
  obtain ⟨y1, y2⟩ := opC_ok hp hops my hy
  change ev y = .int kk (n : Int) at y2
  split at hf
  case h_2 => cases hf
  rename_i hx
  obtain ⟨x1, x2⟩ := opC_ok hp hops mx hx
  change ev x = .slice none 0 0 at x2
  obtain ⟨inf', zv, i1, i2, i3⟩ := zeroOf_info hz
  rw [hinf] at i1
  cases i1
  have hzs : zv.cells.size = inf.size := by rw [(i3 E ρ D).2]; simp [hzl]
  have e1 : c.args = #[x, y] := by apply Array.ext'; simpa using hargs
  have e2 : c.argTypes = #[t, ti] := by apply Array.ext'; simpa using hty
  cases h0 : Nat.beq n 0 <;> simp only [h0, cond_true, cond_false] at hf
  case true =>
    have h0 := Nat.eq_of_beq_eq_true h0
    subst h0
    cases hf
    refine ⟨_, w, ρ, ?_, Turn.refl hm, rfl, trivial⟩
    have w1 : IntKind.i64.wrap (0 : Int) = 0 := rfl
    simp [execOp, ho, resolve, invoke, builtin, hcal, e1, e2, Builtin.append_, run_underlying hu, run_underlying hui, sizeOf, typeInfo, zeroValue, hinf, i2, x2, y2, asInt, asIntOf, w1, L.val, A.val, C.val]
  have h0 := Nat.ne_of_beq_eq_false h0
  cases hle : Nat.ble n 65536 <;> simp only [hle, cond_true, cond_false] at hf
  · cases hf
  rw [Nat.ble_eq] at hle
  rw [Tri.putK_eq, Pt.sucK_eq] at hf
  cases hf
  have hnx : ¬ D nx := hfr nx ((rg_succ _ _).2 rfl)
  obtain ⟨N, hN⟩ : ∃ N, N = grownCap w n 0 e := ⟨_, rfl⟩
  have hge : n ≤ N := hN ▸ grownCap_ge w n 0 e
  have hcm' : N ≤ maxLen := hN ▸ grownCap_le_maxLen w n 0 e (by simp only [maxLen]; omega)
  obtain ⟨cur', hcur⟩ : ∃ cur', cur' = Builtin.zeroCells zv.cells n ++ Builtin.zeroCells zv.cells (N - n) := ⟨_, rfl⟩
  have hrun : (execOp ev o).run P w = .ok (.value (.slice (some ⟨w.heap.size, 0, none⟩) n N)) (w.drew.alloc (.cells cur' e)) := by
    have w1 : IntKind.i64.wrap (n : Int) = n := IntWalk.i64_in n (by omega)
    have c1 : ¬ ((n : Int) < 0) := by omega
    have hnb : n * inf.bytes ≤ 65536 * 65536 := Nat.mul_le_mul hle hby
    have c2 : ¬ ((281474976710656 : Int) < n * inf.bytes) := by
      have : ((n * inf.bytes : Nat) : Int) = (n : Int) * inf.bytes := by simp
      omega
    have c3 : ¬ n = 0 := by omega
    have c4 : ¬ inf.size = 0 := by omega
    have c5 : ¬ (9223372036854775807 < (n : Int)) := by omega
    have c6 : ¬ (281474976710656 < Builtin.nextslicecap n 0 * inf.bytes) := by rw [nextslicecap_zero (by omega)]; omega
    simp [execOp, ho, resolve, invoke, builtin, hcal, e1, e2, Builtin.append_, run_underlying hu, run_underlying hui, sizeOf, typeInfo, zeroValue, hinf, i2, x2, y2, asInt, asIntOf, w1, c1, c2, c3, c5, c6, Question.forced, run_firstCells_none, newRow, hN, grownCap]
    have c7 : ¬ n * inf.size = 0 := Nat.ne_of_gt (Nat.mul_pos (by omega) (by omega))
    rw [hcur, hN, if_neg c7]; rfl
  have hsz1 : (Builtin.zeroCells zv.cells n).size = n * inf.size := by rw [size_zeroCells, hzs]
  have hcs : cur'.size = N * inf.size := by
    rw [hcur, Array.size_append, size_zeroCells, size_zeroCells, hzs, ← Nat.add_mul]
    congr 1; omega
  have hd : N * inf.size / inf.size = N := Nat.mul_div_cancel _ hpos
  refine ⟨_, _, upd ρ nx ⟨w.heap.size, N * inf.size⟩, hrun, (hm.drew.alloc (z := N * inf.size) (x := .cells e (n * inf.size) false z .e) (ob := .cells cur' e) hnx ⟨cur', rfl, hcs, Nat.mul_le_mul_right _ hge, fun h => by simp at h, fun i y hy => ?_⟩).undraw, ?_, ?_⟩
  · obtain ⟨z1, z2⟩ := i3 E (upd ρ nx ⟨w.heap.size, N * inf.size⟩) (Un D (Rg nx nx.succ))
    obtain ⟨q1, q2, q3, q4⟩ := cells_zero z1 hy
    refine ⟨q3, ?_⟩
    rw [hcur, Array.getElem?_append_left (by rw [hsz1]; exact q1)]
    have hlt' : i < n * zv.cells.size := by rw [hzs]; exact q1
    rw [← z2] at q4
    have hzl2 : z.length = zv.cells.size := by rw [hzl, hzs]
    rw [hzl2] at q4
    simp only [Builtin.zeroCells, Array.getElem?_map, Array.getElem?_range, hlt', if_true, Option.map_some, getElem!_def, q4]
    rfl
  · simp only [L.val, A.val, C.val, upd_same, Cp.val, hd, Nat.sub_zero]
  · refine ⟨.inr ((rg_succ _ _).2 rfl), ?_, ?_⟩
    · simp only [Cp.val, upd_same, hd]; omega
    · simp only [Cp.fit, upd_same, hd]; exact ⟨trivial, hcm'⟩
/-- Builtins. -/
def cBi2 (P : Program) (b : Builtin) (args : List Operand) (ts : List TypeId) : Cop := match b with
  | .unsafeSliceData => match args with
    | [x] => .pure fun pc => evSData pc x
    | _ => .bad
  | .unsafeString => match args, ts with
    | [x, y], [pt, _] => match undF P pt with
      | some (.pointer e) => bif Nat.beq (P.cellsOf e) 1 then .eff (evUStr e x y) else .bad
      | _ => .bad
    | _, _ => .bad
  | .append => match args, ts with
    | [x, y], [t, u] => match undF P u with
      | some .string => match undF P t with
        | some (.slice e) => match infoF P e with
          | some inf => match inf.zero with
            | some zv => bif Nat.beq zv.cells.size 1 && Nat.beq inf.size 1 && Nat.ble inf.bytes 65536 then .eff (evAppS e x y) else .bad
            | none => .bad
          | none => .bad
        | _ => .bad
      | some (.int _) => match undF P t with
        | some (.slice e) => match infoF P e with
          | some inf => match zeroOf P e with
            | some z => bif Nat.beq z.length inf.size && Nat.ble 1 inf.size && Nat.ble inf.bytes 65536 then .eff (evAppZ e inf.size z x y) else .bad
            | none => .bad
          | none => .bad
        | _ => .bad
      | _ => cBi P .append [x, y] [t, u]
    | args, ts => cBi P .append args ts
  | .copy => match args, ts with
    | [x, y], [t, u] => match undF P u with
      | some .string => match undF P t with
        | some (.slice e) => match (infoF P e).map (·.size) with
          | some 1 => .eff (evCopyS x y)
          | _ => .bad
        | _ => .bad
      | _ => cBi P .copy [x, y] [t, u]
    | args, ts => cBi P .copy args ts
  | b => cBi P b args ts
theorem cBi2_ok {c : Call} {b : Builtin} (ho : o.op = .call c) (hc : c.callee = .builtin b) : CopOk P o (cBi2 P b c.args.toList c.argTypes.toList) := by
  unfold cBi2
  split
  · split
    · rename_i x hargs; exact fun pc => evSData_ok ho hc hargs
    · trivial
  · split
    · rename_i x y pt it hargs hty
      rw [undF_eq]
      split
      · rename_i e hu
        cases h1 : Nat.beq (P.cellsOf e) 1 <;> simp only [cond_true, cond_false]
        · trivial
        · exact ⟨fun pc => evUStr_ok ho hc hargs hty hu (Nat.eq_of_beq_eq_true h1), evUStr_mono e x y⟩
      · trivial
    · trivial
  · split
    · rename_i x y t u hargs hty
      simp only [undF_eq, infoF_eq]
      split
      · rename_i hus
        split
        · rename_i e hu
          split
          · rename_i inf hinf
            split
            · rename_i zv hz
              cases hq : Nat.beq zv.cells.size 1 && Nat.beq inf.size 1 && Nat.ble inf.bytes 65536 <;> simp only [cond_true, cond_false]
              · trivial
              · simp only [Bool.and_eq_true, Nat.ble_eq, Nat.beq_eq] at hq
                exact ⟨fun pc => evAppS_ok ho hc hargs hty hu hus hinf hz hq.1.2 hq.1.1 hq.2, evAppS_mono _ _ _⟩
            · trivial
          · trivial
        · trivial
      · rename_i ik hui
        split
        · rename_i e hu
          split
          · rename_i inf hinf
            split
            · rename_i z hz
              cases hq : Nat.beq z.length inf.size && Nat.ble 1 inf.size && Nat.ble inf.bytes 65536 <;> simp only [cond_true, cond_false]
              · trivial
              · simp only [Bool.and_eq_true, Nat.ble_eq, Nat.beq_eq] at hq
                exact ⟨fun pc => evAppZ_ok ho hc hargs hty hu hui hinf hz hq.1.1 hq.1.2 hq.2, evAppZ_mono _ _ _ _ _⟩
            · trivial
          · trivial
        · trivial
      · rw [← hargs, ← hty]; exact cBi_ok ho hc
    · exact cBi_ok ho hc
  · split
    · rename_i x y t u hargs hty
      rw [undF_eq, undF_eq]
      split
      · rename_i hus
        split
        · rename_i e hu
          rw [infoF_eq]
          split
          · rename_i hs; exact ⟨fun pc => evCopyS_ok ho hc hargs hty hu hs, evCopyS_mono _ _⟩
          · trivial
        · trivial
      · rw [← hargs, ← hty]; exact cBi_ok ho hc
    · exact cBi_ok ho hc
  · exact cBi_ok ho hc
end
end Go.E3
