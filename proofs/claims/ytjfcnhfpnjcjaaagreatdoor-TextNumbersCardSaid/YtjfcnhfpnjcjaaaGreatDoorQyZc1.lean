/- Part Zc1 of a checked reader of Go texts in their model form: it runs a function at terms in the place of numbers, and each part proves that its answers hold of the model. -/
import Derived.Test.YtjfcnhfpnjcjaaaGreatDoorQyZb6
import Derived.Recover
namespace Go.E3
open Go.Sy
noncomputable section
variable {P : Program}

/-! calls that are deferred, panics that are caught -/
/-- A deferred call: of which function, with what. -/
structure Df where
  g : Nat
  as : List L
def DfOk (E : Env) (ρ : Pt → Rb) (D : Pt → Prop) (d : Df) (v : Deferred) : Prop :=
  ∃ cap, v.target = .fn (.func d.g) cap ∧ v.args ++ cap = (d.as.map (L.val E ρ)).toArray ∧ ∀ l ∈ d.as, l.ok E ρ D
inductive DfsOk (E : Env) (ρ : Pt → Rb) (D : Pt → Prop) : List Df → List Deferred → Prop
  | nil : DfsOk E ρ D [] []
  | cons {d : Df} {v : Deferred} {dl : List Df} {vs : List Deferred} : DfOk E ρ D d v → DfsOk E ρ D dl vs → DfsOk E ρ D (d :: dl) (v :: vs)
theorem DfOk.grow {E : Env} {ρ ρ' : Pt → Rb} {D D' : Pt → Prop} (g : Grow ρ D ρ' D') {d : Df} {v : Deferred} (h : DfOk E ρ D d v) : DfOk E ρ' D' d v := by
  obtain ⟨cap, h1, h2, h3⟩ := h
  refine ⟨cap, h1, h2.trans ?_, fun l hl => (l.grow g (h3 l hl)).1⟩
  congr 1
  exact List.map_congr_left fun l hl => (l.grow g (h3 l hl)).2.symm
theorem DfsOk.grow {E : Env} {ρ ρ' : Pt → Rb} {D D' : Pt → Prop} (g : Grow ρ D ρ' D') {dl : List Df} {vs : List Deferred} (h : DfsOk E ρ D dl vs) : DfsOk E ρ' D' dl vs := by
  induction h with
  | nil => exact .nil
  | cons h _ ih => exact .cons (h.grow g) ih
def evDf (pc : Pc) (s : Tri L) (c : Call) : Option Df := match c.callee with
  | .value f => match opC pc s f, rawAll s c.args.toList with
    | some (.fn g caps), some as => some ⟨g, as ++ caps.map fun x => .a (.c x)⟩
    | _, _ => none
  | _ => none
theorem evDf_ok {E : Env} {ρ : Pt → Rb} {D : Pt → Prop} {pc : Pc} {s : Tri L} {a : Act} (hp : pcOk E pc) {o : Oper} (h : OpsR E ρ D s a.eval o.op.operands.toList) {c : Call} (ho : o.op = .defer c) {d : Df} (hd : evDf pc s c = some d) (w : World) :
    ∃ v, (execOp a.eval o).run P w = .ok (.defer v) w ∧ DfOk E ρ D d v := by
  unfold evDf at hd
  split at hd
  · rename_i f hc
    split at hd
    · rename_i g caps as hf has
      cases hd
      have mem : ∀ x ∈ c.args.toList, x ∈ o.op.operands.toList := by
        intro x hx
        simp only [ho, Op.operands, Call.operands, hc]
        simp; exact .inr (by simpa using hx)
      obtain ⟨ha1, ha2⟩ := rawAll_ok h mem has
      obtain ⟨hf1, hf2⟩ := opC_ok hp h (by simp [ho, Op.operands, Call.operands, hc]) hf
      simp only [C.val, vals_map] at hf2
      refine ⟨⟨.fn (.func g) (caps.map (C.val E ρ)).toArray, c.args.map a.eval⟩, by simp [execOp, ho, resolve, hc, hf2, Deferred.ofValue], _, rfl, ?_, fun l hl => ?_⟩
      · apply Array.ext'
        rw [Array.toList_append, Array.toList_map, ha2]
        simp only [List.map_append, List.map_map]
        rfl
      · rcases List.mem_append.1 hl with hl | hl
        · exact ha1 l hl
        · obtain ⟨x, hx, rfl⟩ := List.mem_map.1 hl
          exact oks_iff.1 hf1 x hx
    · cases hd
  · cases hd

/-! along a body's spine -/
def dfrOp (ops : Array Oper) : Option (Oper × Call) := match ops[ops.size - 1]? with
  | some o => match o.op, o.guard with
    | .defer c, none => some (o, c)
    | _, _ => none
  | none => none
def evSp (P : Program) (run : Run) (pc : Pc) (N : Nat) : Nat → Code → List Df → Tri L → Tri B → Pt → Option (List Df × Out)
  | 0, c, D, s, m, nx => (exK P run pc N c s m nx).map fun x => (D, x)
  | n + 1, c, D, s, m, nx => match c with
    | .seq x y => match evSp P run pc N n x D s m nx with
      | some (D, ⟨.norm, s, m, nx⟩) => evSp P run pc N n y D s m nx
      | r => r
    | .region i ops b => match b, dfrOp ops with
      | false, some (o, c) => match exL run pc (compR P N ops ops.toList.dropLast) s m nx with
        | some ⟨.norm, s, m, nx⟩ => match evDf pc s c with
          | some d => bif dstIn N o then some (d :: D, ⟨.norm, putS o (.tup []) s, m, nx⟩) else none
          | none => none
        | some x => some (D, x)
        | none => none
      | _, _ => (exK P run pc N (.region i ops b) s m nx).map fun x => (D, x)
    | c => (exK P run pc N c s m nx).map fun x => (D, x)
def SpPost (E : Env) (ρ : Pt → Rb) (D : Pt → Prop) (N : Nat) (m : Tri B) (nx : Pt) (w : World) (Q : Exit → Act → World → Prop) (r : List Df × Out) : Prop :=
  ∀ ρ' a' w', Turn E ρ D m nx w ρ' r.2.m r.2.nx w' → AR E ρ' (Un D (Rg nx r.2.nx)) N r.2.s a' → DfsOk E ρ' (Un D (Rg nx r.2.nx)) r.1 a'.defers → r.2.e.post E ρ' (Un D (Rg nx r.2.nx)) Q a' w'
theorem SpPost.step {E : Env} {ρ ρ1 : Pt → Rb} {D : Pt → Prop} {N : Nat} {m m1 : Tri B} {nx nx1 : Pt} {w w1 : World} {Q : Exit → Act → World → Prop} {x : List Df × Out} (h : SpPost E ρ D N m nx w Q x) (hT : Turn E ρ D m nx w ρ1 m1 nx1 w1) (hle : nx1.num ≤ x.2.nx.num) :
    SpPost E ρ1 (Un D (Rg nx nx1)) N m1 nx1 w1 Q x := by
  intro ρ' a' w' hT' ha hd
  have e := un_rg (D := D) hT.le hle
  rw [e] at ha hd ⊢
  exact h ρ' a' w' (hT.trans hT') ha hd
theorem SpPost.then {E : Env} {ρ : Pt → Rb} {D : Pt → Prop} {N : Nat} {m : Tri B} {nx : Pt} {w : World} {Q : Exit → Act → World → Prop} {next : Act → World → Prop} {r : List Df × Out} (hx : r.2.e ≠ .norm) (h : SpPost E ρ D N m nx w Q r) : SpPost E ρ D N m nx w (Exit.then next Q) r := by
  intro ρ' a' w' hT ha hd
  have := h ρ' a' w' hT ha hd
  revert this hx
  cases r.2.e <;> intro hx h
  · exact (hx rfl).elim
  · exact h
  · exact h
  · exact h
/-- Operations from the 'k'th on, some of them. -/
theorem exL_some {run : Run} {pc : Pc} (hrun : CallOk P pc run) {N : Nat} {ops : Array Oper} {E : Env} (hp : pcOk E pc) {Q : Exit → Act → World → Prop} {ds : List Deferred} : ∀ {os : List Oper} {k : Nat} {s : Tri L} {m : Tri B} {nx : Pt} {x : Out}, exL run pc (compR P N ops os) s m nx = some x → (∀ j, j < os.length → ops[k + j]? = os[j]?) →
    ∀ {ρ : Pt → Rb} {D : Pt → Prop} {a : Act} {w : World}, AR E ρ D N s a → a.defers = ds → MR E ρ D m w → (∀ b, Rg nx x.nx b → ¬ D b) → x.post E ρ D N ds m nx w Q → wpOps P ops Q (List.range' k os.length) a w := by
  intro os
  induction os with
  | nil =>
    intro k s m nx x h hk ρ D a w ha hd hm hfr hpost
    cases h
    exact hpost ρ a w (Turn.refl hm) (by rw [un_self]; exact ha) hd
  | cons o os ih =>
    intro k s m nx x h hk ρ D a w ha hd hm hfr hpost
    change (match exO run pc (cO P N ops o) s m nx with
      | some (.go s m nx) => exL run pc (compR P N ops os) s m nx
      | some (.pan c m nx) => some ⟨.pan c, s, m, nx⟩
      | none => none) = some x at h
    have hok : ops[k]? = some o := by simpa using hk 0 (by simp)
    have hk' : ∀ j, j < os.length → ops[k + 1 + j]? = os[j]? := fun j hj => by
      have := hk (j + 1) (by simp; omega)
      rw [List.getElem?_cons_succ] at this
      rw [← this]; congr 1; omega
    show wpOps P ops Q (k :: List.range' (k + 1) os.length) a w
    have unf : ∀ a w, wpO P ops Q o (wpOps P ops Q (List.range' (k + 1) os.length)) a w → wpOps P ops Q (k :: List.range' (k + 1) os.length) a w := by
      intro a w h
      simp only [wpOps, hok]
      exact h
    refine unf a w ?_
    split at h
    · rename_i s1 m1 nx1 ho
      have hle := exL_mono hrun h
      have h1 := exO_mono hrun ho
      refine exO_ok hrun ho hp ha hm (fresh1 hfr hle) _ _ fun ρ' a' w' hT ha' hd' => ?_
      exact ih h hk' ha' (hd'.trans hd) hT.mr (fresh2 hfr h1) (Out.post_step hpost hT hle)
    · rename_i c m1 nx1 ho
      cases h
      refine exO_ok hrun ho hp ha hm hfr _ _ fun ρ' w' hT hc => ?_
      exact hpost ρ' a w' hT (ha.grow hT.grow) hd hc
    · cases h
theorem wpOps_append {ops : Array Oper} {Q : Exit → Act → World → Prop} {l2 : List Nat} : ∀ {l1 : List Nat} {a : Act} {w : World}, wpOps P ops (Exit.then (wpOps P ops Q l2) Q) l1 a w → wpOps P ops Q (l1 ++ l2) a w := by
  intro l1
  induction l1 with
  | nil => intro a w h; exact h
  | cons i l ih =>
    intro a w h
    simp only [List.cons_append, wpOps] at h ⊢
    split at h
    · rename_i hi; exact ih h
    · rename_i o hi
      split at h
      · rename_i hw
        rw [if_pos hw]
        rcases h with h | ⟨h1, h2⟩
        · left
          unfold Oper.wp Oper.upon at h ⊢
          split at h
          · exact ih h
          · exact ih h
          · exact ih h
          · refine Calls.mono h fun e w' hq => ?_
            cases e with
            | returned v => exact ih hq
            | panicked c => exact hq
            | outgrown => obtain ⟨a0, w0, h0⟩ := hq; exact ⟨a0, w0, h0⟩
          · exact Rows.mono h fun v w' hq => ih hq
          · exact h
          · exact h.elim
        · right
          obtain ⟨a0, w0, h0⟩ := h2
          exact ⟨h1, a0, w0, h0⟩
      · rename_i hw
        rw [if_neg hw]
        exact ih h
theorem evSp_ok {run : Run} {pc : Pc} {N : Nat} (hrun : CallOk P pc run) : ∀ (n : Nat) (c : Code) (dl : List Df) (s : Tri L) (m : Tri B) (nx : Pt) (r : List Df × Out), evSp P run pc N n c dl s m nx = some r →
    nx.num ≤ r.2.nx.num ∧ ∀ (E : Env) (ρ : Pt → Rb) (D : Pt → Prop) (a : Act) (w : World) (Q : Exit → Act → World → Prop), pcOk E pc → AR E ρ D N s a → DfsOk E ρ D dl a.defers → MR E ρ D m w → (∀ b, Rg nx r.2.nx b → ¬ D b) → SpPost E ρ D N m nx w Q r → c.wp P Q a w := by
  have leaf : ∀ (c : Code) (dl : List Df) (s : Tri L) (m : Tri B) (nx : Pt) (r : List Df × Out), (exK P run pc N c s m nx).map (fun x => (dl, x)) = some r →
      nx.num ≤ r.2.nx.num ∧ ∀ (E : Env) (ρ : Pt → Rb) (D : Pt → Prop) (a : Act) (w : World) (Q : Exit → Act → World → Prop), pcOk E pc → AR E ρ D N s a → DfsOk E ρ D dl a.defers → MR E ρ D m w → (∀ b, Rg nx r.2.nx b → ¬ D b) → SpPost E ρ D N m nx w Q r → c.wp P Q a w := by
    intro c dl s m nx r h
    rw [Option.map_eq_some_iff] at h
    obtain ⟨x, hx, rfl⟩ := h
    obtain ⟨l1, q1⟩ := exK_ok hrun (draw_ok hrun) c _ _ _ _ hx
    refine ⟨l1, fun E ρ D a w Q hp ha hdl hm hfr hpost => q1 E ρ D a w Q a.defers hp ha rfl hm hfr fun ρ' a' w' hT ha' hd' => hpost ρ' a' w' hT ha' ?_⟩
    rw [hd']; exact hdl.grow hT.grow
  intro n
  induction n with
  | zero => intro c dl s m nx r h; exact leaf c dl s m nx r h
  | succ n ih =>
    intro c dl s m nx r h
    simp only [evSp] at h
    split at h
    · rename_i x y
      split at h
      · rename_i D1 s1 m1 nx1 h1
        obtain ⟨l1, q1⟩ := ih _ _ _ _ _ _ h1
        obtain ⟨l2, q2⟩ := ih _ _ _ _ _ _ h
        refine ⟨Nat.le_trans l1 l2, fun E ρ D a w Q hp ha hdl hm hfr hpost => wp_seq (q1 E ρ D a w _ hp ha hdl hm (fresh1 hfr l2) fun ρ' a' w' hT ha' hd' => ?_)⟩
        exact q2 E ρ' _ a' w' Q hp ha' hd' hT.mr (fresh2 hfr l1) (hpost.step hT l2)
      · rename_i r0 hne
        obtain ⟨l1, q1⟩ := ih _ _ _ _ _ _ h
        refine ⟨l1, fun E ρ D a w Q hp ha hdl hm hfr hpost => wp_seq (q1 E ρ D a w _ hp ha hdl hm hfr (hpost.then fun e => ?_))⟩
        obtain ⟨D', e', s', m', nx'⟩ := r
        simp only at e
        subst e
        exact hne _ _ _ _ h
    · rename_i i ops b
      split at h
      · rename_i o c hop
        unfold dfrOp at hop
        split at hop
        · rename_i o' hlast
          split at hop
          · rename_i c' hdf hg
            cases hop
            have hsz : ops.size - 1 < ops.size := (Array.getElem?_eq_some_iff.1 hlast).1
            have hr : List.range ops.size = List.range' 0 ops.toList.dropLast.length ++ [ops.size - 1] := by
              rw [List.length_dropLast, Array.length_toList, ← List.range_eq_range', ← List.range_succ]; congr 1; omega
            have hpre : ∀ j, j < ops.toList.dropLast.length → ops[0 + j]? = ops.toList.dropLast[j]? := fun j hj => by
              rw [List.length_dropLast, Array.length_toList] at hj
              rw [Nat.zero_add, List.getElem?_dropLast, Array.length_toList, if_pos hj, Array.getElem?_toList]
            split at h
            · rename_i s1 m1 nx1 h1
              split at h
              · rename_i d hd
                cases hin : dstIn N o <;> simp only [hin, cond_true, cond_false] at h
                · cases h
                cases h
                have hmo : nx.num ≤ nx1.num := exL_mono hrun h1
                refine ⟨hmo, fun E ρ D a w Q hp ha hdl hm hfr hpost => wp_region ?_⟩
                rw [hr]
                refine wpOps_append (exL_some hrun hp h1 hpre ha rfl hm hfr fun ρ' a' w' hT ha' hd' => ?_)
                show wpOps P ops Q [ops.size - 1] a' w'
                simp only [wpOps, hlast]
                have hwant : Region.wanted o (yielded ops a'.tmps) = true := by simp [Region.wanted, hg]
                rw [if_pos hwant]
                left
                obtain ⟨v, hrun', hv⟩ := evDf_ok (P := P) hp (ha'.sr.ops _) hdf hd w'
                unfold Oper.wp
                rw [hrun']
                show Q .normal ({ a' with defers := v :: a'.defers }.put o.dst undef) w'
                have hlt : ∀ d, o.dst = some d → d < N := fun d hd => by
                  unfold dstIn at hin
                  rw [hd] at hin
                  simp only [Nat.ble_eq] at hin
                  exact hin
                refine hpost ρ' ({ a' with defers := v :: a'.defers }.put o.dst undef) w' hT ?_ ?_
                · have := AR.putS (a := { a' with defers := v :: a'.defers }) (o := o) (l := .tup []) ⟨ha'.sr, ha'.sz⟩ hlt (fun _ h => nomatch h)
                  exact this
                · rw [put_defers]
                  refine .cons hv ?_
                  simp only
                  rw [hd']; exact hdl.grow hT.grow
              · cases h
            · rename_i x hne h1
              cases h
              refine ⟨exL_mono hrun h1, fun E ρ D a w Q hp ha hdl hm hfr hpost => wp_region ?_⟩
              rw [hr]
              refine wpOps_append (exL_some hrun hp h1 hpre ha rfl hm hfr (post_then (fun e => ?_) fun ρ' a' w' hT ha' hd' => hpost ρ' a' w' hT ha' (by rw [hd']; exact hdl.grow hT.grow)))
              obtain ⟨e', s', m', nx'⟩ := x
              simp only at e
              subst e
              exact hne _ _ _ rfl
            · cases h
          · cases hop
        · cases hop
      · exact leaf _ dl s m nx r h
    · exact leaf _ dl s m nx r h

/-! the deferred calls -/
/-- How the function stands that is left. -/
inductive RM where
  | ret
  | pan (c : C)
  | rcv
def RMok (E : Env) (ρ : Pt → Rb) (D : Pt → Prop) : RM → FrameMode → Prop
  | .ret, u => u = .returning
  | .pan c, u => c.ok E ρ D ∧ u = .panicking [{ v := c.val E ρ, recovered := false }]
  | .rcv, u => ∃ x, u = .panicking [{ v := x, recovered := true }]
def RM.settle : RM → RM
  | .rcv => .ret
  | m => m
theorem RMok.grow {E : Env} {ρ ρ' : Pt → Rb} {D D' : Pt → Prop} (g : Grow ρ D ρ' D') {m : RM} {u : FrameMode} (h : RMok E ρ D m u) : RMok E ρ' D' m u := by
  cases m with
  | ret => exact h
  | rcv => exact h
  | pan c => exact ⟨(c.grow g h.1).1, by rw [(c.grow g h.1).2]; exact h.2⟩
theorem RMok.settle {E : Env} {ρ : Pt → Rb} {D : Pt → Prop} {m : RM} {u : FrameMode} (h : RMok E ρ D m u) : RMok E ρ D m.settle (Go.settle u) := by
  cases m with
  | ret => cases h; rfl
  | rcv => obtain ⟨x, rfl⟩ := h; rfl
  | pan c => obtain ⟨h1, rfl⟩ := h; exact ⟨h1, rfl⟩
theorem RMok.ne {E : Env} {ρ : Pt → Rb} {D : Pt → Prop} {m : RM} {u : FrameMode} (h : RMok E ρ D m u) : u ≠ .run := by
  cases m with
  | ret => cases h; simp
  | rcv => obtain ⟨x, rfl⟩ := h; simp
  | pan c => obtain ⟨h1, rfl⟩ := h; simp
/-- A region that is nothing but 'recover'. -/
def recOp (ops : Array Oper) : Option Oper := match ops.toList with
  | [o] => match o.op, o.guard with
    | .call c, none => match c.callee, c.args.toList with
      | .builtin .recover, [] => some o
      | _, _ => none
    | _, _ => none
  | _ => none
def evRc (P : Program) (run : Run) (pc : Pc) (N : Nat) (md : RM) (c : Code) (s : Tri L) (m : Tri B) (nx : Pt) : Option (Out × RM) := match c with
  | .seq x y => match (match x with
      | .region _ ops false => recOp ops
      | _ => none) with
    | some o => bif dstIn N o then match md with
        | .pan p => putD (dstP o) (.a (.c p)) s fun s => (exK P run pc N y s m nx).map fun l => (l, .rcv)
        | md => putD (dstP o) (.a (.c .nili)) s fun s => (exK P run pc N y s m nx).map fun l => (l, md)
      else none
    | none => (exK P run pc N (.seq x y) s m nx).map fun l => (l, md)
  | c => (exK P run pc N c s m nx).map fun l => (l, md)
theorem wpS_mono {c : Code} {Q Q' : Exit → Act → List Frame → World → Prop} {a : Act} {cs : List Frame} {w : World} (h : c.wpS P Q a cs w) (hq : ∀ e a cs w, Q e a cs w → Q' e a cs w) : c.wpS P Q' a cs w :=
  fun b k h1 h2 => let ⟨e, a', cs', w', q, r⟩ := h b k h1 h2; ⟨e, a', cs', w', hq _ _ _ _ q, r⟩
theorem evRc_ok {run : Run} {pc : Pc} {N : Nat} (hrun : CallOk P pc run) {md md' : RM} {c : Code} {s : Tri L} {m : Tri B} {nx : Pt} {x : Out} (he : evRc P run pc N md c s m nx = some (x, md')) :
    nx.num ≤ x.nx.num ∧ ∀ (E : Env) (ρ : Pt → Rb) (D : Pt → Prop) (a : Act) (w : World) (u : FrameMode), pcOk E pc → AR E ρ D N s a → MR E ρ D m w → (∀ b, Rg nx x.nx b → ¬ D b) → RMok E ρ D md u →
      ∃ u', RMok E ρ D md' u' ∧ ∀ Q, x.post E ρ D N a.defers m nx w Q → ∀ (c₀ : Frame) (cs : List Frame), c₀.mode = u → c.wpS P (fun e a cs' w => cs' = { c₀ with mode := u' } :: cs ∧ Q e a w) a (c₀ :: cs) w := by
  have plain : ∀ (c : Code), (exK P run pc N c s m nx).map (fun l => (l, md)) = some (x, md') → nx.num ≤ x.nx.num ∧ ∀ (E : Env) (ρ : Pt → Rb) (D : Pt → Prop) (a : Act) (w : World) (u : FrameMode), pcOk E pc → AR E ρ D N s a → MR E ρ D m w → (∀ b, Rg nx x.nx b → ¬ D b) → RMok E ρ D md u →
      ∃ u', RMok E ρ D md' u' ∧ ∀ Q, x.post E ρ D N a.defers m nx w Q → ∀ (c₀ : Frame) (cs : List Frame), c₀.mode = u → c.wpS P (fun e a cs' w => cs' = { c₀ with mode := u' } :: cs ∧ Q e a w) a (c₀ :: cs) w := by
    intro c hc
    rw [Option.map_eq_some_iff] at hc
    obtain ⟨l, hl, e⟩ := hc
    cases e
    obtain ⟨l1, q1⟩ := exK_ok hrun (draw_ok hrun) c _ _ _ _ hl
    refine ⟨l1, fun E ρ D a w u hp ha hm hfr hu => ⟨u, hu, fun Q hpost c₀ cs hc₀ => wpS_of_wp (wp_mono (q1 E ρ D a w Q a.defers hp ha rfl hm hfr hpost) fun e a w hq => ⟨?_, hq⟩)⟩⟩
    subst hc₀; rfl
  unfold evRc at he
  split at he
  · rename_i cx y
    split at he
    · rename_i o hx
      cases hin : dstIn N o <;> simp only [hin, cond_true, cond_false] at he
      · cases he
      have hlt : ∀ d, o.dst = some d → d < N := fun d hd => by
        unfold dstIn at hin
        rw [hd] at hin
        simp only [Nat.ble_eq] at hin
        exact hin
      split at hx
      · rename_i i ops
        unfold recOp at hx
        split at hx
        · rename_i o' hops
          split at hx
          · rename_i cl hop hg
            split at hx
            · rename_i hcal hargs
              cases hx
              have hops' : ops = #[o] := by apply Array.ext'; simpa using hops
              subst hops'
              have hargs' : cl.args = #[] := by apply Array.ext'; simpa using hargs
              have main : ∀ (l : L) (md' : RM), exK P run pc N y (putS o l s) m nx = some x →
                  (∀ (E : Env) (ρ : Pt → Rb) (D : Pt → Prop) (u : FrameMode), RMok E ρ D md u → ∃ u', RMok E ρ D md' u' ∧ l.ok E ρ D ∧ ∀ (c₀ : Frame) (cs : List Frame), c₀.mode = u → (match recoverD (c₀ :: cs) with
                    | some (v', cs') => v' = l.val E ρ ∧ cs' = { c₀ with mode := u' } :: cs
                    | none => l.val E ρ = .nilIface ∧ u' = u)) →
                  nx.num ≤ x.nx.num ∧ ∀ (E : Env) (ρ : Pt → Rb) (D : Pt → Prop) (a : Act) (w : World) (u : FrameMode), pcOk E pc → AR E ρ D N s a → MR E ρ D m w → (∀ b, Rg nx x.nx b → ¬ D b) → RMok E ρ D md u →
                  ∃ u', RMok E ρ D md' u' ∧ ∀ Q, x.post E ρ D N a.defers m nx w Q → ∀ (c₀ : Frame) (cs : List Frame), c₀.mode = u → (Code.seq (.region i #[o] false) y).wpS P (fun e a cs' w => cs' = { c₀ with mode := u' } :: cs ∧ Q e a w) a (c₀ :: cs) w := by
                intro l md' hy hrec
                obtain ⟨l1, q1⟩ := exK_ok hrun (draw_ok hrun) y _ _ _ _ hy
                refine ⟨l1, fun E ρ D a w u hp ha hm hfr hu => ?_⟩
                obtain ⟨u', hu', hl, hr⟩ := hrec E ρ D u hu
                refine ⟨u', hu', fun Q hpost c₀ cs hc₀ => wpS_seq (wpS_region ?_)⟩
                have hrun' : ∀ w, (execOp a.eval o).run P w = .ok .recover w := fun w => by
                  simp only [execOp, hop, resolve, hcal, hargs']; rfl
                have hwant : Region.wanted o (yielded #[o] a.tmps) = true := by simp [Region.wanted, hg]
                show wpOpsS P #[o] _ [0] a (c₀ :: cs) w
                simp only [wpOpsS, List.getElem?_toArray, List.getElem?_cons_zero, hwant, if_true, hrun']
                have hy' : y.wp P Q (a.put o.dst (l.val E ρ)) w := q1 E ρ D _ w Q a.defers hp (ha.putS hlt hl) (put_defers _ _ _) hm hfr hpost
                have hr := hr c₀ cs hc₀
                split at hr
                · rename_i v' cs' he'
                  simp only [he']
                  obtain ⟨rfl, rfl⟩ := hr
                  exact wpS_of_wp (wp_mono hy' fun e a w hq => ⟨rfl, hq⟩)
                · rename_i he'
                  simp only [he']
                  obtain ⟨e1, rfl⟩ := hr
                  rw [e1] at hy'
                  refine wpS_of_wp (wp_mono hy' fun e a w hq => ⟨?_, hq⟩)
                  subst hc₀; rfl
              cases md with
              | pan p =>
                simp only [putD_eq, Option.map_eq_some_iff] at he
                obtain ⟨l, hl, e⟩ := he
                cases e
                refine main (.a (.c p)) .rcv hl fun E ρ D u hu => ?_
                obtain ⟨h1, rfl⟩ := hu
                exact ⟨.panicking [{ v := p.val E ρ, recovered := true }], ⟨_, rfl⟩, h1, fun c₀ cs hc₀ => by simp [recoverD, hc₀, L.val, A.val]⟩
              | ret =>
                simp only [putD_eq, Option.map_eq_some_iff] at he
                obtain ⟨l, hl, e⟩ := he
                cases e
                refine main (.a (.c .nili)) .ret hl fun E ρ D u hu => ⟨u, hu, trivial, fun c₀ cs hc₀ => ?_⟩
                cases hu; simp [recoverD, hc₀, L.val, A.val, C.val]
              | rcv =>
                simp only [putD_eq, Option.map_eq_some_iff] at he
                obtain ⟨l, hl, e⟩ := he
                cases e
                refine main (.a (.c .nili)) .rcv hl fun E ρ D u hu => ⟨u, hu, trivial, fun c₀ cs hc₀ => ?_⟩
                obtain ⟨x, rfl⟩ := hu; simp [recoverD, hc₀, L.val, A.val, C.val]
            · cases hx
          · cases hx
        · cases hx
      · cases hx
    · exact plain _ he
  · exact plain _ he

def runDf (P : Program) (run : Run) (pc : Pc) (rs : List ResultVar) (s : Tri L) : List Df → RM → Tri B → Pt → Option CR
  | [], .ret, m, nx => match resL P s m rs with
    | some l => fcV l fun l => some (.ret l m nx)
    | none => none
  | [], .pan c, m, nx => some (.pan c m nx)
  | [], .rcv, _, _ => none
  | d :: dl, md, m, nx => match funF P d.g with
    | some fn => match fn.body with
      | some body => bif fn.name == "runtime.NumGoroutine" then none else iniT d.as .e 0 fun s1 => match evRc P run pc fn.ntmps md body s1 m nx with
        | some (⟨.pan _, _, _, _⟩, _) => none
        | some (⟨.exit _, _, _, _⟩, _) => none
        | some (⟨_, s1, m, nx⟩, md') => match resL P s1 m fn.results.toList with
          | some _ => runDf P run pc rs s dl md'.settle m nx
          | none => none
        | none => none
      | none => none
    | none => none
theorem CR.ok_step {E : Env} {ρ ρ1 : Pt → Rb} {D : Pt → Prop} {m m1 : Tri B} {nx nx1 : Pt} {w w1 w2 : World} {r : CR} {e : Ending} (hT : Turn E ρ D m nx w ρ1 m1 nx1 w1) (h : r.ok E ρ1 (Un D (Rg nx nx1)) m1 nx1 w1 e w2) : r.ok E ρ D m nx w e w2 := by
  cases r with
  | ret l m' nx' =>
    obtain ⟨ρ', rfl, h1, h2⟩ := h
    rw [un_rg hT.le h2.le] at h1
    exact ⟨ρ', rfl, h1, hT.trans h2⟩
  | pan c m' nx' =>
    obtain ⟨ρ', rfl, h1, h2⟩ := h
    rw [un_rg hT.le h2.le] at h1
    exact ⟨ρ', rfl, h1, hT.trans h2⟩
theorem runDf_ok {run : Run} {pc : Pc} (hrun : CallOk P pc run) {fn : Func} {s : Tri L} : ∀ (dl : List Df) (md : RM) (m : Tri B) (nx : Pt) (r : CR), runDf P run pc fn.results.toList s dl md m nx = some r →
    nx.num ≤ r.nx.num ∧ ∀ (E : Env) (ρ : Pt → Rb) (D : Pt → Prop) (tmps : Array Value) (ds : List Deferred) (u : FrameMode) (w : World) (R : Ending → World → Prop), pcOk E pc → SR E ρ D s tmps → DfsOk E ρ D dl ds → RMok E ρ D md u → MR E ρ D m w → (∀ b, Rg nx r.nx b → ¬ D b) →
      (∀ e w', r.ok E ρ D m nx w e w' → R e w') → Leaves P fn tmps R ds u w := by
  intro dl
  induction dl with
  | nil =>
    intro md m nx r h
    cases md with
    | ret =>
      simp only [runDf, fcV_eq] at h
      split at h
      · rename_i l hl
        cases h
        refine ⟨Nat.le_refl _, fun E ρ D tmps ds u w R hp hs hd hu hm hfr hR => ?_⟩
        cases hd; cases hu
        obtain ⟨h1, h2⟩ := resL_ok hs hm hl
        exact ⟨_, h1, hR _ _ ⟨ρ, rfl, by rw [un_self]; exact h2, Turn.refl hm⟩⟩
      · cases h
    | pan c =>
      cases h
      refine ⟨Nat.le_refl _, fun E ρ D tmps ds u w R hp hs hd hu hm hfr hR => ?_⟩
      cases hd
      obtain ⟨h1, rfl⟩ := hu
      exact hR _ _ ⟨ρ, rfl, by rw [un_self]; exact h1, Turn.refl hm⟩
    | rcv => cases h
  | cons d dl ih =>
    intro md m nx r h
    simp only [runDf, iniT_eq] at h
    split at h
    · rename_i gn hgn
      rw [funF_eq] at hgn
      split at h
      · rename_i body hb
        cases hn : gn.name == "runtime.NumGoroutine" <;> simp only [hn, cond_true, cond_false] at h
        · have gen : ∀ (x : Out) (md' : RM) (l0 : L), evRc P run pc gn.ntmps md body (iniS d.as .e 0) m nx = some (x, md') → (x.e = .norm ∨ x.e = .ret) → resL P x.s x.m gn.results.toList = some l0 → runDf P run pc fn.results.toList s dl md'.settle x.m x.nx = some r →
              nx.num ≤ r.nx.num ∧ ∀ (E : Env) (ρ : Pt → Rb) (D : Pt → Prop) (tmps : Array Value) (ds : List Deferred) (u : FrameMode) (w : World) (R : Ending → World → Prop), pcOk E pc → SR E ρ D s tmps → DfsOk E ρ D (d :: dl) ds → RMok E ρ D md u → MR E ρ D m w → (∀ b, Rg nx r.nx b → ¬ D b) →
                (∀ e w', r.ok E ρ D m nx w e w' → R e w') → Leaves P fn tmps R ds u w := by
            intro x md' l0 hx hxe hl h
            obtain ⟨l1, q1⟩ := evRc_ok hrun hx
            obtain ⟨l2, q2⟩ := ih _ _ _ _ h
            refine ⟨Nat.le_trans l1 l2, fun E ρ D tmps ds u w R hp hs hd hu hm hfr hR => ?_⟩
            cases hd with
            | @cons _ v _ vs hv hvs =>
            obtain ⟨cap, g1, g2, g3⟩ := hv
            refine ⟨hu.ne, .func d.g, cap, d.g, v.args ++ cap, g1, ?_, ?_⟩
            · rw [g1]
              simp [invoke, callFunc, hgn, (beq_eq_false_iff_ne.1 hn), hb]
            · rw [g2]
              refine callsD_of_wpS hgn hb fun c₀ cs hc₀ => ?_
              obtain ⟨u', hu', hwp⟩ := q1 E ρ D _ w u hp (ini_ok g3 gn.ntmps []) hm (fresh1 hfr l2) hu
              refine wpS_mono (hwp (fun e a w' => match e with
                | .normal | .ret => a.defers = [] ∧ ∃ v, (results gn a.tmps).run P w' = .ok v w' ∧ Leaves P fn tmps R vs (Go.settle u') w'
                | _ => False) ?_ c₀ cs hc₀) fun e a cs' w' hq => ?_
              · intro ρ' a' w' hT ha' hd'
                obtain ⟨k1, k2⟩ := resL_ok ha'.sr hT.mr hl
                have fin : a'.defers = [] ∧ ∃ v, (results gn a'.tmps).run P w' = .ok v w' ∧ Leaves P fn tmps R vs (Go.settle u') w' :=
                  ⟨hd', _, k1, q2 E ρ' _ tmps vs (Go.settle u') w' R hp (hs.grow hT.grow) (hvs.grow hT.grow) (hu'.grow hT.grow).settle hT.mr (fresh2 hfr l1) fun e w'' he => hR e w'' (CR.ok_step hT he)⟩
                rcases hxe with hxe | hxe <;> rw [hxe] <;> exact fin
              · obtain ⟨hcs, hq⟩ := hq
                cases e with
                | normal => obtain ⟨k1, v, k2, k3⟩ := hq; exact ⟨k1, u', hcs, v, k2, k3⟩
                | ret => obtain ⟨k1, v, k2, k3⟩ := hq; exact ⟨k1, u', hcs, v, k2, k3⟩
                | _ => exact hq.elim
          split at h
          · cases h
          · cases h
          · rename_i e s1 m1 nx1 md' hne1 hne2 hx
            split at h
            · rename_i l0 hl
              refine gen _ _ _ hx ?_ hl h
              cases e with
              | norm => exact .inl rfl
              | ret => exact .inr rfl
              | exit id => exact (hne2 _ rfl).elim
              | pan c => exact (hne1 _ rfl).elim
            · cases h
          · cases h
        · cases h
      · cases h
    · cases h
/-- Does a body defer something? A look along its spine. -/
def dfB : Nat → Code → Bool
  | n + 1, .seq x y => dfB n x || dfB n y
  | _ + 1, .region _ ops _ => (dfrOp ops).isSome
  | _, _ => false
def exFD (P : Program) (run : Run) (pc : Pc) (fn : Func) (body : Code) (as : List L) (m : Tri B) (nx : Pt) : Option CR := iniT as .e 0 fun s => match evSp P run pc fn.ntmps 8 body [] s m nx with
  | some (dl, ⟨.pan c, s, m, nx⟩) => runDf P run pc fn.results.toList s dl (.pan c) m nx
  | some (_, ⟨.exit _, _, _, _⟩) => none
  | some (dl, ⟨_, s, m, nx⟩) => runDf P run pc fn.results.toList s dl .ret m nx
  | none => none
theorem exFD_ok {run : Run} {pc : Pc} (hrun : CallOk P pc run) {g : Nat} {fn : Func} {body : Code} (hf : P.funcs[g]? = some fn) (hb : fn.body = some body) {as : List L} {m : Tri B} {nx : Pt} {r : CR} (h : exFD P run pc fn body as m nx = some r) :
    nx.num ≤ r.nx.num ∧ ∀ (E : Env) (ρ : Pt → Rb) (D : Pt → Prop) (w : World), pcOk E pc → (∀ l ∈ as, l.ok E ρ D) → MR E ρ D m w → (∀ b, Rg nx r.nx b → ¬ D b) → Calls P g (as.map (L.val E ρ)).toArray w (CR.ok E ρ D m nx w r) := by
  unfold exFD at h
  rw [iniT_eq] at h
  split at h
  · rename_i dl c s1 m1 nx1 hk
    obtain ⟨l1, q1⟩ := evSp_ok hrun _ _ _ _ _ _ _ hk
    obtain ⟨l2, q2⟩ := runDf_ok hrun _ _ _ _ _ h
    refine ⟨Nat.le_trans l1 l2, fun E ρ D w hp has hm hfr => calls_of_wp_defers hf hb (q1 E ρ D _ w _ hp (ini_ok has _ []) .nil hm (fresh1 hfr l2) fun ρ' a' w' hT ha hd hc => ?_)⟩
    exact q2 E ρ' _ a'.tmps a'.defers _ w' _ hp ha.sr hd ⟨hc, rfl⟩ hT.mr (fresh2 hfr l1) fun e w'' he => CR.ok_step hT he
  · cases h
  · rename_i dl e s1 m1 nx1 hne1 hne2 hk
    obtain ⟨l1, q1⟩ := evSp_ok hrun _ _ _ _ _ _ _ hk
    obtain ⟨l2, q2⟩ := runDf_ok hrun _ _ _ _ _ h
    refine ⟨Nat.le_trans l1 l2, fun E ρ D w hp has hm hfr => calls_of_wp_defers hf hb (q1 E ρ D _ w _ hp (ini_ok has _ []) .nil hm (fresh1 hfr l2) fun ρ' a' w' hT ha hd => ?_)⟩
    have fin := q2 E ρ' _ a'.tmps a'.defers .returning w' _ hp ha.sr hd rfl hT.mr (fresh2 hfr l1) fun e w'' he => CR.ok_step hT he
    cases e with
    | norm => exact fin
    | ret => exact fin
    | exit id => exact (hne2 _ rfl).elim
    | pan c => exact (hne1 _ rfl).elim
  · cases h
def exF (P : Program) (run : Run) (pc : Pc) (fn : Func) (body : Code) (as : List L) (m : Tri B) (nx : Pt) : Option CR := bif dfB 8 body then exFD P run pc fn body as m nx else exF0 P run pc fn body as m nx
theorem exF_ok {run : Run} {pc : Pc} (hrun : CallOk P pc run) {g : Nat} {fn : Func} {body : Code} (hf : P.funcs[g]? = some fn) (hb : fn.body = some body) {as : List L} {m : Tri B} {nx : Pt} {r : CR} (h : exF P run pc fn body as m nx = some r) :
    nx.num ≤ r.nx.num ∧ ∀ (E : Env) (ρ : Pt → Rb) (D : Pt → Prop) (w : World), pcOk E pc → (∀ l ∈ as, l.ok E ρ D) → MR E ρ D m w → (∀ b, Rg nx r.nx b → ¬ D b) → Calls P g (as.map (L.val E ρ)).toArray w (CR.ok E ρ D m nx w r) := by
  unfold exF at h
  rw [cond_eq_ite] at h
  split at h
  · exact exFD_ok hrun hf hb h
  · exact exF0_ok hrun hf hb h
end
end Go.E3
