/- slices.Collect(maps.Keys(m)) at a map of three keys: what it hands back, in any order; the operations that fork. -/
import Derived.Test.YtgnfekfikifgiaaGreatWyZf1
import Derived.Test.YtgnfekfikifgiaaGreatCx
import Derived.Test.YtgnfekfikifgiaaGreatElD
namespace Go.E3
open Go.Sy Go.RowKit
noncomputable section
variable {P : Program}
/-! slices.Collect(maps.Keys(m)) of three keys: in some order -/
def perm3 (a b c : Int) : List (List Int) := [[a, b, c], [a, c, b], [b, a, c], [b, c, a], [c, a, b], [c, b, a]]
structure ColOk3 (P : Program) (q : IntKind) (co k1 : Nat) (ky : TypeId) : Prop where
  body : HasBody P co
  three : ∀ (w : World) (Bm b clock : Nat) (a1 a2 a3 : Int) (v1 v2 v3 : Value) (n1 n2 n3 : Nat), w.cell? ⟨Bm, 0, none⟩ = some (.map (some b)) → w.heap[b]? = some (.map #[{ key := .int q a1, val := v1, born := n1 }, { key := .int q a2, val := v2, born := n2 }, { key := .int q a3, val := v3, born := n3 }] clock) →
    n1 < clock → n2 < clock → n3 < clock → n1 ≠ n2 → n1 ≠ n3 → n2 ≠ n3 → a1 ≠ a2 → a1 ≠ a3 → a2 ≠ a3 → kmin q ≤ a1 ∧ a1 ≤ kmax q → kmin q ≤ a2 ∧ a2 ≤ kmax q → kmin q ≤ a3 ∧ a3 ≤ kmax q →
    Calls P co #[.func (.func k1) #[] #[.pointer (some ⟨Bm, 0, none⟩)]] w fun e w' => (∃ g cap cur, e = .returned (.slice (some ⟨g, 0, none⟩) 3 cap) ∧ w.heap.size ≤ g ∧ w'.heap[g]? = some (.cells cur ky (0, 0)) ∧ 3 ≤ cap ∧ cap ≤ maxLen ∧ cur.size = cap ∧ ∃ x y z, [x, y, z] ∈ perm3 a1 a2 a3 ∧ cur[0]? = some (.int q x) ∧ cur[1]? = some (.int q y) ∧ cur[2]? = some (.int q z)) ∧ Below w.heap.size w w'
def col3M (q : IntKind) (ky : TypeId) (m : Tri B) (nx : Pt) (s t u : T) : L × Tri B × Pt := (.a (.c (.slc nx 0 3 (.r 1 0))), m.put nx (some (.cells ky 3 false [] (Tri.put (Tri.put (Tri.put .e (path 0) (some (.int q s))) (path 1) (some (.int q t))) (path 2) (some (.int q u))))), nx.succ)
def ne2 (pc : Pc) (s t : T) : Bool := match dec pc (mk2 .eq s t) with
  | some false => true
  | _ => false
theorem ne2_ok {E : Env} {pc : Pc} (hp : pcOk E pc) {s t : T} (h : ne2 pc s t = true) : s.den E ≠ t.den E := by
  unfold ne2 at h
  split at h
  · rename_i hd
    have := dec_ok hp hd
    simpa [T.tr, mk2_den, O2.den, tb_ne] using this
  · cases h
def fkCol3 (q : IntKind) (co k1 : Nat) (ky : TypeId) : Fk := fun o pc s m nx => match o.op with
  | .call c => match c.callee with
    | .value f => match opC pc s f with
      | some (.fn g []) => bif Nat.beq g co then match rawAll s c.args.toList with
        | some [.a (.c (.fn f [.ptr bx 0]))] => bif Nat.beq f k1 then match m.get bx with
          | some (.cells _ n _ d t) => match cellAt n d t 0 with
            | some (.map b) => match m.get b with
              | some (.map es cl) => match es with
                | [⟨.c (.int q1 s1), _, n1⟩, ⟨.c (.int q2 s2), _, n2⟩, ⟨.c (.int q3 s3), _, n3⟩] => bif ((decide (q1 = q) && decide (q2 = q) && decide (q3 = q)) && (inIv pc (kmin q) (kmax q) s1 && inIv pc (kmin q) (kmax q) s2 && inIv pc (kmin q) (kmax q) s3) && (Nat.blt n1 cl && Nat.blt n2 cl && Nat.blt n3 cl)) && ((!(Nat.beq n1 n2) && !(Nat.beq n1 n3) && !(Nat.beq n2 n3)) && (ne2 pc s1 s2 && ne2 pc s1 s3 && ne2 pc s2 s3)) then
                    some [col3M q ky m nx s1 s2 s3, col3M q ky m nx s1 s3 s2, col3M q ky m nx s2 s1 s3, col3M q ky m nx s2 s3 s1, col3M q ky m nx s3 s1 s2, col3M q ky m nx s3 s2 s1]
                  else none
                | _ => none
              | _ => none
            | _ => none
          | _ => none
          else none
        | _ => none
        else none
      | _ => none
    | _ => none
  | _ => none
theorem fkCol3_ok {q : IntKind} {co k1 : Nat} {ky : TypeId} (h : ColOk3 P q co k1 ky) : FkOk P (fkCol3 q co k1 ky) := by
  intro o pc s m nx ls hl
  unfold fkCol3 at hl
  split at hl
  · rename_i c ho
    split at hl
    · rename_i f hcal
      split at hl
      · rename_i g hf
        cases hg : Nat.beq g co <;> simp only [hg, cond_true, cond_false] at hl
        · cases hl
        have hg := Nat.eq_of_beq_eq_true hg
        subst hg
        split at hl
        · rename_i f' bx has
          cases hk : Nat.beq f' k1 <;> simp only [hk, cond_true, cond_false] at hl
          · cases hl
          have hk := Nat.eq_of_beq_eq_true hk
          subst hk
          split at hl
          · rename_i ty n k d t hbx
            split at hl
            · rename_i b hc0
              split at hl
              · rename_i es cl hb
                split at hl
                · rename_i q1 s1 v1 n1 q2 s2 v2 n2 q3 s3 v3 n3
                  generalize hi : (((decide (q1 = q) && decide (q2 = q) && decide (q3 = q)) && (inIv pc (kmin q) (kmax q) s1 && inIv pc (kmin q) (kmax q) s2 && inIv pc (kmin q) (kmax q) s3) && (Nat.blt n1 cl && Nat.blt n2 cl && Nat.blt n3 cl)) && ((!(Nat.beq n1 n2) && !(Nat.beq n1 n3) && !(Nat.beq n2 n3)) && (ne2 pc s1 s2 && ne2 pc s1 s3 && ne2 pc s2 s3))) = c0 at hl
                  cases c0 <;> simp only [cond_true, cond_false] at hl
                  · cases hl
                  simp only [Bool.and_eq_true, decide_eq_true_eq, Bool.not_eq_true'] at hi
                  obtain ⟨⟨⟨⟨⟨rfl, rfl⟩, rfl⟩, ⟨i1, i2⟩, i3⟩, ⟨b1, b2⟩, b3⟩, ⟨⟨m1, m2⟩, m3⟩, ⟨d1, d2⟩, d3⟩ := hi
                  cases hl
                  have hsuc : nx.num ≤ nx.succ.num := by rw [Pt.succ_num]; omega
                  refine ⟨by simp, fun x hx => ?_, fun E ρ D a w hp hops hm hfr K Q hK => ?_⟩
                  · simp at hx
                    rcases hx with rfl | rfl | rfl | rfl | rfl | rfl <;> exact hsuc
                  · have memA : ∀ x ∈ c.args.toList, x ∈ o.op.operands.toList := by
                      intro x hx
                      simp only [ho, Op.operands, Call.operands, hcal]
                      simp; exact .inr (by simpa using hx)
                    obtain ⟨ha1, ha2⟩ := rawAll_ok hops memA has
                    obtain ⟨hf1, hf2⟩ := opC_ok hp hops (by simp [ho, Op.operands, Call.operands, hcal]) hf
                    have hD : D bx := by
                      have : C.oks E ρ D [.ptr bx 0] := ha1 _ List.mem_cons_self
                      exact this.1
                    obtain ⟨cs, e1, _, _, _, e2⟩ := hm.mem bx _ hD hbx
                    obtain ⟨o1, o2⟩ := e2 0 _ hc0
                    have hDb : D b := o1
                    obtain ⟨e3, _⟩ := hm.mem b _ hDb hb
                    have p2 : w.cell? ⟨(ρ bx).g, 0, none⟩ = some (.map (some (ρ b).g)) := by simp only [World.cell?, e1]; simpa [C.val] using o2
                    have hcall := h.three w _ _ cl (s1.den E) (s2.den E) (s3.den E) (v1.val E ρ) (v2.val E ρ) (v3.val E ρ) n1 n2 n3 p2 e3 (Nat.le_of_ble_eq_true b1) (Nat.le_of_ble_eq_true b2) (Nat.le_of_ble_eq_true b3) (Nat.ne_of_beq_eq_false m1) (Nat.ne_of_beq_eq_false m2) (Nat.ne_of_beq_eq_false m3) (ne2_ok hp d1) (ne2_ok hp d2) (ne2_ok hp d3) (inIv_ok hp i1) (inIv_ok hp i2) (inIv_ok hp i3)
                    have hargs : c.args.map a.eval = #[.func (.func f') #[] #[.pointer (some ⟨(ρ bx).g, 0, none⟩)]] := by
                      apply Array.ext'
                      rw [Array.toList_map, ha2]
                      rfl
                    refine call_wp ho hcal hf2 h.body (hargs ▸ hcall) fun e w' ⟨⟨g', cap, cur, r1, r2, r3, r4, r5, r6, x, y, z, r7, x0, x1, x2⟩, r8⟩ => ?_
                    have hnx : ¬ D nx := hfr (col3M q3 ky m nx s1 s2 s3) List.mem_cons_self nx ((rg_succ _ _).2 rfl)
                    have one : ∀ (s t u : T), cur[0]? = some (.int q3 (s.den E)) → cur[1]? = some (.int q3 (t.den E)) → cur[2]? = some (.int q3 (u.den E)) → col3M q3 ky m nx s t u ∈ [col3M q3 ky m nx s1 s2 s3, col3M q3 ky m nx s1 s3 s2, col3M q3 ky m nx s2 s1 s3, col3M q3 ky m nx s2 s3 s1, col3M q3 ky m nx s3 s1 s2, col3M q3 ky m nx s3 s2 s1] → ∃ v, e = .returned v ∧ K (a.put o.dst v) w' := by
                      intro s t u h0 h1 h2 hin
                      have hT := hm.adopt (Below.loc r8) (b := nx) (x := .cells ky 3 false [] (Tri.put (Tri.put (Tri.put .e (path 0) (some (.int q3 s))) (path 1) (some (.int q3 t))) (path 2) (some (.int q3 u)))) hnx (g := g') (z := cap) r2 (by
                        refine ⟨cur, r3, r6, r4, fun h => (by cases h), fun i x hx => ?_⟩
                        unfold cellAt at hx
                        cases hi' : Nat.ble 3 i <;> simp only [hi', cond_true, cond_false] at hx
                        · have hlt : ¬ 3 ≤ i := fun hc => by rw [Nat.ble_eq_true_of_le hc] at hi'; cases hi'
                          rw [Tri.get_put, Tri.get_put, Tri.get_put] at hx
                          have : i = 0 ∨ i = 1 ∨ i = 2 := by omega
                          rcases this with rfl | rfl | rfl
                          · rw [if_neg (path_ne (by decide)), if_neg (path_ne (by decide)), if_pos rfl] at hx
                            cases hx
                            exact ⟨trivial, h0⟩
                          · rw [if_neg (path_ne (by decide)), if_pos rfl] at hx
                            cases hx
                            exact ⟨trivial, h1⟩
                          · rw [if_pos rfl] at hx
                            cases hx
                            exact ⟨trivial, h2⟩
                        · cases hx)
                      refine ⟨_, r1, ?_⟩
                      have := hK _ hin _ w' hT (by
                        refine ⟨.inr ((rg_succ _ _).2 rfl), ?_, ?_⟩
                        · simp only [upd_same, Cp.val]; omega
                        · simp only [upd_same, Cp.fit]; exact ⟨by omega, by omega⟩)
                      have hv : (col3M q3 ky m nx s t u).1.val E (upd ρ nx ⟨g', cap⟩) = .slice (some ⟨g', 0, none⟩) 3 cap := by simp [col3M, L.val, A.val, C.val, upd_same, Cp.val]
                      rw [hv] at this
                      exact this
                    simp only [perm3, List.mem_cons, List.cons.injEq, List.not_mem_nil, or_false, and_true] at r7
                    rcases r7 with ⟨rfl, rfl, rfl⟩ | ⟨rfl, rfl, rfl⟩ | ⟨rfl, rfl, rfl⟩ | ⟨rfl, rfl, rfl⟩ | ⟨rfl, rfl, rfl⟩ | ⟨rfl, rfl, rfl⟩
                    · exact one s1 s2 s3 x0 x1 x2 (by simp)
                    · exact one s1 s3 s2 x0 x1 x2 (by simp)
                    · exact one s2 s1 s3 x0 x1 x2 (by simp)
                    · exact one s2 s3 s1 x0 x1 x2 (by simp)
                    · exact one s3 s1 s2 x0 x1 x2 (by simp)
                    · exact one s3 s2 s1 x0 x1 x2 (by simp)
                · cases hl
              · cases hl
            · cases hl
          · cases hl
        · cases hl
      · cases hl
    · cases hl
  · cases hl
end
end Go.E3
namespace Go.Col
open Go Go.Proofs Go.RowKit Go.Maps Go.E3
open Go.WideElems (rd rg)
theorem three_b : 3 * 4 ≤ 140737488355328 := by decide
theorem three_le : 3 ≤ maxLen := by decide
theorem in_perm3 {a b c : Int} (hab : a ≠ b) (hac : a ≠ c) (hbc : b ≠ c) {ss : List Int} (nd : ss.Nodup) (mem : ∀ x, x ∈ ss ↔ x = a ∨ x = b ∨ x = c) : ∃ x y z, ss = [x, y, z] ∧ [x, y, z] ∈ perm3 a b c := by
  have hp : ss.Perm [a, b, c] := (List.perm_ext_iff_of_nodup nd (by simp [hab, hac, hbc])).2 fun x => by simp [mem x]
  have hl := hp.length_eq
  match ss, hl, nd, mem with
  | [x, y, z], _, nd, mem =>
    refine ⟨x, y, z, rfl, ?_⟩
    have hx := (mem x).1 (by simp)
    have hy := (mem y).1 (by simp)
    have hz := (mem z).1 (by simp)
    simp only [List.nodup_cons, List.mem_cons, List.not_mem_nil, or_false, not_or] at nd
    obtain ⟨⟨n1, n2⟩, n3, _⟩ := nd
    rcases hx with rfl | rfl | rfl <;> rcases hy with rfl | rfl | rfl <;> rcases hz with rfl | rfl | rfl <;> first
      | exact absurd rfl n1
      | exact absurd rfl n2
      | exact absurd rfl n3
      | simp [perm3]
theorem colOk3 : ColOk3 Tryz.prog .u32 244 245 24 where
  body := ⟨_, _, Tryz.func244, rfl, of_decide_eq_true (by kernel_rfl)⟩
  three w Bm b clock a1 a2 a3 v1 v2 v3 n1 n2 n3 hm hb l1 l2 l3 b12 b13 b23 e12 e13 e23 r1 r2 r3 := by
    have hBm : Bm < w.heap.size := by
      cases h : w.heap[Bm]? with
      | none => simp [World.cell?, h] at hm
      | some o => exact (Array.getElem?_eq_some_iff.1 h).1
    have wf : ∀ a : Int, Sy.kmin .u32 ≤ a ∧ a ≤ Sy.kmax .u32 → (Lit.int .u32 a).wf = true := fun a h => by
      rw [Sy.kmin_eq, Sy.kmax_eq] at h; simp [Lit.wf]; exact h
    have hk : ∀ a : Int, Sy.kmin .u32 ≤ a ∧ a ≤ Sy.kmax .u32 → keyOf Tryz.prog 24 (.int .u32 a) = some (.int .u32 a) := fun a h => Maps.keyOf_int_mk Tryz.underlying24 (wf a h)
    have hrd : ∀ (a : Int) (v : Value) (n : Nat), Sy.kmin .u32 ≤ a ∧ a ≤ Sy.kmax .u32 → rd Tryz.prog 24 Rany { key := .int .u32 a, val := v, born := n } = some (.int .u32 a, .lit (.bool true)) := fun a v n h => by simp [rd, hk a h, Rany]
    have d1 := hrd a1 v1 n1 r1
    have d2 := hrd a2 v2 n2 r2
    have d3 := hrd a3 v3 n3 r3
    generalize hD : (.map (DataW.insert (Lit.int .u32 a1, DataW.lit (.bool true)) (DataW.insert (Lit.int .u32 a2, DataW.lit (.bool true)) [(Lit.int .u32 a3, DataW.lit (.bool true))])) : DataW Unit) = D0
    have hsz : Maps.size D0 = 3 := by
      rw [← hD]; simp only [DataW.insert]; split <;> simp only [DataW.insert] <;> (repeat' split) <;> rfl
    have hhas : ∀ x, Maps.has D0 (.int .u32 x) = true ↔ x = a1 ∨ x = a2 ∨ x = a3 := fun x => by
      rw [← hD]
      have q : ∀ a : Int, (a = x) = (x = a) := fun a => propext ⟨fun h => h.symm, fun h => h.symm⟩
      simp only [DataW.insert]
      split <;> simp only [DataW.insert] <;> (repeat' split) <;> simp [Maps.has, Lit.sameKey, q] <;> constructor <;> intro h <;> rcases h with h | h | h <;> simp [h]
    have hown : w.ownsMap Tryz.prog 24 Rany b 3 D0 := by
      refine ⟨_, clock, hb, ⟨three_le, ⟨fun x hx => ?_, by simp [b12, b13, b23], ?_⟩, fun x hx => ?_⟩, Nat.le_refl _, ?_⟩
      · simp at hx; rcases hx with rfl | rfl | rfl
        · exact l1
        · exact l2
        · exact l3
      · simp [e12, e13, e23]
      · simp at hx; rcases hx with rfl | rfl | rfl
        · exact ⟨_, d1⟩
        · exact ⟨_, d2⟩
        · exact ⟨_, d3⟩
      · rw [← hD]; simp [rg, d1, d2, d3, DataW.insert]
    refine Calls.mono (Uk.collect Bm b 3 _ w hBm hm hown (by rw [hsz]; exact three_le) (by rw [hsz]; exact three_b)) fun e w' ⟨v', ss, h1, h2, h3, h4, h5⟩ => ⟨?_, h5⟩
    obtain ⟨x, y, z, rfl, hin⟩ := in_perm3 e12 e13 e23 h2.1 fun x => by rw [h2.2 x]; exact hhas x
    rcases h3.2 with ⟨_, h0⟩ | ⟨g, cap, cur, rfl, hbase, hg, r1, r2, r3, r4⟩
    · cases h0
    · refine ⟨g, cap, cur, h1, hbase, hg, by simpa using r1, r2, by omega, x, y, z, hin, ?_⟩
      have h6 : ∀ (i : Nat) (k : Int), [x, y, z][i]? = some k → cur[i]? = some (Value.int .u32 k) := fun i k hi => by
        have h7 : (cur.toList.take ([x, y, z].length * 1))[i]? = some (Value.int .u32 k) := by
          have e : cur.toList.take ([x, y, z].length * 1) = [x, y, z].map encU := by simpa using r4
          rw [e, List.getElem?_map, hi]; rfl
        have hlt : i < [x, y, z].length * 1 := by
          have := (List.getElem?_eq_some_iff.1 hi).1
          omega
        rw [List.getElem?_take_of_lt hlt] at h7
        rw [← Array.getElem?_toList]; exact h7
      exact ⟨h6 0 _ rfl, h6 1 _ rfl, h6 2 _ rfl⟩
end Go.Col
namespace Go.RvC
open Go Go.Sy Go.E3
noncomputable def fk3 : Fk := orFk fk25 (fkCol3 .u32 244 245 24)
theorem fk3_ok : FkOk P fk3 := orFk_ok fk25_ok (fkCol3_ok Col.colOk3)
end Go.RvC
