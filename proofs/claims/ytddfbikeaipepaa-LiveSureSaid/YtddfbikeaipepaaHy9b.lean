/- Part 9b of a checked reader of Go texts in their model form: it runs a function at terms in the place of numbers, and each part proves that its answers hold of the model. -/
import Derived.Test.YtddfbikeaipepaaHy9
namespace Go.Sy
/-! What is worked out is written out, before one goes on: the checker reckons by need, and the needs grow long. -/
variable {β : Type}
def fcN (n : Nat) (k : Nat → β) : β := match n with
  | 0 => k 0
  | n + 1 => k (Nat.succ n)
theorem fcN_eq (n : Nat) (k : Nat → β) : fcN n k = k n := by cases n <;> rfl
def fcI (n : Int) (k : Int → β) : β := match n with
  | .ofNat n => fcN n fun n => k (.ofNat n)
  | .negSucc n => fcN n fun n => k (.negSucc n)
theorem fcI_eq (n : Int) (k : Int → β) : fcI n k = k n := by cases n <;> simp only [fcI, fcN_eq]
def fcB (b : Bool) (k : Bool → β) : β := match b with
  | true => k true
  | false => k false
theorem fcB_eq (b : Bool) (k : Bool → β) : fcB b k = k b := by cases b <;> rfl
def fcK (x : IntKind) (k : IntKind → β) : β := match x with
  | .i8 => k .i8 | .i16 => k .i16 | .i32 => k .i32 | .i64 => k .i64
  | .u8 => k .u8 | .u16 => k .u16 | .u32 => k .u32 | .u64 => k .u64
theorem fcK_eq (x : IntKind) (k : IntKind → β) : fcK x k = k x := by cases x <;> rfl
def fcLs {α : Type} (f : α → (α → β) → β) : List α → (List α → β) → β
  | [], k => k []
  | x :: xs, k => f x fun x => fcLs f xs fun xs => k (x :: xs)
theorem fcLs_eq {α : Type} {f : α → (α → β) → β} (h : ∀ x k, f x k = k x) : ∀ (xs : List α) (k : List α → β), fcLs f xs k = k xs
  | [], k => rfl
  | x :: xs, k => by simp only [fcLs, h, fcLs_eq h xs]
def fcO1 (o : O1) (k : O1 → β) : β := match o with
  | .wrap x => fcK x fun x => k (.wrap x)
  | .not => k .not
  | .cl lo hi => fcI lo fun lo => fcI hi fun hi => k (.cl lo hi)
theorem fcO1_eq (o : O1) (k : O1 → β) : fcO1 o k = k o := by cases o <;> simp only [fcO1, fcK_eq, fcI_eq]
def fcO2 (o : O2) (k : O2 → β) : β := match o with
  | .add => k .add | .sub => k .sub | .mul => k .mul | .tdiv => k .tdiv | .tmod => k .tmod | .eq => k .eq | .lt => k .lt | .le => k .le | .and => k .and | .or => k .or
  | .band x => fcK x fun x => k (.band x)
  | .bor x => fcK x fun x => k (.bor x)
  | .bxor x => fcK x fun x => k (.bxor x)
  | .bandn x => fcK x fun x => k (.bandn x)
  | .shl x => fcK x fun x => k (.shl x)
  | .shr x => fcK x fun x => k (.shr x)
theorem fcO2_eq (o : O2) (k : O2 → β) : fcO2 o k = k o := by cases o <;> simp only [fcO2, fcK_eq]
def T.fc : T → (T → β) → β
  | .lit n, k => fcI n fun n => k (.lit n)
  | .v i lo hi, k => fcN i fun i => fcI lo fun lo => fcI hi fun hi => k (.v i lo hi)
  | .un o a, k => fcO1 o fun o => a.fc fun a => k (.un o a)
  | .bin o a b, k => fcO2 o fun o => a.fc fun a => b.fc fun b => k (.bin o a b)
  | .ite c a b, k => c.fc fun c => a.fc fun a => b.fc fun b => k (.ite c a b)
  | .sel s i, k => s.fc fun s => i.fc fun i => k (.sel s i)
  | .upd s i x, k => s.fc fun s => i.fc fun i => x.fc fun x => k (.upd s i x)
  | .sh s o, k => s.fc fun s => o.fc fun o => k (.sh s o)
  | .blit d o n s, k => d.fc fun d => o.fc fun o => n.fc fun n => s.fc fun s => k (.blit d o n s)
  | .eqr n a b, k => n.fc fun n => a.fc fun a => b.fc fun b => k (.eqr n a b)
theorem T.fc_eq (t : T) : ∀ (k : T → β), t.fc k = k t := by
  induction t <;> intro k <;> simp only [T.fc, fcI_eq, fcN_eq, fcO1_eq, fcO2_eq, *]
def fcKd (x : K) (k : K → β) : β := match x with
  | .i x => fcK x fun x => k (.i x)
  | .b => k .b
theorem fcKd_eq (x : K) (k : K → β) : fcKd x k = k x := by cases x <;> simp only [fcKd, fcK_eq]
def C.fc (x : C) (k : C → β) : β := match x with
  | .int q t => fcK q fun q => t.fc fun t => k (.int q t)
  | .bool t => t.fc fun t => k (.bool t)
  | .ptr b o => fcN b fun b => fcN o fun o => k (.ptr b o)
  | .pti b o ix sz cnt => fcN b fun b => fcN o fun o => ix.fc fun ix => fcN sz fun sz => fcN cnt fun cnt => k (.pti b o ix sz cnt)
  | .nilp => k .nilp
  | .slc b o l => fcN b fun b => fcN o fun o => fcN l fun l => k (.slc b o l)
  | .nils => k .nils
  | .fn f => fcN f fun f => k (.fn f)
  | .clo f caps => fcN f fun f => fcLs (fun p k => fcN p.1 fun a => fcN p.2 fun b => k (a, b)) caps fun caps => k (.clo f caps)
  | .raw v => k (.raw v)
  | .any => k .any
  | .str n s => n.fc fun n => s.fc fun s => k (.str n s)
  | .slr b z o n => fcN b fun b => fcN z fun z => o.fc fun o => n.fc fun n => k (.slr b z o n)
  | .sln b z n => fcN b fun b => fcN z fun z => n.fc fun n => k (.sln b z n)
  | .pta b z i o r => fcN b fun b => fcN z fun z => i.fc fun i => fcN o fun o => r.fc fun r => k (.pta b z i o r)
theorem fcPair_eq (p : Nat × Nat) (k : Nat × Nat → β) : (fcN p.1 fun a => fcN p.2 fun b => k (a, b)) = k p := by simp only [fcN_eq]
theorem C.fc_eq (x : C) (k : C → β) : x.fc k = k x := by
  cases x <;> simp only [C.fc, fcK_eq, fcN_eq, T.fc_eq]
  exact fcLs_eq (fun _ _ => rfl) _ _
def A.fc (x : A) (k : A → β) : β := match x with
  | .c x => x.fc fun x => k (.c x)
  | .agg xs => fcLs C.fc xs fun xs => k (.agg xs)
  | .dead => k .dead
theorem A.fc_eq (x : A) (k : A → β) : x.fc k = k x := by
  cases x <;> simp only [A.fc, C.fc_eq]
  exact fcLs_eq C.fc_eq _ _
def L.fc (x : L) (k : L → β) : β := match x with
  | .a x => x.fc fun x => k (.a x)
  | .tup xs => fcLs A.fc xs fun xs => k (.tup xs)
  | .gd c x => c.fc fun c => x.fc fun x => k (.gd c x)
theorem L.fc_eq (x : L) (k : L → β) : x.fc k = k x := by
  cases x <;> simp only [L.fc, A.fc_eq, T.fc_eq]
  exact fcLs_eq A.fc_eq _ _
def Tr.fc : Tr → (Tr → β) → β
  | .nil, k => k .nil
  | .nd x l r, k => x.fc fun x => l.fc fun l => r.fc fun r => k (.nd x l r)
theorem Tr.fc_eq (t : Tr) : ∀ (k : Tr → β), t.fc k = k t := by
  induction t <;> intro k <;> simp only [Tr.fc, L.fc_eq, *]
def Col.fc (x : Col) (k : Col → β) : β := match x with
  | ⟨q, m, s⟩ => fcKd q fun q => fcN m fun m => s.fc fun s => k ⟨q, m, s⟩
theorem Col.fc_eq (x : Col) (k : Col → β) : x.fc k = k x := by cases x; simp only [Col.fc, fcKd_eq, fcN_eq, T.fc_eq]
def Bk.fc (x : Bk) (k : Bk → β) : β := match x with
  | .cells ty xs => fcN ty fun ty => fcLs C.fc xs fun xs => k (.cells ty xs)
  | .arr ty n cols => fcN ty fun ty => n.fc fun n => fcLs Col.fc cols fun cols => k (.arr ty n cols)
  | .dead => k .dead
theorem Bk.fc_eq (x : Bk) (k : Bk → β) : x.fc k = k x := by
  cases x <;> simp only [Bk.fc, fcN_eq, T.fc_eq]
  · exact fcLs_eq C.fc_eq _ _
  · exact fcLs_eq Col.fc_eq _ _
def fcF (p : T × Bool) (k : T × Bool → β) : β := match p with
  | (t, b) => t.fc fun t => fcB b fun b => k (t, b)
theorem fcF_eq (p : T × Bool) (k : T × Bool → β) : fcF p k = k p := by obtain ⟨t, b⟩ := p; simp only [fcF, T.fc_eq, fcB_eq]
def Df.fc (d : Df) (k : Df → β) : β := match d with
  | .one i t => fcN i fun i => t.fc fun t => k (.one i t)
  | .call i g ts n => fcN i fun i => fcN g fun g => fcLs T.fc ts fun ts => fcN n fun n => k (.call i g ts n)
theorem Df.fc_eq (d : Df) (k : Df → β) : d.fc k = k d := by
  cases d <;> simp only [Df.fc, fcN_eq, T.fc_eq]
  exact fcLs_eq T.fc_eq _ _
def Kn.fc (x : Kn) (k : Kn → β) : β := match x with
  | ⟨ds, nv⟩ => fcLs Df.fc ds fun ds => fcN nv fun nv => k ⟨ds, nv⟩
theorem Kn.fc_eq (x : Kn) (k : Kn → β) : x.fc k = k x := by
  cases x; simp only [Kn.fc, fcN_eq]; exact fcLs_eq Df.fc_eq _ _
def fcPc (x : Pc) (k : Pc → β) : β := fcLs fcF x k
theorem fcPc_eq (x : Pc) (k : Pc → β) : fcPc x k = k x := fcLs_eq fcF_eq _ _
def St.fc (x : St) (k : St → β) : β := match x with
  | ⟨s, m, pc, kn⟩ => s.fc fun s => fcLs Bk.fc m fun m => fcPc pc fun pc => kn.fc fun kn => k ⟨s, m, pc, kn⟩
theorem St.fc_eq (x : St) (k : St → β) : x.fc k = k x := by
  cases x; simp only [St.fc, Tr.fc_eq, fcPc_eq, Kn.fc_eq]; exact fcLs_eq Bk.fc_eq _ _
/-- A slot set, its way down written out. -/
def Tr.setF : Tr → Nat → L → (Tr → β) → β
  | .nil, _, _, k => k .nil
  | .nd x l r, i, y, k => bif Nat.beq i 0 then k (.nd y l r) else bif Nat.beq (Nat.mod i 2) 1 then l.setF (Nat.div i 2) y fun l => k (.nd x l r) else r.setF (Nat.pred (Nat.div i 2)) y fun r => k (.nd x l r)
theorem Tr.setF_eq {y : L} : ∀ (t : Tr) (i : Nat) (k : Tr → β), t.setF i y k = k (t.set i y) := by
  intro t
  induction t with
  | nil => intro i k; rfl
  | nd x l r ihl ihr =>
    intro i k
    simp only [Tr.setF, Tr.set, ihl, ihr]
    cases Nat.beq i 0 <;> cases Nat.beq (Nat.mod i 2) 1 <;> rfl
/-- A slot's new value, written out. -/
def putF (st : St) (dst : Option Tmp) (y : L) (k : St → β) : β := y.fc fun y => match dst with
  | some d => st.s.setF d y fun s => k ⟨s, st.m, st.pc, st.k⟩
  | none => k st
end Go.Sy
