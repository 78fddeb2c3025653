/- Calls of the program, each told by its own run. -/
import Derived.Test.YtgnfekfikifgiaaGreatWyZf4
namespace Go.E3
open Go.Sy
/-! short words for told memory: rows of cells -/
noncomputable section
def c8 (v : Int) : C := .int .u8 (.lit v)
def c32 (v : Int) : C := .int .u32 (.lit v)
def c64 (v : Int) : C := .int .i64 (.lit v)
/-- Numbers of a kind, ahead of a row. -/
def bN (k : IntKind) (l : List Nat) (r : List C) : List C := List.rec (motive := fun _ => List C) r (fun v _ ih => .int k (.lit (.ofNat v)) :: ih) l
def b8 (l : List Nat) (r : List C) : List C := bN .u8 l r
def b32 (l : List Nat) (r : List C) : List C := bN .u32 l r
def b64 (l : List Nat) (r : List C) : List C := bN .i64 l r
/-- A cell, so often, ahead of a row. -/
def zC (n : Nat) (c : C) (r : List C) : List C := Nat.rec (motive := fun _ => List C) r (fun _ ih => c :: ih) n
def cC (l r : List C) : List C := List.rec (motive := fun _ => List C) r (fun c _ ih => c :: ih) l
/-- A row's cells from a place on, the others behind. -/
def rwC (o : Nat) (l : List C) (k : Tri C → Tri C) (t : Tri C) : Tri C := putsK l t o k
/-- A tree, written out. -/
def frT (t : Tri C) : (Tri C → Tri C) → Tri C := Tri.rec (motive := fun _ => (Tri C → Tri C) → Tri C) (fun k => k .e) (fun x _ _ ihl ihr k => Option.rec (motive := fun _ => Tri C) (ihl fun l => ihr fun r => k (.n none l r)) (fun c => ihl fun l => ihr fun r => k (.n (some c) l r)) x) t
def tC (k : Tri C → Tri C) : Tri C := frT (k .e) fun t => t
/-- A block of cells, some of them others. -/
def upB (x : B) (k : Tri C → Tri C) : B := match x with
  | .cells ty n kk d t => .cells ty n kk d (frT (k t) fun t => t)
  | x => x
end
end Go.E3
