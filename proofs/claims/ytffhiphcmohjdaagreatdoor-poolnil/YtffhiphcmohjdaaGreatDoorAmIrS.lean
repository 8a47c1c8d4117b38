/- Short words for printed code. -/
import Derived.Test.YtffhiphcmohjdaaGreatDoorAmFun
set_option linter.all false
namespace Am.Ir
open Am Go

@[reducible] def ox (d : Nat) (x : AOp) : AOper := ⟨some d, .inl x, none⟩
@[reducible] def oz (x : AOp) : AOper := ⟨none, .inl x, none⟩
@[reducible] def kx (d : Nat) (x : ACallee) : AOper := ⟨some d, .inr x, none⟩
@[reducible] def kz (x : ACallee) : AOper := ⟨none, .inr x, none⟩
@[reducible] def og (t : Nat) (b : Bool) (d : Nat) (x : AOp) : AOper := ⟨some d, .inl x, some (t, b)⟩
@[reducible] def ogz (t : Nat) (b : Bool) (x : AOp) : AOper := ⟨none, .inl x, some (t, b)⟩
@[reducible] def kg (t : Nat) (b : Bool) (d : Nat) (x : ACallee) : AOper := ⟨some d, .inr x, some (t, b)⟩
@[reducible] def kgz (t : Nat) (b : Bool) (x : ACallee) : AOper := ⟨none, .inr x, some (t, b)⟩
@[reducible] def mo (d s : Nat) : AOper := ⟨some d, .inl (.mv (.t s)), none⟩
@[reducible] def ai (n : Int) : Arg := .c (.int .i64 n)

/-- Cells, told by runs. -/
def rp : List (Nat × AVal) → List AVal
  | [] => []
  | (n, v) :: r => List.replicate n v ++ rp r
end Am.Ir
