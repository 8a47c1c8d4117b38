/- A whole program's run over the machine: functions by a table, some of them by models of one's own. -/
import Derived.Test.YtffhiphcmohjdaaGreatDoorAmPure
set_option linter.all false
namespace Am
open Go

structure Ent where
  fs : List FuncId
  F : AFun

mutual
def runM (tbl : FuncId → Option Ent) (ovr : FuncId → Option Model) (k : Nat) : Nat → FuncId → Model
  | 0, _ => fun _ _ => none
  | n + 1, g => match ovr g with
    | some m => m
    | none => match tbl g with
      | some e => evF { loc := e.fs.map (runM tbl ovr k n), dyn := runM tbl ovr k n, itr := runI tbl ovr k n } k e.F
      | none => fun _ _ => none
def runI (tbl : FuncId → Option Ent) (ovr : FuncId → Option Model) (k : Nat) : Nat → FuncId → (Nat → Model) → Model
  | 0, _ => fun _ _ _ => none
  | n + 1, g => fun Y => match tbl g with
    | some e => evF { loc := e.fs.map (runM tbl ovr k n), dyn := fun _ _ _ => none, yld := Y } k e.F
    | none => fun _ _ => none
end
end Am
