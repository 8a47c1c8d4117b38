/- The machine's code of the functions, printed by a program of this session; each is checked against the model's. -/
import Derived.Test.YtlhbmnhiiicldaaAmFun
set_option linter.all false
namespace Am.Ir
open Am Go
set_option maxRecDepth 100000
def disk_New : AFun :=
  ⟨1, [Sum.inl 2, Sum.inl 3], (.seq (.region none [{ dst := some 2, op := Sum.inl (AOp.mv (Arg.c AVal.nilp)), guard := none }, { dst := some 3, op := Sum.inl (AOp.mv (Arg.c (AVal.int IntKind.i64 (0)))), guard := none }])
    (.seq (.seq (.region none [{ dst := some 4, op := Sum.inl (AOp.mv (Arg.t 0)), guard := none }, { dst := some 5, op := Sum.inl (AOp.bin BinOp.lss (Arg.t 4) (Arg.c (AVal.int IntKind.i64 (16)))), guard := none },
    { dst := some 6, op := Sum.inl (AOp.mv (Arg.t 5)), guard := none }, { dst := some 7, op := Sum.inl (AOp.mv (Arg.t 0)), guard := some (6, false) }, { dst := some 8, op := Sum.inl (AOp.bin BinOp.gtr (Arg.t 7) (Arg.c (AVal.int IntKind.i64 (512)))), guard := some (6, false) },
    { dst := some 9, op := Sum.inl (AOp.pick (Arg.t 6) (Arg.c (AVal.bool true)) (Arg.t 8)), guard := none }]) (.cond (Arg.t 9) (.seq (.region none [{ dst := some 2, op := Sum.inl (AOp.mv (Arg.c AVal.nilp)), guard := none },
    { dst := some 3, op := Sum.inl (AOp.mv (Arg.c (AVal.int IntKind.i64 (1)))), guard := none }]) ACode.ret) ACode.skip)) (.seq (.region none [{ dst := some 10, op := Sum.inl (AOp.mv (Arg.t 0)), guard := none },
    { dst := some 11, op := Sum.inl (AOp.bin BinOp.mul (Arg.t 10) (Arg.c (AVal.int IntKind.i64 (256)))), guard := none }, { dst := some 12, op := Sum.inl (AOp.mkslice 1 1 [AVal.int IntKind.u8 (0)] (Arg.t 11) (Arg.t 11)), guard := none },
    { dst := some 13, op := Sum.inl (AOp.build [AVal.nils, AVal.nils, AVal.int IntKind.i64 (0), AVal.bool false] [(0, 1, Arg.t 12), (2, 1, Arg.c (AVal.int IntKind.i64 (-1)))]), guard := none },
    { dst := some 14, op := Sum.inl (AOp.box (Arg.t 13)), guard := none }, { dst := some 2, op := Sum.inl (AOp.mv (Arg.t 14)), guard := none }, { dst := some 3, op := Sum.inl (AOp.mv (Arg.c (AVal.int IntKind.i64 (0)))), guard := none }])
    ACode.ret))), false⟩

def disk_Len : AFun :=
  ⟨1, [Sum.inl 2], (.seq (.region none [{ dst := some 2, op := Sum.inl (AOp.mv (Arg.c (AVal.int IntKind.i64 (0)))), guard := none }]) (.seq (.seq (.region none [{ dst := some 3, op := Sum.inl (AOp.mv (Arg.t 0)), guard := none },
    { dst := some 4, op := Sum.inl (AOp.eq false EqT.ptr (Arg.t 3) (Arg.c AVal.nilp)), guard := none }]) (.cond (Arg.t 4) (.seq (.region none [{ dst := some 2, op := Sum.inl (AOp.mv (Arg.c (AVal.int IntKind.i64 (0)))), guard := none }])
    ACode.ret) ACode.skip)) (.seq (.region none [{ dst := some 5, op := Sum.inl (AOp.mv (Arg.t 0)), guard := none }, { dst := some 6, op := Sum.inl (AOp.nilchk (Arg.t 5)), guard := none },
    { dst := some 7, op := Sum.inl (AOp.faddr 0 (Arg.t 6)), guard := none }, { dst := some 8, op := Sum.inl (AOp.load none (Arg.t 7)), guard := none }, { dst := some 9, op := Sum.inl (AOp.len LenT.sl (Arg.t 8)), guard := none },
    { dst := some 10, op := Sum.inl (AOp.bin BinOp.quo (Arg.t 9) (Arg.c (AVal.int IntKind.i64 (256)))), guard := none }, { dst := some 2, op := Sum.inl (AOp.mv (Arg.t 10)), guard := none }])
    ACode.ret))), false⟩

def disk_Waits : AFun :=
  ⟨1, [Sum.inl 2], (.seq (.region none [{ dst := some 2, op := Sum.inl (AOp.mv (Arg.c (AVal.int IntKind.i64 (0)))), guard := none }]) (.seq (.seq (.region none [{ dst := some 3, op := Sum.inl (AOp.mv (Arg.t 0)), guard := none },
    { dst := some 4, op := Sum.inl (AOp.eq false EqT.ptr (Arg.t 3) (Arg.c AVal.nilp)), guard := none }]) (.cond (Arg.t 4) (.seq (.region none [{ dst := some 2, op := Sum.inl (AOp.mv (Arg.c (AVal.int IntKind.i64 (0)))), guard := none }])
    ACode.ret) ACode.skip)) (.seq (.region none [{ dst := some 5, op := Sum.inl (AOp.mv (Arg.t 0)), guard := none }, { dst := some 6, op := Sum.inl (AOp.nilchk (Arg.t 5)), guard := none },
    { dst := some 7, op := Sum.inl (AOp.faddr 1 (Arg.t 6)), guard := none }, { dst := some 8, op := Sum.inl (AOp.load none (Arg.t 7)), guard := none }, { dst := some 9, op := Sum.inl (AOp.len LenT.sl (Arg.t 8)), guard := none },
    { dst := some 2, op := Sum.inl (AOp.mv (Arg.t 9)), guard := none }]) ACode.ret))), false⟩

def disk_has : AFun :=
  ⟨2, [Sum.inl 4], (.seq (.region none [{ dst := some 4, op := Sum.inl (AOp.mv (Arg.c (AVal.bool false))), guard := none }]) (.seq (.region none [{ dst := some 5, op := Sum.inl (AOp.mv (Arg.t 1)), guard := none },
    { dst := some 6, op := Sum.inl (AOp.bin BinOp.geq (Arg.t 5) (Arg.c (AVal.int IntKind.i64 (0)))), guard := none }, { dst := some 7, op := Sum.inl (AOp.mv (Arg.t 6)), guard := none },
    { dst := some 8, op := Sum.inl (AOp.mv (Arg.t 1)), guard := some (7, true) }, { dst := some 9, op := Sum.inl (AOp.mv (Arg.t 0)), guard := some (7, true) }, { dst := some 10, op := Sum.inr (ACallee.k 0 [Arg.t 9]), guard := some (7, true) },
    { dst := some 11, op := Sum.inl (AOp.bin BinOp.lss (Arg.t 8) (Arg.t 10)), guard := some (7, true) }, { dst := some 12, op := Sum.inl (AOp.pick (Arg.t 7) (Arg.t 11) (Arg.c (AVal.bool false))), guard := none },
    { dst := some 4, op := Sum.inl (AOp.mv (Arg.t 12)), guard := none }]) ACode.ret)), false⟩

def disk_sector : AFun :=
  ⟨2, [Sum.inl 4], (.seq (.region none [{ dst := some 4, op := Sum.inl (AOp.mv (Arg.c AVal.nils)), guard := none }]) (.seq (.region none [{ dst := some 5, op := Sum.inl (AOp.mv (Arg.t 0)), guard := none },
    { dst := some 6, op := Sum.inl (AOp.nilchk (Arg.t 5)), guard := none }, { dst := some 7, op := Sum.inl (AOp.faddr 0 (Arg.t 6)), guard := none }, { dst := some 8, op := Sum.inl (AOp.load none (Arg.t 7)), guard := none },
    { dst := some 9, op := Sum.inl (AOp.mv (Arg.t 1)), guard := none }, { dst := some 10, op := Sum.inl (AOp.bin BinOp.mul (Arg.t 9) (Arg.c (AVal.int IntKind.i64 (256)))), guard := none },
    { dst := some 11, op := Sum.inl (AOp.mv (Arg.t 1)), guard := none }, { dst := some 12, op := Sum.inl (AOp.bin BinOp.add (Arg.t 11) (Arg.c (AVal.int IntKind.i64 (1)))), guard := none },
    { dst := some 13, op := Sum.inl (AOp.bin BinOp.mul (Arg.t 12) (Arg.c (AVal.int IntKind.i64 (256)))), guard := none }, { dst := some 14, op := Sum.inl (AOp.slcS 1 (Arg.t 8) (some (Arg.t 10)) (some (Arg.t 13))), guard := none },
    { dst := some 4, op := Sum.inl (AOp.mv (Arg.t 14)), guard := none }]) ACode.ret)), false⟩

def disk_newest_l0 : ACode :=
  .seq (.seq (.region none [{ dst := some 11, op := Sum.inl (AOp.mv (Arg.t 4)), guard := none }, { dst := some 12, op := Sum.inl (AOp.bin BinOp.geq (Arg.t 11) (Arg.c (AVal.int IntKind.i64 (0)))), guard := none }])
    (.cond (Arg.t 12) ACode.skip (.exit 0))) (.seq (.block 1 (.seq (.region none [{ dst := some 15, op := Sum.inl (AOp.mv (Arg.t 1)), guard := none }, { dst := some 16, op := Sum.inl (AOp.mv (Arg.t 0)), guard := none },
    { dst := some 17, op := Sum.inl (AOp.nilchk (Arg.t 16)), guard := none }, { dst := some 18, op := Sum.inl (AOp.faddr 1 (Arg.t 17)), guard := none }, { dst := some 19, op := Sum.inl (AOp.load none (Arg.t 18)), guard := none },
    { dst := some 20, op := Sum.inl (AOp.mv (Arg.t 4)), guard := none }, { dst := some 21, op := Sum.inl (AOp.iaddrS 2 (Arg.t 19) (Arg.t 20)), guard := none }, { dst := some 22, op := Sum.inl (AOp.load (some 2) (Arg.t 21)), guard := none },
    { dst := some 23, op := Sum.inr (ACallee.v (Arg.t 15) [Arg.t 22]), guard := none }, { dst := some 24, op := Sum.inl (AOp.un UnOp.not (Arg.t 23)), guard := none }]) (.cond (Arg.t
    24) ACode.ret ACode.skip))) (.region none [{ dst := some 13, op := Sum.inl (AOp.mv (Arg.t 4)), guard := none }, { dst := some 14, op := Sum.inl (AOp.bin BinOp.sub (Arg.t 13) (Arg.c (AVal.int IntKind.i64 (1)))), guard := none },
    { dst := some 4, op := Sum.inl (AOp.mv (Arg.t 14)), guard := none }]))
def disk_newest_s1 : ACode :=
  .block 0 (.loop disk_newest_l0)
def disk_newest : AFun :=
  ⟨2, [], (.seq (.region none [{ dst := some 5, op := Sum.inl (AOp.mv (Arg.t 0)), guard := none }, { dst := some 6, op := Sum.inl (AOp.nilchk (Arg.t 5)), guard := none }, { dst := some 7, op := Sum.inl (AOp.faddr 1 (Arg.t 6)), guard := none },
    { dst := some 8, op := Sum.inl (AOp.load none (Arg.t 7)), guard := none }, { dst := some 9, op := Sum.inl (AOp.len LenT.sl (Arg.t 8)), guard := none }, { dst := some 10, op := Sum.inl (AOp.bin BinOp.sub (Arg.t 9) (Arg.c (AVal.int IntKind.i64 (1)))), guard := none },
    { dst := some 4, op := Sum.inl (AOp.mv (Arg.t 10)), guard := none }]) disk_newest_s1), false⟩

def bytes_Clone : AFun :=
  ⟨1, [Sum.inl 2], (.seq (.region none [{ dst := some 2, op := Sum.inl (AOp.mv (Arg.c AVal.nils)), guard := none }]) (.seq (.seq (.region none [{ dst := some 3, op := Sum.inl (AOp.mv (Arg.t 0)), guard := none },
    { dst := some 4, op := Sum.inl (AOp.eq false EqT.sl (Arg.t 3) (Arg.c AVal.nils)), guard := none }]) (.cond (Arg.t 4) (.seq (.region none [{ dst := some 2, op := Sum.inl (AOp.mv (Arg.c AVal.nils)), guard := none }])
    ACode.ret) ACode.skip)) (.seq (.region none [{ dst := some 5, op := Sum.inl (AOp.bslice false 1 0 [AVal.int IntKind.u8 (0)] []), guard := none }, { dst := some 6, op := Sum.inl (AOp.mv (Arg.t 0)), guard := none },
    { dst := some 7, op := Sum.inl (AOp.append 1 1 (Arg.t 5) (Arg.t 6)), guard := none }, { dst := some 2, op := Sum.inl (AOp.mv (Arg.t 7)), guard := none }]) ACode.ret))), false⟩

def disk_Read_a0 : ACode :=
  .region none [{ dst := some 6, op := Sum.inl (AOp.alloc [AVal.int IntKind.i64 (0), AVal.nils]), guard := none }, { dst := none, op := Sum.inl (AOp.store 2 (Arg.t 6) (Arg.t 23)), guard := none }]
def disk_Read_r1 : ACode :=
  .block 2 (.seq (.region none [{ dst := some 24, op := Sum.inl (AOp.faddr 0 (Arg.t 6)), guard := none }, { dst := some 25, op := Sum.inl (AOp.load none (Arg.t 24)), guard := none },
    { dst := some 26, op := Sum.inl (AOp.load none (Arg.t 3)), guard := none }, { dst := some 27, op := Sum.inl (AOp.bin BinOp.eql (Arg.t 25) (Arg.t 26)), guard := none }]) (.cond
    (Arg.t 27) (.seq (.region none [{ dst := some 28, op := Sum.inl (AOp.faddr 1 (Arg.t 6)), guard := none }, { dst := some 29, op := Sum.inl (AOp.load none (Arg.t 28)), guard := none },
    { dst := some 30, op := Sum.inr (ACallee.k 2 [Arg.t 29]), guard := none }, { dst := none, op := Sum.inl (AOp.store 1 (Arg.t 4) (Arg.t 30)), guard := none }, { dst := none, op := Sum.inl (AOp.store 1 (Arg.t 5) (Arg.c (AVal.int IntKind.i64 (0)))), guard := none }])
    ACode.ret) ACode.skip))
def disk_Read_g2 : ACode :=
  .range (Arg.t 22) [23] disk_Read_a0 disk_Read_r1
def disk_Read_b3 : ACode :=
  .block 1 disk_Read_g2
def disk_Read_t4 : ACode :=
  .seq (.seq (.region none [{ dst := some 21, op := Sum.inl (AOp.mv (Arg.t 0)), guard := none }, { dst := some 22, op := Sum.inl (AOp.mkfn (Fn.func 27) [Arg.t 21] []), guard := none }])
    disk_Read_b3) (.seq (.region none [{ dst := some 31, op := Sum.inl (AOp.mv (Arg.t 0)), guard := none }, { dst := some 32, op := Sum.inl (AOp.load none (Arg.t 3)), guard := none },
    { dst := some 33, op := Sum.inr (ACallee.k 1 [Arg.t 31, Arg.t 32]), guard := none }, { dst := some 34, op := Sum.inr (ACallee.k 2 [Arg.t 33]), guard := none }, { dst := none, op := Sum.inl (AOp.store 1 (Arg.t 4) (Arg.t 34)), guard := none },
    { dst := none, op := Sum.inl (AOp.store 1 (Arg.t 5) (Arg.c (AVal.int IntKind.i64 (0)))), guard := none }]) ACode.ret)
def disk_Read : AFun :=
  ⟨2, [Sum.inr (4, none), Sum.inr (5, none)], (.seq (.region none [{ dst := some 3, op := Sum.inl (AOp.box (Arg.t 1)), guard := none }, { dst := some 4, op := Sum.inl (AOp.alloc [AVal.nils]), guard := none }, { dst := some 5, op := Sum.inl (AOp.alloc [AVal.int IntKind.i64 (0)]), guard := none }])
    (.seq (.block 0 (.seq (.region none [{ dst := some 8, op := Sum.inl (AOp.mv (Arg.t 0)), guard := none }, { dst := some 9, op := Sum.inl (AOp.eq false EqT.ptr (Arg.t 8) (Arg.c AVal.nilp)), guard := none },
    { dst := some 10, op := Sum.inl (AOp.mv (Arg.t 9)), guard := none }, { dst := some 11, op := Sum.inl (AOp.mv (Arg.t 0)), guard := some (10, false) }, { dst := some 12, op := Sum.inl (AOp.nilchk (Arg.t 11)), guard := some (10, false) },
    { dst := some 13, op := Sum.inl (AOp.faddr 3 (Arg.t 12)), guard := some (10, false) }, { dst := some 14, op := Sum.inl (AOp.load none (Arg.t 13)), guard := some (10, false) }, { dst := some 15, op := Sum.inl (AOp.pick (Arg.t 10) (Arg.c (AVal.bool true)) (Arg.t 14)), guard := none },
    { dst := some 7, op := Sum.inl (AOp.mv (Arg.t 15)), guard := none }]) (.cond (Arg.t 7) (.seq (.region none [{ dst := none, op := Sum.inl (AOp.store 1 (Arg.t 4) (Arg.c AVal.nils)), guard := none },
    { dst := none, op := Sum.inl (AOp.store 1 (Arg.t 5) (Arg.c (AVal.int IntKind.i64 (8)))), guard := none }]) ACode.ret) (.seq (.region none [{ dst := some 17, op := Sum.inl (AOp.mv (Arg.t 0)), guard := none },
    { dst := some 18, op := Sum.inl (AOp.load none (Arg.t 3)), guard := none }, { dst := some 19, op := Sum.inr (ACallee.k 0 [Arg.t 17, Arg.t 18]), guard := none }, { dst := some 20, op := Sum.inl (AOp.un UnOp.not (Arg.t 19)), guard := none },
    { dst := some 16, op := Sum.inl (AOp.mv (Arg.t 20)), guard := none }]) (.cond (Arg.t 16) (.seq (.region none [{ dst := none, op := Sum.inl (AOp.store 1 (Arg.t 4) (Arg.c AVal.nils)), guard := none },
    { dst := none, op := Sum.inl (AOp.store 1 (Arg.t 5) (Arg.c (AVal.int IntKind.i64 (1)))), guard := none }]) ACode.ret) ACode.skip))))) disk_Read_t4)), true⟩

def disk_spend : AFun :=
  ⟨1, [Sum.inl 2], (.seq (.region none [{ dst := some 2, op := Sum.inl (AOp.mv (Arg.c (AVal.bool false))), guard := none }]) (.seq (.block 0 (.seq (.region none [{ dst := some 4, op := Sum.inl (AOp.mv (Arg.t 0)), guard := none },
    { dst := some 5, op := Sum.inl (AOp.nilchk (Arg.t 4)), guard := none }, { dst := some 6, op := Sum.inl (AOp.faddr 2 (Arg.t 5)), guard := none }, { dst := some 7, op := Sum.inl (AOp.load none (Arg.t 6)), guard := none },
    { dst := some 8, op := Sum.inl (AOp.bin BinOp.eql (Arg.t 7) (Arg.c (AVal.int IntKind.i64 (0)))), guard := none }, { dst := some 3, op := Sum.inl (AOp.mv (Arg.t 8)), guard := none }])
    (.cond (Arg.t 3) (.seq (.region none [{ dst := some 9, op := Sum.inl (AOp.mv (Arg.t 0)), guard := none }, { dst := some 10, op := Sum.inl (AOp.nilchk (Arg.t 9)), guard := none }, { dst := some 11, op := Sum.inl (AOp.faddr 3 (Arg.t 10)), guard := none },
    { dst := none, op := Sum.inl (AOp.store 1 (Arg.t 11) (Arg.c (AVal.bool true))), guard := none }]) (.seq (.region none [{ dst := some 2, op := Sum.inl (AOp.mv (Arg.c (AVal.bool false))), guard := none }])
    ACode.ret)) (.seq (.region none [{ dst := some 13, op := Sum.inl (AOp.mv (Arg.t 0)), guard := none }, { dst := some 14, op := Sum.inl (AOp.nilchk (Arg.t 13)), guard := none }, { dst := some 15, op := Sum.inl (AOp.faddr 2 (Arg.t 14)), guard := none },
    { dst := some 16, op := Sum.inl (AOp.load none (Arg.t 15)), guard := none }, { dst := some 17, op := Sum.inl (AOp.bin BinOp.gtr (Arg.t 16) (Arg.c (AVal.int IntKind.i64 (0)))), guard := none },
    { dst := some 12, op := Sum.inl (AOp.mv (Arg.t 17)), guard := none }]) (.cond (Arg.t 12) (.region none [{ dst := some 18, op := Sum.inl (AOp.mv (Arg.t 0)), guard := none }, { dst := some 19, op := Sum.inl (AOp.nilchk (Arg.t 18)), guard := none },
    { dst := some 20, op := Sum.inl (AOp.faddr 2 (Arg.t 19)), guard := none }, { dst := some 21, op := Sum.inl (AOp.load none (Arg.t 20)), guard := none }, { dst := some 22, op := Sum.inl (AOp.bin BinOp.sub (Arg.t 21) (Arg.c (AVal.int IntKind.i64 (1)))), guard := none },
    { dst := some 23, op := Sum.inl (AOp.nilchk (Arg.t 18)), guard := none }, { dst := some 24, op := Sum.inl (AOp.faddr 2 (Arg.t 23)), guard := none }, { dst := none, op := Sum.inl (AOp.store 1 (Arg.t 24) (Arg.t 22)), guard := none }])
    ACode.skip))))) (.seq (.region none [{ dst := some 2, op := Sum.inl (AOp.mv (Arg.c (AVal.bool true))), guard := none }]) ACode.ret))), false⟩

def disk_Write : AFun :=
  ⟨3, [Sum.inl 6], (.seq (.region none [{ dst := some 6, op := Sum.inl (AOp.mv (Arg.c (AVal.int IntKind.i64 (0)))), guard := none }]) (.seq (.block 0 (.seq (.region none [{ dst := some 8, op := Sum.inl (AOp.mv (Arg.t 0)), guard := none },
    { dst := some 9, op := Sum.inl (AOp.eq false EqT.ptr (Arg.t 8) (Arg.c AVal.nilp)), guard := none }, { dst := some 10, op := Sum.inl (AOp.mv (Arg.t 9)), guard := none }, { dst := some 11, op := Sum.inl (AOp.mv (Arg.t 0)), guard := some (10, false) },
    { dst := some 12, op := Sum.inl (AOp.nilchk (Arg.t 11)), guard := some (10, false) }, { dst := some 13, op := Sum.inl (AOp.faddr 3 (Arg.t 12)), guard := some (10, false) }, { dst := some 14, op := Sum.inl (AOp.load none (Arg.t 13)), guard := some (10, false) },
    { dst := some 15, op := Sum.inl (AOp.pick (Arg.t 10) (Arg.c (AVal.bool true)) (Arg.t 14)), guard := none }, { dst := some 7, op := Sum.inl (AOp.mv (Arg.t 15)), guard := none }])
    (.cond (Arg.t 7) (.seq (.region none [{ dst := some 6, op := Sum.inl (AOp.mv (Arg.c (AVal.int IntKind.i64 (8)))), guard := none }]) ACode.ret) (.seq (.region none [{ dst := some 17, op := Sum.inl (AOp.mv (Arg.t 0)), guard := none },
    { dst := some 18, op := Sum.inl (AOp.mv (Arg.t 1)), guard := none }, { dst := some 19, op := Sum.inr (ACallee.k 0 [Arg.t 17, Arg.t 18]), guard := none }, { dst := some 20, op := Sum.inl (AOp.un UnOp.not (Arg.t 19)), guard := none },
    { dst := some 21, op := Sum.inl (AOp.mv (Arg.t 20)), guard := none }, { dst := some 22, op := Sum.inl (AOp.mv (Arg.t 2)), guard := some (21, false) }, { dst := some 23, op := Sum.inl (AOp.len LenT.sl (Arg.t 22)), guard := some (21, false) },
    { dst := some 24, op := Sum.inl (AOp.bin BinOp.neq (Arg.t 23) (Arg.c (AVal.int IntKind.i64 (256)))), guard := some (21, false) }, { dst := some 25, op := Sum.inl (AOp.pick (Arg.t 21) (Arg.c (AVal.bool true)) (Arg.t 24)), guard := none },
    { dst := some 16, op := Sum.inl (AOp.mv (Arg.t 25)), guard := none }]) (.cond (Arg.t 16) (.seq (.region none [{ dst := some 6, op := Sum.inl (AOp.mv (Arg.c (AVal.int IntKind.i64 (1)))), guard := none }])
    ACode.ret) (.seq (.region none [{ dst := some 27, op := Sum.inl (AOp.mv (Arg.t 0)), guard := none }, { dst := some 28, op := Sum.inr (ACallee.k 1 [Arg.t 27]), guard := none }, { dst := some 29, op := Sum.inl (AOp.un UnOp.not (Arg.t 28)), guard := none },
    { dst := some 26, op := Sum.inl (AOp.mv (Arg.t 29)), guard := none }]) (.cond (Arg.t 26) (.seq (.region none [{ dst := some 6, op := Sum.inl (AOp.mv (Arg.c (AVal.int IntKind.i64 (8)))), guard := none }])
    ACode.ret) ACode.skip))))))) (.seq (.region (some [(4, [7, 9])]) [{ dst := some 30, op := Sum.inl (AOp.mv (Arg.t 0)), guard := none }, { dst := some 31, op := Sum.inl (AOp.mv (Arg.t 0)), guard := none },
    { dst := some 32, op := Sum.inl (AOp.nilchk (Arg.t 31)), guard := none }, { dst := some 33, op := Sum.inl (AOp.faddr 1 (Arg.t 32)), guard := none }, { dst := some 34, op := Sum.inl (AOp.load none (Arg.t 33)), guard := none },
    { dst := some 35, op := Sum.inl (AOp.mv (Arg.t 1)), guard := none }, { dst := some 36, op := Sum.inl (AOp.mv (Arg.t 2)), guard := none }, { dst := some 37, op := Sum.inr (ACallee.k 2 [Arg.t 36]), guard := none },
    { dst := some 38, op := Sum.inl (AOp.build [AVal.int IntKind.i64 (0), AVal.nils] [(0, 1, Arg.t 35), (1, 1, Arg.t 37)]), guard := none }, { dst := some 39, op := Sum.inl (AOp.bslice false 2 1 [AVal.int IntKind.i64 (0), AVal.nils] [(0, 2, Arg.t 38)]), guard := none },
    { dst := some 40, op := Sum.inl (AOp.append 2 32 (Arg.t 34) (Arg.t 39)), guard := none }, { dst := some 41, op := Sum.inl (AOp.nilchk (Arg.t 30)), guard := none }, { dst := some 42, op := Sum.inl (AOp.faddr 1 (Arg.t 41)), guard := none },
    { dst := none, op := Sum.inl (AOp.store 1 (Arg.t 42) (Arg.t 40)), guard := none }]) (.seq (.region none [{ dst := some 6, op := Sum.inl (AOp.mv (Arg.c (AVal.int IntKind.i64 (0)))), guard := none }])
    ACode.ret)))), false⟩

def disk_Flush_l0 : ACode :=
  .seq (.region none [{ dst := some 24, op := Sum.inl (AOp.bin BinOp.lss (Arg.t 23) (Arg.t 22)), guard := none }]) (.seq (.cond (Arg.t 24) ACode.skip (.exit 0)) (.seq (.block 1 (.seq
    (.region none [{ dst := some 25, op := Sum.inl (AOp.iaddrS 2 (Arg.t 21) (Arg.t 23)), guard := none }, { dst := some 26, op := Sum.inl (AOp.load (some 2) (Arg.t 25)), guard := none },
    { dst := some 4, op := Sum.inl (AOp.alloc [AVal.int IntKind.i64 (0), AVal.nils]), guard := none }, { dst := none, op := Sum.inl (AOp.store 2 (Arg.t 4) (Arg.t 26)), guard := none }])
    (.region (some [(5, [3])]) [{ dst := some 27, op := Sum.inl (AOp.mv (Arg.t 0)), guard := none }, { dst := some 28, op := Sum.inl (AOp.faddr 0 (Arg.t 4)), guard := none }, { dst := some 29, op := Sum.inl (AOp.load none (Arg.t 28)), guard := none },
    { dst := some 30, op := Sum.inr (ACallee.k 1 [Arg.t 27, Arg.t 29]), guard := none }, { dst := some 31, op := Sum.inl (AOp.faddr 1 (Arg.t 4)), guard := none }, { dst := some 32, op := Sum.inl (AOp.load none (Arg.t 31)), guard := none },
    { dst := some 33, op := Sum.inl (AOp.copy 1 (Arg.t 30) (Arg.t 32)), guard := none }]))) (.region none [{ dst := some 34, op := Sum.inl (AOp.bin BinOp.add (Arg.t 23) (Arg.c (AVal.int IntKind.i64 (1)))), guard := none },
    { dst := some 23, op := Sum.inl (AOp.mv (Arg.t 34)), guard := none }])))
def disk_Flush_s1 : ACode :=
  .block 0 (.loop disk_Flush_l0)
def disk_Flush_t2 : ACode :=
  .seq (.seq (.region none [{ dst := some 18, op := Sum.inl (AOp.mv (Arg.t 0)), guard := none }, { dst := some 19, op := Sum.inl (AOp.nilchk (Arg.t 18)), guard := none }, { dst := some 20, op := Sum.inl (AOp.faddr 1 (Arg.t 19)), guard := none },
    { dst := some 21, op := Sum.inl (AOp.load none (Arg.t 20)), guard := none }, { dst := some 22, op := Sum.inl (AOp.len LenT.sl (Arg.t 21)), guard := none }, { dst := some 23, op := Sum.inl (AOp.mv (Arg.c (AVal.int IntKind.i64 (0)))), guard := none }])
    disk_Flush_s1) (.seq (.region none [{ dst := some 35, op := Sum.inl (AOp.mv (Arg.t 0)), guard := none }, { dst := some 36, op := Sum.inl (AOp.nilchk (Arg.t 35)), guard := none }, { dst := some 37, op := Sum.inl (AOp.faddr 1 (Arg.t 36)), guard := none },
    { dst := none, op := Sum.inl (AOp.store 1 (Arg.t 37) (Arg.c AVal.nils)), guard := none }]) (.seq (.region none [{ dst := some 2, op := Sum.inl (AOp.mv (Arg.c (AVal.int IntKind.i64 (0)))), guard := none }])
    ACode.ret))
def disk_Flush : AFun :=
  ⟨1, [Sum.inl 2], (.seq (.region none [{ dst := some 2, op := Sum.inl (AOp.mv (Arg.c (AVal.int IntKind.i64 (0)))), guard := none }]) (.seq (.seq (.region none [{ dst := some 5, op := Sum.inl (AOp.mv (Arg.t 0)), guard := none },
    { dst := some 6, op := Sum.inl (AOp.eq false EqT.ptr (Arg.t 5) (Arg.c AVal.nilp)), guard := none }, { dst := some 7, op := Sum.inl (AOp.mv (Arg.t 6)), guard := none }, { dst := some 8, op := Sum.inl (AOp.mv (Arg.t 0)), guard := some (7, false) },
    { dst := some 9, op := Sum.inl (AOp.nilchk (Arg.t 8)), guard := some (7, false) }, { dst := some 10, op := Sum.inl (AOp.faddr 3 (Arg.t 9)), guard := some (7, false) }, { dst := some 11, op := Sum.inl (AOp.load none (Arg.t 10)), guard := some (7, false) },
    { dst := some 12, op := Sum.inl (AOp.pick (Arg.t 7) (Arg.c (AVal.bool true)) (Arg.t 11)), guard := none }, { dst := some 13, op := Sum.inl (AOp.mv (Arg.t 12)), guard := none }, { dst := some 14, op := Sum.inl (AOp.mv (Arg.t 0)), guard := some (13, false) },
    { dst := some 15, op := Sum.inr (ACallee.k 0 [Arg.t 14]), guard := some (13, false) }, { dst := some 16, op := Sum.inl (AOp.un UnOp.not (Arg.t 15)), guard := some (13, false) }, { dst := some 17, op := Sum.inl (AOp.pick (Arg.t 13) (Arg.c (AVal.bool true)) (Arg.t 16)), guard := none }])
    (.cond (Arg.t 17) (.seq (.region none [{ dst := some 2, op := Sum.inl (AOp.mv (Arg.c (AVal.int IntKind.i64 (8)))), guard := none }]) ACode.ret) ACode.skip)) disk_Flush_t2)), false⟩

def disk_Crash_l0 : ACode :=
  .seq (.region none [{ dst := some 15, op := Sum.inl (AOp.bin BinOp.lss (Arg.t 14) (Arg.t 13)), guard := none }]) (.seq (.cond (Arg.t 15) ACode.skip (.exit 0)) (.seq (.block 1 (.seq
    (.region none [{ dst := some 16, op := Sum.inl (AOp.mv (Arg.t 14)), guard := none }, { dst := some 17, op := Sum.inl (AOp.iaddrS 2 (Arg.t 12) (Arg.t 14)), guard := none }, { dst := some 18, op := Sum.inl (AOp.load (some 2) (Arg.t 17)), guard := none },
    { dst := some 5, op := Sum.inl (AOp.alloc [AVal.int IntKind.i64 (0), AVal.nils]), guard := none }, { dst := some 4, op := Sum.inl (AOp.mv (Arg.t 16)), guard := none }, { dst := none, op := Sum.inl (AOp.store 2 (Arg.t 5) (Arg.t 18)), guard := none }])
    (.seq (.region none [{ dst := some 6, op := Sum.inl (AOp.mv (Arg.c (AVal.int IntKind.i64 (0)))), guard := none }]) (.seq (.seq (.region none [{ dst := some 19, op := Sum.inl (AOp.mv (Arg.t 4)), guard := none },
    { dst := some 20, op := Sum.inl (AOp.mv (Arg.t 1)), guard := none }, { dst := some 21, op := Sum.inl (AOp.len LenT.sl (Arg.t 20)), guard := none }, { dst := some 22, op := Sum.inl (AOp.bin BinOp.lss (Arg.t 19) (Arg.t 21)), guard := none }])
    (.cond (Arg.t 22) (.region none [{ dst := some 23, op := Sum.inl (AOp.mv (Arg.t 1)), guard := none }, { dst := some 24, op := Sum.inl (AOp.mv (Arg.t 4)), guard := none }, { dst := some 25, op := Sum.inl (AOp.iaddrS 1 (Arg.t 23) (Arg.t 24)), guard := none },
    { dst := some 26, op := Sum.inl (AOp.load none (Arg.t 25)), guard := none }, { dst := some 27, op := Sum.inl (AOp.mnmx true (Arg.t 26) (Arg.c (AVal.int IntKind.i64 (0)))), guard := none },
    { dst := some 28, op := Sum.inl (AOp.mnmx false (Arg.t 27) (Arg.c (AVal.int IntKind.i64 (256)))), guard := none }, { dst := some 6, op := Sum.inl (AOp.mv (Arg.t 28)), guard := none }])
    ACode.skip)) (.region (some [(5, [3])]) [{ dst := some 29, op := Sum.inl (AOp.mv (Arg.t 0)), guard := none }, { dst := some 30, op := Sum.inl (AOp.faddr 0 (Arg.t 5)), guard := none },
    { dst := some 31, op := Sum.inl (AOp.load none (Arg.t 30)), guard := none }, { dst := some 32, op := Sum.inr (ACallee.k 0 [Arg.t 29, Arg.t 31]), guard := none }, { dst := some 33, op := Sum.inl (AOp.faddr 1 (Arg.t 5)), guard := none },
    { dst := some 34, op := Sum.inl (AOp.load none (Arg.t 33)), guard := none }, { dst := some 35, op := Sum.inl (AOp.mv (Arg.t 6)), guard := none }, { dst := some 36, op := Sum.inl (AOp.slcS 1 (Arg.t 34) none (some (Arg.t 35))), guard := none },
    { dst := some 37, op := Sum.inl (AOp.copy 1 (Arg.t 32) (Arg.t 36)), guard := none }]))))) (.region none [{ dst := some 38, op := Sum.inl (AOp.bin BinOp.add (Arg.t 14) (Arg.c (AVal.int IntKind.i64 (1)))), guard := none },
    { dst := some 14, op := Sum.inl (AOp.mv (Arg.t 38)), guard := none }])))
def disk_Crash_s1 : ACode :=
  .block 0 (.loop disk_Crash_l0)
def disk_Crash_t2 : ACode :=
  .seq (.seq (.region none [{ dst := some 9, op := Sum.inl (AOp.mv (Arg.t 0)), guard := none }, { dst := some 10, op := Sum.inl (AOp.nilchk (Arg.t 9)), guard := none }, { dst := some 11, op := Sum.inl (AOp.faddr 1 (Arg.t 10)), guard := none },
    { dst := some 12, op := Sum.inl (AOp.load none (Arg.t 11)), guard := none }, { dst := some 13, op := Sum.inl (AOp.len LenT.sl (Arg.t 12)), guard := none }, { dst := some 14, op := Sum.inl (AOp.mv (Arg.c (AVal.int IntKind.i64 (0)))), guard := none }])
    disk_Crash_s1) (.region none [{ dst := some 39, op := Sum.inl (AOp.mv (Arg.t 0)), guard := none }, { dst := some 40, op := Sum.inl (AOp.mv (Arg.t 0)), guard := none }, { dst := some 41, op := Sum.inl (AOp.mv (Arg.t 0)), guard := none },
    { dst := some 42, op := Sum.inl (AOp.nilchk (Arg.t 39)), guard := none }, { dst := some 43, op := Sum.inl (AOp.faddr 1 (Arg.t 42)), guard := none }, { dst := none, op := Sum.inl (AOp.store 1 (Arg.t 43) (Arg.c AVal.nils)), guard := none },
    { dst := some 44, op := Sum.inl (AOp.nilchk (Arg.t 40)), guard := none }, { dst := some 45, op := Sum.inl (AOp.faddr 2 (Arg.t 44)), guard := none }, { dst := none, op := Sum.inl (AOp.store 1 (Arg.t 45) (Arg.c (AVal.int IntKind.i64 (-1)))), guard := none },
    { dst := some 46, op := Sum.inl (AOp.nilchk (Arg.t 41)), guard := none }, { dst := some 47, op := Sum.inl (AOp.faddr 3 (Arg.t 46)), guard := none }, { dst := none, op := Sum.inl (AOp.store 1 (Arg.t 47) (Arg.c (AVal.bool false))), guard := none }])
def disk_Crash : AFun :=
  ⟨2, [], (.seq (.seq (.region none [{ dst := some 7, op := Sum.inl (AOp.mv (Arg.t 0)), guard := none }, { dst := some 8, op := Sum.inl (AOp.eq false EqT.ptr (Arg.t 7) (Arg.c AVal.nilp)), guard := none }])
    (.cond (Arg.t 8) ACode.ret ACode.skip)) disk_Crash_t2), false⟩

def disk_Rot_l0 : ACode :=
  .seq (.region none [{ dst := some 29, op := Sum.inl (AOp.bin BinOp.lss (Arg.t 28) (Arg.t 27)), guard := none }]) (.seq (.cond (Arg.t 29) ACode.skip (.exit 1)) (.seq (.block 2 (.seq
    (.region none [{ dst := some 30, op := Sum.inl (AOp.mv (Arg.t 28)), guard := none }, { dst := some 31, op := Sum.inl (AOp.iaddrS 1 (Arg.t 26) (Arg.t 28)), guard := none }, { dst := some 32, op := Sum.inl (AOp.load none (Arg.t 31)), guard := none },
    { dst := some 8, op := Sum.inl (AOp.mv (Arg.t 30)), guard := none }, { dst := some 9, op := Sum.inl (AOp.mv (Arg.t 32)), guard := none }]) (.region none [{ dst := some 33, op := Sum.inl (AOp.mv (Arg.t 7)), guard := none },
    { dst := some 34, op := Sum.inl (AOp.mv (Arg.t 8)), guard := none }, { dst := some 35, op := Sum.inl (AOp.iaddrS 1 (Arg.t 33) (Arg.t 34)), guard := none }, { dst := some 36, op := Sum.inl (AOp.load none (Arg.t 35)), guard := none },
    { dst := some 37, op := Sum.inl (AOp.mv (Arg.t 9)), guard := none }, { dst := some 38, op := Sum.inl (AOp.bin BinOp.xor (Arg.t 36) (Arg.t 37)), guard := none }, { dst := some 39, op := Sum.inl (AOp.iaddrS 1 (Arg.t 33) (Arg.t 34)), guard := none },
    { dst := none, op := Sum.inl (AOp.store 1 (Arg.t 39) (Arg.t 38)), guard := none }]))) (.region none [{ dst := some 40, op := Sum.inl (AOp.bin BinOp.add (Arg.t 28) (Arg.c (AVal.int IntKind.i64 (1)))), guard := none },
    { dst := some 28, op := Sum.inl (AOp.mv (Arg.t 40)), guard := none }])))
def disk_Rot_s1 : ACode :=
  .block 1 (.loop disk_Rot_l0)
def disk_Rot_t2 : ACode :=
  .seq (.seq (.region none [{ dst := some 26, op := Sum.inl (AOp.mv (Arg.t 2)), guard := none }, { dst := some 27, op := Sum.inl (AOp.len LenT.sl (Arg.t 26)), guard := none }, { dst := some 28, op := Sum.inl (AOp.mv (Arg.c (AVal.int IntKind.i64 (0)))), guard := none }])
    disk_Rot_s1) (.seq (.region none [{ dst := some 6, op := Sum.inl (AOp.mv (Arg.c (AVal.int IntKind.i64 (0)))), guard := none }]) ACode.ret)
def disk_Rot : AFun :=
  ⟨3, [Sum.inl 6], (.seq (.region none [{ dst := some 6, op := Sum.inl (AOp.mv (Arg.c (AVal.int IntKind.i64 (0)))), guard := none }]) (.seq (.block 0 (.seq (.region none [{ dst := some 11, op := Sum.inl (AOp.mv (Arg.t 0)), guard := none },
    { dst := some 12, op := Sum.inl (AOp.eq false EqT.ptr (Arg.t 11) (Arg.c AVal.nilp)), guard := none }, { dst := some 10, op := Sum.inl (AOp.mv (Arg.t 12)), guard := none }]) (.cond
    (Arg.t 10) (.seq (.region none [{ dst := some 6, op := Sum.inl (AOp.mv (Arg.c (AVal.int IntKind.i64 (8)))), guard := none }]) ACode.ret) (.seq (.region none [{ dst := some 14, op := Sum.inl (AOp.mv (Arg.t 0)), guard := none },
    { dst := some 15, op := Sum.inl (AOp.mv (Arg.t 1)), guard := none }, { dst := some 16, op := Sum.inr (ACallee.k 0 [Arg.t 14, Arg.t 15]), guard := none }, { dst := some 17, op := Sum.inl (AOp.un UnOp.not (Arg.t 16)), guard := none },
    { dst := some 18, op := Sum.inl (AOp.mv (Arg.t 17)), guard := none }, { dst := some 19, op := Sum.inl (AOp.mv (Arg.t 2)), guard := some (18, false) }, { dst := some 20, op := Sum.inl (AOp.len LenT.sl (Arg.t 19)), guard := some (18, false) },
    { dst := some 21, op := Sum.inl (AOp.bin BinOp.gtr (Arg.t 20) (Arg.c (AVal.int IntKind.i64 (256)))), guard := some (18, false) }, { dst := some 22, op := Sum.inl (AOp.pick (Arg.t 18) (Arg.c (AVal.bool true)) (Arg.t 21)), guard := none },
    { dst := some 13, op := Sum.inl (AOp.mv (Arg.t 22)), guard := none }]) (.cond (Arg.t 13) (.seq (.region none [{ dst := some 6, op := Sum.inl (AOp.mv (Arg.c (AVal.int IntKind.i64 (1)))), guard := none }])
    ACode.ret) ACode.skip))))) (.seq (.region none [{ dst := some 23, op := Sum.inl (AOp.mv (Arg.t 0)), guard := none }, { dst := some 24, op := Sum.inl (AOp.mv (Arg.t 1)), guard := none },
    { dst := some 25, op := Sum.inr (ACallee.k 1 [Arg.t 23, Arg.t 24]), guard := none }, { dst := some 7, op := Sum.inl (AOp.mv (Arg.t 25)), guard := none }]) disk_Rot_t2))), false⟩

def disk_Fuse : AFun :=
  ⟨2, [], (.seq (.region none [{ dst := some 4, op := Sum.inl (AOp.mv (Arg.t 0)), guard := none }, { dst := some 5, op := Sum.inl (AOp.eq true EqT.ptr (Arg.t 4) (Arg.c AVal.nilp)), guard := none }])
    (.cond (Arg.t 5) (.region none [{ dst := some 6, op := Sum.inl (AOp.mv (Arg.t 0)), guard := none }, { dst := some 7, op := Sum.inl (AOp.mv (Arg.t 1)), guard := none }, { dst := some 8, op := Sum.inl (AOp.mnmx true (Arg.t 7) (Arg.c (AVal.int IntKind.i64 (0)))), guard := none },
    { dst := some 9, op := Sum.inl (AOp.nilchk (Arg.t 6)), guard := none }, { dst := some 10, op := Sum.inl (AOp.faddr 2 (Arg.t 9)), guard := none }, { dst := none, op := Sum.inl (AOp.store 1 (Arg.t 10) (Arg.t 8)), guard := none }])
    ACode.skip)), false⟩

def disk_Dump : AFun :=
  ⟨1, [Sum.inl 2], (.seq (.region none [{ dst := some 2, op := Sum.inl (AOp.mv (Arg.c AVal.nils)), guard := none }]) (.seq (.seq (.region none [{ dst := some 3, op := Sum.inl (AOp.mv (Arg.t 0)), guard := none },
    { dst := some 4, op := Sum.inl (AOp.eq false EqT.ptr (Arg.t 3) (Arg.c AVal.nilp)), guard := none }]) (.cond (Arg.t 4) (.seq (.region none [{ dst := some 2, op := Sum.inl (AOp.mv (Arg.c AVal.nils)), guard := none }])
    ACode.ret) ACode.skip)) (.seq (.region none [{ dst := some 5, op := Sum.inl (AOp.mv (Arg.t 0)), guard := none }, { dst := some 6, op := Sum.inl (AOp.nilchk (Arg.t 5)), guard := none },
    { dst := some 7, op := Sum.inl (AOp.faddr 0 (Arg.t 6)), guard := none }, { dst := some 8, op := Sum.inl (AOp.load none (Arg.t 7)), guard := none }, { dst := some 9, op := Sum.inr (ACallee.k 0 [Arg.t 8]), guard := none },
    { dst := some 2, op := Sum.inl (AOp.mv (Arg.t 9)), guard := none }]) ACode.ret))), false⟩

def disk_alive : AFun :=
  ⟨0, [Sum.inl 0], (.seq (.region none [{ dst := some 0, op := Sum.inl (AOp.mv (Arg.c (AVal.bool false))), guard := none }]) (.seq (.region none [{ dst := some 12, op := Sum.inr (ACallee.k 0 [Arg.c (AVal.int IntKind.i64 (16))]), guard := none },
    { dst := some 11, op := Sum.inl (AOp.mv (Arg.t 12)), guard := none }, { dst := some 13, op := Sum.inl (AOp.ext 0 (Arg.t 11)), guard := none }, { dst := some 14, op := Sum.inl (AOp.ext 1 (Arg.t 11)), guard := none },
    { dst := some 1, op := Sum.inl (AOp.mv (Arg.t 13)), guard := none }, { dst := some 2, op := Sum.inl (AOp.mv (Arg.t 14)), guard := none }]) (.seq (.seq (.region none [{ dst := some 15, op := Sum.inl (AOp.mv (Arg.t 1)), guard := none },
    { dst := some 16, op := Sum.inl (AOp.eq false EqT.ptr (Arg.t 15) (Arg.c AVal.nilp)), guard := none }, { dst := some 17, op := Sum.inl (AOp.mv (Arg.t 16)), guard := none }, { dst := some 18, op := Sum.inl (AOp.mv (Arg.t 2)), guard := some (17, false) },
    { dst := some 19, op := Sum.inl (AOp.bin BinOp.neq (Arg.t 18) (Arg.c (AVal.int IntKind.i64 (0)))), guard := some (17, false) }, { dst := some 20, op := Sum.inl (AOp.pick (Arg.t 17) (Arg.c (AVal.bool true)) (Arg.t 19)), guard := none }])
    (.cond (Arg.t 20) (.seq (.region none [{ dst := some 0, op := Sum.inl (AOp.mv (Arg.c (AVal.bool false))), guard := none }]) ACode.ret) ACode.skip)) (.seq (.region none [{ dst := some 21, op := Sum.inl (AOp.mkslice 1 1 [AVal.int IntKind.u8 (0)] (Arg.c (AVal.int IntKind.i64 (256))) (Arg.c (AVal.int IntKind.i64 (256)))), guard := none },
    { dst := some 3, op := Sum.inl (AOp.mv (Arg.t 21)), guard := none }]) (.seq (.region none [{ dst := some 22, op := Sum.inl (AOp.mv (Arg.t 3)), guard := none }, { dst := some 23, op := Sum.inl (AOp.iaddrS 1 (Arg.t 22) (Arg.c (AVal.int IntKind.i64 (5)))), guard := none },
    { dst := none, op := Sum.inl (AOp.store 1 (Arg.t 23) (Arg.c (AVal.int IntKind.u8 (9)))), guard := none }]) (.seq (.region none [{ dst := some 24, op := Sum.inl (AOp.mv (Arg.t 1)), guard := none },
    { dst := some 25, op := Sum.inl (AOp.mv (Arg.t 3)), guard := none }, { dst := some 26, op := Sum.inr (ACallee.k 1 [Arg.t 24, Arg.c (AVal.int IntKind.i64 (3)), Arg.t 25]), guard := none },
    { dst := some 4, op := Sum.inl (AOp.mv (Arg.t 26)), guard := none }]) (.seq (.region none [{ dst := some 28, op := Sum.inl (AOp.mv (Arg.t 1)), guard := none }, { dst := some 29, op := Sum.inr (ACallee.k 2 [Arg.t 28, Arg.c (AVal.int IntKind.i64 (3))]), guard := none },
    { dst := some 27, op := Sum.inl (AOp.mv (Arg.t 29)), guard := none }, { dst := some 30, op := Sum.inl (AOp.ext 0 (Arg.t 27)), guard := none }, { dst := some 31, op := Sum.inl (AOp.ext 1 (Arg.t 27)), guard := none },
    { dst := some 5, op := Sum.inl (AOp.mv (Arg.t 30)), guard := none }, { dst := some 6, op := Sum.inl (AOp.mv (Arg.t 31)), guard := none }]) (.seq (.region none [{ dst := some 32, op := Sum.inl (AOp.mv (Arg.t 1)), guard := none },
    { dst := some 33, op := Sum.inr (ACallee.k 3 [Arg.t 32, Arg.c AVal.nils]), guard := none }]) (.seq (.region none [{ dst := some 35, op := Sum.inl (AOp.mv (Arg.t 1)), guard := none },
    { dst := some 36, op := Sum.inr (ACallee.k 2 [Arg.t 35, Arg.c (AVal.int IntKind.i64 (3))]), guard := none }, { dst := some 34, op := Sum.inl (AOp.mv (Arg.t 36)), guard := none }, { dst := some 37, op := Sum.inl (AOp.ext 0 (Arg.t 34)), guard := none },
    { dst := some 38, op := Sum.inl (AOp.ext 1 (Arg.t 34)), guard := none }, { dst := some 7, op := Sum.inl (AOp.mv (Arg.t 37)), guard := none }, { dst := some 8, op := Sum.inl (AOp.mv (Arg.t 38)), guard := none }])
    (.seq (.region none [{ dst := some 40, op := Sum.inr (ACallee.k 0 [Arg.c (AVal.int IntKind.i64 (3))]), guard := none }, { dst := some 39, op := Sum.inl (AOp.mv (Arg.t 40)), guard := none },
    { dst := some 41, op := Sum.inl (AOp.ext 0 (Arg.t 39)), guard := none }, { dst := some 42, op := Sum.inl (AOp.ext 1 (Arg.t 39)), guard := none }, { dst := some 9, op := Sum.inl (AOp.mv (Arg.t 41)), guard := none },
    { dst := some 10, op := Sum.inl (AOp.mv (Arg.t 42)), guard := none }]) (.seq (.region none [{ dst := some 43, op := Sum.inl (AOp.mv (Arg.t 4)), guard := none }, { dst := some 44, op := Sum.inl (AOp.bin BinOp.eql (Arg.t 43) (Arg.c (AVal.int IntKind.i64 (0)))), guard := none },
    { dst := some 45, op := Sum.inl (AOp.mv (Arg.t 44)), guard := none }, { dst := some 46, op := Sum.inl (AOp.mv (Arg.t 6)), guard := some (45, true) }, { dst := some 47, op := Sum.inl (AOp.bin BinOp.eql (Arg.t 46) (Arg.c (AVal.int IntKind.i64 (0)))), guard := some (45, true) },
    { dst := some 48, op := Sum.inl (AOp.pick (Arg.t 45) (Arg.t 47) (Arg.c (AVal.bool false))), guard := none }, { dst := some 49, op := Sum.inl (AOp.mv (Arg.t 48)), guard := none }, { dst := some 50, op := Sum.inl (AOp.mv (Arg.t 8)), guard := some (49, true) },
    { dst := some 51, op := Sum.inl (AOp.bin BinOp.eql (Arg.t 50) (Arg.c (AVal.int IntKind.i64 (0)))), guard := some (49, true) }, { dst := some 52, op := Sum.inl (AOp.pick (Arg.t 49) (Arg.t 51) (Arg.c (AVal.bool false))), guard := none },
    { dst := some 53, op := Sum.inl (AOp.mv (Arg.t 52)), guard := none }, { dst := some 54, op := Sum.inl (AOp.mv (Arg.t 5)), guard := some (53, true) }, { dst := some 55, op := Sum.inl (AOp.len LenT.sl (Arg.t 54)), guard := some (53, true) },
    { dst := some 56, op := Sum.inl (AOp.bin BinOp.eql (Arg.t 55) (Arg.c (AVal.int IntKind.i64 (256)))), guard := some (53, true) }, { dst := some 57, op := Sum.inl (AOp.pick (Arg.t 53) (Arg.t 56) (Arg.c (AVal.bool false))), guard := none },
    { dst := some 58, op := Sum.inl (AOp.mv (Arg.t 57)), guard := none }, { dst := some 59, op := Sum.inl (AOp.mv (Arg.t 5)), guard := some (58, true) }, { dst := some 60, op := Sum.inl (AOp.iaddrS 1 (Arg.t 59) (Arg.c (AVal.int IntKind.i64 (5)))), guard := some (58, true) },
    { dst := some 61, op := Sum.inl (AOp.load none (Arg.t 60)), guard := some (58, true) }, { dst := some 62, op := Sum.inl (AOp.bin BinOp.eql (Arg.t 61) (Arg.c (AVal.int IntKind.u8 (9)))), guard := some (58, true) },
    { dst := some 63, op := Sum.inl (AOp.pick (Arg.t 58) (Arg.t 62) (Arg.c (AVal.bool false))), guard := none }, { dst := some 64, op := Sum.inl (AOp.mv (Arg.t 63)), guard := none }, { dst := some 65, op := Sum.inl (AOp.mv (Arg.t 7)), guard := some (64, true) },
    { dst := some 66, op := Sum.inl (AOp.len LenT.sl (Arg.t 65)), guard := some (64, true) }, { dst := some 67, op := Sum.inl (AOp.bin BinOp.eql (Arg.t 66) (Arg.c (AVal.int IntKind.i64 (256)))), guard := some (64, true) },
    { dst := some 68, op := Sum.inl (AOp.pick (Arg.t 64) (Arg.t 67) (Arg.c (AVal.bool false))), guard := none }, { dst := some 69, op := Sum.inl (AOp.mv (Arg.t 68)), guard := none }, { dst := some 70, op := Sum.inl (AOp.mv (Arg.t 7)), guard := some (69, true) },
    { dst := some 71, op := Sum.inl (AOp.iaddrS 1 (Arg.t 70) (Arg.c (AVal.int IntKind.i64 (5)))), guard := some (69, true) }, { dst := some 72, op := Sum.inl (AOp.load none (Arg.t 71)), guard := some (69, true) },
    { dst := some 73, op := Sum.inl (AOp.bin BinOp.eql (Arg.t 72) (Arg.c (AVal.int IntKind.u8 (0)))), guard := some (69, true) }, { dst := some 74, op := Sum.inl (AOp.pick (Arg.t 69) (Arg.t 73) (Arg.c (AVal.bool false))), guard := none },
    { dst := some 75, op := Sum.inl (AOp.mv (Arg.t 74)), guard := none }, { dst := some 76, op := Sum.inl (AOp.mv (Arg.t 10)), guard := some (75, true) }, { dst := some 77, op := Sum.inl (AOp.bin BinOp.eql (Arg.t 76) (Arg.c (AVal.int IntKind.i64 (1)))), guard := some (75, true) },
    { dst := some 78, op := Sum.inl (AOp.pick (Arg.t 75) (Arg.t 77) (Arg.c (AVal.bool false))), guard := none }, { dst := some 0, op := Sum.inl (AOp.mv (Arg.t 78)), guard := none }])
    ACode.ret))))))))))), false⟩

def disk_small : AFun :=
  ⟨1, [Sum.inl 2], (.seq (.region none [{ dst := some 1, op := Sum.inl (AOp.box (Arg.t 0)), guard := none }, { dst := some 2, op := Sum.inl (AOp.mv (Arg.c (AVal.bool false))), guard := none }]) (.seq
    (.region none [{ dst := some 3, op := Sum.inl (AOp.faddr 2 (Arg.t 1)), guard := none }, { dst := some 4, op := Sum.inl (AOp.load none (Arg.t 3)), guard := none }, { dst := some 5, op := Sum.inl (AOp.len LenT.sl (Arg.t 4)), guard := none },
    { dst := some 6, op := Sum.inl (AOp.bin BinOp.leq (Arg.t 5) (Arg.c (AVal.int IntKind.i64 (300)))), guard := none }, { dst := some 7, op := Sum.inl (AOp.mv (Arg.t 6)), guard := none },
    { dst := some 8, op := Sum.inl (AOp.faddr 4 (Arg.t 1)), guard := some (7, true) }, { dst := some 9, op := Sum.inl (AOp.load none (Arg.t 8)), guard := some (7, true) }, { dst := some 10, op := Sum.inl (AOp.len LenT.sl (Arg.t 9)), guard := some (7, true) },
    { dst := some 11, op := Sum.inl (AOp.bin BinOp.leq (Arg.t 10) (Arg.c (AVal.int IntKind.i64 (60)))), guard := some (7, true) }, { dst := some 12, op := Sum.inl (AOp.pick (Arg.t 7) (Arg.t 11) (Arg.c (AVal.bool false))), guard := none },
    { dst := some 2, op := Sum.inl (AOp.mv (Arg.t 12)), guard := none }]) ACode.ret)), false⟩

def disk_lsector_l0 : ACode :=
  .seq (.seq (.region none [{ dst := some 9, op := Sum.inl (AOp.faddr 3 (Arg.t 1)), guard := none }, { dst := some 10, op := Sum.inl (AOp.load none (Arg.t 9)), guard := none }, { dst := some 11, op := Sum.inl (AOp.un UnOp.not (Arg.t 10)), guard := none },
    { dst := some 12, op := Sum.inl (AOp.mv (Arg.t 11)), guard := none }, { dst := some 13, op := Sum.inl (AOp.mv (Arg.t 3)), guard := some (12, true) }, { dst := some 14, op := Sum.inl (AOp.len LenT.sl (Arg.t 13)), guard := some (12, true) },
    { dst := some 15, op := Sum.inl (AOp.bin BinOp.lss (Arg.t 14) (Arg.c (AVal.int IntKind.i64 (256)))), guard := some (12, true) }, { dst := some 16, op := Sum.inl (AOp.pick (Arg.t 12) (Arg.t 15) (Arg.c (AVal.bool false))), guard := none }])
    (.cond (Arg.t 16) ACode.skip (.exit 0))) (.block 1 (.seq (.region none [{ dst := some 4, op := Sum.inl (AOp.mv (Arg.c (AVal.int IntKind.u8 (0)))), guard := none }]) (.seq (.seq
    (.region none [{ dst := some 17, op := Sum.inl (AOp.mv (Arg.t 3)), guard := none }, { dst := some 18, op := Sum.inl (AOp.len LenT.sl (Arg.t 17)), guard := none }, { dst := some 19, op := Sum.inl (AOp.bin BinOp.gtr (Arg.t 18) (Arg.c (AVal.int IntKind.i64 (0)))), guard := none }])
    (.cond (Arg.t 19) (.region none [{ dst := some 20, op := Sum.inl (AOp.mv (Arg.t 3)), guard := none }, { dst := some 21, op := Sum.inl (AOp.mv (Arg.t 3)), guard := none }, { dst := some 22, op := Sum.inl (AOp.len LenT.sl (Arg.t 21)), guard := none },
    { dst := some 23, op := Sum.inl (AOp.bin BinOp.sub (Arg.t 22) (Arg.c (AVal.int IntKind.i64 (1)))), guard := none }, { dst := some 24, op := Sum.inl (AOp.iaddrS 1 (Arg.t 20) (Arg.t 23)), guard := none },
    { dst := some 25, op := Sum.inl (AOp.load none (Arg.t 24)), guard := none }, { dst := some 4, op := Sum.inl (AOp.mv (Arg.t 25)), guard := none }]) ACode.skip)) (.region none [{ dst := some 26, op := Sum.inl (AOp.mv (Arg.t 3)), guard := none },
    { dst := some 27, op := Sum.inl (AOp.mv (Arg.t 4)), guard := none }, { dst := some 28, op := Sum.inl (AOp.bslice false 1 1 [AVal.int IntKind.u8 (0)] [(0, 1, Arg.t 27)]), guard := none },
    { dst := some 29, op := Sum.inl (AOp.append 1 1 (Arg.t 26) (Arg.t 28)), guard := none }, { dst := some 3, op := Sum.inl (AOp.mv (Arg.t 29)), guard := none }]))))
def disk_lsector_s1 : ACode :=
  .block 0 (.loop disk_lsector_l0)
def disk_lsector_t2 : ACode :=
  .seq disk_lsector_s1 (.seq (.region none [{ dst := some 30, op := Sum.inl (AOp.mv (Arg.t 3)), guard := none }, { dst := some 2, op := Sum.inl (AOp.mv (Arg.t 30)), guard := none }])
    ACode.ret)
def disk_lsector : AFun :=
  ⟨1, [Sum.inl 2], (.seq (.region none [{ dst := some 1, op := Sum.inl (AOp.box (Arg.t 0)), guard := none }, { dst := some 2, op := Sum.inl (AOp.mv (Arg.c AVal.nils)), guard := none }]) (.seq
    (.region none [{ dst := some 5, op := Sum.inl (AOp.bslice false 1 0 [AVal.int IntKind.u8 (0)] []), guard := none }, { dst := some 6, op := Sum.inl (AOp.faddr 2 (Arg.t 1)), guard := none },
    { dst := some 7, op := Sum.inl (AOp.load none (Arg.t 6)), guard := none }, { dst := some 8, op := Sum.inl (AOp.append 1 1 (Arg.t 5) (Arg.t 7)), guard := none }, { dst := some 3, op := Sum.inl (AOp.mv (Arg.t 8)), guard := none }])
    disk_lsector_t2)), false⟩

def DiskNil : AFun :=
  ⟨2, [Sum.inl 4], (.seq (.region none [{ dst := some 4, op := Sum.inl (AOp.mv (Arg.c (AVal.bool false))), guard := none }]) (.seq (.region none [{ dst := some 5, op := Sum.inl (AOp.mv (Arg.c AVal.nilp)), guard := none }])
    (.seq (.seq (.region none [{ dst := some 11, op := Sum.inl (AOp.mv (Arg.t 1)), guard := none }, { dst := some 12, op := Sum.inl (AOp.len LenT.sl (Arg.t 11)), guard := none }, { dst := some 13, op := Sum.inl (AOp.bin BinOp.gtr (Arg.t 12) (Arg.c (AVal.int IntKind.i64 (300)))), guard := none }])
    (.cond (Arg.t 13) (.seq (.region none [{ dst := some 14, op := Sum.inr (ACallee.k 0 []), guard := none }, { dst := some 4, op := Sum.inl (AOp.mv (Arg.t 14)), guard := none }])
    ACode.ret) ACode.skip)) (.seq (.region none [{ dst := some 16, op := Sum.inl (AOp.mv (Arg.t 5)), guard := none }, { dst := some 17, op := Sum.inl (AOp.mv (Arg.t 0)), guard := none },
    { dst := some 18, op := Sum.inr (ACallee.k 1 [Arg.t 16, Arg.t 17]), guard := none }, { dst := some 15, op := Sum.inl (AOp.mv (Arg.t 18)), guard := none }, { dst := some 19, op := Sum.inl (AOp.ext 0 (Arg.t 15)), guard := none },
    { dst := some 20, op := Sum.inl (AOp.ext 1 (Arg.t 15)), guard := none }, { dst := some 6, op := Sum.inl (AOp.mv (Arg.t 19)), guard := none }, { dst := some 7, op := Sum.inl (AOp.mv (Arg.t 20)), guard := none }])
    (.seq (.region none [{ dst := some 21, op := Sum.inl (AOp.mv (Arg.t 5)), guard := none }, { dst := some 22, op := Sum.inl (AOp.mv (Arg.t 0)), guard := none }, { dst := some 23, op := Sum.inl (AOp.mv (Arg.t 1)), guard := none },
    { dst := some 24, op := Sum.inr (ACallee.k 2 [Arg.t 21, Arg.t 22, Arg.t 23]), guard := none }, { dst := some 25, op := Sum.inl (AOp.mv (Arg.t 5)), guard := none }, { dst := some 26, op := Sum.inr (ACallee.k 3 [Arg.t 25]), guard := none },
    { dst := some 27, op := Sum.inl (AOp.mv (Arg.t 5)), guard := none }, { dst := some 28, op := Sum.inl (AOp.mv (Arg.t 0)), guard := none }, { dst := some 29, op := Sum.inl (AOp.mv (Arg.t 1)), guard := none },
    { dst := some 30, op := Sum.inr (ACallee.k 4 [Arg.t 27, Arg.t 28, Arg.t 29]), guard := none }, { dst := some 8, op := Sum.inl (AOp.mv (Arg.t 24)), guard := none }, { dst := some 9, op := Sum.inl (AOp.mv (Arg.t 26)), guard := none },
    { dst := some 10, op := Sum.inl (AOp.mv (Arg.t 30)), guard := none }]) (.seq (.region none [{ dst := some 31, op := Sum.inl (AOp.mv (Arg.t 5)), guard := none }, { dst := some 32, op := Sum.inr (ACallee.k 5 [Arg.t 31, Arg.c AVal.nils]), guard := none }])
    (.seq (.region none [{ dst := some 33, op := Sum.inl (AOp.mv (Arg.t 5)), guard := none }, { dst := some 34, op := Sum.inl (AOp.mv (Arg.t 0)), guard := none }, { dst := some 35, op := Sum.inr (ACallee.k 6 [Arg.t 33, Arg.t 34]), guard := none }])
    (.seq (.region none [{ dst := some 36, op := Sum.inr (ACallee.k 0 []), guard := none }, { dst := some 37, op := Sum.inl (AOp.mv (Arg.t 36)), guard := none }, { dst := some 38, op := Sum.inl (AOp.mv (Arg.t 6)), guard := some (37, true) },
    { dst := some 39, op := Sum.inl (AOp.len LenT.sl (Arg.t 38)), guard := some (37, true) }, { dst := some 40, op := Sum.inl (AOp.bin BinOp.eql (Arg.t 39) (Arg.c (AVal.int IntKind.i64 (0)))), guard := some (37, true) },
    { dst := some 41, op := Sum.inl (AOp.pick (Arg.t 37) (Arg.t 40) (Arg.c (AVal.bool false))), guard := none }, { dst := some 42, op := Sum.inl (AOp.mv (Arg.t 41)), guard := none }, { dst := some 43, op := Sum.inl (AOp.mv (Arg.t 7)), guard := some (42, true) },
    { dst := some 44, op := Sum.inl (AOp.bin BinOp.eql (Arg.t 43) (Arg.c (AVal.int IntKind.i64 (8)))), guard := some (42, true) }, { dst := some 45, op := Sum.inl (AOp.pick (Arg.t 42) (Arg.t 44) (Arg.c (AVal.bool false))), guard := none },
    { dst := some 46, op := Sum.inl (AOp.mv (Arg.t 45)), guard := none }, { dst := some 47, op := Sum.inl (AOp.mv (Arg.t 8)), guard := some (46, true) }, { dst := some 48, op := Sum.inl (AOp.bin BinOp.eql (Arg.t 47) (Arg.c (AVal.int IntKind.i64 (8)))), guard := some (46, true) },
    { dst := some 49, op := Sum.inl (AOp.pick (Arg.t 46) (Arg.t 48) (Arg.c (AVal.bool false))), guard := none }, { dst := some 50, op := Sum.inl (AOp.mv (Arg.t 49)), guard := none }, { dst := some 51, op := Sum.inl (AOp.mv (Arg.t 9)), guard := some (50, true) },
    { dst := some 52, op := Sum.inl (AOp.bin BinOp.eql (Arg.t 51) (Arg.c (AVal.int IntKind.i64 (8)))), guard := some (50, true) }, { dst := some 53, op := Sum.inl (AOp.pick (Arg.t 50) (Arg.t 52) (Arg.c (AVal.bool false))), guard := none },
    { dst := some 54, op := Sum.inl (AOp.mv (Arg.t 53)), guard := none }, { dst := some 55, op := Sum.inl (AOp.mv (Arg.t 10)), guard := some (54, true) }, { dst := some 56, op := Sum.inl (AOp.bin BinOp.eql (Arg.t 55) (Arg.c (AVal.int IntKind.i64 (8)))), guard := some (54, true) },
    { dst := some 57, op := Sum.inl (AOp.pick (Arg.t 54) (Arg.t 56) (Arg.c (AVal.bool false))), guard := none }, { dst := some 58, op := Sum.inl (AOp.mv (Arg.t 57)), guard := none }, { dst := some 59, op := Sum.inl (AOp.mv (Arg.t 5)), guard := some (58, true) },
    { dst := some 60, op := Sum.inr (ACallee.k 7 [Arg.t 59]), guard := some (58, true) }, { dst := some 61, op := Sum.inl (AOp.bin BinOp.eql (Arg.t 60) (Arg.c (AVal.int IntKind.i64 (0)))), guard := some (58, true) },
    { dst := some 62, op := Sum.inl (AOp.pick (Arg.t 58) (Arg.t 61) (Arg.c (AVal.bool false))), guard := none }, { dst := some 63, op := Sum.inl (AOp.mv (Arg.t 62)), guard := none }, { dst := some 64, op := Sum.inl (AOp.mv (Arg.t 5)), guard := some (63, true) },
    { dst := some 65, op := Sum.inr (ACallee.k 8 [Arg.t 64]), guard := some (63, true) }, { dst := some 66, op := Sum.inl (AOp.bin BinOp.eql (Arg.t 65) (Arg.c (AVal.int IntKind.i64 (0)))), guard := some (63, true) },
    { dst := some 67, op := Sum.inl (AOp.pick (Arg.t 63) (Arg.t 66) (Arg.c (AVal.bool false))), guard := none }, { dst := some 68, op := Sum.inl (AOp.mv (Arg.t 67)), guard := none }, { dst := some 69, op := Sum.inl (AOp.mv (Arg.t 5)), guard := some (68, true) },
    { dst := some 70, op := Sum.inr (ACallee.k 9 [Arg.t 69]), guard := some (68, true) }, { dst := some 71, op := Sum.inl (AOp.len LenT.sl (Arg.t 70)), guard := some (68, true) }, { dst := some 72, op := Sum.inl (AOp.bin BinOp.eql (Arg.t 71) (Arg.c (AVal.int IntKind.i64 (0)))), guard := some (68, true) },
    { dst := some 73, op := Sum.inl (AOp.pick (Arg.t 68) (Arg.t 72) (Arg.c (AVal.bool false))), guard := none }, { dst := some 4, op := Sum.inl (AOp.mv (Arg.t 73)), guard := none }])
    ACode.ret)))))))), false⟩

def DiskFlushed_l0 : ACode :=
  .seq (.seq (.region none [{ dst := some 49, op := Sum.inl (AOp.mv (Arg.t 11)), guard := none }, { dst := some 50, op := Sum.inl (AOp.mv (Arg.t 2)), guard := none }, { dst := some 51, op := Sum.inl (AOp.len LenT.sl (Arg.t 50)), guard := none },
    { dst := some 52, op := Sum.inl (AOp.bin BinOp.lss (Arg.t 49) (Arg.t 51)), guard := none }, { dst := some 53, op := Sum.inl (AOp.mv (Arg.t 52)), guard := none }, { dst := some 54, op := Sum.inl (AOp.mv (Arg.t 11)), guard := some (53, true) },
    { dst := some 55, op := Sum.inl (AOp.bin BinOp.lss (Arg.t 54) (Arg.c (AVal.int IntKind.i64 (40)))), guard := some (53, true) }, { dst := some 56, op := Sum.inl (AOp.pick (Arg.t 53) (Arg.t 55) (Arg.c (AVal.bool false))), guard := none }])
    (.cond (Arg.t 56) ACode.skip (.exit 0))) (.seq (.block 1 (.seq (.region none [{ dst := some 59, op := Sum.inl (AOp.mv (Arg.t 2)), guard := none }, { dst := some 60, op := Sum.inl (AOp.mv (Arg.t 11)), guard := none },
    { dst := some 61, op := Sum.inl (AOp.iaddrS 5 (Arg.t 59) (Arg.t 60)), guard := none }, { dst := some 62, op := Sum.inl (AOp.load (some 5) (Arg.t 61)), guard := none }, { dst := some 12, op := Sum.inl (AOp.alloc [AVal.int IntKind.i64 (0), AVal.int IntKind.i64 (0), AVal.nils, AVal.bool false, AVal.nils]), guard := none },
    { dst := none, op := Sum.inl (AOp.store 5 (Arg.t 12) (Arg.t 62)), guard := none }]) (.seq (.seq (.region none [{ dst := some 63, op := Sum.inl (AOp.load (some 5) (Arg.t 12)), guard := none },
    { dst := some 64, op := Sum.inr (ACallee.k 4 [Arg.t 63]), guard := none }, { dst := some 65, op := Sum.inl (AOp.un UnOp.not (Arg.t 64)), guard := none }, { dst := some 66, op := Sum.inl (AOp.mv (Arg.t 65)), guard := none },
    { dst := some 67, op := Sum.inl (AOp.faddr 1 (Arg.t 12)), guard := some (66, false) }, { dst := some 68, op := Sum.inl (AOp.load none (Arg.t 67)), guard := some (66, false) }, { dst := some 69, op := Sum.inl (AOp.mv (Arg.t 0)), guard := some (66, false) },
    { dst := some 70, op := Sum.inl (AOp.bin BinOp.eql (Arg.t 68) (Arg.t 69)), guard := some (66, false) }, { dst := some 71, op := Sum.inl (AOp.pick (Arg.t 66) (Arg.c (AVal.bool true)) (Arg.t 70)), guard := none },
    { dst := some 72, op := Sum.inl (AOp.mv (Arg.t 71)), guard := none }, { dst := some 73, op := Sum.inl (AOp.faddr 0 (Arg.t 12)), guard := some (72, false) }, { dst := some 74, op := Sum.inl (AOp.load none (Arg.t 73)), guard := some (72, false) },
    { dst := some 75, op := Sum.inl (AOp.bin BinOp.lss (Arg.t 74) (Arg.c (AVal.int IntKind.i64 (1)))), guard := some (72, false) }, { dst := some 76, op := Sum.inl (AOp.pick (Arg.t 72) (Arg.c (AVal.bool true)) (Arg.t 75)), guard := none },
    { dst := some 77, op := Sum.inl (AOp.mv (Arg.t 76)), guard := none }, { dst := some 78, op := Sum.inl (AOp.faddr 0 (Arg.t 12)), guard := some (77, false) }, { dst := some 79, op := Sum.inl (AOp.load none (Arg.t 78)), guard := some (77, false) },
    { dst := some 80, op := Sum.inl (AOp.bin BinOp.gtr (Arg.t 79) (Arg.c (AVal.int IntKind.i64 (3)))), guard := some (77, false) }, { dst := some 81, op := Sum.inl (AOp.pick (Arg.t 77) (Arg.c (AVal.bool true)) (Arg.t 80)), guard := none }])
    (.cond (Arg.t 81) (.exit 1) ACode.skip)) (.seq (.seq (.region none [{ dst := some 82, op := Sum.inl (AOp.faddr 0 (Arg.t 12)), guard := none }, { dst := some 83, op := Sum.inl (AOp.load none (Arg.t 82)), guard := none },
    { dst := some 84, op := Sum.inl (AOp.bin BinOp.eql (Arg.t 83) (Arg.c (AVal.int IntKind.i64 (1)))), guard := none }]) (.cond (Arg.t 84) (.region (some [(2, [4])]) [{ dst := some 85, op := Sum.inl (AOp.mv (Arg.t 7)), guard := none },
    { dst := some 86, op := Sum.inl (AOp.faddr 1 (Arg.t 12)), guard := none }, { dst := some 87, op := Sum.inl (AOp.load none (Arg.t 86)), guard := none }, { dst := some 88, op := Sum.inl (AOp.load (some 5) (Arg.t 12)), guard := none },
    { dst := some 89, op := Sum.inr (ACallee.k 5 [Arg.t 88]), guard := none }, { dst := some 90, op := Sum.inr (ACallee.k 2 [Arg.t 85, Arg.t 87, Arg.t 89]), guard := none }])
    ACode.skip)) (.seq (.seq (.region none [{ dst := some 91, op := Sum.inl (AOp.faddr 0 (Arg.t 12)), guard := none }, { dst := some 92, op := Sum.inl (AOp.load none (Arg.t 91)), guard := none },
    { dst := some 93, op := Sum.inl (AOp.bin BinOp.eql (Arg.t 92) (Arg.c (AVal.int IntKind.i64 (2)))), guard := none }]) (.cond (Arg.t 93) (.region none [{ dst := some 94, op := Sum.inl (AOp.mv (Arg.t 7)), guard := none },
    { dst := some 95, op := Sum.inr (ACallee.k 3 [Arg.t 94]), guard := none }]) ACode.skip)) (.seq (.seq (.region none [{ dst := some 96, op := Sum.inl (AOp.faddr 0 (Arg.t 12)), guard := none },
    { dst := some 97, op := Sum.inl (AOp.load none (Arg.t 96)), guard := none }, { dst := some 98, op := Sum.inl (AOp.bin BinOp.eql (Arg.t 97) (Arg.c (AVal.int IntKind.i64 (3)))), guard := none }])
    (.cond (Arg.t 98) (.region none [{ dst := some 99, op := Sum.inl (AOp.mv (Arg.t 7)), guard := none }, { dst := some 100, op := Sum.inl (AOp.faddr 4 (Arg.t 12)), guard := none }, { dst := some 101, op := Sum.inl (AOp.load none (Arg.t 100)), guard := none },
    { dst := some 102, op := Sum.inr (ACallee.k 6 [Arg.t 99, Arg.t 101]), guard := none }]) ACode.skip)) (.seq (.region none [{ dst := some 104, op := Sum.inl (AOp.mv (Arg.t 7)), guard := none },
    { dst := some 105, op := Sum.inl (AOp.mv (Arg.t 0)), guard := none }, { dst := some 106, op := Sum.inr (ACallee.k 7 [Arg.t 104, Arg.t 105]), guard := none }, { dst := some 103, op := Sum.inl (AOp.mv (Arg.t 106)), guard := none },
    { dst := some 107, op := Sum.inl (AOp.ext 0 (Arg.t 103)), guard := none }, { dst := some 108, op := Sum.inl (AOp.ext 1 (Arg.t 103)), guard := none }, { dst := some 13, op := Sum.inl (AOp.mv (Arg.t 107)), guard := none },
    { dst := some 14, op := Sum.inl (AOp.mv (Arg.t 108)), guard := none }]) (.seq (.region none [{ dst := some 109, op := Sum.inl (AOp.mv (Arg.t 14)), guard := none }, { dst := some 110, op := Sum.inl (AOp.bin BinOp.neq (Arg.t 109) (Arg.c (AVal.int IntKind.i64 (0)))), guard := none },
    { dst := some 111, op := Sum.inl (AOp.mv (Arg.t 110)), guard := none }, { dst := some 112, op := Sum.inl (AOp.mv (Arg.t 13)), guard := some (111, false) }, { dst := some 113, op := Sum.inl (AOp.convBS (Arg.t 112)), guard := some (111, false) },
    { dst := some 114, op := Sum.inl (AOp.mv (Arg.t 1)), guard := some (111, false) }, { dst := some 115, op := Sum.inl (AOp.convBS (Arg.t 114)), guard := some (111, false) }, { dst := some 116, op := Sum.inl (AOp.bin BinOp.neq (Arg.t 113) (Arg.t 115)), guard := some (111, false) },
    { dst := some 117, op := Sum.inl (AOp.pick (Arg.t 111) (Arg.c (AVal.bool true)) (Arg.t 116)), guard := none }]) (.cond (Arg.t 117) (.seq (.region none [{ dst := some 6, op := Sum.inl (AOp.mv (Arg.c (AVal.bool false))), guard := none }])
    ACode.ret) ACode.skip))))))))) (.region none [{ dst := some 57, op := Sum.inl (AOp.mv (Arg.t 11)), guard := none }, { dst := some 58, op := Sum.inl (AOp.bin BinOp.add (Arg.t 57) (Arg.c (AVal.int IntKind.i64 (1)))), guard := none },
    { dst := some 11, op := Sum.inl (AOp.mv (Arg.t 58)), guard := none }]))
def DiskFlushed_s1 : ACode :=
  .block 0 (.loop DiskFlushed_l0)
def DiskFlushed_t2 : ACode :=
  .seq (.seq (.region none [{ dst := some 11, op := Sum.inl (AOp.mv (Arg.c (AVal.int IntKind.i64 (0)))), guard := none }]) DiskFlushed_s1) (.seq (.region none [{ dst := some 118, op := Sum.inr (ACallee.k 1 []), guard := none },
    { dst := some 119, op := Sum.inl (AOp.mv (Arg.t 118)), guard := none }, { dst := some 120, op := Sum.inl (AOp.mv (Arg.t 9)), guard := some (119, true) }, { dst := some 121, op := Sum.inl (AOp.bin BinOp.eql (Arg.t 120) (Arg.c (AVal.int IntKind.i64 (0)))), guard := some (119, true) },
    { dst := some 122, op := Sum.inl (AOp.pick (Arg.t 119) (Arg.t 121) (Arg.c (AVal.bool false))), guard := none }, { dst := some 123, op := Sum.inl (AOp.mv (Arg.t 122)), guard := none },
    { dst := some 124, op := Sum.inl (AOp.mv (Arg.t 10)), guard := some (123, true) }, { dst := some 125, op := Sum.inl (AOp.bin BinOp.eql (Arg.t 124) (Arg.c (AVal.int IntKind.i64 (0)))), guard := some (123, true) },
    { dst := some 126, op := Sum.inl (AOp.pick (Arg.t 123) (Arg.t 125) (Arg.c (AVal.bool false))), guard := none }, { dst := some 6, op := Sum.inl (AOp.mv (Arg.t 126)), guard := none }])
    ACode.ret)
def DiskFlushed : AFun :=
  ⟨3, [Sum.inl 6], (.seq (.region none [{ dst := some 6, op := Sum.inl (AOp.mv (Arg.c (AVal.bool false))), guard := none }]) (.seq (.region none [{ dst := some 16, op := Sum.inr (ACallee.k 0 [Arg.c (AVal.int IntKind.i64 (16))]), guard := none },
    { dst := some 15, op := Sum.inl (AOp.mv (Arg.t 16)), guard := none }, { dst := some 17, op := Sum.inl (AOp.ext 0 (Arg.t 15)), guard := none }, { dst := some 18, op := Sum.inl (AOp.ext 1 (Arg.t 15)), guard := none },
    { dst := some 7, op := Sum.inl (AOp.mv (Arg.t 17)), guard := none }, { dst := some 8, op := Sum.inl (AOp.mv (Arg.t 18)), guard := none }]) (.seq (.seq (.region none [{ dst := some 19, op := Sum.inl (AOp.mv (Arg.t 7)), guard := none },
    { dst := some 20, op := Sum.inl (AOp.eq false EqT.ptr (Arg.t 19) (Arg.c AVal.nilp)), guard := none }, { dst := some 21, op := Sum.inl (AOp.mv (Arg.t 20)), guard := none }, { dst := some 22, op := Sum.inl (AOp.mv (Arg.t 8)), guard := some (21, false) },
    { dst := some 23, op := Sum.inl (AOp.bin BinOp.neq (Arg.t 22) (Arg.c (AVal.int IntKind.i64 (0)))), guard := some (21, false) }, { dst := some 24, op := Sum.inl (AOp.pick (Arg.t 21) (Arg.c (AVal.bool true)) (Arg.t 23)), guard := none },
    { dst := some 25, op := Sum.inl (AOp.mv (Arg.t 24)), guard := none }, { dst := some 26, op := Sum.inl (AOp.mv (Arg.t 1)), guard := some (25, false) }, { dst := some 27, op := Sum.inl (AOp.len LenT.sl (Arg.t 26)), guard := some (25, false) },
    { dst := some 28, op := Sum.inl (AOp.bin BinOp.neq (Arg.t 27) (Arg.c (AVal.int IntKind.i64 (256)))), guard := some (25, false) }, { dst := some 29, op := Sum.inl (AOp.pick (Arg.t 25) (Arg.c (AVal.bool true)) (Arg.t 28)), guard := none },
    { dst := some 30, op := Sum.inl (AOp.mv (Arg.t 29)), guard := none }, { dst := some 31, op := Sum.inl (AOp.mv (Arg.t 0)), guard := some (30, false) }, { dst := some 32, op := Sum.inl (AOp.bin BinOp.lss (Arg.t 31) (Arg.c (AVal.int IntKind.i64 (0)))), guard := some (30, false) },
    { dst := some 33, op := Sum.inl (AOp.pick (Arg.t 30) (Arg.c (AVal.bool true)) (Arg.t 32)), guard := none }, { dst := some 34, op := Sum.inl (AOp.mv (Arg.t 33)), guard := none }, { dst := some 35, op := Sum.inl (AOp.mv (Arg.t 0)), guard := some (34, false) },
    { dst := some 36, op := Sum.inl (AOp.bin BinOp.geq (Arg.t 35) (Arg.c (AVal.int IntKind.i64 (16)))), guard := some (34, false) }, { dst := some 37, op := Sum.inl (AOp.pick (Arg.t 34) (Arg.c (AVal.bool true)) (Arg.t 36)), guard := none }])
    (.cond (Arg.t 37) (.seq (.region none [{ dst := some 38, op := Sum.inl (AOp.mv (Arg.t 7)), guard := none }, { dst := some 39, op := Sum.inl (AOp.eq true EqT.ptr (Arg.t 38) (Arg.c AVal.nilp)), guard := none },
    { dst := some 40, op := Sum.inl (AOp.mv (Arg.t 39)), guard := none }, { dst := some 41, op := Sum.inr (ACallee.k 1 []), guard := some (40, true) }, { dst := some 42, op := Sum.inl (AOp.pick (Arg.t 40) (Arg.t 41) (Arg.c (AVal.bool false))), guard := none },
    { dst := some 6, op := Sum.inl (AOp.mv (Arg.t 42)), guard := none }]) ACode.ret) ACode.skip)) (.seq (.region none [{ dst := some 43, op := Sum.inl (AOp.mv (Arg.t 7)), guard := none },
    { dst := some 44, op := Sum.inl (AOp.mv (Arg.t 0)), guard := none }, { dst := some 45, op := Sum.inl (AOp.mv (Arg.t 1)), guard := none }, { dst := some 46, op := Sum.inr (ACallee.k 2 [Arg.t 43, Arg.t 44, Arg.t 45]), guard := none },
    { dst := some 47, op := Sum.inl (AOp.mv (Arg.t 7)), guard := none }, { dst := some 48, op := Sum.inr (ACallee.k 3 [Arg.t 47]), guard := none }, { dst := some 9, op := Sum.inl (AOp.mv (Arg.t 46)), guard := none },
    { dst := some 10, op := Sum.inl (AOp.mv (Arg.t 48)), guard := none }]) DiskFlushed_t2)))), false⟩

def DiskFuse_l0 : ACode :=
  .seq (.seq (.region none [{ dst := some 30, op := Sum.inl (AOp.mv (Arg.t 9)), guard := none }, { dst := some 31, op := Sum.inl (AOp.mv (Arg.t 7)), guard := none }, { dst := some 32, op := Sum.inl (AOp.bin BinOp.lss (Arg.t 30) (Arg.t 31)), guard := none }])
    (.cond (Arg.t 32) ACode.skip (.exit 0))) (.seq (.block 1 (.seq (.region none [{ dst := some 35, op := Sum.inl (AOp.mv (Arg.t 5)), guard := none }, { dst := some 36, op := Sum.inl (AOp.mv (Arg.t 9)), guard := none },
    { dst := some 37, op := Sum.inl (AOp.mkslice 1 1 [AVal.int IntKind.u8 (0)] (Arg.c (AVal.int IntKind.i64 (256))) (Arg.c (AVal.int IntKind.i64 (256)))), guard := none }, { dst := some 38, op := Sum.inr (ACallee.k 2 [Arg.t 35, Arg.t 36, Arg.t 37]), guard := none },
    { dst := some 39, op := Sum.inl (AOp.bin BinOp.eql (Arg.t 38) (Arg.c (AVal.int IntKind.i64 (0)))), guard := none }]) (.cond (Arg.t 39) (.region none [{ dst := some 40, op := Sum.inl (AOp.mv (Arg.t 8)), guard := none },
    { dst := some 41, op := Sum.inl (AOp.bin BinOp.add (Arg.t 40) (Arg.c (AVal.int IntKind.i64 (1)))), guard := none }, { dst := some 8, op := Sum.inl (AOp.mv (Arg.t 41)), guard := none }])
    ACode.skip))) (.region none [{ dst := some 33, op := Sum.inl (AOp.mv (Arg.t 9)), guard := none }, { dst := some 34, op := Sum.inl (AOp.bin BinOp.add (Arg.t 33) (Arg.c (AVal.int IntKind.i64 (1)))), guard := none },
    { dst := some 9, op := Sum.inl (AOp.mv (Arg.t 34)), guard := none }]))
def DiskFuse_s1 : ACode :=
  .block 0 (.loop DiskFuse_l0)
def DiskFuse_t2 : ACode :=
  .seq (.seq (.region none [{ dst := some 9, op := Sum.inl (AOp.mv (Arg.c (AVal.int IntKind.i64 (0)))), guard := none }]) DiskFuse_s1) (.seq (.region none [{ dst := some 43, op := Sum.inl (AOp.mv (Arg.t 5)), guard := none },
    { dst := some 44, op := Sum.inr (ACallee.k 3 [Arg.t 43, Arg.c (AVal.int IntKind.i64 (0))]), guard := none }, { dst := some 42, op := Sum.inl (AOp.mv (Arg.t 44)), guard := none }, { dst := some 45, op := Sum.inl (AOp.ext 0 (Arg.t 42)), guard := none },
    { dst := some 46, op := Sum.inl (AOp.ext 1 (Arg.t 42)), guard := none }, { dst := some 10, op := Sum.inl (AOp.mv (Arg.t 45)), guard := none }, { dst := some 11, op := Sum.inl (AOp.mv (Arg.t 46)), guard := none }])
    (.seq (.region none [{ dst := some 47, op := Sum.inl (AOp.mv (Arg.t 7)), guard := none }, { dst := some 48, op := Sum.inl (AOp.mv (Arg.t 0)), guard := none }, { dst := some 49, op := Sum.inl (AOp.mnmx true (Arg.t 48) (Arg.c (AVal.int IntKind.i64 (0)))), guard := none },
    { dst := some 50, op := Sum.inl (AOp.mnmx false (Arg.t 47) (Arg.t 49)), guard := none }, { dst := some 12, op := Sum.inl (AOp.mv (Arg.t 50)), guard := none }]) (.seq (.seq (.region
    none [{ dst := some 51, op := Sum.inl (AOp.mv (Arg.t 8)), guard := none }, { dst := some 52, op := Sum.inl (AOp.mv (Arg.t 12)), guard := none }, { dst := some 53, op := Sum.inl (AOp.bin BinOp.neq (Arg.t 51) (Arg.t 52)), guard := none },
    { dst := some 54, op := Sum.inl (AOp.mv (Arg.t 53)), guard := none }, { dst := some 55, op := Sum.inl (AOp.mv (Arg.t 5)), guard := some (54, false) }, { dst := some 56, op := Sum.inr (ACallee.k 4 [Arg.t 55]), guard := some (54, false) },
    { dst := some 57, op := Sum.inl (AOp.mv (Arg.t 12)), guard := some (54, false) }, { dst := some 58, op := Sum.inl (AOp.bin BinOp.neq (Arg.t 56) (Arg.t 57)), guard := some (54, false) },
    { dst := some 59, op := Sum.inl (AOp.pick (Arg.t 54) (Arg.c (AVal.bool true)) (Arg.t 58)), guard := none }, { dst := some 60, op := Sum.inl (AOp.mv (Arg.t 59)), guard := none }, { dst := some 61, op := Sum.inl (AOp.mv (Arg.t 11)), guard := some (60, false) },
    { dst := some 62, op := Sum.inl (AOp.bin BinOp.eql (Arg.t 61) (Arg.c (AVal.int IntKind.i64 (8)))), guard := some (60, false) }, { dst := some 63, op := Sum.inl (AOp.mv (Arg.t 7)), guard := some (60, false) },
    { dst := some 64, op := Sum.inl (AOp.mv (Arg.t 0)), guard := some (60, false) }, { dst := some 65, op := Sum.inl (AOp.mnmx true (Arg.t 64) (Arg.c (AVal.int IntKind.i64 (0)))), guard := some (60, false) },
    { dst := some 66, op := Sum.inl (AOp.bin BinOp.gtr (Arg.t 63) (Arg.t 65)), guard := some (60, false) }, { dst := some 67, op := Sum.inl (AOp.eq true EqT.bool (Arg.t 62) (Arg.t 66)), guard := some (60, false) },
    { dst := some 68, op := Sum.inl (AOp.pick (Arg.t 60) (Arg.c (AVal.bool true)) (Arg.t 67)), guard := none }]) (.cond (Arg.t 68) (.seq (.region none [{ dst := some 4, op := Sum.inl (AOp.mv (Arg.c (AVal.bool false))), guard := none }])
    ACode.ret) ACode.skip)) (.seq (.region none [{ dst := some 69, op := Sum.inl (AOp.mv (Arg.t 5)), guard := none }, { dst := some 70, op := Sum.inr (ACallee.k 5 [Arg.t 69, Arg.c AVal.nils]), guard := none }])
    (.seq (.region none [{ dst := some 72, op := Sum.inl (AOp.mv (Arg.t 5)), guard := none }, { dst := some 73, op := Sum.inr (ACallee.k 3 [Arg.t 72, Arg.c (AVal.int IntKind.i64 (0))]), guard := none },
    { dst := some 71, op := Sum.inl (AOp.mv (Arg.t 73)), guard := none }, { dst := some 74, op := Sum.inl (AOp.ext 0 (Arg.t 71)), guard := none }, { dst := some 75, op := Sum.inl (AOp.ext 1 (Arg.t 71)), guard := none },
    { dst := some 13, op := Sum.inl (AOp.mv (Arg.t 74)), guard := none }, { dst := some 14, op := Sum.inl (AOp.mv (Arg.t 75)), guard := none }]) (.seq (.region none [{ dst := some 76, op := Sum.inr (ACallee.k 6 []), guard := none },
    { dst := some 77, op := Sum.inl (AOp.mv (Arg.t 76)), guard := none }, { dst := some 78, op := Sum.inl (AOp.mv (Arg.t 14)), guard := some (77, true) }, { dst := some 79, op := Sum.inl (AOp.bin BinOp.eql (Arg.t 78) (Arg.c (AVal.int IntKind.i64 (0)))), guard := some (77, true) },
    { dst := some 80, op := Sum.inl (AOp.pick (Arg.t 77) (Arg.t 79) (Arg.c (AVal.bool false))), guard := none }, { dst := some 81, op := Sum.inl (AOp.mv (Arg.t 80)), guard := none }, { dst := some 82, op := Sum.inl (AOp.mv (Arg.t 13)), guard := some (81, true) },
    { dst := some 83, op := Sum.inl (AOp.len LenT.sl (Arg.t 82)), guard := some (81, true) }, { dst := some 84, op := Sum.inl (AOp.bin BinOp.eql (Arg.t 83) (Arg.c (AVal.int IntKind.i64 (256)))), guard := some (81, true) },
    { dst := some 85, op := Sum.inl (AOp.pick (Arg.t 81) (Arg.t 84) (Arg.c (AVal.bool false))), guard := none }, { dst := some 86, op := Sum.inl (AOp.mv (Arg.t 85)), guard := none }, { dst := some 87, op := Sum.inl (AOp.mv (Arg.t 5)), guard := some (86, true) },
    { dst := some 88, op := Sum.inr (ACallee.k 4 [Arg.t 87]), guard := some (86, true) }, { dst := some 89, op := Sum.inl (AOp.bin BinOp.eql (Arg.t 88) (Arg.c (AVal.int IntKind.i64 (0)))), guard := some (86, true) },
    { dst := some 90, op := Sum.inl (AOp.pick (Arg.t 86) (Arg.t 89) (Arg.c (AVal.bool false))), guard := none }, { dst := some 91, op := Sum.inl (AOp.mv (Arg.t 90)), guard := none }, { dst := some 92, op := Sum.inl (AOp.mv (Arg.t 5)), guard := some (91, true) },
    { dst := some 93, op := Sum.inr (ACallee.k 7 [Arg.t 92]), guard := some (91, true) }, { dst := some 94, op := Sum.inl (AOp.len LenT.sl (Arg.t 93)), guard := some (91, true) }, { dst := some 95, op := Sum.inl (AOp.bin BinOp.eql (Arg.t 94) (Arg.c (AVal.int IntKind.i64 (131072)))), guard := some (91, true) },
    { dst := some 96, op := Sum.inl (AOp.pick (Arg.t 91) (Arg.t 95) (Arg.c (AVal.bool false))), guard := none }, { dst := some 4, op := Sum.inl (AOp.mv (Arg.t 96)), guard := none }])
    ACode.ret))))))
def DiskFuse : AFun :=
  ⟨2, [Sum.inl 4], (.seq (.region none [{ dst := some 4, op := Sum.inl (AOp.mv (Arg.c (AVal.bool false))), guard := none }]) (.seq (.region none [{ dst := some 16, op := Sum.inr (ACallee.k 0 [Arg.c (AVal.int IntKind.i64 (512))]), guard := none },
    { dst := some 15, op := Sum.inl (AOp.mv (Arg.t 16)), guard := none }, { dst := some 17, op := Sum.inl (AOp.ext 0 (Arg.t 15)), guard := none }, { dst := some 18, op := Sum.inl (AOp.ext 1 (Arg.t 15)), guard := none },
    { dst := some 5, op := Sum.inl (AOp.mv (Arg.t 17)), guard := none }, { dst := some 6, op := Sum.inl (AOp.mv (Arg.t 18)), guard := none }]) (.seq (.seq (.region none [{ dst := some 19, op := Sum.inl (AOp.mv (Arg.t 5)), guard := none },
    { dst := some 20, op := Sum.inl (AOp.eq false EqT.ptr (Arg.t 19) (Arg.c AVal.nilp)), guard := none }, { dst := some 21, op := Sum.inl (AOp.mv (Arg.t 20)), guard := none }, { dst := some 22, op := Sum.inl (AOp.mv (Arg.t 6)), guard := some (21, false) },
    { dst := some 23, op := Sum.inl (AOp.bin BinOp.neq (Arg.t 22) (Arg.c (AVal.int IntKind.i64 (0)))), guard := some (21, false) }, { dst := some 24, op := Sum.inl (AOp.pick (Arg.t 21) (Arg.c (AVal.bool true)) (Arg.t 23)), guard := none }])
    (.cond (Arg.t 24) (.seq (.region none [{ dst := some 4, op := Sum.inl (AOp.mv (Arg.c (AVal.bool false))), guard := none }]) ACode.ret) ACode.skip)) (.seq (.region none [{ dst := some 25, op := Sum.inl (AOp.mv (Arg.t 1)), guard := none },
    { dst := some 26, op := Sum.inl (AOp.bin BinOp.and (Arg.t 25) (Arg.c (AVal.int IntKind.i64 (31)))), guard := none }, { dst := some 7, op := Sum.inl (AOp.mv (Arg.t 26)), guard := none }])
    (.seq (.region none [{ dst := some 27, op := Sum.inl (AOp.mv (Arg.t 5)), guard := none }, { dst := some 28, op := Sum.inl (AOp.mv (Arg.t 0)), guard := none }, { dst := some 29, op := Sum.inr (ACallee.k 1 [Arg.t 27, Arg.t 28]), guard := none }])
    (.seq (.region none [{ dst := some 8, op := Sum.inl (AOp.mv (Arg.c (AVal.int IntKind.i64 (0)))), guard := none }]) DiskFuse_t2)))))), false⟩

def r04_blank : AFun :=
  ⟨0, [Sum.inl 0], (.seq (.region none [{ dst := some 0, op := Sum.inl (AOp.mv (Arg.c (AVal.str []))), guard := none }]) (.seq (.region none [{ dst := some 1, op := Sum.inl (AOp.mkslice 1 1 [AVal.int IntKind.u8 (0)] (Arg.c (AVal.int IntKind.i64 (256))) (Arg.c (AVal.int IntKind.i64 (256)))), guard := none },
    { dst := some 2, op := Sum.inl (AOp.convBS (Arg.t 1)), guard := none }, { dst := some 0, op := Sum.inl (AOp.mv (Arg.t 2)), guard := none }]) ACode.ret)), false⟩

def r04_New_l0 : ACode :=
  .seq (.seq (.region none [{ dst := some 15, op := Sum.inl (AOp.mv (Arg.t 5)), guard := none }, { dst := some 16, op := Sum.inl (AOp.mv (Arg.t 0)), guard := none }, { dst := some 17, op := Sum.inl (AOp.bin BinOp.lss (Arg.t 15) (Arg.t 16)), guard := none }])
    (.cond (Arg.t 17) ACode.skip (.exit 0))) (.seq (.block 1 (.region none [{ dst := some 20, op := Sum.inl (AOp.mv (Arg.t 4)), guard := none }, { dst := some 21, op := Sum.inl (AOp.mv (Arg.t 5)), guard := none },
    { dst := some 22, op := Sum.inr (ACallee.k 0 []), guard := none }, { dst := some 23, op := Sum.inl (AOp.iaddrS 1 (Arg.t 20) (Arg.t 21)), guard := none }, { dst := none, op := Sum.inl (AOp.store 1 (Arg.t 23) (Arg.t 22)), guard := none }]))
    (.region none [{ dst := some 18, op := Sum.inl (AOp.mv (Arg.t 5)), guard := none }, { dst := some 19, op := Sum.inl (AOp.bin BinOp.add (Arg.t 18) (Arg.c (AVal.int IntKind.i64 (1)))), guard := none },
    { dst := some 5, op := Sum.inl (AOp.mv (Arg.t 19)), guard := none }]))
def r04_New_s1 : ACode :=
  .block 0 (.loop r04_New_l0)
def r04_New_t2 : ACode :=
  .seq (.seq (.region none [{ dst := some 5, op := Sum.inl (AOp.mv (Arg.c (AVal.int IntKind.i64 (0)))), guard := none }]) r04_New_s1) (.seq (.region none [{ dst := some 24, op := Sum.inl (AOp.mv (Arg.t 4)), guard := none },
    { dst := some 25, op := Sum.inl (AOp.build [AVal.nils, AVal.nils, AVal.bool false, AVal.int IntKind.i64 (0), AVal.bool false] [(0, 1, Arg.t 24)]), guard := none }, { dst := none, op := Sum.inl (AOp.store 5 (Arg.t 2) (Arg.t 25)), guard := none },
    { dst := some 3, op := Sum.inl (AOp.mv (Arg.c (AVal.int IntKind.i64 (0)))), guard := none }]) ACode.ret)
def r04_New : AFun :=
  ⟨1, [Sum.inr (2, some 5), Sum.inl 3], (.seq (.region none [{ dst := some 2, op := Sum.inl (AOp.alloc [AVal.nils, AVal.nils, AVal.bool false, AVal.int IntKind.i64 (0), AVal.bool false]), guard := none }, { dst := some 3, op := Sum.inl (AOp.mv (Arg.c (AVal.int IntKind.i64 (0)))), guard := none }])
    (.seq (.seq (.region none [{ dst := some 6, op := Sum.inl (AOp.mv (Arg.t 0)), guard := none }, { dst := some 7, op := Sum.inl (AOp.bin BinOp.lss (Arg.t 6) (Arg.c (AVal.int IntKind.i64 (16)))), guard := none },
    { dst := some 8, op := Sum.inl (AOp.mv (Arg.t 7)), guard := none }, { dst := some 9, op := Sum.inl (AOp.mv (Arg.t 0)), guard := some (8, false) }, { dst := some 10, op := Sum.inl (AOp.bin BinOp.gtr (Arg.t 9) (Arg.c (AVal.int IntKind.i64 (512)))), guard := some (8, false) },
    { dst := some 11, op := Sum.inl (AOp.pick (Arg.t 8) (Arg.c (AVal.bool true)) (Arg.t 10)), guard := none }]) (.cond (Arg.t 11) (.seq (.region none [{ dst := some 12, op := Sum.inl (AOp.build [AVal.nils, AVal.nils, AVal.bool false, AVal.int IntKind.i64 (0), AVal.bool false] []), guard := none },
    { dst := none, op := Sum.inl (AOp.store 5 (Arg.t 2) (Arg.t 12)), guard := none }, { dst := some 3, op := Sum.inl (AOp.mv (Arg.c (AVal.int IntKind.i64 (1)))), guard := none }])
    ACode.ret) ACode.skip)) (.seq (.region none [{ dst := some 13, op := Sum.inl (AOp.mv (Arg.t 0)), guard := none }, { dst := some 14, op := Sum.inl (AOp.mkslice 1 16 [AVal.str []] (Arg.t 13) (Arg.t 13)), guard := none },
    { dst := some 4, op := Sum.inl (AOp.mv (Arg.t 14)), guard := none }]) r04_New_t2))), false⟩

def r04_Read_l0 : ACode :=
  .seq (.seq (.region none [{ dst := some 24, op := Sum.inl (AOp.mv (Arg.t 7)), guard := none }, { dst := some 25, op := Sum.inl (AOp.faddr 1 (Arg.t 2)), guard := none }, { dst := some 26, op := Sum.inl (AOp.load none (Arg.t 25)), guard := none },
    { dst := some 27, op := Sum.inl (AOp.len LenT.sl (Arg.t 26)), guard := none }, { dst := some 28, op := Sum.inl (AOp.bin BinOp.lss (Arg.t 24) (Arg.t 27)), guard := none }]) (.cond
    (Arg.t 28) ACode.skip (.exit 0))) (.seq (.block 1 (.seq (.region none [{ dst := some 31, op := Sum.inl (AOp.faddr 1 (Arg.t 2)), guard := none }, { dst := some 32, op := Sum.inl (AOp.load none (Arg.t 31)), guard := none },
    { dst := some 33, op := Sum.inl (AOp.mv (Arg.t 7)), guard := none }, { dst := some 34, op := Sum.inl (AOp.iaddrS 2 (Arg.t 32) (Arg.t 33)), guard := none }, { dst := some 35, op := Sum.inl (AOp.faddr 0 (Arg.t 34)), guard := none },
    { dst := some 36, op := Sum.inl (AOp.load none (Arg.t 35)), guard := none }, { dst := some 37, op := Sum.inl (AOp.mv (Arg.t 1)), guard := none }, { dst := some 38, op := Sum.inl (AOp.bin BinOp.eql (Arg.t 36) (Arg.t 37)), guard := none }])
    (.cond (Arg.t 38) (.region none [{ dst := some 39, op := Sum.inl (AOp.faddr 1 (Arg.t 2)), guard := none }, { dst := some 40, op := Sum.inl (AOp.load none (Arg.t 39)), guard := none },
    { dst := some 41, op := Sum.inl (AOp.mv (Arg.t 7)), guard := none }, { dst := some 42, op := Sum.inl (AOp.iaddrS 2 (Arg.t 40) (Arg.t 41)), guard := none }, { dst := some 43, op := Sum.inl (AOp.faddr 1 (Arg.t 42)), guard := none },
    { dst := some 44, op := Sum.inl (AOp.load none (Arg.t 43)), guard := none }, { dst := some 6, op := Sum.inl (AOp.mv (Arg.t 44)), guard := none }]) ACode.skip))) (.region none [{ dst := some 29, op := Sum.inl (AOp.mv (Arg.t 7)), guard := none },
    { dst := some 30, op := Sum.inl (AOp.bin BinOp.add (Arg.t 29) (Arg.c (AVal.int IntKind.i64 (1)))), guard := none }, { dst := some 7, op := Sum.inl (AOp.mv (Arg.t 30)), guard := none }]))
def r04_Read_s1 : ACode :=
  .block 0 (.loop r04_Read_l0)
def r04_Read_t2 : ACode :=
  .seq (.seq (.region none [{ dst := some 7, op := Sum.inl (AOp.mv (Arg.c (AVal.int IntKind.i64 (0)))), guard := none }]) r04_Read_s1) (.seq (.region none [{ dst := some 45, op := Sum.inl (AOp.mv (Arg.t 6)), guard := none },
    { dst := some 46, op := Sum.inl (AOp.convSB (Arg.t 45)), guard := none }, { dst := some 4, op := Sum.inl (AOp.mv (Arg.t 46)), guard := none }, { dst := some 5, op := Sum.inl (AOp.mv (Arg.c (AVal.int IntKind.i64 (0)))), guard := none }])
    ACode.ret)
def r04_Read : AFun :=
  ⟨2, [Sum.inl 4, Sum.inl 5], (.seq (.region none [{ dst := some 2, op := Sum.inl (AOp.box (Arg.t 0)), guard := none }, { dst := some 4, op := Sum.inl (AOp.mv (Arg.c AVal.nils)), guard := none }, { dst := some 5, op := Sum.inl (AOp.mv (Arg.c (AVal.int IntKind.i64 (0)))), guard := none }])
    (.seq (.seq (.region none [{ dst := some 8, op := Sum.inl (AOp.faddr 4 (Arg.t 2)), guard := none }, { dst := some 9, op := Sum.inl (AOp.load none (Arg.t 8)), guard := none }])
    (.cond (Arg.t 9) (.seq (.region none [{ dst := some 4, op := Sum.inl (AOp.mv (Arg.c AVal.nils)), guard := none }, { dst := some 5, op := Sum.inl (AOp.mv (Arg.c (AVal.int IntKind.i64 (8)))), guard := none }])
    ACode.ret) ACode.skip)) (.seq (.seq (.region none [{ dst := some 10, op := Sum.inl (AOp.mv (Arg.t 1)), guard := none }, { dst := some 11, op := Sum.inl (AOp.bin BinOp.lss (Arg.t 10) (Arg.c (AVal.int IntKind.i64 (0)))), guard := none },
    { dst := some 12, op := Sum.inl (AOp.mv (Arg.t 11)), guard := none }, { dst := some 13, op := Sum.inl (AOp.mv (Arg.t 1)), guard := some (12, false) }, { dst := some 14, op := Sum.inl (AOp.faddr 0 (Arg.t 2)), guard := some (12, false) },
    { dst := some 15, op := Sum.inl (AOp.load none (Arg.t 14)), guard := some (12, false) }, { dst := some 16, op := Sum.inl (AOp.len LenT.sl (Arg.t 15)), guard := some (12, false) },
    { dst := some 17, op := Sum.inl (AOp.bin BinOp.geq (Arg.t 13) (Arg.t 16)), guard := some (12, false) }, { dst := some 18, op := Sum.inl (AOp.pick (Arg.t 12) (Arg.c (AVal.bool true)) (Arg.t 17)), guard := none }])
    (.cond (Arg.t 18) (.seq (.region none [{ dst := some 4, op := Sum.inl (AOp.mv (Arg.c AVal.nils)), guard := none }, { dst := some 5, op := Sum.inl (AOp.mv (Arg.c (AVal.int IntKind.i64 (1)))), guard := none }])
    ACode.ret) ACode.skip)) (.seq (.region none [{ dst := some 19, op := Sum.inl (AOp.faddr 0 (Arg.t 2)), guard := none }, { dst := some 20, op := Sum.inl (AOp.load none (Arg.t 19)), guard := none },
    { dst := some 21, op := Sum.inl (AOp.mv (Arg.t 1)), guard := none }, { dst := some 22, op := Sum.inl (AOp.iaddrS 1 (Arg.t 20) (Arg.t 21)), guard := none }, { dst := some 23, op := Sum.inl (AOp.load none (Arg.t 22)), guard := none },
    { dst := some 6, op := Sum.inl (AOp.mv (Arg.t 23)), guard := none }]) r04_Read_t2)))), false⟩

def r04_spend : AFun :=
  ⟨1, [Sum.inr (2, some 5), Sum.inl 3], (.seq (.region none [{ dst := some 1, op := Sum.inl (AOp.box (Arg.t 0)), guard := none }, { dst := some 2, op := Sum.inl (AOp.alloc [AVal.nils, AVal.nils, AVal.bool false, AVal.int IntKind.i64 (0), AVal.bool false]), guard := none },
    { dst := some 3, op := Sum.inl (AOp.mv (Arg.c (AVal.bool false))), guard := none }]) (.seq (.seq (.region none [{ dst := some 4, op := Sum.inl (AOp.faddr 2 (Arg.t 1)), guard := none },
    { dst := some 5, op := Sum.inl (AOp.load none (Arg.t 4)), guard := none }, { dst := some 6, op := Sum.inl (AOp.mv (Arg.t 5)), guard := none }, { dst := some 7, op := Sum.inl (AOp.faddr 3 (Arg.t 1)), guard := some (6, true) },
    { dst := some 8, op := Sum.inl (AOp.load none (Arg.t 7)), guard := some (6, true) }, { dst := some 9, op := Sum.inl (AOp.bin BinOp.eql (Arg.t 8) (Arg.c (AVal.int IntKind.i64 (0)))), guard := some (6, true) },
    { dst := some 10, op := Sum.inl (AOp.pick (Arg.t 6) (Arg.t 9) (Arg.c (AVal.bool false))), guard := none }]) (.cond (Arg.t 10) (.seq (.region none [{ dst := some 11, op := Sum.inl (AOp.faddr 4 (Arg.t 1)), guard := none },
    { dst := none, op := Sum.inl (AOp.store 1 (Arg.t 11) (Arg.c (AVal.bool true))), guard := none }]) (.seq (.region none [{ dst := some 12, op := Sum.inl (AOp.load (some 5) (Arg.t 1)), guard := none },
    { dst := none, op := Sum.inl (AOp.store 5 (Arg.t 2) (Arg.t 12)), guard := none }, { dst := some 3, op := Sum.inl (AOp.mv (Arg.c (AVal.bool false))), guard := none }]) ACode.ret))
    ACode.skip)) (.seq (.seq (.region none [{ dst := some 13, op := Sum.inl (AOp.faddr 2 (Arg.t 1)), guard := none }, { dst := some 14, op := Sum.inl (AOp.load none (Arg.t 13)), guard := none }])
    (.cond (Arg.t 14) (.region none [{ dst := some 15, op := Sum.inl (AOp.faddr 3 (Arg.t 1)), guard := none }, { dst := some 16, op := Sum.inl (AOp.load none (Arg.t 15)), guard := none },
    { dst := some 17, op := Sum.inl (AOp.bin BinOp.sub (Arg.t 16) (Arg.c (AVal.int IntKind.i64 (1)))), guard := none }, { dst := some 18, op := Sum.inl (AOp.faddr 3 (Arg.t 1)), guard := none },
    { dst := none, op := Sum.inl (AOp.store 1 (Arg.t 18) (Arg.t 17)), guard := none }]) ACode.skip)) (.seq (.region none [{ dst := some 19, op := Sum.inl (AOp.load (some 5) (Arg.t 1)), guard := none },
    { dst := none, op := Sum.inl (AOp.store 5 (Arg.t 2) (Arg.t 19)), guard := none }, { dst := some 3, op := Sum.inl (AOp.mv (Arg.c (AVal.bool true))), guard := none }]) ACode.ret)))), false⟩

def r04_Put : AFun :=
  ⟨3, [Sum.inr (6, some 5), Sum.inl 7], (.seq (.region none [{ dst := some 3, op := Sum.inl (AOp.box (Arg.t 0)), guard := none }, { dst := some 6, op := Sum.inl (AOp.alloc [AVal.nils, AVal.nils, AVal.bool false, AVal.int IntKind.i64 (0), AVal.bool false]), guard := none },
    { dst := some 7, op := Sum.inl (AOp.mv (Arg.c (AVal.int IntKind.i64 (0)))), guard := none }]) (.seq (.seq (.region none [{ dst := some 10, op := Sum.inl (AOp.faddr 4 (Arg.t 3)), guard := none },
    { dst := some 11, op := Sum.inl (AOp.load none (Arg.t 10)), guard := none }]) (.cond (Arg.t 11) (.seq (.region none [{ dst := some 12, op := Sum.inl (AOp.load (some 5) (Arg.t 3)), guard := none },
    { dst := none, op := Sum.inl (AOp.store 5 (Arg.t 6) (Arg.t 12)), guard := none }, { dst := some 7, op := Sum.inl (AOp.mv (Arg.c (AVal.int IntKind.i64 (8)))), guard := none }])
    ACode.ret) ACode.skip)) (.seq (.seq (.region none [{ dst := some 13, op := Sum.inl (AOp.mv (Arg.t 1)), guard := none }, { dst := some 14, op := Sum.inl (AOp.bin BinOp.lss (Arg.t 13) (Arg.c (AVal.int IntKind.i64 (0)))), guard := none },
    { dst := some 15, op := Sum.inl (AOp.mv (Arg.t 14)), guard := none }, { dst := some 16, op := Sum.inl (AOp.mv (Arg.t 1)), guard := some (15, false) }, { dst := some 17, op := Sum.inl (AOp.faddr 0 (Arg.t 3)), guard := some (15, false) },
    { dst := some 18, op := Sum.inl (AOp.load none (Arg.t 17)), guard := some (15, false) }, { dst := some 19, op := Sum.inl (AOp.len LenT.sl (Arg.t 18)), guard := some (15, false) },
    { dst := some 20, op := Sum.inl (AOp.bin BinOp.geq (Arg.t 16) (Arg.t 19)), guard := some (15, false) }, { dst := some 21, op := Sum.inl (AOp.pick (Arg.t 15) (Arg.c (AVal.bool true)) (Arg.t 20)), guard := none },
    { dst := some 22, op := Sum.inl (AOp.mv (Arg.t 21)), guard := none }, { dst := some 23, op := Sum.inl (AOp.mv (Arg.t 2)), guard := some (22, false) }, { dst := some 24, op := Sum.inl (AOp.len LenT.sl (Arg.t 23)), guard := some (22, false) },
    { dst := some 25, op := Sum.inl (AOp.bin BinOp.neq (Arg.t 24) (Arg.c (AVal.int IntKind.i64 (256)))), guard := some (22, false) }, { dst := some 26, op := Sum.inl (AOp.pick (Arg.t 22) (Arg.c (AVal.bool true)) (Arg.t 25)), guard := none }])
    (.cond (Arg.t 26) (.seq (.region none [{ dst := some 27, op := Sum.inl (AOp.load (some 5) (Arg.t 3)), guard := none }, { dst := none, op := Sum.inl (AOp.store 5 (Arg.t 6) (Arg.t 27)), guard := none },
    { dst := some 7, op := Sum.inl (AOp.mv (Arg.c (AVal.int IntKind.i64 (1)))), guard := none }]) ACode.ret) ACode.skip)) (.seq (.region none [{ dst := some 29, op := Sum.inl (AOp.load (some 5) (Arg.t 3)), guard := none },
    { dst := some 30, op := Sum.inr (ACallee.k 0 [Arg.t 29]), guard := none }, { dst := some 28, op := Sum.inl (AOp.mv (Arg.t 30)), guard := none }, { dst := some 31, op := Sum.inl (AOp.ext 0 (Arg.t 28)), guard := none },
    { dst := some 32, op := Sum.inl (AOp.ext 1 (Arg.t 28)), guard := none }, { dst := none, op := Sum.inl (AOp.store 5 (Arg.t 3) (Arg.t 31)), guard := none }, { dst := some 8, op := Sum.inl (AOp.mv (Arg.t 32)), guard := none }])
    (.seq (.seq (.region none [{ dst := some 33, op := Sum.inl (AOp.mv (Arg.t 8)), guard := none }, { dst := some 34, op := Sum.inl (AOp.un UnOp.not (Arg.t 33)), guard := none }])
    (.cond (Arg.t 34) (.seq (.region none [{ dst := some 35, op := Sum.inl (AOp.load (some 5) (Arg.t 3)), guard := none }, { dst := none, op := Sum.inl (AOp.store 5 (Arg.t 6) (Arg.t 35)), guard := none },
    { dst := some 7, op := Sum.inl (AOp.mv (Arg.c (AVal.int IntKind.i64 (8)))), guard := none }]) ACode.ret) ACode.skip)) (.seq (.region none [{ dst := some 36, op := Sum.inl (AOp.bslice false 2 0 [AVal.int IntKind.i64 (0), AVal.str []] []), guard := none },
    { dst := some 37, op := Sum.inl (AOp.faddr 1 (Arg.t 3)), guard := none }, { dst := some 38, op := Sum.inl (AOp.load none (Arg.t 37)), guard := none }, { dst := some 39, op := Sum.inl (AOp.append 2 24 (Arg.t 36) (Arg.t 38)), guard := none },
    { dst := some 9, op := Sum.inl (AOp.mv (Arg.t 39)), guard := none }]) (.seq (.region none [{ dst := some 40, op := Sum.inl (AOp.mv (Arg.t 9)), guard := none }, { dst := some 41, op := Sum.inl (AOp.mv (Arg.t 1)), guard := none },
    { dst := some 42, op := Sum.inl (AOp.mv (Arg.t 2)), guard := none }, { dst := some 43, op := Sum.inl (AOp.convBS (Arg.t 42)), guard := none }, { dst := some 44, op := Sum.inl (AOp.build [AVal.int IntKind.i64 (0), AVal.str []] [(0, 1, Arg.t 41), (1, 1, Arg.t 43)]), guard := none },
    { dst := some 45, op := Sum.inl (AOp.bslice false 2 1 [AVal.int IntKind.i64 (0), AVal.str []] [(0, 2, Arg.t 44)]), guard := none }, { dst := some 46, op := Sum.inl (AOp.append 2 24 (Arg.t 40) (Arg.t 45)), guard := none },
    { dst := some 9, op := Sum.inl (AOp.mv (Arg.t 46)), guard := none }]) (.seq (.region none [{ dst := some 47, op := Sum.inl (AOp.mv (Arg.t 9)), guard := none }, { dst := some 48, op := Sum.inl (AOp.faddr 1 (Arg.t 3)), guard := none },
    { dst := none, op := Sum.inl (AOp.store 1 (Arg.t 48) (Arg.t 47)), guard := none }]) (.seq (.region none [{ dst := some 49, op := Sum.inl (AOp.load (some 5) (Arg.t 3)), guard := none },
    { dst := none, op := Sum.inl (AOp.store 5 (Arg.t 6) (Arg.t 49)), guard := none }, { dst := some 7, op := Sum.inl (AOp.mv (Arg.c (AVal.int IntKind.i64 (0)))), guard := none }])
    ACode.ret))))))))), false⟩

def r04_lay : AFun :=
  ⟨3, [Sum.inl 6], (.seq (.region none [{ dst := some 6, op := Sum.inl (AOp.mv (Arg.c (AVal.str []))), guard := none }]) (.seq (.region (some []) [{ dst := some 7, op := Sum.inl (AOp.mv (Arg.t 1)), guard := none },
    { dst := some 8, op := Sum.inl (AOp.mv (Arg.t 2)), guard := none }, { dst := some 9, op := Sum.inl (AOp.slcStr (Arg.t 7) none (some (Arg.t 8))), guard := none }, { dst := some 10, op := Sum.inl (AOp.mv (Arg.t 0)), guard := none },
    { dst := some 11, op := Sum.inl (AOp.mv (Arg.t 2)), guard := none }, { dst := some 12, op := Sum.inl (AOp.slcStr (Arg.t 10) (some (Arg.t 11)) none), guard := none }, { dst := some 13, op := Sum.inl (AOp.bin BinOp.add (Arg.t 9) (Arg.t 12)), guard := none },
    { dst := some 6, op := Sum.inl (AOp.mv (Arg.t 13)), guard := none }]) ACode.ret)), false⟩

def r04_Flush_l0 : ACode :=
  .seq (.seq (.region none [{ dst := some 22, op := Sum.inl (AOp.mv (Arg.t 6)), guard := none }, { dst := some 23, op := Sum.inl (AOp.faddr 1 (Arg.t 1)), guard := none }, { dst := some 24, op := Sum.inl (AOp.load none (Arg.t 23)), guard := none },
    { dst := some 25, op := Sum.inl (AOp.len LenT.sl (Arg.t 24)), guard := none }, { dst := some 26, op := Sum.inl (AOp.bin BinOp.lss (Arg.t 22) (Arg.t 25)), guard := none }]) (.cond
    (Arg.t 26) ACode.skip (.exit 0))) (.seq (.block 1 (.region (some []) [{ dst := some 29, op := Sum.inl (AOp.mv (Arg.t 5)), guard := none }, { dst := some 30, op := Sum.inl (AOp.faddr 1 (Arg.t 1)), guard := none },
    { dst := some 31, op := Sum.inl (AOp.load none (Arg.t 30)), guard := none }, { dst := some 32, op := Sum.inl (AOp.mv (Arg.t 6)), guard := none }, { dst := some 33, op := Sum.inl (AOp.iaddrS 2 (Arg.t 31) (Arg.t 32)), guard := none },
    { dst := some 34, op := Sum.inl (AOp.faddr 0 (Arg.t 33)), guard := none }, { dst := some 35, op := Sum.inl (AOp.load none (Arg.t 34)), guard := none }, { dst := some 36, op := Sum.inl (AOp.faddr 1 (Arg.t 1)), guard := none },
    { dst := some 37, op := Sum.inl (AOp.load none (Arg.t 36)), guard := none }, { dst := some 38, op := Sum.inl (AOp.mv (Arg.t 6)), guard := none }, { dst := some 39, op := Sum.inl (AOp.iaddrS 2 (Arg.t 37) (Arg.t 38)), guard := none },
    { dst := some 40, op := Sum.inl (AOp.faddr 1 (Arg.t 39)), guard := none }, { dst := some 41, op := Sum.inl (AOp.load none (Arg.t 40)), guard := none }, { dst := some 42, op := Sum.inl (AOp.iaddrS 1 (Arg.t 29) (Arg.t 35)), guard := none },
    { dst := none, op := Sum.inl (AOp.store 1 (Arg.t 42) (Arg.t 41)), guard := none }])) (.region none [{ dst := some 27, op := Sum.inl (AOp.mv (Arg.t 6)), guard := none }, { dst := some 28, op := Sum.inl (AOp.bin BinOp.add (Arg.t 27) (Arg.c (AVal.int IntKind.i64 (1)))), guard := none },
    { dst := some 6, op := Sum.inl (AOp.mv (Arg.t 28)), guard := none }]))
def r04_Flush_s1 : ACode :=
  .block 0 (.loop r04_Flush_l0)
def r04_Flush_t2 : ACode :=
  .seq (.seq (.region none [{ dst := some 6, op := Sum.inl (AOp.mv (Arg.c (AVal.int IntKind.i64 (0)))), guard := none }]) r04_Flush_s1) (.seq (.region none [{ dst := some 43, op := Sum.inl (AOp.mv (Arg.t 5)), guard := none },
    { dst := some 44, op := Sum.inl (AOp.faddr 0 (Arg.t 1)), guard := none }, { dst := none, op := Sum.inl (AOp.store 1 (Arg.t 44) (Arg.t 43)), guard := none }]) (.seq (.region none [{ dst := some 45, op := Sum.inl (AOp.faddr 1 (Arg.t 1)), guard := none },
    { dst := none, op := Sum.inl (AOp.store 1 (Arg.t 45) (Arg.c AVal.nils)), guard := none }]) (.seq (.region none [{ dst := some 46, op := Sum.inl (AOp.load (some 5) (Arg.t 1)), guard := none },
    { dst := none, op := Sum.inl (AOp.store 5 (Arg.t 2) (Arg.t 46)), guard := none }, { dst := some 3, op := Sum.inl (AOp.mv (Arg.c (AVal.int IntKind.i64 (0)))), guard := none }])
    ACode.ret)))
def r04_Flush : AFun :=
  ⟨1, [Sum.inr (2, some 5), Sum.inl 3], (.seq (.region none [{ dst := some 1, op := Sum.inl (AOp.box (Arg.t 0)), guard := none }, { dst := some 2, op := Sum.inl (AOp.alloc [AVal.nils, AVal.nils, AVal.bool false, AVal.int IntKind.i64 (0), AVal.bool false]), guard := none },
    { dst := some 3, op := Sum.inl (AOp.mv (Arg.c (AVal.int IntKind.i64 (0)))), guard := none }]) (.seq (.seq (.region none [{ dst := some 7, op := Sum.inl (AOp.faddr 4 (Arg.t 1)), guard := none },
    { dst := some 8, op := Sum.inl (AOp.load none (Arg.t 7)), guard := none }]) (.cond (Arg.t 8) (.seq (.region none [{ dst := some 9, op := Sum.inl (AOp.load (some 5) (Arg.t 1)), guard := none },
    { dst := none, op := Sum.inl (AOp.store 5 (Arg.t 2) (Arg.t 9)), guard := none }, { dst := some 3, op := Sum.inl (AOp.mv (Arg.c (AVal.int IntKind.i64 (8)))), guard := none }])
    ACode.ret) ACode.skip)) (.seq (.region none [{ dst := some 11, op := Sum.inl (AOp.load (some 5) (Arg.t 1)), guard := none }, { dst := some 12, op := Sum.inr (ACallee.k 0 [Arg.t 11]), guard := none },
    { dst := some 10, op := Sum.inl (AOp.mv (Arg.t 12)), guard := none }, { dst := some 13, op := Sum.inl (AOp.ext 0 (Arg.t 10)), guard := none }, { dst := some 14, op := Sum.inl (AOp.ext 1 (Arg.t 10)), guard := none },
    { dst := none, op := Sum.inl (AOp.store 5 (Arg.t 1) (Arg.t 13)), guard := none }, { dst := some 4, op := Sum.inl (AOp.mv (Arg.t 14)), guard := none }]) (.seq (.seq (.region none [{ dst := some 15, op := Sum.inl (AOp.mv (Arg.t 4)), guard := none },
    { dst := some 16, op := Sum.inl (AOp.un UnOp.not (Arg.t 15)), guard := none }]) (.cond (Arg.t 16) (.seq (.region none [{ dst := some 17, op := Sum.inl (AOp.load (some 5) (Arg.t 1)), guard := none },
    { dst := none, op := Sum.inl (AOp.store 5 (Arg.t 2) (Arg.t 17)), guard := none }, { dst := some 3, op := Sum.inl (AOp.mv (Arg.c (AVal.int IntKind.i64 (8)))), guard := none }])
    ACode.ret) ACode.skip)) (.seq (.region none [{ dst := some 18, op := Sum.inl (AOp.bslice false 1 0 [AVal.str []] []), guard := none }, { dst := some 19, op := Sum.inl (AOp.faddr 0 (Arg.t 1)), guard := none },
    { dst := some 20, op := Sum.inl (AOp.load none (Arg.t 19)), guard := none }, { dst := some 21, op := Sum.inl (AOp.append 1 16 (Arg.t 18) (Arg.t 20)), guard := none }, { dst := some 5, op := Sum.inl (AOp.mv (Arg.t 21)), guard := none }])
    r04_Flush_t2))))), false⟩

def r04_Crash_l0 : ACode :=
  .seq (.seq (.region none [{ dst := some 13, op := Sum.inl (AOp.mv (Arg.t 6)), guard := none }, { dst := some 14, op := Sum.inl (AOp.faddr 1 (Arg.t 2)), guard := none }, { dst := some 15, op := Sum.inl (AOp.load none (Arg.t 14)), guard := none },
    { dst := some 16, op := Sum.inl (AOp.len LenT.sl (Arg.t 15)), guard := none }, { dst := some 17, op := Sum.inl (AOp.bin BinOp.lss (Arg.t 13) (Arg.t 16)), guard := none }, { dst := some 18, op := Sum.inl (AOp.mv (Arg.t 17)), guard := none },
    { dst := some 19, op := Sum.inl (AOp.mv (Arg.t 6)), guard := some (18, true) }, { dst := some 20, op := Sum.inl (AOp.mv (Arg.t 1)), guard := some (18, true) }, { dst := some 21, op := Sum.inl (AOp.len LenT.sl (Arg.t 20)), guard := some (18, true) },
    { dst := some 22, op := Sum.inl (AOp.bin BinOp.lss (Arg.t 19) (Arg.t 21)), guard := some (18, true) }, { dst := some 23, op := Sum.inl (AOp.pick (Arg.t 18) (Arg.t 22) (Arg.c (AVal.bool false))), guard := none }])
    (.cond (Arg.t 23) ACode.skip (.exit 0))) (.seq (.block 1 (.seq (.region none [{ dst := some 26, op := Sum.inl (AOp.mv (Arg.t 1)), guard := none }, { dst := some 27, op := Sum.inl (AOp.mv (Arg.t 6)), guard := none },
    { dst := some 28, op := Sum.inl (AOp.iaddrS 1 (Arg.t 26) (Arg.t 27)), guard := none }, { dst := some 29, op := Sum.inl (AOp.load none (Arg.t 28)), guard := none }, { dst := some 30, op := Sum.inl (AOp.mnmx true (Arg.t 29) (Arg.c (AVal.int IntKind.i64 (0)))), guard := none },
    { dst := some 31, op := Sum.inl (AOp.mnmx false (Arg.t 30) (Arg.c (AVal.int IntKind.i64 (256)))), guard := none }, { dst := some 7, op := Sum.inl (AOp.mv (Arg.t 31)), guard := none }])
    (.seq (.region none [{ dst := some 32, op := Sum.inl (AOp.faddr 1 (Arg.t 2)), guard := none }, { dst := some 33, op := Sum.inl (AOp.load none (Arg.t 32)), guard := none }, { dst := some 34, op := Sum.inl (AOp.mv (Arg.t 6)), guard := none },
    { dst := some 35, op := Sum.inl (AOp.iaddrS 2 (Arg.t 33) (Arg.t 34)), guard := none }, { dst := some 36, op := Sum.inl (AOp.faddr 0 (Arg.t 35)), guard := none }, { dst := some 37, op := Sum.inl (AOp.load none (Arg.t 36)), guard := none },
    { dst := some 8, op := Sum.inl (AOp.mv (Arg.t 37)), guard := none }]) (.region (some []) [{ dst := some 38, op := Sum.inl (AOp.mv (Arg.t 5)), guard := none }, { dst := some 39, op := Sum.inl (AOp.mv (Arg.t 8)), guard := none },
    { dst := some 40, op := Sum.inl (AOp.mv (Arg.t 5)), guard := none }, { dst := some 41, op := Sum.inl (AOp.mv (Arg.t 8)), guard := none }, { dst := some 42, op := Sum.inl (AOp.iaddrS 1 (Arg.t 40) (Arg.t 41)), guard := none },
    { dst := some 43, op := Sum.inl (AOp.load none (Arg.t 42)), guard := none }, { dst := some 44, op := Sum.inl (AOp.faddr 1 (Arg.t 2)), guard := none }, { dst := some 45, op := Sum.inl (AOp.load none (Arg.t 44)), guard := none },
    { dst := some 46, op := Sum.inl (AOp.mv (Arg.t 6)), guard := none }, { dst := some 47, op := Sum.inl (AOp.iaddrS 2 (Arg.t 45) (Arg.t 46)), guard := none }, { dst := some 48, op := Sum.inl (AOp.faddr 1 (Arg.t 47)), guard := none },
    { dst := some 49, op := Sum.inl (AOp.load none (Arg.t 48)), guard := none }, { dst := some 50, op := Sum.inl (AOp.mv (Arg.t 7)), guard := none }, { dst := some 51, op := Sum.inr (ACallee.k 0 [Arg.t 43, Arg.t 49, Arg.t 50]), guard := none },
    { dst := some 52, op := Sum.inl (AOp.iaddrS 1 (Arg.t 38) (Arg.t 39)), guard := none }, { dst := none, op := Sum.inl (AOp.store 1 (Arg.t 52) (Arg.t 51)), guard := none }]))))
    (.region none [{ dst := some 24, op := Sum.inl (AOp.mv (Arg.t 6)), guard := none }, { dst := some 25, op := Sum.inl (AOp.bin BinOp.add (Arg.t 24) (Arg.c (AVal.int IntKind.i64 (1)))), guard := none },
    { dst := some 6, op := Sum.inl (AOp.mv (Arg.t 25)), guard := none }]))
def r04_Crash_s1 : ACode :=
  .block 0 (.loop r04_Crash_l0)
def r04_Crash_t2 : ACode :=
  .seq (.seq (.region none [{ dst := some 6, op := Sum.inl (AOp.mv (Arg.c (AVal.int IntKind.i64 (0)))), guard := none }]) r04_Crash_s1) (.seq (.region none [{ dst := some 53, op := Sum.inl (AOp.mv (Arg.t 5)), guard := none },
    { dst := some 54, op := Sum.inl (AOp.build [AVal.nils, AVal.nils, AVal.bool false, AVal.int IntKind.i64 (0), AVal.bool false] [(0, 1, Arg.t 53)]), guard := none }, { dst := none, op := Sum.inl (AOp.store 5 (Arg.t 4) (Arg.t 54)), guard := none }])
    ACode.ret)
def r04_Crash : AFun :=
  ⟨2, [Sum.inr (4, some 5)], (.seq (.region none [{ dst := some 2, op := Sum.inl (AOp.box (Arg.t 0)), guard := none }, { dst := some 4, op := Sum.inl (AOp.alloc [AVal.nils, AVal.nils, AVal.bool false, AVal.int IntKind.i64 (0), AVal.bool false]), guard := none }])
    (.seq (.region none [{ dst := some 9, op := Sum.inl (AOp.bslice false 1 0 [AVal.str []] []), guard := none }, { dst := some 10, op := Sum.inl (AOp.faddr 0 (Arg.t 2)), guard := none },
    { dst := some 11, op := Sum.inl (AOp.load none (Arg.t 10)), guard := none }, { dst := some 12, op := Sum.inl (AOp.append 1 16 (Arg.t 9) (Arg.t 11)), guard := none }, { dst := some 5, op := Sum.inl (AOp.mv (Arg.t 12)), guard := none }])
    r04_Crash_t2)), false⟩

def r04_Rot_l0 : ACode :=
  .seq (.seq (.region none [{ dst := some 32, op := Sum.inl (AOp.mv (Arg.t 9)), guard := none }, { dst := some 33, op := Sum.inl (AOp.mv (Arg.t 2)), guard := none }, { dst := some 34, op := Sum.inl (AOp.len LenT.sl (Arg.t 33)), guard := none },
    { dst := some 35, op := Sum.inl (AOp.bin BinOp.lss (Arg.t 32) (Arg.t 34)), guard := none }]) (.cond (Arg.t 35) ACode.skip (.exit 0))) (.seq (.block 1 (.region (some []) [{ dst := some 38, op := Sum.inl (AOp.mv (Arg.t 8)), guard := none },
    { dst := some 39, op := Sum.inl (AOp.mv (Arg.t 9)), guard := none }, { dst := some 40, op := Sum.inl (AOp.mv (Arg.t 8)), guard := none }, { dst := some 41, op := Sum.inl (AOp.mv (Arg.t 9)), guard := none },
    { dst := some 42, op := Sum.inl (AOp.iaddrS 1 (Arg.t 40) (Arg.t 41)), guard := none }, { dst := some 43, op := Sum.inl (AOp.load none (Arg.t 42)), guard := none }, { dst := some 44, op := Sum.inl (AOp.mv (Arg.t 2)), guard := none },
    { dst := some 45, op := Sum.inl (AOp.mv (Arg.t 9)), guard := none }, { dst := some 46, op := Sum.inl (AOp.iaddrS 1 (Arg.t 44) (Arg.t 45)), guard := none }, { dst := some 47, op := Sum.inl (AOp.load none (Arg.t 46)), guard := none },
    { dst := some 48, op := Sum.inl (AOp.bin BinOp.xor (Arg.t 43) (Arg.t 47)), guard := none }, { dst := some 49, op := Sum.inl (AOp.iaddrS 1 (Arg.t 38) (Arg.t 39)), guard := none }, { dst := none, op := Sum.inl (AOp.store 1 (Arg.t 49) (Arg.t 48)), guard := none }]))
    (.region none [{ dst := some 36, op := Sum.inl (AOp.mv (Arg.t 9)), guard := none }, { dst := some 37, op := Sum.inl (AOp.bin BinOp.add (Arg.t 36) (Arg.c (AVal.int IntKind.i64 (1)))), guard := none },
    { dst := some 9, op := Sum.inl (AOp.mv (Arg.t 37)), guard := none }]))
def r04_Rot_s1 : ACode :=
  .block 0 (.loop r04_Rot_l0)
def r04_Rot_t2 : ACode :=
  .seq (.seq (.region none [{ dst := some 9, op := Sum.inl (AOp.mv (Arg.c (AVal.int IntKind.i64 (0)))), guard := none }]) r04_Rot_s1) (.seq (.region none [{ dst := some 50, op := Sum.inl (AOp.bslice false 1 0 [AVal.str []] []), guard := none },
    { dst := some 51, op := Sum.inl (AOp.faddr 0 (Arg.t 3)), guard := none }, { dst := some 52, op := Sum.inl (AOp.load none (Arg.t 51)), guard := none }, { dst := some 53, op := Sum.inl (AOp.append 1 16 (Arg.t 50) (Arg.t 52)), guard := none },
    { dst := some 10, op := Sum.inl (AOp.mv (Arg.t 53)), guard := none }]) (.seq (.region none [{ dst := some 54, op := Sum.inl (AOp.mv (Arg.t 10)), guard := none }, { dst := some 55, op := Sum.inl (AOp.mv (Arg.t 1)), guard := none },
    { dst := some 56, op := Sum.inl (AOp.mv (Arg.t 8)), guard := none }, { dst := some 57, op := Sum.inl (AOp.convBS (Arg.t 56)), guard := none }, { dst := some 58, op := Sum.inl (AOp.iaddrS 1 (Arg.t 54) (Arg.t 55)), guard := none },
    { dst := none, op := Sum.inl (AOp.store 1 (Arg.t 58) (Arg.t 57)), guard := none }]) (.seq (.region none [{ dst := some 59, op := Sum.inl (AOp.mv (Arg.t 10)), guard := none }, { dst := some 60, op := Sum.inl (AOp.faddr 0 (Arg.t 3)), guard := none },
    { dst := none, op := Sum.inl (AOp.store 1 (Arg.t 60) (Arg.t 59)), guard := none }]) (.seq (.region none [{ dst := some 61, op := Sum.inl (AOp.load (some 5) (Arg.t 3)), guard := none },
    { dst := none, op := Sum.inl (AOp.store 5 (Arg.t 6) (Arg.t 61)), guard := none }, { dst := some 7, op := Sum.inl (AOp.mv (Arg.c (AVal.int IntKind.i64 (0)))), guard := none }])
    ACode.ret))))
def r04_Rot : AFun :=
  ⟨3, [Sum.inr (6, some 5), Sum.inl 7], (.seq (.region none [{ dst := some 3, op := Sum.inl (AOp.box (Arg.t 0)), guard := none }, { dst := some 6, op := Sum.inl (AOp.alloc [AVal.nils, AVal.nils, AVal.bool false, AVal.int IntKind.i64 (0), AVal.bool false]), guard := none },
    { dst := some 7, op := Sum.inl (AOp.mv (Arg.c (AVal.int IntKind.i64 (0)))), guard := none }]) (.seq (.seq (.region none [{ dst := some 11, op := Sum.inl (AOp.mv (Arg.t 1)), guard := none },
    { dst := some 12, op := Sum.inl (AOp.bin BinOp.lss (Arg.t 11) (Arg.c (AVal.int IntKind.i64 (0)))), guard := none }, { dst := some 13, op := Sum.inl (AOp.mv (Arg.t 12)), guard := none },
    { dst := some 14, op := Sum.inl (AOp.mv (Arg.t 1)), guard := some (13, false) }, { dst := some 15, op := Sum.inl (AOp.faddr 0 (Arg.t 3)), guard := some (13, false) }, { dst := some 16, op := Sum.inl (AOp.load none (Arg.t 15)), guard := some (13, false) },
    { dst := some 17, op := Sum.inl (AOp.len LenT.sl (Arg.t 16)), guard := some (13, false) }, { dst := some 18, op := Sum.inl (AOp.bin BinOp.geq (Arg.t 14) (Arg.t 17)), guard := some (13, false) },
    { dst := some 19, op := Sum.inl (AOp.pick (Arg.t 13) (Arg.c (AVal.bool true)) (Arg.t 18)), guard := none }, { dst := some 20, op := Sum.inl (AOp.mv (Arg.t 19)), guard := none }, { dst := some 21, op := Sum.inl (AOp.mv (Arg.t 2)), guard := some (20, false) },
    { dst := some 22, op := Sum.inl (AOp.len LenT.sl (Arg.t 21)), guard := some (20, false) }, { dst := some 23, op := Sum.inl (AOp.bin BinOp.gtr (Arg.t 22) (Arg.c (AVal.int IntKind.i64 (256)))), guard := some (20, false) },
    { dst := some 24, op := Sum.inl (AOp.pick (Arg.t 20) (Arg.c (AVal.bool true)) (Arg.t 23)), guard := none }]) (.cond (Arg.t 24) (.seq (.region none [{ dst := some 25, op := Sum.inl (AOp.load (some 5) (Arg.t 3)), guard := none },
    { dst := none, op := Sum.inl (AOp.store 5 (Arg.t 6) (Arg.t 25)), guard := none }, { dst := some 7, op := Sum.inl (AOp.mv (Arg.c (AVal.int IntKind.i64 (1)))), guard := none }])
    ACode.ret) ACode.skip)) (.seq (.region none [{ dst := some 26, op := Sum.inl (AOp.faddr 0 (Arg.t 3)), guard := none }, { dst := some 27, op := Sum.inl (AOp.load none (Arg.t 26)), guard := none },
    { dst := some 28, op := Sum.inl (AOp.mv (Arg.t 1)), guard := none }, { dst := some 29, op := Sum.inl (AOp.iaddrS 1 (Arg.t 27) (Arg.t 28)), guard := none }, { dst := some 30, op := Sum.inl (AOp.load none (Arg.t 29)), guard := none },
    { dst := some 31, op := Sum.inl (AOp.convSB (Arg.t 30)), guard := none }, { dst := some 8, op := Sum.inl (AOp.mv (Arg.t 31)), guard := none }]) r04_Rot_t2))), false⟩

def r04_Fuse : AFun :=
  ⟨2, [Sum.inr (4, some 5)], (.seq (.region none [{ dst := some 2, op := Sum.inl (AOp.box (Arg.t 0)), guard := none }, { dst := some 4, op := Sum.inl (AOp.alloc [AVal.nils, AVal.nils, AVal.bool false, AVal.int IntKind.i64 (0), AVal.bool false]), guard := none }])
    (.seq (.region none [{ dst := some 5, op := Sum.inl (AOp.faddr 2 (Arg.t 2)), guard := none }, { dst := none, op := Sum.inl (AOp.store 1 (Arg.t 5) (Arg.c (AVal.bool true))), guard := none }])
    (.seq (.region none [{ dst := some 6, op := Sum.inl (AOp.mv (Arg.t 1)), guard := none }, { dst := some 7, op := Sum.inl (AOp.mnmx true (Arg.t 6) (Arg.c (AVal.int IntKind.i64 (0)))), guard := none },
    { dst := some 8, op := Sum.inl (AOp.faddr 3 (Arg.t 2)), guard := none }, { dst := none, op := Sum.inl (AOp.store 1 (Arg.t 8) (Arg.t 7)), guard := none }]) (.seq (.region none [{ dst := some 9, op := Sum.inl (AOp.load (some 5) (Arg.t 2)), guard := none },
    { dst := none, op := Sum.inl (AOp.store 5 (Arg.t 4) (Arg.t 9)), guard := none }]) ACode.ret)))), false⟩

def r04_Dump_l0 : ACode :=
  .seq (.seq (.region none [{ dst := some 6, op := Sum.inl (AOp.mv (Arg.t 4)), guard := none }, { dst := some 7, op := Sum.inl (AOp.faddr 0 (Arg.t 1)), guard := none }, { dst := some 8, op := Sum.inl (AOp.load none (Arg.t 7)), guard := none },
    { dst := some 9, op := Sum.inl (AOp.len LenT.sl (Arg.t 8)), guard := none }, { dst := some 10, op := Sum.inl (AOp.bin BinOp.lss (Arg.t 6) (Arg.t 9)), guard := none }]) (.cond
    (Arg.t 10) ACode.skip (.exit 0))) (.seq (.block 1 (.region none [{ dst := some 13, op := Sum.inl (AOp.mv (Arg.t 3)), guard := none }, { dst := some 14, op := Sum.inl (AOp.faddr 0 (Arg.t 1)), guard := none },
    { dst := some 15, op := Sum.inl (AOp.load none (Arg.t 14)), guard := none }, { dst := some 16, op := Sum.inl (AOp.mv (Arg.t 4)), guard := none }, { dst := some 17, op := Sum.inl (AOp.iaddrS 1 (Arg.t 15) (Arg.t 16)), guard := none },
    { dst := some 18, op := Sum.inl (AOp.load none (Arg.t 17)), guard := none }, { dst := some 19, op := Sum.inl (AOp.append 1 1 (Arg.t 13) (Arg.t 18)), guard := none }, { dst := some 3, op := Sum.inl (AOp.mv (Arg.t 19)), guard := none }]))
    (.region none [{ dst := some 11, op := Sum.inl (AOp.mv (Arg.t 4)), guard := none }, { dst := some 12, op := Sum.inl (AOp.bin BinOp.add (Arg.t 11) (Arg.c (AVal.int IntKind.i64 (1)))), guard := none },
    { dst := some 4, op := Sum.inl (AOp.mv (Arg.t 12)), guard := none }]))
def r04_Dump_s1 : ACode :=
  .block 0 (.loop r04_Dump_l0)
def r04_Dump_t2 : ACode :=
  .seq (.seq (.region none [{ dst := some 4, op := Sum.inl (AOp.mv (Arg.c (AVal.int IntKind.i64 (0)))), guard := none }]) r04_Dump_s1) (.seq (.region none [{ dst := some 20, op := Sum.inl (AOp.mv (Arg.t 3)), guard := none },
    { dst := some 2, op := Sum.inl (AOp.mv (Arg.t 20)), guard := none }]) ACode.ret)
def r04_Dump : AFun :=
  ⟨1, [Sum.inl 2], (.seq (.region none [{ dst := some 1, op := Sum.inl (AOp.box (Arg.t 0)), guard := none }, { dst := some 2, op := Sum.inl (AOp.mv (Arg.c AVal.nils)), guard := none }]) (.seq
    (.region none [{ dst := some 5, op := Sum.inl (AOp.bslice false 1 0 [AVal.int IntKind.u8 (0)] []), guard := none }, { dst := some 3, op := Sum.inl (AOp.mv (Arg.t 5)), guard := none }])
    r04_Dump_t2)), false⟩

def disk_do_l0 : ACode :=
  .seq (.seq (.region none [{ dst := some 52, op := Sum.inl (AOp.mv (Arg.t 13)), guard := none }, { dst := some 53, op := Sum.inl (AOp.mv (Arg.t 12)), guard := none }, { dst := some 54, op := Sum.inl (AOp.len LenT.sl (Arg.t 53)), guard := none },
    { dst := some 55, op := Sum.inl (AOp.bin BinOp.lss (Arg.t 52) (Arg.t 54)), guard := none }]) (.cond (Arg.t 55) ACode.skip (.exit 1))) (.seq (.block 2 (.region none [{ dst := some 58, op := Sum.inl (AOp.mv (Arg.t 12)), guard := none },
    { dst := some 59, op := Sum.inl (AOp.mv (Arg.t 13)), guard := none }, { dst := some 60, op := Sum.inl (AOp.iaddrS 1 (Arg.t 58) (Arg.t 59)), guard := none }, { dst := none, op := Sum.inl (AOp.store 1 (Arg.t 60) (Arg.c (AVal.int IntKind.u8 (7)))), guard := none }]))
    (.region none [{ dst := some 56, op := Sum.inl (AOp.mv (Arg.t 13)), guard := none }, { dst := some 57, op := Sum.inl (AOp.bin BinOp.add (Arg.t 56) (Arg.c (AVal.int IntKind.i64 (1)))), guard := none },
    { dst := some 13, op := Sum.inl (AOp.mv (Arg.t 57)), guard := none }]))
def disk_do_s1 : ACode :=
  .block 1 (.loop disk_do_l0)
def disk_do_c2 : ACode :=
  .seq (.region none [{ dst := some 36, op := Sum.inl (AOp.load (some 5) (Arg.t 5)), guard := none }, { dst := some 37, op := Sum.inr (ACallee.k 0 [Arg.t 36]), guard := none }, { dst := some 12, op := Sum.inl (AOp.mv (Arg.t 37)), guard := none }])
    (.seq (.region none [{ dst := some 38, op := Sum.inl (AOp.mv (Arg.t 0)), guard := none }, { dst := some 39, op := Sum.inl (AOp.faddr 1 (Arg.t 5)), guard := none }, { dst := some 40, op := Sum.inl (AOp.load none (Arg.t 39)), guard := none },
    { dst := some 41, op := Sum.inl (AOp.mv (Arg.t 12)), guard := none }, { dst := some 42, op := Sum.inr (ACallee.k 1 [Arg.t 38, Arg.t 40, Arg.t 41]), guard := none }, { dst := some 8, op := Sum.inl (AOp.mv (Arg.t 42)), guard := none }])
    (.seq (.region (some [(0, [4]), (2, [4])]) [{ dst := some 44, op := Sum.inl (AOp.load (some 5) (Arg.t 4)), guard := none }, { dst := some 45, op := Sum.inl (AOp.faddr 1 (Arg.t 5)), guard := none },
    { dst := some 46, op := Sum.inl (AOp.load none (Arg.t 45)), guard := none }, { dst := some 47, op := Sum.inl (AOp.load (some 5) (Arg.t 5)), guard := none }, { dst := some 48, op := Sum.inr (ACallee.k 0 [Arg.t 47]), guard := none },
    { dst := some 49, op := Sum.inr (ACallee.k 2 [Arg.t 44, Arg.t 46, Arg.t 48]), guard := none }, { dst := some 43, op := Sum.inl (AOp.mv (Arg.t 49)), guard := none }, { dst := some 50, op := Sum.inl (AOp.ext 0 (Arg.t 43)), guard := none },
    { dst := some 51, op := Sum.inl (AOp.ext 1 (Arg.t 43)), guard := none }, { dst := none, op := Sum.inl (AOp.store 5 (Arg.t 4) (Arg.t 50)), guard := none }, { dst := some 9, op := Sum.inl (AOp.mv (Arg.t 51)), guard := none }])
    (.seq (.region none [{ dst := some 13, op := Sum.inl (AOp.mv (Arg.c (AVal.int IntKind.i64 (0)))), guard := none }]) disk_do_s1)))
def disk_do_b3 : ACode :=
  .block 0 (.seq (.region none [{ dst := some 35, op := Sum.inl (AOp.bin BinOp.eql (Arg.t 19) (Arg.c (AVal.int IntKind.i64 (1)))), guard := none }, { dst := some 34, op := Sum.inl (AOp.mv (Arg.t 35)), guard := none }])
    (.cond (Arg.t 34) disk_do_c2 (.seq (.region none [{ dst := some 62, op := Sum.inl (AOp.bin BinOp.eql (Arg.t 19) (Arg.c (AVal.int IntKind.i64 (2)))), guard := none }, { dst := some 61, op := Sum.inl (AOp.mv (Arg.t 62)), guard := none }])
    (.cond (Arg.t 61) (.seq (.region none [{ dst := some 63, op := Sum.inl (AOp.mv (Arg.t 0)), guard := none }, { dst := some 64, op := Sum.inr (ACallee.k 3 [Arg.t 63]), guard := none },
    { dst := some 8, op := Sum.inl (AOp.mv (Arg.t 64)), guard := none }]) (.region none [{ dst := some 66, op := Sum.inl (AOp.load (some 5) (Arg.t 4)), guard := none }, { dst := some 67, op := Sum.inr (ACallee.k 4 [Arg.t 66]), guard := none },
    { dst := some 65, op := Sum.inl (AOp.mv (Arg.t 67)), guard := none }, { dst := some 68, op := Sum.inl (AOp.ext 0 (Arg.t 65)), guard := none }, { dst := some 69, op := Sum.inl (AOp.ext 1 (Arg.t 65)), guard := none },
    { dst := none, op := Sum.inl (AOp.store 5 (Arg.t 4) (Arg.t 68)), guard := none }, { dst := some 9, op := Sum.inl (AOp.mv (Arg.t 69)), guard := none }])) (.seq (.region none [{ dst := some 71, op := Sum.inl (AOp.bin BinOp.eql (Arg.t 19) (Arg.c (AVal.int IntKind.i64 (3)))), guard := none },
    { dst := some 70, op := Sum.inl (AOp.mv (Arg.t 71)), guard := none }]) (.cond (Arg.t 70) (.seq (.region none [{ dst := some 72, op := Sum.inl (AOp.mv (Arg.t 0)), guard := none }, { dst := some 73, op := Sum.inl (AOp.faddr 4 (Arg.t 5)), guard := none },
    { dst := some 74, op := Sum.inl (AOp.load none (Arg.t 73)), guard := none }, { dst := some 75, op := Sum.inr (ACallee.k 5 [Arg.t 72, Arg.t 74]), guard := none }]) (.region none [{ dst := some 76, op := Sum.inl (AOp.load (some 5) (Arg.t 4)), guard := none },
    { dst := some 77, op := Sum.inl (AOp.faddr 4 (Arg.t 5)), guard := none }, { dst := some 78, op := Sum.inl (AOp.load none (Arg.t 77)), guard := none }, { dst := some 79, op := Sum.inr (ACallee.k 6 [Arg.t 76, Arg.t 78]), guard := none },
    { dst := none, op := Sum.inl (AOp.store 5 (Arg.t 4) (Arg.t 79)), guard := none }])) (.seq (.region none [{ dst := some 81, op := Sum.inl (AOp.bin BinOp.eql (Arg.t 19) (Arg.c (AVal.int IntKind.i64 (4)))), guard := none },
    { dst := some 80, op := Sum.inl (AOp.mv (Arg.t 81)), guard := none }]) (.cond (Arg.t 80) (.seq (.region none [{ dst := some 82, op := Sum.inl (AOp.mv (Arg.t 0)), guard := none }, { dst := some 83, op := Sum.inl (AOp.faddr 1 (Arg.t 5)), guard := none },
    { dst := some 84, op := Sum.inl (AOp.load none (Arg.t 83)), guard := none }, { dst := some 85, op := Sum.inl (AOp.faddr 2 (Arg.t 5)), guard := none }, { dst := some 86, op := Sum.inl (AOp.load none (Arg.t 85)), guard := none },
    { dst := some 87, op := Sum.inr (ACallee.k 7 [Arg.t 82, Arg.t 84, Arg.t 86]), guard := none }, { dst := some 8, op := Sum.inl (AOp.mv (Arg.t 87)), guard := none }]) (.region none
    [{ dst := some 89, op := Sum.inl (AOp.load (some 5) (Arg.t 4)), guard := none }, { dst := some 90, op := Sum.inl (AOp.faddr 1 (Arg.t 5)), guard := none }, { dst := some 91, op := Sum.inl (AOp.load none (Arg.t 90)), guard := none },
    { dst := some 92, op := Sum.inl (AOp.faddr 2 (Arg.t 5)), guard := none }, { dst := some 93, op := Sum.inl (AOp.load none (Arg.t 92)), guard := none }, { dst := some 94, op := Sum.inr (ACallee.k 8 [Arg.t 89, Arg.t 91, Arg.t 93]), guard := none },
    { dst := some 88, op := Sum.inl (AOp.mv (Arg.t 94)), guard := none }, { dst := some 95, op := Sum.inl (AOp.ext 0 (Arg.t 88)), guard := none }, { dst := some 96, op := Sum.inl (AOp.ext 1 (Arg.t 88)), guard := none },
    { dst := none, op := Sum.inl (AOp.store 5 (Arg.t 4) (Arg.t 95)), guard := none }, { dst := some 9, op := Sum.inl (AOp.mv (Arg.t 96)), guard := none }])) (.seq (.region none [{ dst := some 98, op := Sum.inl (AOp.bin BinOp.eql (Arg.t 19) (Arg.c (AVal.int IntKind.i64 (5)))), guard := none },
    { dst := some 97, op := Sum.inl (AOp.mv (Arg.t 98)), guard := none }]) (.cond (Arg.t 97) (.seq (.region none [{ dst := some 99, op := Sum.inl (AOp.mv (Arg.t 0)), guard := none }, { dst := some 100, op := Sum.inl (AOp.faddr 1 (Arg.t 5)), guard := none },
    { dst := some 101, op := Sum.inl (AOp.load none (Arg.t 100)), guard := none }, { dst := some 102, op := Sum.inr (ACallee.k 9 [Arg.t 99, Arg.t 101]), guard := none }]) (.region none
    [{ dst := some 103, op := Sum.inl (AOp.load (some 5) (Arg.t 4)), guard := none }, { dst := some 104, op := Sum.inl (AOp.faddr 1 (Arg.t 5)), guard := none }, { dst := some 105, op := Sum.inl (AOp.load none (Arg.t 104)), guard := none },
    { dst := some 106, op := Sum.inr (ACallee.k 10 [Arg.t 103, Arg.t 105]), guard := none }, { dst := none, op := Sum.inl (AOp.store 5 (Arg.t 4) (Arg.t 106)), guard := none }])) (.seq
    (.region none [{ dst := some 21, op := Sum.inl (AOp.mv (Arg.t 0)), guard := none }, { dst := some 22, op := Sum.inl (AOp.faddr 1 (Arg.t 5)), guard := none }, { dst := some 23, op := Sum.inl (AOp.load none (Arg.t 22)), guard := none },
    { dst := some 24, op := Sum.inr (ACallee.k 11 [Arg.t 21, Arg.t 23]), guard := none }, { dst := some 20, op := Sum.inl (AOp.mv (Arg.t 24)), guard := none }, { dst := some 25, op := Sum.inl (AOp.ext 0 (Arg.t 20)), guard := none },
    { dst := some 26, op := Sum.inl (AOp.ext 1 (Arg.t 20)), guard := none }, { dst := some 10, op := Sum.inl (AOp.mv (Arg.t 25)), guard := none }, { dst := some 8, op := Sum.inl (AOp.mv (Arg.t 26)), guard := none }])
    (.region none [{ dst := some 28, op := Sum.inl (AOp.load (some 5) (Arg.t 4)), guard := none }, { dst := some 29, op := Sum.inl (AOp.faddr 1 (Arg.t 5)), guard := none }, { dst := some 30, op := Sum.inl (AOp.load none (Arg.t 29)), guard := none },
    { dst := some 31, op := Sum.inr (ACallee.k 12 [Arg.t 28, Arg.t 30]), guard := none }, { dst := some 27, op := Sum.inl (AOp.mv (Arg.t 31)), guard := none }, { dst := some 32, op := Sum.inl (AOp.ext 0 (Arg.t 27)), guard := none },
    { dst := some 33, op := Sum.inl (AOp.ext 1 (Arg.t 27)), guard := none }, { dst := some 11, op := Sum.inl (AOp.mv (Arg.t 32)), guard := none }, { dst := some 9, op := Sum.inl (AOp.mv (Arg.t 33)), guard := none }]))))))))))))
def disk_do_l4 : ACode :=
  .seq (.seq (.region none [{ dst := some 125, op := Sum.inl (AOp.mv (Arg.t 15)), guard := none }, { dst := some 126, op := Sum.inl (AOp.mv (Arg.t 10)), guard := none }, { dst := some 127, op := Sum.inl (AOp.len LenT.sl (Arg.t 126)), guard := none },
    { dst := some 128, op := Sum.inl (AOp.bin BinOp.lss (Arg.t 125) (Arg.t 127)), guard := none }]) (.cond (Arg.t 128) ACode.skip (.exit 3))) (.seq (.block 4 (.region none [{ dst := some 131, op := Sum.inl (AOp.mv (Arg.t 10)), guard := none },
    { dst := some 132, op := Sum.inl (AOp.mv (Arg.t 15)), guard := none }, { dst := some 133, op := Sum.inl (AOp.iaddrS 1 (Arg.t 131) (Arg.t 132)), guard := none }, { dst := none, op := Sum.inl (AOp.store 1 (Arg.t 133) (Arg.c (AVal.int IntKind.u8 (3)))), guard := none }]))
    (.region none [{ dst := some 129, op := Sum.inl (AOp.mv (Arg.t 15)), guard := none }, { dst := some 130, op := Sum.inl (AOp.bin BinOp.add (Arg.t 129) (Arg.c (AVal.int IntKind.i64 (1)))), guard := none },
    { dst := some 15, op := Sum.inl (AOp.mv (Arg.t 130)), guard := none }]))
def disk_do_s5 : ACode :=
  .block 3 (.loop disk_do_l4)
def disk_do_t6 : ACode :=
  .seq (.seq (.region none [{ dst := some 15, op := Sum.inl (AOp.mv (Arg.c (AVal.int IntKind.i64 (0)))), guard := none }]) disk_do_s5) (.seq (.region none [{ dst := some 134, op := Sum.inl (AOp.load (some 5) (Arg.t 4)), guard := none },
    { dst := some 135, op := Sum.inl (AOp.mv (Arg.t 14)), guard := none }, { dst := none, op := Sum.inl (AOp.store 5 (Arg.t 6) (Arg.t 134)), guard := none }, { dst := some 7, op := Sum.inl (AOp.mv (Arg.t 135)), guard := none }])
    ACode.ret)
def disk_do_t7 : ACode :=
  .seq (.seq (.region none [{ dst := some 18, op := Sum.inl (AOp.faddr 0 (Arg.t 5)), guard := none }, { dst := some 19, op := Sum.inl (AOp.load none (Arg.t 18)), guard := none }])
    disk_do_b3) (.seq (.region (some [(14, [12])]) [{ dst := some 107, op := Sum.inl (AOp.mv (Arg.t 10)), guard := none }, { dst := some 108, op := Sum.inl (AOp.convBS (Arg.t 107)), guard := none },
    { dst := some 109, op := Sum.inl (AOp.mv (Arg.t 11)), guard := none }, { dst := some 110, op := Sum.inl (AOp.convBS (Arg.t 109)), guard := none }, { dst := some 111, op := Sum.inl (AOp.bin BinOp.eql (Arg.t 108) (Arg.t 110)), guard := none },
    { dst := some 112, op := Sum.inl (AOp.mv (Arg.t 111)), guard := none }, { dst := some 113, op := Sum.inl (AOp.mv (Arg.t 8)), guard := some (112, true) }, { dst := some 114, op := Sum.inl (AOp.mv (Arg.t 9)), guard := some (112, true) },
    { dst := some 115, op := Sum.inl (AOp.bin BinOp.eql (Arg.t 113) (Arg.t 114)), guard := some (112, true) }, { dst := some 116, op := Sum.inl (AOp.pick (Arg.t 112) (Arg.t 115) (Arg.c (AVal.bool false))), guard := none },
    { dst := some 117, op := Sum.inl (AOp.mv (Arg.t 116)), guard := none }, { dst := some 118, op := Sum.inl (AOp.mv (Arg.t 0)), guard := some (117, true) }, { dst := some 119, op := Sum.inr (ACallee.k 13 [Arg.t 118]), guard := some (117, true) },
    { dst := some 120, op := Sum.inl (AOp.faddr 1 (Arg.t 4)), guard := some (117, true) }, { dst := some 121, op := Sum.inl (AOp.load none (Arg.t 120)), guard := some (117, true) }, { dst := some 122, op := Sum.inl (AOp.len LenT.sl (Arg.t 121)), guard := some (117, true) },
    { dst := some 123, op := Sum.inl (AOp.bin BinOp.eql (Arg.t 119) (Arg.t 122)), guard := some (117, true) }, { dst := some 124, op := Sum.inl (AOp.pick (Arg.t 117) (Arg.t 123) (Arg.c (AVal.bool false))), guard := none },
    { dst := some 14, op := Sum.inl (AOp.mv (Arg.t 124)), guard := none }]) disk_do_t6)
def disk_do : AFun :=
  ⟨3, [Sum.inr (6, some 5), Sum.inl 7], (.seq (.region none [{ dst := some 4, op := Sum.inl (AOp.box (Arg.t 1)), guard := none }, { dst := some 5, op := Sum.inl (AOp.box (Arg.t 2)), guard := none }, { dst := some 6, op := Sum.inl (AOp.alloc [AVal.nils, AVal.nils, AVal.bool false, AVal.int IntKind.i64 (0), AVal.bool false]), guard := none },
    { dst := some 7, op := Sum.inl (AOp.mv (Arg.c (AVal.bool false))), guard := none }]) (.seq (.region none [{ dst := some 8, op := Sum.inl (AOp.mv (Arg.c (AVal.int IntKind.i64 (0)))), guard := none },
    { dst := some 9, op := Sum.inl (AOp.mv (Arg.c (AVal.int IntKind.i64 (0)))), guard := none }]) (.seq (.region none [{ dst := some 16, op := Sum.inl (AOp.bslice false 1 0 [AVal.int IntKind.u8 (0)] []), guard := none },
    { dst := some 17, op := Sum.inl (AOp.bslice false 1 0 [AVal.int IntKind.u8 (0)] []), guard := none }, { dst := some 10, op := Sum.inl (AOp.mv (Arg.t 16)), guard := none }, { dst := some 11, op := Sum.inl (AOp.mv (Arg.t 17)), guard := none }])
    disk_do_t7))), false⟩

def DiskPlays_l0 : ACode :=
  .seq (.seq (.region none [{ dst := some 35, op := Sum.inl (AOp.mv (Arg.t 9)), guard := none }, { dst := some 36, op := Sum.inl (AOp.mv (Arg.t 1)), guard := none }, { dst := some 37, op := Sum.inl (AOp.len LenT.sl (Arg.t 36)), guard := none },
    { dst := some 38, op := Sum.inl (AOp.bin BinOp.lss (Arg.t 35) (Arg.t 37)), guard := none }, { dst := some 39, op := Sum.inl (AOp.mv (Arg.t 38)), guard := none }, { dst := some 40, op := Sum.inl (AOp.mv (Arg.t 9)), guard := some (39, true) },
    { dst := some 41, op := Sum.inl (AOp.bin BinOp.lss (Arg.t 40) (Arg.c (AVal.int IntKind.i64 (40)))), guard := some (39, true) }, { dst := some 42, op := Sum.inl (AOp.pick (Arg.t 39) (Arg.t 41) (Arg.c (AVal.bool false))), guard := none }])
    (.cond (Arg.t 42) ACode.skip (.exit 0))) (.seq (.block 1 (.seq (.seq (.region none [{ dst := some 45, op := Sum.inl (AOp.mv (Arg.t 1)), guard := none }, { dst := some 46, op := Sum.inl (AOp.mv (Arg.t 9)), guard := none },
    { dst := some 47, op := Sum.inl (AOp.iaddrS 5 (Arg.t 45) (Arg.t 46)), guard := none }, { dst := some 48, op := Sum.inl (AOp.load (some 5) (Arg.t 47)), guard := none }, { dst := some 49, op := Sum.inr (ACallee.k 3 [Arg.t 48]), guard := none },
    { dst := some 50, op := Sum.inl (AOp.un UnOp.not (Arg.t 49)), guard := none }]) (.cond (Arg.t 50) (.exit 1) ACode.skip)) (.seq (.region (some [(1, [10]), (5, [10]), (10, [])]) [{ dst := some 52, op := Sum.inl (AOp.mv (Arg.t 5)), guard := none },
    { dst := some 53, op := Sum.inl (AOp.load (some 5) (Arg.t 7)), guard := none }, { dst := some 54, op := Sum.inl (AOp.mv (Arg.t 1)), guard := none }, { dst := some 55, op := Sum.inl (AOp.mv (Arg.t 9)), guard := none },
    { dst := some 56, op := Sum.inl (AOp.iaddrS 5 (Arg.t 54) (Arg.t 55)), guard := none }, { dst := some 57, op := Sum.inl (AOp.load (some 5) (Arg.t 56)), guard := none }, { dst := some 58, op := Sum.inr (ACallee.k 4 [Arg.t 52, Arg.t 53, Arg.t 57]), guard := none },
    { dst := some 51, op := Sum.inl (AOp.mv (Arg.t 58)), guard := none }, { dst := some 59, op := Sum.inl (AOp.ext 0 (Arg.t 51)), guard := none }, { dst := some 60, op := Sum.inl (AOp.ext 1 (Arg.t 51)), guard := none },
    { dst := some 10, op := Sum.inl (AOp.alloc [AVal.nils, AVal.nils, AVal.bool false, AVal.int IntKind.i64 (0), AVal.bool false]), guard := none }, { dst := none, op := Sum.inl (AOp.store 5 (Arg.t 10) (Arg.t 59)), guard := none },
    { dst := some 11, op := Sum.inl (AOp.mv (Arg.t 60)), guard := none }]) (.seq (.region none [{ dst := some 61, op := Sum.inl (AOp.load (some 5) (Arg.t 10)), guard := none }, { dst := none, op := Sum.inl (AOp.store 5 (Arg.t 7) (Arg.t 61)), guard := none }])
    (.seq (.region (some [(5, [7]), (6, [4]), (15, [13])]) [{ dst := some 62, op := Sum.inl (AOp.mv (Arg.t 11)), guard := none }, { dst := some 63, op := Sum.inl (AOp.un UnOp.not (Arg.t 62)), guard := none },
    { dst := some 64, op := Sum.inl (AOp.mv (Arg.t 63)), guard := none }, { dst := some 65, op := Sum.inl (AOp.mv (Arg.t 5)), guard := some (64, false) }, { dst := some 66, op := Sum.inr (ACallee.k 5 [Arg.t 65]), guard := some (64, false) },
    { dst := some 67, op := Sum.inl (AOp.convBS (Arg.t 66)), guard := some (64, false) }, { dst := some 68, op := Sum.inl (AOp.load (some 5) (Arg.t 7)), guard := some (64, false) }, { dst := some 69, op := Sum.inr (ACallee.k 6 [Arg.t 68]), guard := some (64, false) },
    { dst := some 70, op := Sum.inl (AOp.convBS (Arg.t 69)), guard := some (64, false) }, { dst := some 71, op := Sum.inl (AOp.bin BinOp.neq (Arg.t 67) (Arg.t 70)), guard := some (64, false) },
    { dst := some 72, op := Sum.inl (AOp.pick (Arg.t 64) (Arg.c (AVal.bool true)) (Arg.t 71)), guard := none }, { dst := some 73, op := Sum.inl (AOp.mv (Arg.t 72)), guard := none }, { dst := some 74, op := Sum.inl (AOp.mv (Arg.t 5)), guard := some (73, false) },
    { dst := some 75, op := Sum.inr (ACallee.k 7 [Arg.t 74]), guard := some (73, false) }, { dst := some 76, op := Sum.inl (AOp.faddr 0 (Arg.t 7)), guard := some (73, false) }, { dst := some 77, op := Sum.inl (AOp.load none (Arg.t 76)), guard := some (73, false) },
    { dst := some 78, op := Sum.inl (AOp.len LenT.sl (Arg.t 77)), guard := some (73, false) }, { dst := some 79, op := Sum.inl (AOp.bin BinOp.neq (Arg.t 75) (Arg.t 78)), guard := some (73, false) },
    { dst := some 80, op := Sum.inl (AOp.pick (Arg.t 73) (Arg.c (AVal.bool true)) (Arg.t 79)), guard := none }]) (.cond (Arg.t 80) (.seq (.region none [{ dst := some 4, op := Sum.inl (AOp.mv (Arg.c (AVal.bool false))), guard := none }])
    ACode.ret) ACode.skip)))))) (.region none [{ dst := some 43, op := Sum.inl (AOp.mv (Arg.t 9)), guard := none }, { dst := some 44, op := Sum.inl (AOp.bin BinOp.add (Arg.t 43) (Arg.c (AVal.int IntKind.i64 (1)))), guard := none },
    { dst := some 9, op := Sum.inl (AOp.mv (Arg.t 44)), guard := none }]))
def DiskPlays_s1 : ACode :=
  .block 0 (.loop DiskPlays_l0)
def DiskPlays_t2 : ACode :=
  .seq (.seq (.region none [{ dst := some 9, op := Sum.inl (AOp.mv (Arg.c (AVal.int IntKind.i64 (0)))), guard := none }]) DiskPlays_s1) (.seq (.region none [{ dst := some 81, op := Sum.inr (ACallee.k 2 []), guard := none },
    { dst := some 4, op := Sum.inl (AOp.mv (Arg.t 81)), guard := none }]) ACode.ret)
def DiskPlays : AFun :=
  ⟨2, [Sum.inl 4], (.seq (.region none [{ dst := some 4, op := Sum.inl (AOp.mv (Arg.c (AVal.bool false))), guard := none }]) (.seq (.region none [{ dst := some 13, op := Sum.inl (AOp.mv (Arg.t 0)), guard := none },
    { dst := some 14, op := Sum.inr (ACallee.k 0 [Arg.t 13]), guard := none }, { dst := some 12, op := Sum.inl (AOp.mv (Arg.t 14)), guard := none }, { dst := some 15, op := Sum.inl (AOp.ext 0 (Arg.t 12)), guard := none },
    { dst := some 16, op := Sum.inl (AOp.ext 1 (Arg.t 12)), guard := none }, { dst := some 5, op := Sum.inl (AOp.mv (Arg.t 15)), guard := none }, { dst := some 6, op := Sum.inl (AOp.mv (Arg.t 16)), guard := none }])
    (.seq (.region none [{ dst := some 18, op := Sum.inl (AOp.mv (Arg.t 0)), guard := none }, { dst := some 19, op := Sum.inr (ACallee.k 1 [Arg.t 18]), guard := none }, { dst := some 17, op := Sum.inl (AOp.mv (Arg.t 19)), guard := none },
    { dst := some 20, op := Sum.inl (AOp.ext 0 (Arg.t 17)), guard := none }, { dst := some 21, op := Sum.inl (AOp.ext 1 (Arg.t 17)), guard := none }, { dst := some 7, op := Sum.inl (AOp.alloc [AVal.nils, AVal.nils, AVal.bool false, AVal.int IntKind.i64 (0), AVal.bool false]), guard := none },
    { dst := none, op := Sum.inl (AOp.store 5 (Arg.t 7) (Arg.t 20)), guard := none }, { dst := some 8, op := Sum.inl (AOp.mv (Arg.t 21)), guard := none }]) (.seq (.seq (.region none [{ dst := some 22, op := Sum.inl (AOp.mv (Arg.t 6)), guard := none },
    { dst := some 23, op := Sum.inl (AOp.mv (Arg.t 8)), guard := none }, { dst := some 24, op := Sum.inl (AOp.bin BinOp.neq (Arg.t 22) (Arg.t 23)), guard := none }, { dst := some 25, op := Sum.inl (AOp.mv (Arg.t 24)), guard := none },
    { dst := some 26, op := Sum.inl (AOp.mv (Arg.t 5)), guard := some (25, false) }, { dst := some 27, op := Sum.inl (AOp.eq false EqT.ptr (Arg.t 26) (Arg.c AVal.nilp)), guard := some (25, false) },
    { dst := some 28, op := Sum.inl (AOp.mv (Arg.t 6)), guard := some (25, false) }, { dst := some 29, op := Sum.inl (AOp.bin BinOp.neq (Arg.t 28) (Arg.c (AVal.int IntKind.i64 (0)))), guard := some (25, false) },
    { dst := some 30, op := Sum.inl (AOp.eq true EqT.bool (Arg.t 27) (Arg.t 29)), guard := some (25, false) }, { dst := some 31, op := Sum.inl (AOp.pick (Arg.t 25) (Arg.c (AVal.bool true)) (Arg.t 30)), guard := none }])
    (.cond (Arg.t 31) (.seq (.region none [{ dst := some 4, op := Sum.inl (AOp.mv (Arg.c (AVal.bool false))), guard := none }]) ACode.ret) ACode.skip)) (.seq (.seq (.region none [{ dst := some 32, op := Sum.inl (AOp.mv (Arg.t 6)), guard := none },
    { dst := some 33, op := Sum.inl (AOp.bin BinOp.neq (Arg.t 32) (Arg.c (AVal.int IntKind.i64 (0)))), guard := none }]) (.cond (Arg.t 33) (.seq (.region none [{ dst := some 34, op := Sum.inr (ACallee.k 2 []), guard := none },
    { dst := some 4, op := Sum.inl (AOp.mv (Arg.t 34)), guard := none }]) ACode.ret) ACode.skip)) DiskPlays_t2))))), false⟩

end Am.Ir
