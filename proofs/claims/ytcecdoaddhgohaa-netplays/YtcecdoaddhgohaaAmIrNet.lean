/- The machine's code of the functions, printed by a program of this session; each is checked against the model's. -/
import Derived.Test.YtcecdoaddhgohaaAmFun
set_option linter.all false
namespace Am.Ir
open Am Go
set_option maxRecDepth 100000
def net_New : AFun :=
  ⟨0, [Sum.inl 0], (.seq (.region none [{ dst := some 0, op := Sum.inl (AOp.mv (Arg.c AVal.nilp)), guard := none }]) (.seq (.region none [{ dst := some 1, op := Sum.inl (AOp.build [AVal.nils, AVal.nils] []), guard := none },
    { dst := some 2, op := Sum.inl (AOp.box (Arg.t 1)), guard := none }, { dst := some 0, op := Sum.inl (AOp.mv (Arg.t 2)), guard := none }]) ACode.ret))⟩

def net_line : AFun :=
  ⟨2, [Sum.inl 4], (.seq (.region none [{ dst := some 4, op := Sum.inl (AOp.mv (Arg.c AVal.nilp)), guard := none }]) (.seq (.seq (.region none [{ dst := some 5, op := Sum.inl (AOp.mv (Arg.t 1)), guard := none }])
    (.cond (Arg.t 5) (.seq (.region none [{ dst := some 6, op := Sum.inl (AOp.mv (Arg.t 0)), guard := none }, { dst := some 7, op := Sum.inl (AOp.nilchk (Arg.t 6)), guard := none }, { dst := some 8, op := Sum.inl (AOp.faddr 1 (Arg.t 7)), guard := none },
    { dst := some 4, op := Sum.inl (AOp.mv (Arg.t 8)), guard := none }]) ACode.ret) ACode.skip)) (.seq (.region none [{ dst := some 9, op := Sum.inl (AOp.mv (Arg.t 0)), guard := none },
    { dst := some 10, op := Sum.inl (AOp.nilchk (Arg.t 9)), guard := none }, { dst := some 11, op := Sum.inl (AOp.faddr 0 (Arg.t 10)), guard := none }, { dst := some 4, op := Sum.inl (AOp.mv (Arg.t 11)), guard := none }])
    ACode.ret)))⟩

def net_Waits : AFun :=
  ⟨2, [Sum.inl 4], (.seq (.region none [{ dst := some 4, op := Sum.inl (AOp.mv (Arg.c (AVal.int IntKind.i64 (0)))), guard := none }]) (.seq (.seq (.region none [{ dst := some 5, op := Sum.inl (AOp.mv (Arg.t 0)), guard := none },
    { dst := some 6, op := Sum.inl (AOp.eq false EqT.ptr (Arg.t 5) (Arg.c AVal.nilp)), guard := none }]) (.cond (Arg.t 6) (.seq (.region none [{ dst := some 4, op := Sum.inl (AOp.mv (Arg.c (AVal.int IntKind.i64 (0)))), guard := none }])
    ACode.ret) ACode.skip)) (.seq (.region none [{ dst := some 7, op := Sum.inl (AOp.mv (Arg.t 0)), guard := none }, { dst := some 8, op := Sum.inl (AOp.mv (Arg.t 1)), guard := none },
    { dst := some 9, op := Sum.inr (ACallee.k 0 [Arg.t 7, Arg.t 8]), guard := none }, { dst := some 10, op := Sum.inl (AOp.nilchk (Arg.t 9)), guard := none }, { dst := some 11, op := Sum.inl (AOp.load none (Arg.t 10)), guard := none },
    { dst := some 12, op := Sum.inl (AOp.len LenT.sl (Arg.t 11)), guard := none }, { dst := some 4, op := Sum.inl (AOp.mv (Arg.t 12)), guard := none }]) ACode.ret)))⟩

def bytes_Clone : AFun :=
  ⟨1, [Sum.inl 2], (.seq (.region none [{ dst := some 2, op := Sum.inl (AOp.mv (Arg.c AVal.nils)), guard := none }]) (.seq (.seq (.region none [{ dst := some 3, op := Sum.inl (AOp.mv (Arg.t 0)), guard := none },
    { dst := some 4, op := Sum.inl (AOp.eq false EqT.sl (Arg.t 3) (Arg.c AVal.nils)), guard := none }]) (.cond (Arg.t 4) (.seq (.region none [{ dst := some 2, op := Sum.inl (AOp.mv (Arg.c AVal.nils)), guard := none }])
    ACode.ret) ACode.skip)) (.seq (.region none [{ dst := some 5, op := Sum.inl (AOp.bslice false 1 0 [AVal.int IntKind.u8 (0)] []), guard := none }, { dst := some 6, op := Sum.inl (AOp.mv (Arg.t 0)), guard := none },
    { dst := some 7, op := Sum.inl (AOp.append 1 1 (Arg.t 5) (Arg.t 6)), guard := none }, { dst := some 2, op := Sum.inl (AOp.mv (Arg.t 7)), guard := none }]) ACode.ret)))⟩

def net_Send : AFun :=
  ⟨3, [Sum.inl 6], (.seq (.region none [{ dst := some 6, op := Sum.inl (AOp.mv (Arg.c (AVal.int IntKind.i64 (0)))), guard := none }]) (.seq (.block 0 (.seq (.region none [{ dst := some 9, op := Sum.inl (AOp.mv (Arg.t 0)), guard := none },
    { dst := some 10, op := Sum.inl (AOp.eq false EqT.ptr (Arg.t 9) (Arg.c AVal.nilp)), guard := none }, { dst := some 8, op := Sum.inl (AOp.mv (Arg.t 10)), guard := none }]) (.cond
    (Arg.t 8) (.seq (.region none [{ dst := some 6, op := Sum.inl (AOp.mv (Arg.c (AVal.int IntKind.i64 (1)))), guard := none }]) ACode.ret) (.seq (.region none [{ dst := some 12, op := Sum.inl (AOp.mv (Arg.t 2)), guard := none },
    { dst := some 13, op := Sum.inl (AOp.len LenT.sl (Arg.t 12)), guard := none }, { dst := some 14, op := Sum.inl (AOp.bin BinOp.eql (Arg.t 13) (Arg.c (AVal.int IntKind.i64 (0)))), guard := none },
    { dst := some 15, op := Sum.inl (AOp.mv (Arg.t 14)), guard := none }, { dst := some 16, op := Sum.inl (AOp.mv (Arg.t 2)), guard := some (15, false) }, { dst := some 17, op := Sum.inl (AOp.len LenT.sl (Arg.t 16)), guard := some (15, false) },
    { dst := some 18, op := Sum.inl (AOp.bin BinOp.gtr (Arg.t 17) (Arg.c (AVal.int IntKind.i64 (600)))), guard := some (15, false) }, { dst := some 19, op := Sum.inl (AOp.pick (Arg.t 15) (Arg.c (AVal.bool true)) (Arg.t 18)), guard := none },
    { dst := some 11, op := Sum.inl (AOp.mv (Arg.t 19)), guard := none }]) (.cond (Arg.t 11) (.seq (.region none [{ dst := some 6, op := Sum.inl (AOp.mv (Arg.c (AVal.int IntKind.i64 (4)))), guard := none }])
    ACode.ret) (.seq (.region none [{ dst := some 21, op := Sum.inl (AOp.mv (Arg.t 0)), guard := none }, { dst := some 22, op := Sum.inl (AOp.mv (Arg.t 1)), guard := none }, { dst := some 23, op := Sum.inr (ACallee.k 0 [Arg.t 21, Arg.t 22]), guard := none },
    { dst := some 24, op := Sum.inl (AOp.bin BinOp.geq (Arg.t 23) (Arg.c (AVal.int IntKind.i64 (100)))), guard := none }, { dst := some 20, op := Sum.inl (AOp.mv (Arg.t 24)), guard := none }])
    (.cond (Arg.t 20) (.seq (.region none [{ dst := some 6, op := Sum.inl (AOp.mv (Arg.c (AVal.int IntKind.i64 (7)))), guard := none }]) ACode.ret) ACode.skip))))))) (.seq (.region
    none [{ dst := some 25, op := Sum.inl (AOp.mv (Arg.t 0)), guard := none }, { dst := some 26, op := Sum.inl (AOp.mv (Arg.t 1)), guard := none }, { dst := some 27, op := Sum.inr (ACallee.k 1 [Arg.t 25, Arg.t 26]), guard := none },
    { dst := some 7, op := Sum.inl (AOp.mv (Arg.t 27)), guard := none }]) (.seq (.region (some [(3, [5, 6])]) [{ dst := some 28, op := Sum.inl (AOp.mv (Arg.t 7)), guard := none }, { dst := some 29, op := Sum.inl (AOp.mv (Arg.t 7)), guard := none },
    { dst := some 30, op := Sum.inl (AOp.nilchk (Arg.t 29)), guard := none }, { dst := some 31, op := Sum.inl (AOp.load none (Arg.t 30)), guard := none }, { dst := some 32, op := Sum.inl (AOp.mv (Arg.t 2)), guard := none },
    { dst := some 33, op := Sum.inr (ACallee.k 2 [Arg.t 32]), guard := none }, { dst := some 34, op := Sum.inl (AOp.bslice false 1 1 [AVal.nils] [(0, 1, Arg.t 33)]), guard := none }, { dst := some 35, op := Sum.inl (AOp.append 1 24 (Arg.t 31) (Arg.t 34)), guard := none },
    { dst := some 36, op := Sum.inl (AOp.nilchk (Arg.t 28)), guard := none }, { dst := none, op := Sum.inl (AOp.store 1 (Arg.t 36) (Arg.t 35)), guard := none }]) (.seq (.region none [{ dst := some 6, op := Sum.inl (AOp.mv (Arg.c (AVal.int IntKind.i64 (0)))), guard := none }])
    ACode.ret)))))⟩

def net_Take : AFun :=
  ⟨3, [Sum.inl 6, Sum.inl 7], (.seq (.region none [{ dst := some 6, op := Sum.inl (AOp.mv (Arg.c AVal.nils)), guard := none }, { dst := some 7, op := Sum.inl (AOp.mv (Arg.c (AVal.bool false))), guard := none }])
    (.seq (.seq (.region none [{ dst := some 11, op := Sum.inl (AOp.mv (Arg.t 0)), guard := none }, { dst := some 12, op := Sum.inl (AOp.mv (Arg.t 1)), guard := none }, { dst := some 13, op := Sum.inr (ACallee.k 0 [Arg.t 11, Arg.t 12]), guard := none },
    { dst := some 14, op := Sum.inl (AOp.bin BinOp.eql (Arg.t 13) (Arg.c (AVal.int IntKind.i64 (0)))), guard := none }, { dst := some 15, op := Sum.inl (AOp.mv (Arg.t 14)), guard := none },
    { dst := some 16, op := Sum.inl (AOp.mv (Arg.t 2)), guard := some (15, false) }, { dst := some 17, op := Sum.inl (AOp.bin BinOp.lss (Arg.t 16) (Arg.c (AVal.int IntKind.i64 (0)))), guard := some (15, false) },
    { dst := some 18, op := Sum.inl (AOp.pick (Arg.t 15) (Arg.c (AVal.bool true)) (Arg.t 17)), guard := none }]) (.cond (Arg.t 18) (.seq (.region none [{ dst := some 6, op := Sum.inl (AOp.mv (Arg.c AVal.nils)), guard := none },
    { dst := some 7, op := Sum.inl (AOp.mv (Arg.c (AVal.bool false))), guard := none }]) ACode.ret) ACode.skip)) (.seq (.region none [{ dst := some 19, op := Sum.inl (AOp.mv (Arg.t 0)), guard := none },
    { dst := some 20, op := Sum.inl (AOp.mv (Arg.t 1)), guard := none }, { dst := some 21, op := Sum.inr (ACallee.k 1 [Arg.t 19, Arg.t 20]), guard := none }, { dst := some 8, op := Sum.inl (AOp.mv (Arg.t 21)), guard := none }])
    (.seq (.region none [{ dst := some 22, op := Sum.inl (AOp.mv (Arg.t 8)), guard := none }, { dst := some 23, op := Sum.inl (AOp.nilchk (Arg.t 22)), guard := none }, { dst := some 24, op := Sum.inl (AOp.load none (Arg.t 23)), guard := none },
    { dst := some 25, op := Sum.inl (AOp.len LenT.sl (Arg.t 24)), guard := none }, { dst := some 26, op := Sum.inl (AOp.bin BinOp.sub (Arg.t 25) (Arg.c (AVal.int IntKind.i64 (1)))), guard := none },
    { dst := some 9, op := Sum.inl (AOp.mv (Arg.t 26)), guard := none }]) (.seq (.region none [{ dst := some 27, op := Sum.inl (AOp.mv (Arg.t 8)), guard := none }, { dst := some 28, op := Sum.inl (AOp.nilchk (Arg.t 27)), guard := none },
    { dst := some 29, op := Sum.inl (AOp.load none (Arg.t 28)), guard := none }, { dst := some 30, op := Sum.inl (AOp.iaddrS 1 (Arg.t 29) (Arg.c (AVal.int IntKind.i64 (0)))), guard := none },
    { dst := some 31, op := Sum.inl (AOp.load none (Arg.t 30)), guard := none }, { dst := some 10, op := Sum.inl (AOp.mv (Arg.t 31)), guard := none }]) (.seq (.seq (.region none [{ dst := some 32, op := Sum.inl (AOp.mv (Arg.t 2)), guard := none }])
    (.block 0 (.seq (.block 4 (.seq (.block 3 (.seq (.block 2 (.seq (.block 1 (.seq (.seq (.seq (.region none [{ dst := some 34, op := Sum.inl (AOp.bin BinOp.eql (Arg.t 32) (Arg.c (AVal.int IntKind.i64 (3)))), guard := none },
    { dst := some 33, op := Sum.inl (AOp.mv (Arg.t 34)), guard := none }]) (.cond (Arg.t 33) (.exit 1) ACode.skip)) (.seq (.seq (.region none [{ dst := some 36, op := Sum.inl (AOp.bin BinOp.eql (Arg.t 32) (Arg.c (AVal.int IntKind.i64 (2)))), guard := none },
    { dst := some 35, op := Sum.inl (AOp.mv (Arg.t 36)), guard := none }]) (.cond (Arg.t 35) (.exit 2) ACode.skip)) (.seq (.seq (.region none [{ dst := some 38, op := Sum.inl (AOp.bin BinOp.eql (Arg.t 32) (Arg.c (AVal.int IntKind.i64 (0)))), guard := none },
    { dst := some 37, op := Sum.inl (AOp.mv (Arg.t 38)), guard := none }]) (.cond (Arg.t 37) ACode.skip (.region none [{ dst := some 39, op := Sum.inl (AOp.bin BinOp.eql (Arg.t 32) (Arg.c (AVal.int IntKind.i64 (1)))), guard := none },
    { dst := some 37, op := Sum.inl (AOp.mv (Arg.t 39)), guard := none }]))) (.cond (Arg.t 37) (.exit 3) ACode.skip)))) (.exit 4))) (.seq (.seq (.region (some []) [{ dst := some 40, op := Sum.inl (AOp.mv (Arg.t 8)), guard := none },
    { dst := some 41, op := Sum.inl (AOp.mv (Arg.t 8)), guard := none }, { dst := some 42, op := Sum.inl (AOp.nilchk (Arg.t 41)), guard := none }, { dst := some 43, op := Sum.inl (AOp.load none (Arg.t 42)), guard := none },
    { dst := some 44, op := Sum.inl (AOp.mv (Arg.t 9)), guard := none }, { dst := some 45, op := Sum.inl (AOp.iaddrS 1 (Arg.t 43) (Arg.t 44)), guard := none }, { dst := some 46, op := Sum.inl (AOp.load none (Arg.t 45)), guard := none },
    { dst := some 47, op := Sum.inl (AOp.mv (Arg.t 8)), guard := none }, { dst := some 48, op := Sum.inl (AOp.nilchk (Arg.t 47)), guard := none }, { dst := some 49, op := Sum.inl (AOp.load none (Arg.t 48)), guard := none },
    { dst := some 50, op := Sum.inl (AOp.mv (Arg.t 9)), guard := none }, { dst := some 51, op := Sum.inl (AOp.slcS 1 (Arg.t 49) none (some (Arg.t 50))), guard := none }, { dst := some 10, op := Sum.inl (AOp.mv (Arg.t 46)), guard := none },
    { dst := some 52, op := Sum.inl (AOp.nilchk (Arg.t 40)), guard := none }, { dst := none, op := Sum.inl (AOp.store 1 (Arg.t 52) (Arg.t 51)), guard := none }]) (.seq (.region none [{ dst := some 53, op := Sum.inl (AOp.mv (Arg.t 10)), guard := none },
    { dst := some 6, op := Sum.inl (AOp.mv (Arg.t 53)), guard := none }, { dst := some 7, op := Sum.inl (AOp.mv (Arg.c (AVal.bool true))), guard := none }]) ACode.ret)) (.exit 0))))
    (.region (some [(3, [5, 6])]) [{ dst := some 54, op := Sum.inl (AOp.mv (Arg.t 8)), guard := none }, { dst := some 55, op := Sum.inl (AOp.mv (Arg.t 8)), guard := none }, { dst := some 56, op := Sum.inl (AOp.nilchk (Arg.t 55)), guard := none },
    { dst := some 57, op := Sum.inl (AOp.load none (Arg.t 56)), guard := none }, { dst := some 58, op := Sum.inl (AOp.mv (Arg.t 10)), guard := none }, { dst := some 59, op := Sum.inr (ACallee.k 2 [Arg.t 58]), guard := none },
    { dst := some 60, op := Sum.inl (AOp.bslice false 1 1 [AVal.nils] [(0, 1, Arg.t 59)]), guard := none }, { dst := some 61, op := Sum.inl (AOp.append 1 24 (Arg.t 57) (Arg.t 60)), guard := none },
    { dst := some 62, op := Sum.inl (AOp.nilchk (Arg.t 54)), guard := none }, { dst := none, op := Sum.inl (AOp.store 1 (Arg.t 62) (Arg.t 61)), guard := none }]))) (.seq (.region none
    [{ dst := some 63, op := Sum.inl (AOp.mv (Arg.t 8)), guard := none }, { dst := some 64, op := Sum.inl (AOp.mv (Arg.t 8)), guard := none }, { dst := some 65, op := Sum.inl (AOp.nilchk (Arg.t 64)), guard := none },
    { dst := some 66, op := Sum.inl (AOp.load none (Arg.t 65)), guard := none }, { dst := some 67, op := Sum.inl (AOp.slcS 1 (Arg.t 66) (some (Arg.c (AVal.int IntKind.i64 (1)))) none), guard := none },
    { dst := some 68, op := Sum.inl (AOp.nilchk (Arg.t 63)), guard := none }, { dst := none, op := Sum.inl (AOp.store 1 (Arg.t 68) (Arg.t 67)), guard := none }]) (.exit 0)))) (.seq
    (.seq (.region none [{ dst := some 69, op := Sum.inl (AOp.mv (Arg.t 8)), guard := none }, { dst := some 70, op := Sum.inl (AOp.mv (Arg.t 8)), guard := none }, { dst := some 71, op := Sum.inl (AOp.nilchk (Arg.t 70)), guard := none },
    { dst := some 72, op := Sum.inl (AOp.load none (Arg.t 71)), guard := none }, { dst := some 73, op := Sum.inl (AOp.slcS 1 (Arg.t 72) (some (Arg.c (AVal.int IntKind.i64 (1)))) none), guard := none },
    { dst := some 74, op := Sum.inl (AOp.nilchk (Arg.t 69)), guard := none }, { dst := none, op := Sum.inl (AOp.store 1 (Arg.t 74) (Arg.t 73)), guard := none }]) (.region none [{ dst := some 75, op := Sum.inl (AOp.mv (Arg.t 10)), guard := none },
    { dst := some 76, op := Sum.inl (AOp.mv (Arg.t 2)), guard := none }, { dst := some 77, op := Sum.inl (AOp.bin BinOp.sub (Arg.t 76) (Arg.c (AVal.int IntKind.i64 (4)))), guard := none },
    { dst := some 78, op := Sum.inl (AOp.mv (Arg.t 10)), guard := none }, { dst := some 79, op := Sum.inl (AOp.len LenT.sl (Arg.t 78)), guard := none }, { dst := some 80, op := Sum.inl (AOp.bin BinOp.rem (Arg.t 77) (Arg.t 79)), guard := none },
    { dst := some 81, op := Sum.inl (AOp.iaddrS 1 (Arg.t 75) (Arg.t 80)), guard := none }, { dst := some 82, op := Sum.inl (AOp.load none (Arg.t 81)), guard := none }, { dst := some 83, op := Sum.inl (AOp.bin BinOp.xor (Arg.t 82) (Arg.c (AVal.int IntKind.u8 (1)))), guard := none },
    { dst := some 84, op := Sum.inl (AOp.iaddrS 1 (Arg.t 75) (Arg.t 80)), guard := none }, { dst := none, op := Sum.inl (AOp.store 1 (Arg.t 84) (Arg.t 83)), guard := none }])) (.exit
    0))))) (.seq (.seq (.region none [{ dst := some 85, op := Sum.inl (AOp.mv (Arg.t 2)), guard := none }, { dst := some 86, op := Sum.inl (AOp.bin BinOp.eql (Arg.t 85) (Arg.c (AVal.int IntKind.i64 (1)))), guard := none }])
    (.cond (Arg.t 86) (.seq (.region none [{ dst := some 6, op := Sum.inl (AOp.mv (Arg.c AVal.nils)), guard := none }, { dst := some 7, op := Sum.inl (AOp.mv (Arg.c (AVal.bool false))), guard := none }])
    ACode.ret) ACode.skip)) (.seq (.region none [{ dst := some 87, op := Sum.inl (AOp.mv (Arg.t 10)), guard := none }, { dst := some 6, op := Sum.inl (AOp.mv (Arg.t 87)), guard := none },
    { dst := some 7, op := Sum.inl (AOp.mv (Arg.c (AVal.bool true))), guard := none }]) ACode.ret))))))))⟩

def net_Clear : AFun :=
  ⟨1, [], (.seq (.region none [{ dst := some 2, op := Sum.inl (AOp.mv (Arg.t 0)), guard := none }, { dst := some 3, op := Sum.inl (AOp.eq true EqT.ptr (Arg.t 2) (Arg.c AVal.nilp)), guard := none }])
    (.cond (Arg.t 3) (.region none [{ dst := some 4, op := Sum.inl (AOp.mv (Arg.t 0)), guard := none }, { dst := some 5, op := Sum.inl (AOp.mv (Arg.t 0)), guard := none }, { dst := some 6, op := Sum.inl (AOp.nilchk (Arg.t 4)), guard := none },
    { dst := some 7, op := Sum.inl (AOp.faddr 0 (Arg.t 6)), guard := none }, { dst := none, op := Sum.inl (AOp.store 1 (Arg.t 7) (Arg.c AVal.nils)), guard := none }, { dst := some 8, op := Sum.inl (AOp.nilchk (Arg.t 5)), guard := none },
    { dst := some 9, op := Sum.inl (AOp.faddr 1 (Arg.t 8)), guard := none }, { dst := none, op := Sum.inl (AOp.store 1 (Arg.t 9) (Arg.c AVal.nils)), guard := none }]) ACode.skip))⟩

def net_alive : AFun :=
  ⟨0, [Sum.inl 0], (.seq (.region none [{ dst := some 0, op := Sum.inl (AOp.mv (Arg.c (AVal.bool false))), guard := none }]) (.seq (.region none [{ dst := some 8, op := Sum.inr (ACallee.k 0 []), guard := none },
    { dst := some 1, op := Sum.inl (AOp.mv (Arg.t 8)), guard := none }]) (.seq (.seq (.region none [{ dst := some 9, op := Sum.inl (AOp.mv (Arg.t 1)), guard := none }, { dst := some 10, op := Sum.inl (AOp.eq false EqT.ptr (Arg.t 9) (Arg.c AVal.nilp)), guard := none }])
    (.cond (Arg.t 10) (.seq (.region none [{ dst := some 0, op := Sum.inl (AOp.mv (Arg.c (AVal.bool false))), guard := none }]) ACode.ret) ACode.skip)) (.seq (.region none [{ dst := some 11, op := Sum.inl (AOp.mv (Arg.t 1)), guard := none },
    { dst := some 12, op := Sum.inl (AOp.bslice false 1 1 [AVal.int IntKind.u8 (0)] [(0, 1, Arg.c (AVal.int IntKind.u8 (97)))]), guard := none }, { dst := some 13, op := Sum.inl (AOp.convSL (Arg.t 12)), guard := none },
    { dst := some 14, op := Sum.inr (ACallee.k 1 [Arg.t 11, Arg.c (AVal.bool true), Arg.t 13]), guard := none }, { dst := some 15, op := Sum.inl (AOp.mv (Arg.t 1)), guard := none }, { dst := some 16, op := Sum.inr (ACallee.k 1 [Arg.t 15, Arg.c (AVal.bool true), Arg.c AVal.nils]), guard := none },
    { dst := some 2, op := Sum.inl (AOp.mv (Arg.t 14)), guard := none }, { dst := some 3, op := Sum.inl (AOp.mv (Arg.t 16)), guard := none }]) (.seq (.region none [{ dst := some 18, op := Sum.inl (AOp.mv (Arg.t 1)), guard := none },
    { dst := some 19, op := Sum.inr (ACallee.k 2 [Arg.t 18, Arg.c (AVal.bool true), Arg.c (AVal.int IntKind.i64 (0))]), guard := none }, { dst := some 17, op := Sum.inl (AOp.mv (Arg.t 19)), guard := none },
    { dst := some 20, op := Sum.inl (AOp.ext 0 (Arg.t 17)), guard := none }, { dst := some 21, op := Sum.inl (AOp.ext 1 (Arg.t 17)), guard := none }, { dst := some 4, op := Sum.inl (AOp.mv (Arg.t 20)), guard := none },
    { dst := some 5, op := Sum.inl (AOp.mv (Arg.t 21)), guard := none }]) (.seq (.region none [{ dst := some 23, op := Sum.inl (AOp.mv (Arg.t 1)), guard := none }, { dst := some 24, op := Sum.inr (ACallee.k 2 [Arg.t 23, Arg.c (AVal.bool true), Arg.c (AVal.int IntKind.i64 (0))]), guard := none },
    { dst := some 22, op := Sum.inl (AOp.mv (Arg.t 24)), guard := none }, { dst := some 25, op := Sum.inl (AOp.ext 0 (Arg.t 22)), guard := none }, { dst := some 26, op := Sum.inl (AOp.ext 1 (Arg.t 22)), guard := none },
    { dst := some 6, op := Sum.inl (AOp.mv (Arg.t 25)), guard := none }, { dst := some 7, op := Sum.inl (AOp.mv (Arg.t 26)), guard := none }]) (.seq (.region none [{ dst := some 27, op := Sum.inl (AOp.mv (Arg.t 2)), guard := none },
    { dst := some 28, op := Sum.inl (AOp.bin BinOp.eql (Arg.t 27) (Arg.c (AVal.int IntKind.i64 (0)))), guard := none }, { dst := some 29, op := Sum.inl (AOp.mv (Arg.t 28)), guard := none },
    { dst := some 30, op := Sum.inl (AOp.mv (Arg.t 3)), guard := some (29, true) }, { dst := some 31, op := Sum.inl (AOp.bin BinOp.eql (Arg.t 30) (Arg.c (AVal.int IntKind.i64 (4)))), guard := some (29, true) },
    { dst := some 32, op := Sum.inl (AOp.pick (Arg.t 29) (Arg.t 31) (Arg.c (AVal.bool false))), guard := none }, { dst := some 33, op := Sum.inl (AOp.mv (Arg.t 32)), guard := none }, { dst := some 34, op := Sum.inl (AOp.mv (Arg.t 5)), guard := some (33, true) },
    { dst := some 35, op := Sum.inl (AOp.pick (Arg.t 33) (Arg.t 34) (Arg.c (AVal.bool false))), guard := none }, { dst := some 36, op := Sum.inl (AOp.mv (Arg.t 35)), guard := none }, { dst := some 37, op := Sum.inl (AOp.mv (Arg.t 4)), guard := some (36, true) },
    { dst := some 38, op := Sum.inl (AOp.convBS (Arg.t 37)), guard := some (36, true) }, { dst := some 39, op := Sum.inl (AOp.bin BinOp.eql (Arg.t 38) (Arg.c (AVal.str [97]))), guard := some (36, true) },
    { dst := some 40, op := Sum.inl (AOp.pick (Arg.t 36) (Arg.t 39) (Arg.c (AVal.bool false))), guard := none }, { dst := some 41, op := Sum.inl (AOp.mv (Arg.t 40)), guard := none }, { dst := some 42, op := Sum.inl (AOp.mv (Arg.t 7)), guard := some (41, true) },
    { dst := some 43, op := Sum.inl (AOp.un UnOp.not (Arg.t 42)), guard := some (41, true) }, { dst := some 44, op := Sum.inl (AOp.pick (Arg.t 41) (Arg.t 43) (Arg.c (AVal.bool false))), guard := none },
    { dst := some 0, op := Sum.inl (AOp.mv (Arg.t 44)), guard := none }]) ACode.ret)))))))⟩

def NetOrder_l0 : ACode :=
  .seq (.seq (.region none [{ dst := some 26, op := Sum.inl (AOp.mv (Arg.t 7)), guard := none }, { dst := some 27, op := Sum.inl (AOp.mv (Arg.t 0)), guard := none }, { dst := some 28, op := Sum.inl (AOp.len LenT.sl (Arg.t 27)), guard := none },
    { dst := some 29, op := Sum.inl (AOp.bin BinOp.lss (Arg.t 26) (Arg.t 28)), guard := none }]) (.cond (Arg.t 29) ACode.skip (.exit 0))) (.seq (.block 1 (.seq (.seq (.region none [{ dst := some 32, op := Sum.inl (AOp.mv (Arg.t 5)), guard := none },
    { dst := some 33, op := Sum.inl (AOp.mv (Arg.t 0)), guard := none }, { dst := some 34, op := Sum.inl (AOp.mv (Arg.t 7)), guard := none }, { dst := some 35, op := Sum.inl (AOp.iaddrS 1 (Arg.t 33) (Arg.t 34)), guard := none },
    { dst := some 36, op := Sum.inl (AOp.load none (Arg.t 35)), guard := none }, { dst := some 37, op := Sum.inr (ACallee.k 2 [Arg.t 32, Arg.c (AVal.bool true), Arg.t 36]), guard := none },
    { dst := some 38, op := Sum.inl (AOp.bin BinOp.eql (Arg.t 37) (Arg.c (AVal.int IntKind.i64 (0)))), guard := none }]) (.cond (Arg.t 38) (.region none [{ dst := some 39, op := Sum.inl (AOp.mv (Arg.t 6)), guard := none },
    { dst := some 40, op := Sum.inl (AOp.mv (Arg.t 0)), guard := none }, { dst := some 41, op := Sum.inl (AOp.mv (Arg.t 7)), guard := none }, { dst := some 42, op := Sum.inl (AOp.iaddrS 1 (Arg.t 40) (Arg.t 41)), guard := none },
    { dst := some 43, op := Sum.inl (AOp.load none (Arg.t 42)), guard := none }, { dst := some 44, op := Sum.inl (AOp.convBS (Arg.t 43)), guard := none }, { dst := some 45, op := Sum.inl (AOp.bslice false 1 1 [AVal.str []] [(0, 1, Arg.t 44)]), guard := none },
    { dst := some 46, op := Sum.inl (AOp.append 1 16 (Arg.t 39) (Arg.t 45)), guard := none }, { dst := some 6, op := Sum.inl (AOp.mv (Arg.t 46)), guard := none }]) ACode.skip)) (.seq
    (.region none [{ dst := some 47, op := Sum.inl (AOp.mv (Arg.t 7)), guard := none }, { dst := some 48, op := Sum.inl (AOp.mv (Arg.t 1)), guard := none }, { dst := some 49, op := Sum.inl (AOp.len LenT.sl (Arg.t 48)), guard := none },
    { dst := some 50, op := Sum.inl (AOp.bin BinOp.lss (Arg.t 47) (Arg.t 49)), guard := none }]) (.cond (Arg.t 50) (.region none [{ dst := some 51, op := Sum.inl (AOp.mv (Arg.t 5)), guard := none },
    { dst := some 52, op := Sum.inl (AOp.mv (Arg.t 1)), guard := none }, { dst := some 53, op := Sum.inl (AOp.mv (Arg.t 7)), guard := none }, { dst := some 54, op := Sum.inl (AOp.iaddrS 1 (Arg.t 52) (Arg.t 53)), guard := none },
    { dst := some 55, op := Sum.inl (AOp.load none (Arg.t 54)), guard := none }, { dst := some 56, op := Sum.inr (ACallee.k 2 [Arg.t 51, Arg.c (AVal.bool false), Arg.t 55]), guard := none }])
    ACode.skip)))) (.region none [{ dst := some 30, op := Sum.inl (AOp.mv (Arg.t 7)), guard := none }, { dst := some 31, op := Sum.inl (AOp.bin BinOp.add (Arg.t 30) (Arg.c (AVal.int IntKind.i64 (1)))), guard := none },
    { dst := some 7, op := Sum.inl (AOp.mv (Arg.t 31)), guard := none }]))
def NetOrder_s1 : ACode :=
  .block 0 (.loop NetOrder_l0)
def NetOrder_l2 : ACode :=
  .seq (.seq (.region none [{ dst := some 57, op := Sum.inl (AOp.mv (Arg.t 8)), guard := none }, { dst := some 58, op := Sum.inl (AOp.mv (Arg.t 6)), guard := none }, { dst := some 59, op := Sum.inl (AOp.len LenT.sl (Arg.t 58)), guard := none },
    { dst := some 60, op := Sum.inl (AOp.bin BinOp.lss (Arg.t 57) (Arg.t 59)), guard := none }]) (.cond (Arg.t 60) ACode.skip (.exit 2))) (.seq (.block 3 (.seq (.region none [{ dst := some 64, op := Sum.inl (AOp.mv (Arg.t 5)), guard := none },
    { dst := some 65, op := Sum.inr (ACallee.k 3 [Arg.t 64, Arg.c (AVal.bool true), Arg.c (AVal.int IntKind.i64 (0))]), guard := none }, { dst := some 63, op := Sum.inl (AOp.mv (Arg.t 65)), guard := none },
    { dst := some 66, op := Sum.inl (AOp.ext 0 (Arg.t 63)), guard := none }, { dst := some 67, op := Sum.inl (AOp.ext 1 (Arg.t 63)), guard := none }, { dst := some 9, op := Sum.inl (AOp.mv (Arg.t 66)), guard := none },
    { dst := some 10, op := Sum.inl (AOp.mv (Arg.t 67)), guard := none }]) (.seq (.region (some []) [{ dst := some 68, op := Sum.inl (AOp.mv (Arg.t 10)), guard := none }, { dst := some 69, op := Sum.inl (AOp.un UnOp.not (Arg.t 68)), guard := none },
    { dst := some 70, op := Sum.inl (AOp.mv (Arg.t 69)), guard := none }, { dst := some 71, op := Sum.inl (AOp.mv (Arg.t 9)), guard := some (70, false) }, { dst := some 72, op := Sum.inl (AOp.convBS (Arg.t 71)), guard := some (70, false) },
    { dst := some 73, op := Sum.inl (AOp.mv (Arg.t 6)), guard := some (70, false) }, { dst := some 74, op := Sum.inl (AOp.mv (Arg.t 8)), guard := some (70, false) }, { dst := some 75, op := Sum.inl (AOp.iaddrS 1 (Arg.t 73) (Arg.t 74)), guard := some (70, false) },
    { dst := some 76, op := Sum.inl (AOp.load none (Arg.t 75)), guard := some (70, false) }, { dst := some 77, op := Sum.inl (AOp.bin BinOp.neq (Arg.t 72) (Arg.t 76)), guard := some (70, false) },
    { dst := some 78, op := Sum.inl (AOp.pick (Arg.t 70) (Arg.c (AVal.bool true)) (Arg.t 77)), guard := none }]) (.cond (Arg.t 78) (.seq (.region none [{ dst := some 4, op := Sum.inl (AOp.mv (Arg.c (AVal.bool false))), guard := none }])
    ACode.ret) ACode.skip)))) (.region none [{ dst := some 61, op := Sum.inl (AOp.mv (Arg.t 8)), guard := none }, { dst := some 62, op := Sum.inl (AOp.bin BinOp.add (Arg.t 61) (Arg.c (AVal.int IntKind.i64 (1)))), guard := none },
    { dst := some 8, op := Sum.inl (AOp.mv (Arg.t 62)), guard := none }]))
def NetOrder_s3 : ACode :=
  .block 2 (.loop NetOrder_l2)
def NetOrder_t4 : ACode :=
  .seq (.seq (.region none [{ dst := some 8, op := Sum.inl (AOp.mv (Arg.c (AVal.int IntKind.i64 (0)))), guard := none }]) NetOrder_s3) (.seq (.region none [{ dst := some 80, op := Sum.inl (AOp.mv (Arg.t 5)), guard := none },
    { dst := some 81, op := Sum.inr (ACallee.k 3 [Arg.t 80, Arg.c (AVal.bool true), Arg.c (AVal.int IntKind.i64 (0))]), guard := none }, { dst := some 79, op := Sum.inl (AOp.mv (Arg.t 81)), guard := none },
    { dst := some 82, op := Sum.inl (AOp.ext 0 (Arg.t 79)), guard := none }, { dst := some 83, op := Sum.inl (AOp.ext 1 (Arg.t 79)), guard := none }, { dst := some 11, op := Sum.inl (AOp.mv (Arg.t 82)), guard := none },
    { dst := some 12, op := Sum.inl (AOp.mv (Arg.t 83)), guard := none }]) (.seq (.region none [{ dst := some 84, op := Sum.inr (ACallee.k 1 []), guard := none }, { dst := some 85, op := Sum.inl (AOp.mv (Arg.t 84)), guard := none },
    { dst := some 86, op := Sum.inl (AOp.mv (Arg.t 12)), guard := some (85, true) }, { dst := some 87, op := Sum.inl (AOp.un UnOp.not (Arg.t 86)), guard := some (85, true) }, { dst := some 88, op := Sum.inl (AOp.pick (Arg.t 85) (Arg.t 87) (Arg.c (AVal.bool false))), guard := none },
    { dst := some 89, op := Sum.inl (AOp.mv (Arg.t 88)), guard := none }, { dst := some 90, op := Sum.inl (AOp.mv (Arg.t 5)), guard := some (89, true) }, { dst := some 91, op := Sum.inr (ACallee.k 4 [Arg.t 90, Arg.c (AVal.bool true)]), guard := some (89, true) },
    { dst := some 92, op := Sum.inl (AOp.bin BinOp.eql (Arg.t 91) (Arg.c (AVal.int IntKind.i64 (0)))), guard := some (89, true) }, { dst := some 93, op := Sum.inl (AOp.pick (Arg.t 89) (Arg.t 92) (Arg.c (AVal.bool false))), guard := none },
    { dst := some 4, op := Sum.inl (AOp.mv (Arg.t 93)), guard := none }]) ACode.ret))
def NetOrder_t5 : ACode :=
  .seq (.seq (.region none [{ dst := some 7, op := Sum.inl (AOp.mv (Arg.c (AVal.int IntKind.i64 (0)))), guard := none }]) NetOrder_s1) NetOrder_t4
def NetOrder : AFun :=
  ⟨2, [Sum.inl 4], (.seq (.region none [{ dst := some 4, op := Sum.inl (AOp.mv (Arg.c (AVal.bool false))), guard := none }]) (.seq (.region none [{ dst := some 13, op := Sum.inr (ACallee.k 0 []), guard := none },
    { dst := some 5, op := Sum.inl (AOp.mv (Arg.t 13)), guard := none }]) (.seq (.seq (.region none [{ dst := some 14, op := Sum.inl (AOp.mv (Arg.t 5)), guard := none }, { dst := some 15, op := Sum.inl (AOp.eq false EqT.ptr (Arg.t 14) (Arg.c AVal.nilp)), guard := none }])
    (.cond (Arg.t 15) (.seq (.region none [{ dst := some 4, op := Sum.inl (AOp.mv (Arg.c (AVal.bool false))), guard := none }]) ACode.ret) ACode.skip)) (.seq (.seq (.region none [{ dst := some 16, op := Sum.inl (AOp.mv (Arg.t 0)), guard := none },
    { dst := some 17, op := Sum.inl (AOp.len LenT.sl (Arg.t 16)), guard := none }, { dst := some 18, op := Sum.inl (AOp.bin BinOp.gtr (Arg.t 17) (Arg.c (AVal.int IntKind.i64 (60)))), guard := none },
    { dst := some 19, op := Sum.inl (AOp.mv (Arg.t 18)), guard := none }, { dst := some 20, op := Sum.inl (AOp.mv (Arg.t 1)), guard := some (19, false) }, { dst := some 21, op := Sum.inl (AOp.len LenT.sl (Arg.t 20)), guard := some (19, false) },
    { dst := some 22, op := Sum.inl (AOp.bin BinOp.gtr (Arg.t 21) (Arg.c (AVal.int IntKind.i64 (60)))), guard := some (19, false) }, { dst := some 23, op := Sum.inl (AOp.pick (Arg.t 19) (Arg.c (AVal.bool true)) (Arg.t 22)), guard := none }])
    (.cond (Arg.t 23) (.seq (.region none [{ dst := some 24, op := Sum.inr (ACallee.k 1 []), guard := none }, { dst := some 4, op := Sum.inl (AOp.mv (Arg.t 24)), guard := none }])
    ACode.ret) ACode.skip)) (.seq (.region none [{ dst := some 25, op := Sum.inl (AOp.bslice false 1 0 [AVal.str []] []), guard := none }, { dst := some 6, op := Sum.inl (AOp.mv (Arg.t 25)), guard := none }])
    NetOrder_t5)))))⟩

def NetFates_l0 : ACode :=
  .seq (.seq (.region none [{ dst := some 92, op := Sum.inl (AOp.mv (Arg.t 17)), guard := none }, { dst := some 93, op := Sum.inl (AOp.mv (Arg.t 14)), guard := none }, { dst := some 94, op := Sum.inl (AOp.len LenT.sl (Arg.t 93)), guard := none },
    { dst := some 95, op := Sum.inl (AOp.bin BinOp.lss (Arg.t 92) (Arg.t 94)), guard := none }, { dst := some 96, op := Sum.inl (AOp.mv (Arg.t 95)), guard := none }, { dst := some 97, op := Sum.inl (AOp.mv (Arg.t 17)), guard := some (96, true) },
    { dst := some 98, op := Sum.inl (AOp.mv (Arg.t 0)), guard := some (96, true) }, { dst := some 99, op := Sum.inl (AOp.len LenT.sl (Arg.t 98)), guard := some (96, true) }, { dst := some 100, op := Sum.inl (AOp.bin BinOp.lss (Arg.t 97) (Arg.t 99)), guard := some (96, true) },
    { dst := some 101, op := Sum.inl (AOp.pick (Arg.t 96) (Arg.t 100) (Arg.c (AVal.bool false))), guard := none }]) (.cond (Arg.t 101) ACode.skip (.exit 0))) (.seq (.block 1 (.seq
    (.region (some []) [{ dst := some 104, op := Sum.inl (AOp.mv (Arg.t 14)), guard := none }, { dst := some 105, op := Sum.inl (AOp.mv (Arg.t 17)), guard := none }, { dst := some 106, op := Sum.inl (AOp.iaddrS 1 (Arg.t 104) (Arg.t 105)), guard := none },
    { dst := some 107, op := Sum.inl (AOp.load none (Arg.t 106)), guard := none }, { dst := some 108, op := Sum.inl (AOp.mv (Arg.t 0)), guard := none }, { dst := some 109, op := Sum.inl (AOp.mv (Arg.t 17)), guard := none },
    { dst := some 110, op := Sum.inl (AOp.iaddrS 1 (Arg.t 108) (Arg.t 109)), guard := none }, { dst := some 111, op := Sum.inl (AOp.load none (Arg.t 110)), guard := none }, { dst := some 112, op := Sum.inl (AOp.bin BinOp.neq (Arg.t 107) (Arg.t 111)), guard := none }])
    (.cond (Arg.t 112) (.region none [{ dst := some 113, op := Sum.inl (AOp.mv (Arg.t 16)), guard := none }, { dst := some 114, op := Sum.inl (AOp.bin BinOp.add (Arg.t 113) (Arg.c (AVal.int IntKind.i64 (1)))), guard := none },
    { dst := some 16, op := Sum.inl (AOp.mv (Arg.t 114)), guard := none }]) ACode.skip))) (.region none [{ dst := some 102, op := Sum.inl (AOp.mv (Arg.t 17)), guard := none }, { dst := some 103, op := Sum.inl (AOp.bin BinOp.add (Arg.t 102) (Arg.c (AVal.int IntKind.i64 (1)))), guard := none },
    { dst := some 17, op := Sum.inl (AOp.mv (Arg.t 103)), guard := none }]))
def NetFates_s1 : ACode :=
  .block 0 (.loop NetFates_l0)
def NetFates_t2 : ACode :=
  .seq (.seq (.region none [{ dst := some 17, op := Sum.inl (AOp.mv (Arg.c (AVal.int IntKind.i64 (0)))), guard := none }]) NetFates_s1) (.seq (.region none [{ dst := some 115, op := Sum.inr (ACallee.k 1 []), guard := none },
    { dst := some 116, op := Sum.inl (AOp.mv (Arg.t 115)), guard := none }, { dst := some 117, op := Sum.inl (AOp.mv (Arg.t 15)), guard := some (116, true) }, { dst := some 118, op := Sum.inl (AOp.pick (Arg.t 116) (Arg.t 117) (Arg.c (AVal.bool false))), guard := none },
    { dst := some 119, op := Sum.inl (AOp.mv (Arg.t 118)), guard := none }, { dst := some 120, op := Sum.inl (AOp.mv (Arg.t 14)), guard := some (119, true) }, { dst := some 121, op := Sum.inl (AOp.len LenT.sl (Arg.t 120)), guard := some (119, true) },
    { dst := some 122, op := Sum.inl (AOp.mv (Arg.t 0)), guard := some (119, true) }, { dst := some 123, op := Sum.inl (AOp.len LenT.sl (Arg.t 122)), guard := some (119, true) }, { dst := some 124, op := Sum.inl (AOp.bin BinOp.eql (Arg.t 121) (Arg.t 123)), guard := some (119, true) },
    { dst := some 125, op := Sum.inl (AOp.pick (Arg.t 119) (Arg.t 124) (Arg.c (AVal.bool false))), guard := none }, { dst := some 126, op := Sum.inl (AOp.mv (Arg.t 125)), guard := none },
    { dst := some 127, op := Sum.inl (AOp.mv (Arg.t 16)), guard := some (126, true) }, { dst := some 128, op := Sum.inl (AOp.bin BinOp.eql (Arg.t 127) (Arg.c (AVal.int IntKind.i64 (1)))), guard := some (126, true) },
    { dst := some 129, op := Sum.inl (AOp.pick (Arg.t 126) (Arg.t 128) (Arg.c (AVal.bool false))), guard := none }, { dst := some 6, op := Sum.inl (AOp.mv (Arg.t 129)), guard := none }])
    ACode.ret)
def NetFates : AFun :=
  ⟨3, [Sum.inl 6], (.seq (.region none [{ dst := some 6, op := Sum.inl (AOp.mv (Arg.c (AVal.bool false))), guard := none }]) (.seq (.region none [{ dst := some 18, op := Sum.inr (ACallee.k 0 []), guard := none },
    { dst := some 7, op := Sum.inl (AOp.mv (Arg.t 18)), guard := none }]) (.seq (.seq (.region none [{ dst := some 19, op := Sum.inl (AOp.mv (Arg.t 7)), guard := none }, { dst := some 20, op := Sum.inl (AOp.eq false EqT.ptr (Arg.t 19) (Arg.c AVal.nilp)), guard := none }])
    (.cond (Arg.t 20) (.seq (.region none [{ dst := some 6, op := Sum.inl (AOp.mv (Arg.c (AVal.bool false))), guard := none }]) ACode.ret) ACode.skip)) (.seq (.seq (.region none [{ dst := some 21, op := Sum.inl (AOp.mv (Arg.t 0)), guard := none },
    { dst := some 22, op := Sum.inl (AOp.len LenT.sl (Arg.t 21)), guard := none }, { dst := some 23, op := Sum.inl (AOp.bin BinOp.eql (Arg.t 22) (Arg.c (AVal.int IntKind.i64 (0)))), guard := none },
    { dst := some 24, op := Sum.inl (AOp.mv (Arg.t 23)), guard := none }, { dst := some 25, op := Sum.inl (AOp.mv (Arg.t 1)), guard := some (24, false) }, { dst := some 26, op := Sum.inl (AOp.len LenT.sl (Arg.t 25)), guard := some (24, false) },
    { dst := some 27, op := Sum.inl (AOp.bin BinOp.eql (Arg.t 26) (Arg.c (AVal.int IntKind.i64 (0)))), guard := some (24, false) }, { dst := some 28, op := Sum.inl (AOp.pick (Arg.t 24) (Arg.c (AVal.bool true)) (Arg.t 27)), guard := none },
    { dst := some 29, op := Sum.inl (AOp.mv (Arg.t 28)), guard := none }, { dst := some 30, op := Sum.inl (AOp.mv (Arg.t 0)), guard := some (29, false) }, { dst := some 31, op := Sum.inl (AOp.len LenT.sl (Arg.t 30)), guard := some (29, false) },
    { dst := some 32, op := Sum.inl (AOp.bin BinOp.gtr (Arg.t 31) (Arg.c (AVal.int IntKind.i64 (600)))), guard := some (29, false) }, { dst := some 33, op := Sum.inl (AOp.pick (Arg.t 29) (Arg.c (AVal.bool true)) (Arg.t 32)), guard := none },
    { dst := some 34, op := Sum.inl (AOp.mv (Arg.t 33)), guard := none }, { dst := some 35, op := Sum.inl (AOp.mv (Arg.t 1)), guard := some (34, false) }, { dst := some 36, op := Sum.inl (AOp.len LenT.sl (Arg.t 35)), guard := some (34, false) },
    { dst := some 37, op := Sum.inl (AOp.bin BinOp.gtr (Arg.t 36) (Arg.c (AVal.int IntKind.i64 (600)))), guard := some (34, false) }, { dst := some 38, op := Sum.inl (AOp.pick (Arg.t 34) (Arg.c (AVal.bool true)) (Arg.t 37)), guard := none }])
    (.cond (Arg.t 38) (.seq (.region none [{ dst := some 39, op := Sum.inr (ACallee.k 1 []), guard := none }, { dst := some 6, op := Sum.inl (AOp.mv (Arg.t 39)), guard := none }])
    ACode.ret) ACode.skip)) (.seq (.region none [{ dst := some 40, op := Sum.inl (AOp.mv (Arg.t 7)), guard := none }, { dst := some 41, op := Sum.inl (AOp.mv (Arg.t 0)), guard := none },
    { dst := some 42, op := Sum.inr (ACallee.k 2 [Arg.t 40, Arg.c (AVal.bool false), Arg.t 41]), guard := none }]) (.seq (.region none [{ dst := some 43, op := Sum.inl (AOp.mv (Arg.t 7)), guard := none },
    { dst := some 44, op := Sum.inl (AOp.mv (Arg.t 1)), guard := none }, { dst := some 45, op := Sum.inr (ACallee.k 2 [Arg.t 43, Arg.c (AVal.bool false), Arg.t 44]), guard := none }])
    (.seq (.region none [{ dst := some 47, op := Sum.inl (AOp.mv (Arg.t 7)), guard := none }, { dst := some 48, op := Sum.inr (ACallee.k 3 [Arg.t 47, Arg.c (AVal.bool false), Arg.c (AVal.int IntKind.i64 (2))]), guard := none },
    { dst := some 46, op := Sum.inl (AOp.mv (Arg.t 48)), guard := none }, { dst := some 49, op := Sum.inl (AOp.ext 0 (Arg.t 46)), guard := none }, { dst := some 50, op := Sum.inl (AOp.ext 1 (Arg.t 46)), guard := none },
    { dst := some 8, op := Sum.inl (AOp.mv (Arg.t 49)), guard := none }, { dst := some 9, op := Sum.inl (AOp.mv (Arg.t 50)), guard := none }]) (.seq (.region none [{ dst := some 52, op := Sum.inl (AOp.mv (Arg.t 7)), guard := none },
    { dst := some 53, op := Sum.inr (ACallee.k 3 [Arg.t 52, Arg.c (AVal.bool false), Arg.c (AVal.int IntKind.i64 (3))]), guard := none }, { dst := some 51, op := Sum.inl (AOp.mv (Arg.t 53)), guard := none },
    { dst := some 54, op := Sum.inl (AOp.ext 0 (Arg.t 51)), guard := none }, { dst := some 55, op := Sum.inl (AOp.ext 1 (Arg.t 51)), guard := none }, { dst := some 10, op := Sum.inl (AOp.mv (Arg.t 54)), guard := none },
    { dst := some 11, op := Sum.inl (AOp.mv (Arg.t 55)), guard := none }]) (.seq (.region none [{ dst := some 57, op := Sum.inl (AOp.mv (Arg.t 7)), guard := none }, { dst := some 58, op := Sum.inr (ACallee.k 3 [Arg.t 57, Arg.c (AVal.bool false), Arg.c (AVal.int IntKind.i64 (1))]), guard := none },
    { dst := some 56, op := Sum.inl (AOp.mv (Arg.t 58)), guard := none }, { dst := some 59, op := Sum.inl (AOp.ext 0 (Arg.t 56)), guard := none }, { dst := some 60, op := Sum.inl (AOp.ext 1 (Arg.t 56)), guard := none },
    { dst := some 12, op := Sum.inl (AOp.mv (Arg.t 59)), guard := none }, { dst := some 13, op := Sum.inl (AOp.mv (Arg.t 60)), guard := none }]) (.seq (.seq (.region none [{ dst := some 61, op := Sum.inl (AOp.mv (Arg.t 8)), guard := none },
    { dst := some 62, op := Sum.inl (AOp.convBS (Arg.t 61)), guard := none }, { dst := some 63, op := Sum.inl (AOp.mv (Arg.t 0)), guard := none }, { dst := some 64, op := Sum.inl (AOp.convBS (Arg.t 63)), guard := none },
    { dst := some 65, op := Sum.inl (AOp.bin BinOp.neq (Arg.t 62) (Arg.t 64)), guard := none }, { dst := some 66, op := Sum.inl (AOp.mv (Arg.t 65)), guard := none }, { dst := some 67, op := Sum.inl (AOp.mv (Arg.t 10)), guard := some (66, false) },
    { dst := some 68, op := Sum.inl (AOp.convBS (Arg.t 67)), guard := some (66, false) }, { dst := some 69, op := Sum.inl (AOp.mv (Arg.t 0)), guard := some (66, false) }, { dst := some 70, op := Sum.inl (AOp.convBS (Arg.t 69)), guard := some (66, false) },
    { dst := some 71, op := Sum.inl (AOp.bin BinOp.neq (Arg.t 68) (Arg.t 70)), guard := some (66, false) }, { dst := some 72, op := Sum.inl (AOp.pick (Arg.t 66) (Arg.c (AVal.bool true)) (Arg.t 71)), guard := none },
    { dst := some 73, op := Sum.inl (AOp.mv (Arg.t 72)), guard := none }, { dst := some 74, op := Sum.inl (AOp.mv (Arg.t 13)), guard := some (73, false) }, { dst := some 75, op := Sum.inl (AOp.pick (Arg.t 73) (Arg.c (AVal.bool true)) (Arg.t 74)), guard := none },
    { dst := some 76, op := Sum.inl (AOp.mv (Arg.t 75)), guard := none }, { dst := some 77, op := Sum.inl (AOp.mv (Arg.t 7)), guard := some (76, false) }, { dst := some 78, op := Sum.inr (ACallee.k 4 [Arg.t 77, Arg.c (AVal.bool false)]), guard := some (76, false) },
    { dst := some 79, op := Sum.inl (AOp.bin BinOp.neq (Arg.t 78) (Arg.c (AVal.int IntKind.i64 (0)))), guard := some (76, false) }, { dst := some 80, op := Sum.inl (AOp.pick (Arg.t 76) (Arg.c (AVal.bool true)) (Arg.t 79)), guard := none }])
    (.cond (Arg.t 80) (.seq (.region none [{ dst := some 6, op := Sum.inl (AOp.mv (Arg.c (AVal.bool false))), guard := none }]) ACode.ret) ACode.skip)) (.seq (.region none [{ dst := some 81, op := Sum.inl (AOp.mv (Arg.t 7)), guard := none },
    { dst := some 82, op := Sum.inl (AOp.mv (Arg.t 0)), guard := none }, { dst := some 83, op := Sum.inr (ACallee.k 2 [Arg.t 81, Arg.c (AVal.bool false), Arg.t 82]), guard := none }])
    (.seq (.region none [{ dst := some 85, op := Sum.inl (AOp.mv (Arg.t 7)), guard := none }, { dst := some 86, op := Sum.inl (AOp.mv (Arg.t 2)), guard := none }, { dst := some 87, op := Sum.inl (AOp.bin BinOp.and (Arg.t 86) (Arg.c (AVal.int IntKind.i64 (1023)))), guard := none },
    { dst := some 88, op := Sum.inl (AOp.bin BinOp.add (Arg.c (AVal.int IntKind.i64 (4))) (Arg.t 87)), guard := none }, { dst := some 89, op := Sum.inr (ACallee.k 3 [Arg.t 85, Arg.c (AVal.bool false), Arg.t 88]), guard := none },
    { dst := some 84, op := Sum.inl (AOp.mv (Arg.t 89)), guard := none }, { dst := some 90, op := Sum.inl (AOp.ext 0 (Arg.t 84)), guard := none }, { dst := some 91, op := Sum.inl (AOp.ext 1 (Arg.t 84)), guard := none },
    { dst := some 14, op := Sum.inl (AOp.mv (Arg.t 90)), guard := none }, { dst := some 15, op := Sum.inl (AOp.mv (Arg.t 91)), guard := none }]) (.seq (.region none [{ dst := some 16, op := Sum.inl (AOp.mv (Arg.c (AVal.int IntKind.i64 (0)))), guard := none }])
    NetFates_t2)))))))))))))⟩

def NetNil : AFun :=
  ⟨2, [Sum.inl 4], (.seq (.region none [{ dst := some 4, op := Sum.inl (AOp.mv (Arg.c (AVal.bool false))), guard := none }]) (.seq (.region none [{ dst := some 5, op := Sum.inl (AOp.mv (Arg.c AVal.nilp)), guard := none }])
    (.seq (.region none [{ dst := some 9, op := Sum.inl (AOp.mv (Arg.t 5)), guard := none }, { dst := some 10, op := Sum.inl (AOp.mv (Arg.t 1)), guard := none }, { dst := some 11, op := Sum.inr (ACallee.k 0 [Arg.t 9, Arg.c (AVal.bool true), Arg.t 10]), guard := none },
    { dst := some 8, op := Sum.inl (AOp.mv (Arg.t 11)), guard := none }, { dst := some 12, op := Sum.inl (AOp.ext 0 (Arg.t 8)), guard := none }, { dst := some 13, op := Sum.inl (AOp.ext 1 (Arg.t 8)), guard := none },
    { dst := some 6, op := Sum.inl (AOp.mv (Arg.t 12)), guard := none }, { dst := some 7, op := Sum.inl (AOp.mv (Arg.t 13)), guard := none }]) (.seq (.region none [{ dst := some 14, op := Sum.inl (AOp.mv (Arg.t 5)), guard := none },
    { dst := some 15, op := Sum.inr (ACallee.k 1 [Arg.t 14]), guard := none }]) (.seq (.region none [{ dst := some 16, op := Sum.inr (ACallee.k 2 []), guard := none }, { dst := some 17, op := Sum.inl (AOp.mv (Arg.t 16)), guard := none },
    { dst := some 18, op := Sum.inl (AOp.mv (Arg.t 5)), guard := some (17, true) }, { dst := some 19, op := Sum.inl (AOp.mv (Arg.t 0)), guard := some (17, true) }, { dst := some 20, op := Sum.inr (ACallee.k 3 [Arg.t 18, Arg.c (AVal.bool true), Arg.t 19]), guard := some (17, true) },
    { dst := some 21, op := Sum.inl (AOp.bin BinOp.eql (Arg.t 20) (Arg.c (AVal.int IntKind.i64 (1)))), guard := some (17, true) }, { dst := some 22, op := Sum.inl (AOp.pick (Arg.t 17) (Arg.t 21) (Arg.c (AVal.bool false))), guard := none },
    { dst := some 23, op := Sum.inl (AOp.mv (Arg.t 22)), guard := none }, { dst := some 24, op := Sum.inl (AOp.mv (Arg.t 5)), guard := some (23, true) }, { dst := some 25, op := Sum.inr (ACallee.k 4 [Arg.t 24, Arg.c (AVal.bool false)]), guard := some (23, true) },
    { dst := some 26, op := Sum.inl (AOp.bin BinOp.eql (Arg.t 25) (Arg.c (AVal.int IntKind.i64 (0)))), guard := some (23, true) }, { dst := some 27, op := Sum.inl (AOp.pick (Arg.t 23) (Arg.t 26) (Arg.c (AVal.bool false))), guard := none },
    { dst := some 28, op := Sum.inl (AOp.mv (Arg.t 27)), guard := none }, { dst := some 29, op := Sum.inl (AOp.mv (Arg.t 6)), guard := some (28, true) }, { dst := some 30, op := Sum.inl (AOp.len LenT.sl (Arg.t 29)), guard := some (28, true) },
    { dst := some 31, op := Sum.inl (AOp.bin BinOp.eql (Arg.t 30) (Arg.c (AVal.int IntKind.i64 (0)))), guard := some (28, true) }, { dst := some 32, op := Sum.inl (AOp.pick (Arg.t 28) (Arg.t 31) (Arg.c (AVal.bool false))), guard := none },
    { dst := some 33, op := Sum.inl (AOp.mv (Arg.t 32)), guard := none }, { dst := some 34, op := Sum.inl (AOp.mv (Arg.t 7)), guard := some (33, true) }, { dst := some 35, op := Sum.inl (AOp.un UnOp.not (Arg.t 34)), guard := some (33, true) },
    { dst := some 36, op := Sum.inl (AOp.pick (Arg.t 33) (Arg.t 35) (Arg.c (AVal.bool false))), guard := none }, { dst := some 4, op := Sum.inl (AOp.mv (Arg.t 36)), guard := none }])
    ACode.ret)))))⟩

def ref22_line : AFun :=
  ⟨2, [Sum.inl 4], (.seq (.region none [{ dst := some 2, op := Sum.inl (AOp.box (Arg.t 0)), guard := none }, { dst := some 4, op := Sum.inl (AOp.mv (Arg.c AVal.nils)), guard := none }]) (.seq (.seq
    (.region none [{ dst := some 5, op := Sum.inl (AOp.mv (Arg.t 1)), guard := none }]) (.cond (Arg.t 5) (.seq (.region none [{ dst := some 6, op := Sum.inl (AOp.faddr 1 (Arg.t 2)), guard := none },
    { dst := some 7, op := Sum.inl (AOp.load none (Arg.t 6)), guard := none }, { dst := some 4, op := Sum.inl (AOp.mv (Arg.t 7)), guard := none }]) ACode.ret) ACode.skip)) (.seq
    (.region none [{ dst := some 8, op := Sum.inl (AOp.faddr 0 (Arg.t 2)), guard := none }, { dst := some 9, op := Sum.inl (AOp.load none (Arg.t 8)), guard := none }, { dst := some 4, op := Sum.inl (AOp.mv (Arg.t 9)), guard := none }])
    ACode.ret)))⟩

def ref22_with : AFun :=
  ⟨3, [Sum.inr (6, some 2)], (.seq (.region none [{ dst := some 3, op := Sum.inl (AOp.box (Arg.t 0)), guard := none }, { dst := some 6, op := Sum.inl (AOp.alloc [AVal.nils, AVal.nils]), guard := none }]) (.seq
    (.seq (.region none [{ dst := some 7, op := Sum.inl (AOp.mv (Arg.t 1)), guard := none }]) (.cond (Arg.t 7) (.region none [{ dst := some 8, op := Sum.inl (AOp.mv (Arg.t 2)), guard := none },
    { dst := some 9, op := Sum.inl (AOp.faddr 1 (Arg.t 3)), guard := none }, { dst := none, op := Sum.inl (AOp.store 1 (Arg.t 9) (Arg.t 8)), guard := none }]) (.region none [{ dst := some 10, op := Sum.inl (AOp.mv (Arg.t 2)), guard := none },
    { dst := some 11, op := Sum.inl (AOp.faddr 0 (Arg.t 3)), guard := none }, { dst := none, op := Sum.inl (AOp.store 1 (Arg.t 11) (Arg.t 10)), guard := none }]))) (.seq (.region none
    [{ dst := some 12, op := Sum.inl (AOp.load (some 2) (Arg.t 3)), guard := none }, { dst := none, op := Sum.inl (AOp.store 2 (Arg.t 6) (Arg.t 12)), guard := none }]) ACode.ret)))⟩

def ref22_Send : AFun :=
  ⟨3, [Sum.inr (6, some 2), Sum.inl 7], (.seq (.region none [{ dst := some 3, op := Sum.inl (AOp.box (Arg.t 0)), guard := none }, { dst := some 6, op := Sum.inl (AOp.alloc [AVal.nils, AVal.nils]), guard := none }, { dst := some 7, op := Sum.inl (AOp.mv (Arg.c (AVal.int IntKind.i64 (0)))), guard := none }])
    (.seq (.region none [{ dst := some 10, op := Sum.inl (AOp.load (some 2) (Arg.t 3)), guard := none }, { dst := some 11, op := Sum.inl (AOp.mv (Arg.t 1)), guard := none }, { dst := some 12, op := Sum.inr (ACallee.k 0 [Arg.t 10, Arg.t 11]), guard := none },
    { dst := some 8, op := Sum.inl (AOp.mv (Arg.t 12)), guard := none }]) (.seq (.seq (.region none [{ dst := some 13, op := Sum.inl (AOp.mv (Arg.t 2)), guard := none }, { dst := some 14, op := Sum.inl (AOp.len LenT.sl (Arg.t 13)), guard := none },
    { dst := some 15, op := Sum.inl (AOp.bin BinOp.eql (Arg.t 14) (Arg.c (AVal.int IntKind.i64 (0)))), guard := none }, { dst := some 16, op := Sum.inl (AOp.mv (Arg.t 15)), guard := none },
    { dst := some 17, op := Sum.inl (AOp.mv (Arg.t 2)), guard := some (16, false) }, { dst := some 18, op := Sum.inl (AOp.len LenT.sl (Arg.t 17)), guard := some (16, false) }, { dst := some 19, op := Sum.inl (AOp.bin BinOp.gtr (Arg.t 18) (Arg.c (AVal.int IntKind.i64 (600)))), guard := some (16, false) },
    { dst := some 20, op := Sum.inl (AOp.pick (Arg.t 16) (Arg.c (AVal.bool true)) (Arg.t 19)), guard := none }]) (.cond (Arg.t 20) (.seq (.region none [{ dst := some 21, op := Sum.inl (AOp.load (some 2) (Arg.t 3)), guard := none },
    { dst := none, op := Sum.inl (AOp.store 2 (Arg.t 6) (Arg.t 21)), guard := none }, { dst := some 7, op := Sum.inl (AOp.mv (Arg.c (AVal.int IntKind.i64 (4)))), guard := none }])
    ACode.ret) ACode.skip)) (.seq (.seq (.region none [{ dst := some 22, op := Sum.inl (AOp.mv (Arg.t 8)), guard := none }, { dst := some 23, op := Sum.inl (AOp.len LenT.sl (Arg.t 22)), guard := none },
    { dst := some 24, op := Sum.inl (AOp.bin BinOp.geq (Arg.t 23) (Arg.c (AVal.int IntKind.i64 (100)))), guard := none }]) (.cond (Arg.t 24) (.seq (.region none [{ dst := some 25, op := Sum.inl (AOp.load (some 2) (Arg.t 3)), guard := none },
    { dst := none, op := Sum.inl (AOp.store 2 (Arg.t 6) (Arg.t 25)), guard := none }, { dst := some 7, op := Sum.inl (AOp.mv (Arg.c (AVal.int IntKind.i64 (7)))), guard := none }])
    ACode.ret) ACode.skip)) (.seq (.region none [{ dst := some 26, op := Sum.inl (AOp.bslice false 1 0 [AVal.str []] []), guard := none }, { dst := some 27, op := Sum.inl (AOp.mv (Arg.t 8)), guard := none },
    { dst := some 28, op := Sum.inl (AOp.append 1 16 (Arg.t 26) (Arg.t 27)), guard := none }, { dst := some 9, op := Sum.inl (AOp.mv (Arg.t 28)), guard := none }]) (.seq (.region none
    [{ dst := some 29, op := Sum.inl (AOp.mv (Arg.t 9)), guard := none }, { dst := some 30, op := Sum.inl (AOp.mv (Arg.t 2)), guard := none }, { dst := some 31, op := Sum.inl (AOp.convBS (Arg.t 30)), guard := none },
    { dst := some 32, op := Sum.inl (AOp.bslice false 1 1 [AVal.str []] [(0, 1, Arg.t 31)]), guard := none }, { dst := some 33, op := Sum.inl (AOp.append 1 16 (Arg.t 29) (Arg.t 32)), guard := none },
    { dst := some 9, op := Sum.inl (AOp.mv (Arg.t 33)), guard := none }]) (.seq (.region none [{ dst := some 34, op := Sum.inl (AOp.load (some 2) (Arg.t 3)), guard := none }, { dst := some 35, op := Sum.inl (AOp.mv (Arg.t 1)), guard := none },
    { dst := some 36, op := Sum.inl (AOp.mv (Arg.t 9)), guard := none }, { dst := some 37, op := Sum.inr (ACallee.k 1 [Arg.t 34, Arg.t 35, Arg.t 36]), guard := none }, { dst := none, op := Sum.inl (AOp.store 2 (Arg.t 6) (Arg.t 37)), guard := none },
    { dst := some 7, op := Sum.inl (AOp.mv (Arg.c (AVal.int IntKind.i64 (0)))), guard := none }]) ACode.ret)))))))⟩

def ref22_Take : AFun :=
  ⟨3, [Sum.inr (6, some 2), Sum.inl 7, Sum.inl 8], (.seq (.region none [{ dst := some 3, op := Sum.inl (AOp.box (Arg.t 0)), guard := none }, { dst := some 6, op := Sum.inl (AOp.alloc [AVal.nils, AVal.nils]), guard := none }, { dst := some 7, op := Sum.inl (AOp.mv (Arg.c AVal.nils)), guard := none },
    { dst := some 8, op := Sum.inl (AOp.mv (Arg.c (AVal.bool false))), guard := none }]) (.seq (.region none [{ dst := some 16, op := Sum.inl (AOp.load (some 2) (Arg.t 3)), guard := none },
    { dst := some 17, op := Sum.inl (AOp.mv (Arg.t 1)), guard := none }, { dst := some 18, op := Sum.inr (ACallee.k 0 [Arg.t 16, Arg.t 17]), guard := none }, { dst := some 9, op := Sum.inl (AOp.mv (Arg.t 18)), guard := none }])
    (.seq (.seq (.region none [{ dst := some 19, op := Sum.inl (AOp.mv (Arg.t 9)), guard := none }, { dst := some 20, op := Sum.inl (AOp.len LenT.sl (Arg.t 19)), guard := none }, { dst := some 21, op := Sum.inl (AOp.bin BinOp.eql (Arg.t 20) (Arg.c (AVal.int IntKind.i64 (0)))), guard := none },
    { dst := some 22, op := Sum.inl (AOp.mv (Arg.t 21)), guard := none }, { dst := some 23, op := Sum.inl (AOp.mv (Arg.t 2)), guard := some (22, false) }, { dst := some 24, op := Sum.inl (AOp.bin BinOp.lss (Arg.t 23) (Arg.c (AVal.int IntKind.i64 (0)))), guard := some (22, false) },
    { dst := some 25, op := Sum.inl (AOp.pick (Arg.t 22) (Arg.c (AVal.bool true)) (Arg.t 24)), guard := none }]) (.cond (Arg.t 25) (.seq (.region none [{ dst := some 26, op := Sum.inl (AOp.load (some 2) (Arg.t 3)), guard := none },
    { dst := none, op := Sum.inl (AOp.store 2 (Arg.t 6) (Arg.t 26)), guard := none }, { dst := some 7, op := Sum.inl (AOp.mv (Arg.c AVal.nils)), guard := none }, { dst := some 8, op := Sum.inl (AOp.mv (Arg.c (AVal.bool false))), guard := none }])
    ACode.ret) ACode.skip)) (.seq (.region (some []) [{ dst := some 27, op := Sum.inl (AOp.mv (Arg.t 9)), guard := none }, { dst := some 28, op := Sum.inl (AOp.iaddrS 1 (Arg.t 27) (Arg.c (AVal.int IntKind.i64 (0)))), guard := none },
    { dst := some 29, op := Sum.inl (AOp.load none (Arg.t 28)), guard := none }, { dst := some 30, op := Sum.inl (AOp.mv (Arg.t 9)), guard := none }, { dst := some 31, op := Sum.inl (AOp.mv (Arg.t 9)), guard := none },
    { dst := some 32, op := Sum.inl (AOp.len LenT.sl (Arg.t 31)), guard := none }, { dst := some 33, op := Sum.inl (AOp.bin BinOp.sub (Arg.t 32) (Arg.c (AVal.int IntKind.i64 (1)))), guard := none },
    { dst := some 34, op := Sum.inl (AOp.iaddrS 1 (Arg.t 30) (Arg.t 33)), guard := none }, { dst := some 35, op := Sum.inl (AOp.load none (Arg.t 34)), guard := none }, { dst := some 10, op := Sum.inl (AOp.mv (Arg.t 29)), guard := none },
    { dst := some 11, op := Sum.inl (AOp.mv (Arg.t 35)), guard := none }]) (.seq (.region none [{ dst := some 36, op := Sum.inl (AOp.bslice false 1 0 [AVal.str []] []), guard := none },
    { dst := some 37, op := Sum.inl (AOp.mv (Arg.t 9)), guard := none }, { dst := some 38, op := Sum.inl (AOp.slcS 1 (Arg.t 37) (some (Arg.c (AVal.int IntKind.i64 (1)))) none), guard := none },
    { dst := some 39, op := Sum.inl (AOp.append 1 16 (Arg.t 36) (Arg.t 38)), guard := none }, { dst := some 12, op := Sum.inl (AOp.mv (Arg.t 39)), guard := none }]) (.seq (.seq
    (.region none [{ dst := some 40, op := Sum.inl (AOp.mv (Arg.t 2)), guard := none }]) (.block 0 (.seq (.region none [{ dst := some 42, op := Sum.inl (AOp.bin BinOp.eql (Arg.t 40) (Arg.c (AVal.int IntKind.i64 (0)))), guard := none },
    { dst := some 41, op := Sum.inl (AOp.mv (Arg.t 42)), guard := none }]) (.cond (Arg.t 41) (.seq (.region none [{ dst := some 43, op := Sum.inl (AOp.load (some 2) (Arg.t 3)), guard := none },
    { dst := some 44, op := Sum.inl (AOp.mv (Arg.t 1)), guard := none }, { dst := some 45, op := Sum.inl (AOp.mv (Arg.t 12)), guard := none }, { dst := some 46, op := Sum.inr (ACallee.k 1 [Arg.t 43, Arg.t 44, Arg.t 45]), guard := none },
    { dst := some 47, op := Sum.inl (AOp.mv (Arg.t 10)), guard := none }, { dst := some 48, op := Sum.inl (AOp.convSB (Arg.t 47)), guard := none }, { dst := none, op := Sum.inl (AOp.store 2 (Arg.t 6) (Arg.t 46)), guard := none },
    { dst := some 7, op := Sum.inl (AOp.mv (Arg.t 48)), guard := none }, { dst := some 8, op := Sum.inl (AOp.mv (Arg.c (AVal.bool true))), guard := none }]) ACode.ret) (.seq (.region
    none [{ dst := some 50, op := Sum.inl (AOp.bin BinOp.eql (Arg.t 40) (Arg.c (AVal.int IntKind.i64 (1)))), guard := none }, { dst := some 49, op := Sum.inl (AOp.mv (Arg.t 50)), guard := none }])
    (.cond (Arg.t 49) (.seq (.region none [{ dst := some 51, op := Sum.inl (AOp.load (some 2) (Arg.t 3)), guard := none }, { dst := some 52, op := Sum.inl (AOp.mv (Arg.t 1)), guard := none },
    { dst := some 53, op := Sum.inl (AOp.mv (Arg.t 12)), guard := none }, { dst := some 54, op := Sum.inr (ACallee.k 1 [Arg.t 51, Arg.t 52, Arg.t 53]), guard := none }, { dst := none, op := Sum.inl (AOp.store 2 (Arg.t 6) (Arg.t 54)), guard := none },
    { dst := some 7, op := Sum.inl (AOp.mv (Arg.c AVal.nils)), guard := none }, { dst := some 8, op := Sum.inl (AOp.mv (Arg.c (AVal.bool false))), guard := none }]) ACode.ret) (.seq
    (.region none [{ dst := some 56, op := Sum.inl (AOp.bin BinOp.eql (Arg.t 40) (Arg.c (AVal.int IntKind.i64 (2)))), guard := none }, { dst := some 55, op := Sum.inl (AOp.mv (Arg.t 56)), guard := none }])
    (.cond (Arg.t 55) (.seq (.region none [{ dst := some 57, op := Sum.inl (AOp.mv (Arg.t 12)), guard := none }, { dst := some 58, op := Sum.inl (AOp.mv (Arg.t 10)), guard := none }, { dst := some 59, op := Sum.inl (AOp.bslice false 1 1 [AVal.str []] [(0, 1, Arg.t 58)]), guard := none },
    { dst := some 60, op := Sum.inl (AOp.append 1 16 (Arg.t 57) (Arg.t 59)), guard := none }, { dst := some 12, op := Sum.inl (AOp.mv (Arg.t 60)), guard := none }]) (.seq (.region none
    [{ dst := some 61, op := Sum.inl (AOp.load (some 2) (Arg.t 3)), guard := none }, { dst := some 62, op := Sum.inl (AOp.mv (Arg.t 1)), guard := none }, { dst := some 63, op := Sum.inl (AOp.mv (Arg.t 12)), guard := none },
    { dst := some 64, op := Sum.inr (ACallee.k 1 [Arg.t 61, Arg.t 62, Arg.t 63]), guard := none }, { dst := some 65, op := Sum.inl (AOp.mv (Arg.t 10)), guard := none }, { dst := some 66, op := Sum.inl (AOp.convSB (Arg.t 65)), guard := none },
    { dst := none, op := Sum.inl (AOp.store 2 (Arg.t 6) (Arg.t 64)), guard := none }, { dst := some 7, op := Sum.inl (AOp.mv (Arg.t 66)), guard := none }, { dst := some 8, op := Sum.inl (AOp.mv (Arg.c (AVal.bool true))), guard := none }])
    ACode.ret)) (.seq (.region none [{ dst := some 68, op := Sum.inl (AOp.bin BinOp.eql (Arg.t 40) (Arg.c (AVal.int IntKind.i64 (3)))), guard := none }, { dst := some 67, op := Sum.inl (AOp.mv (Arg.t 68)), guard := none }])
    (.cond (Arg.t 67) (.seq (.region none [{ dst := some 69, op := Sum.inl (AOp.bslice false 1 0 [AVal.str []] []), guard := none }, { dst := some 70, op := Sum.inl (AOp.mv (Arg.t 9)), guard := none },
    { dst := some 71, op := Sum.inl (AOp.mv (Arg.t 9)), guard := none }, { dst := some 72, op := Sum.inl (AOp.len LenT.sl (Arg.t 71)), guard := none }, { dst := some 73, op := Sum.inl (AOp.bin BinOp.sub (Arg.t 72) (Arg.c (AVal.int IntKind.i64 (1)))), guard := none },
    { dst := some 74, op := Sum.inl (AOp.slcS 1 (Arg.t 70) none (some (Arg.t 73))), guard := none }, { dst := some 75, op := Sum.inl (AOp.append 1 16 (Arg.t 69) (Arg.t 74)), guard := none },
    { dst := some 13, op := Sum.inl (AOp.mv (Arg.t 75)), guard := none }]) (.seq (.region none [{ dst := some 76, op := Sum.inl (AOp.load (some 2) (Arg.t 3)), guard := none }, { dst := some 77, op := Sum.inl (AOp.mv (Arg.t 1)), guard := none },
    { dst := some 78, op := Sum.inl (AOp.mv (Arg.t 13)), guard := none }, { dst := some 79, op := Sum.inr (ACallee.k 1 [Arg.t 76, Arg.t 77, Arg.t 78]), guard := none }, { dst := some 80, op := Sum.inl (AOp.mv (Arg.t 11)), guard := none },
    { dst := some 81, op := Sum.inl (AOp.convSB (Arg.t 80)), guard := none }, { dst := none, op := Sum.inl (AOp.store 2 (Arg.t 6) (Arg.t 79)), guard := none }, { dst := some 7, op := Sum.inl (AOp.mv (Arg.t 81)), guard := none },
    { dst := some 8, op := Sum.inl (AOp.mv (Arg.c (AVal.bool true))), guard := none }]) ACode.ret)) ACode.skip)))))))))) (.seq (.region none [{ dst := some 82, op := Sum.inl (AOp.mv (Arg.t 10)), guard := none },
    { dst := some 83, op := Sum.inl (AOp.convSB (Arg.t 82)), guard := none }, { dst := some 14, op := Sum.inl (AOp.mv (Arg.t 83)), guard := none }]) (.seq (.region none [{ dst := some 84, op := Sum.inl (AOp.mv (Arg.t 2)), guard := none },
    { dst := some 85, op := Sum.inl (AOp.bin BinOp.sub (Arg.t 84) (Arg.c (AVal.int IntKind.i64 (4)))), guard := none }, { dst := some 86, op := Sum.inl (AOp.mv (Arg.t 14)), guard := none },
    { dst := some 87, op := Sum.inl (AOp.len LenT.sl (Arg.t 86)), guard := none }, { dst := some 88, op := Sum.inl (AOp.bin BinOp.rem (Arg.t 85) (Arg.t 87)), guard := none }, { dst := some 15, op := Sum.inl (AOp.mv (Arg.t 88)), guard := none }])
    (.seq (.region none [{ dst := some 89, op := Sum.inl (AOp.mv (Arg.t 14)), guard := none }, { dst := some 90, op := Sum.inl (AOp.mv (Arg.t 15)), guard := none }, { dst := some 91, op := Sum.inl (AOp.mv (Arg.t 14)), guard := none },
    { dst := some 92, op := Sum.inl (AOp.mv (Arg.t 15)), guard := none }, { dst := some 93, op := Sum.inl (AOp.iaddrS 1 (Arg.t 91) (Arg.t 92)), guard := none }, { dst := some 94, op := Sum.inl (AOp.load none (Arg.t 93)), guard := none },
    { dst := some 95, op := Sum.inl (AOp.bin BinOp.xor (Arg.t 94) (Arg.c (AVal.int IntKind.u8 (1)))), guard := none }, { dst := some 96, op := Sum.inl (AOp.iaddrS 1 (Arg.t 89) (Arg.t 90)), guard := none },
    { dst := none, op := Sum.inl (AOp.store 1 (Arg.t 96) (Arg.t 95)), guard := none }]) (.seq (.region none [{ dst := some 97, op := Sum.inl (AOp.load (some 2) (Arg.t 3)), guard := none },
    { dst := some 98, op := Sum.inl (AOp.mv (Arg.t 1)), guard := none }, { dst := some 99, op := Sum.inl (AOp.mv (Arg.t 12)), guard := none }, { dst := some 100, op := Sum.inr (ACallee.k 1 [Arg.t 97, Arg.t 98, Arg.t 99]), guard := none },
    { dst := some 101, op := Sum.inl (AOp.mv (Arg.t 14)), guard := none }, { dst := none, op := Sum.inl (AOp.store 2 (Arg.t 6) (Arg.t 100)), guard := none }, { dst := some 7, op := Sum.inl (AOp.mv (Arg.t 101)), guard := none },
    { dst := some 8, op := Sum.inl (AOp.mv (Arg.c (AVal.bool true))), guard := none }]) ACode.ret))))))))))⟩

def ref22_Waits : AFun :=
  ⟨2, [Sum.inl 4], (.seq (.region none [{ dst := some 2, op := Sum.inl (AOp.box (Arg.t 0)), guard := none }, { dst := some 4, op := Sum.inl (AOp.mv (Arg.c (AVal.int IntKind.i64 (0)))), guard := none }])
    (.seq (.region none [{ dst := some 5, op := Sum.inl (AOp.load (some 2) (Arg.t 2)), guard := none }, { dst := some 6, op := Sum.inl (AOp.mv (Arg.t 1)), guard := none }, { dst := some 7, op := Sum.inr (ACallee.k 0 [Arg.t 5, Arg.t 6]), guard := none },
    { dst := some 8, op := Sum.inl (AOp.len LenT.sl (Arg.t 7)), guard := none }, { dst := some 4, op := Sum.inl (AOp.mv (Arg.t 8)), guard := none }]) ACode.ret))⟩

def NetPlays_l0 : ACode :=
  .seq (.seq (.region none [{ dst := some 62, op := Sum.inl (AOp.mv (Arg.t 14)), guard := none }, { dst := some 63, op := Sum.inl (AOp.mv (Arg.t 13)), guard := none }, { dst := some 64, op := Sum.inl (AOp.len LenT.sl (Arg.t 63)), guard := none },
    { dst := some 65, op := Sum.inl (AOp.bin BinOp.lss (Arg.t 62) (Arg.t 64)), guard := none }]) (.cond (Arg.t 65) ACode.skip (.exit 3))) (.seq (.block 4 (.region none [{ dst := some 68, op := Sum.inl (AOp.mv (Arg.t 13)), guard := none },
    { dst := some 69, op := Sum.inl (AOp.mv (Arg.t 14)), guard := none }, { dst := some 70, op := Sum.inl (AOp.iaddrS 1 (Arg.t 68) (Arg.t 69)), guard := none }, { dst := none, op := Sum.inl (AOp.store 1 (Arg.t 70) (Arg.c (AVal.int IntKind.u8 (5)))), guard := none }]))
    (.region none [{ dst := some 66, op := Sum.inl (AOp.mv (Arg.t 14)), guard := none }, { dst := some 67, op := Sum.inl (AOp.bin BinOp.add (Arg.t 66) (Arg.c (AVal.int IntKind.i64 (1)))), guard := none },
    { dst := some 14, op := Sum.inl (AOp.mv (Arg.t 67)), guard := none }]))
def NetPlays_s1 : ACode :=
  .block 3 (.loop NetPlays_l0)
def NetPlays_c2 : ACode :=
  .seq (.region none [{ dst := some 44, op := Sum.inl (AOp.bslice false 1 0 [AVal.int IntKind.u8 (0)] []), guard := none }, { dst := some 45, op := Sum.inl (AOp.faddr 3 (Arg.t 6)), guard := none },
    { dst := some 46, op := Sum.inl (AOp.load none (Arg.t 45)), guard := none }, { dst := some 47, op := Sum.inl (AOp.append 1 1 (Arg.t 44) (Arg.t 46)), guard := none }, { dst := some 13, op := Sum.inl (AOp.mv (Arg.t 47)), guard := none }])
    (.seq (.region none [{ dst := some 48, op := Sum.inl (AOp.mv (Arg.t 3)), guard := none }, { dst := some 49, op := Sum.inl (AOp.faddr 2 (Arg.t 6)), guard := none }, { dst := some 50, op := Sum.inl (AOp.load none (Arg.t 49)), guard := none },
    { dst := some 51, op := Sum.inl (AOp.mv (Arg.t 13)), guard := none }, { dst := some 52, op := Sum.inr (ACallee.k 2 [Arg.t 48, Arg.t 50, Arg.t 51]), guard := none }, { dst := some 7, op := Sum.inl (AOp.mv (Arg.t 52)), guard := none }])
    (.seq (.region none [{ dst := some 54, op := Sum.inl (AOp.load (some 2) (Arg.t 4)), guard := none }, { dst := some 55, op := Sum.inl (AOp.faddr 2 (Arg.t 6)), guard := none }, { dst := some 56, op := Sum.inl (AOp.load none (Arg.t 55)), guard := none },
    { dst := some 57, op := Sum.inl (AOp.faddr 3 (Arg.t 6)), guard := none }, { dst := some 58, op := Sum.inl (AOp.load none (Arg.t 57)), guard := none }, { dst := some 59, op := Sum.inr (ACallee.k 3 [Arg.t 54, Arg.t 56, Arg.t 58]), guard := none },
    { dst := some 53, op := Sum.inl (AOp.mv (Arg.t 59)), guard := none }, { dst := some 60, op := Sum.inl (AOp.ext 0 (Arg.t 53)), guard := none }, { dst := some 61, op := Sum.inl (AOp.ext 1 (Arg.t 53)), guard := none },
    { dst := none, op := Sum.inl (AOp.store 2 (Arg.t 4) (Arg.t 60)), guard := none }, { dst := some 8, op := Sum.inl (AOp.mv (Arg.t 61)), guard := none }]) (.seq (.region none [{ dst := some 14, op := Sum.inl (AOp.mv (Arg.c (AVal.int IntKind.i64 (0)))), guard := none }])
    NetPlays_s1)))
def NetPlays_b3 : ACode :=
  .block 2 (.seq (.region none [{ dst := some 43, op := Sum.inl (AOp.bin BinOp.eql (Arg.t 41) (Arg.c (AVal.int IntKind.i64 (1)))), guard := none }, { dst := some 42, op := Sum.inl (AOp.mv (Arg.t 43)), guard := none }])
    (.cond (Arg.t 42) NetPlays_c2 (.seq (.region none [{ dst := some 72, op := Sum.inl (AOp.bin BinOp.eql (Arg.t 41) (Arg.c (AVal.int IntKind.i64 (2)))), guard := none }, { dst := some 71, op := Sum.inl (AOp.mv (Arg.t 72)), guard := none }])
    (.cond (Arg.t 71) (.seq (.region none [{ dst := some 74, op := Sum.inl (AOp.mv (Arg.t 3)), guard := none }, { dst := some 75, op := Sum.inl (AOp.faddr 2 (Arg.t 6)), guard := none },
    { dst := some 76, op := Sum.inl (AOp.load none (Arg.t 75)), guard := none }, { dst := some 77, op := Sum.inl (AOp.faddr 1 (Arg.t 6)), guard := none }, { dst := some 78, op := Sum.inl (AOp.load none (Arg.t 77)), guard := none },
    { dst := some 79, op := Sum.inr (ACallee.k 4 [Arg.t 74, Arg.t 76, Arg.t 78]), guard := none }, { dst := some 73, op := Sum.inl (AOp.mv (Arg.t 79)), guard := none }, { dst := some 80, op := Sum.inl (AOp.ext 0 (Arg.t 73)), guard := none },
    { dst := some 81, op := Sum.inl (AOp.ext 1 (Arg.t 73)), guard := none }, { dst := some 9, op := Sum.inl (AOp.mv (Arg.t 80)), guard := none }, { dst := some 11, op := Sum.inl (AOp.mv (Arg.t 81)), guard := none }])
    (.region none [{ dst := some 83, op := Sum.inl (AOp.load (some 2) (Arg.t 4)), guard := none }, { dst := some 84, op := Sum.inl (AOp.faddr 2 (Arg.t 6)), guard := none }, { dst := some 85, op := Sum.inl (AOp.load none (Arg.t 84)), guard := none },
    { dst := some 86, op := Sum.inl (AOp.faddr 1 (Arg.t 6)), guard := none }, { dst := some 87, op := Sum.inl (AOp.load none (Arg.t 86)), guard := none }, { dst := some 88, op := Sum.inr (ACallee.k 5 [Arg.t 83, Arg.t 85, Arg.t 87]), guard := none },
    { dst := some 82, op := Sum.inl (AOp.mv (Arg.t 88)), guard := none }, { dst := some 89, op := Sum.inl (AOp.ext 0 (Arg.t 82)), guard := none }, { dst := some 90, op := Sum.inl (AOp.ext 1 (Arg.t 82)), guard := none },
    { dst := some 91, op := Sum.inl (AOp.ext 2 (Arg.t 82)), guard := none }, { dst := none, op := Sum.inl (AOp.store 2 (Arg.t 4) (Arg.t 89)), guard := none }, { dst := some 10, op := Sum.inl (AOp.mv (Arg.t 90)), guard := none },
    { dst := some 12, op := Sum.inl (AOp.mv (Arg.t 91)), guard := none }])) (.seq (.region none [{ dst := some 93, op := Sum.inl (AOp.bin BinOp.eql (Arg.t 41) (Arg.c (AVal.int IntKind.i64 (3)))), guard := none },
    { dst := some 92, op := Sum.inl (AOp.mv (Arg.t 93)), guard := none }]) (.cond (Arg.t 92) (.seq (.region none [{ dst := some 94, op := Sum.inl (AOp.mv (Arg.t 3)), guard := none }, { dst := some 95, op := Sum.inr (ACallee.k 6 [Arg.t 94]), guard := none }])
    (.region none [{ dst := some 96, op := Sum.inl (AOp.build [AVal.nils, AVal.nils] []), guard := none }, { dst := none, op := Sum.inl (AOp.store 2 (Arg.t 4) (Arg.t 96)), guard := none }]))
    ACode.skip))))))
def NetPlays_l4 : ACode :=
  .seq (.seq (.region none [{ dst := some 126, op := Sum.inl (AOp.mv (Arg.t 15)), guard := none }, { dst := some 127, op := Sum.inl (AOp.mv (Arg.t 9)), guard := none }, { dst := some 128, op := Sum.inl (AOp.len LenT.sl (Arg.t 127)), guard := none },
    { dst := some 129, op := Sum.inl (AOp.bin BinOp.lss (Arg.t 126) (Arg.t 128)), guard := none }]) (.cond (Arg.t 129) ACode.skip (.exit 5))) (.seq (.block 6 (.region none [{ dst := some 132, op := Sum.inl (AOp.mv (Arg.t 9)), guard := none },
    { dst := some 133, op := Sum.inl (AOp.mv (Arg.t 15)), guard := none }, { dst := some 134, op := Sum.inl (AOp.iaddrS 1 (Arg.t 132) (Arg.t 133)), guard := none }, { dst := none, op := Sum.inl (AOp.store 1 (Arg.t 134) (Arg.c (AVal.int IntKind.u8 (9)))), guard := none }]))
    (.region none [{ dst := some 130, op := Sum.inl (AOp.mv (Arg.t 15)), guard := none }, { dst := some 131, op := Sum.inl (AOp.bin BinOp.add (Arg.t 130) (Arg.c (AVal.int IntKind.i64 (1)))), guard := none },
    { dst := some 15, op := Sum.inl (AOp.mv (Arg.t 131)), guard := none }]))
def NetPlays_s5 : ACode :=
  .block 5 (.loop NetPlays_l4)
def NetPlays_t6 : ACode :=
  .seq (.seq (.region none [{ dst := some 40, op := Sum.inl (AOp.faddr 0 (Arg.t 6)), guard := none }, { dst := some 41, op := Sum.inl (AOp.load none (Arg.t 40)), guard := none }])
    NetPlays_b3) (.seq (.seq (.region (some [(18, [17]), (25, [24])]) [{ dst := some 97, op := Sum.inl (AOp.mv (Arg.t 7)), guard := none }, { dst := some 98, op := Sum.inl (AOp.mv (Arg.t 8)), guard := none },
    { dst := some 99, op := Sum.inl (AOp.bin BinOp.neq (Arg.t 97) (Arg.t 98)), guard := none }, { dst := some 100, op := Sum.inl (AOp.mv (Arg.t 99)), guard := none }, { dst := some 101, op := Sum.inl (AOp.mv (Arg.t 9)), guard := some (100, false) },
    { dst := some 102, op := Sum.inl (AOp.convBS (Arg.t 101)), guard := some (100, false) }, { dst := some 103, op := Sum.inl (AOp.mv (Arg.t 10)), guard := some (100, false) }, { dst := some 104, op := Sum.inl (AOp.convBS (Arg.t 103)), guard := some (100, false) },
    { dst := some 105, op := Sum.inl (AOp.bin BinOp.neq (Arg.t 102) (Arg.t 104)), guard := some (100, false) }, { dst := some 106, op := Sum.inl (AOp.pick (Arg.t 100) (Arg.c (AVal.bool true)) (Arg.t 105)), guard := none },
    { dst := some 107, op := Sum.inl (AOp.mv (Arg.t 106)), guard := none }, { dst := some 108, op := Sum.inl (AOp.mv (Arg.t 11)), guard := some (107, false) }, { dst := some 109, op := Sum.inl (AOp.mv (Arg.t 12)), guard := some (107, false) },
    { dst := some 110, op := Sum.inl (AOp.eq true EqT.bool (Arg.t 108) (Arg.t 109)), guard := some (107, false) }, { dst := some 111, op := Sum.inl (AOp.pick (Arg.t 107) (Arg.c (AVal.bool true)) (Arg.t 110)), guard := none },
    { dst := some 112, op := Sum.inl (AOp.mv (Arg.t 111)), guard := none }, { dst := some 113, op := Sum.inl (AOp.mv (Arg.t 3)), guard := some (112, false) }, { dst := some 114, op := Sum.inr (ACallee.k 7 [Arg.t 113, Arg.c (AVal.bool false)]), guard := some (112, false) },
    { dst := some 115, op := Sum.inl (AOp.load (some 2) (Arg.t 4)), guard := some (112, false) }, { dst := some 116, op := Sum.inr (ACallee.k 8 [Arg.t 115, Arg.c (AVal.bool false)]), guard := some (112, false) },
    { dst := some 117, op := Sum.inl (AOp.bin BinOp.neq (Arg.t 114) (Arg.t 116)), guard := some (112, false) }, { dst := some 118, op := Sum.inl (AOp.pick (Arg.t 112) (Arg.c (AVal.bool true)) (Arg.t 117)), guard := none },
    { dst := some 119, op := Sum.inl (AOp.mv (Arg.t 118)), guard := none }, { dst := some 120, op := Sum.inl (AOp.mv (Arg.t 3)), guard := some (119, false) }, { dst := some 121, op := Sum.inr (ACallee.k 7 [Arg.t 120, Arg.c (AVal.bool true)]), guard := some (119, false) },
    { dst := some 122, op := Sum.inl (AOp.load (some 2) (Arg.t 4)), guard := some (119, false) }, { dst := some 123, op := Sum.inr (ACallee.k 8 [Arg.t 122, Arg.c (AVal.bool true)]), guard := some (119, false) },
    { dst := some 124, op := Sum.inl (AOp.bin BinOp.neq (Arg.t 121) (Arg.t 123)), guard := some (119, false) }, { dst := some 125, op := Sum.inl (AOp.pick (Arg.t 119) (Arg.c (AVal.bool true)) (Arg.t 124)), guard := none }])
    (.cond (Arg.t 125) (.seq (.region none [{ dst := some 2, op := Sum.inl (AOp.mv (Arg.c (AVal.bool false))), guard := none }]) ACode.ret) ACode.skip)) (.seq (.region none [{ dst := some 15, op := Sum.inl (AOp.mv (Arg.c (AVal.int IntKind.i64 (0)))), guard := none }])
    NetPlays_s5))
def NetPlays_b7 : ACode :=
  .block 1 (.seq (.region none [{ dst := some 30, op := Sum.inl (AOp.mv (Arg.t 0)), guard := none }, { dst := some 31, op := Sum.inl (AOp.mv (Arg.t 5)), guard := none }, { dst := some 32, op := Sum.inl (AOp.iaddrS 4 (Arg.t 30) (Arg.t 31)), guard := none },
    { dst := some 33, op := Sum.inl (AOp.load (some 4) (Arg.t 32)), guard := none }, { dst := some 6, op := Sum.inl (AOp.alloc [AVal.int IntKind.i64 (0), AVal.int IntKind.i64 (0), AVal.bool false, AVal.nils]), guard := none },
    { dst := none, op := Sum.inl (AOp.store 4 (Arg.t 6) (Arg.t 33)), guard := none }]) (.seq (.seq (.region none [{ dst := some 34, op := Sum.inl (AOp.faddr 3 (Arg.t 6)), guard := none },
    { dst := some 35, op := Sum.inl (AOp.load none (Arg.t 34)), guard := none }, { dst := some 36, op := Sum.inl (AOp.len LenT.sl (Arg.t 35)), guard := none }, { dst := some 37, op := Sum.inl (AOp.bin BinOp.gtr (Arg.t 36) (Arg.c (AVal.int IntKind.i64 (700)))), guard := none }])
    (.cond (Arg.t 37) (.exit 1) ACode.skip)) (.seq (.region none [{ dst := some 7, op := Sum.inl (AOp.mv (Arg.c (AVal.int IntKind.i64 (0)))), guard := none }, { dst := some 8, op := Sum.inl (AOp.mv (Arg.c (AVal.int IntKind.i64 (0)))), guard := none }])
    (.seq (.region none [{ dst := some 38, op := Sum.inl (AOp.bslice false 1 0 [AVal.int IntKind.u8 (0)] []), guard := none }, { dst := some 39, op := Sum.inl (AOp.bslice false 1 0 [AVal.int IntKind.u8 (0)] []), guard := none },
    { dst := some 9, op := Sum.inl (AOp.mv (Arg.t 38)), guard := none }, { dst := some 10, op := Sum.inl (AOp.mv (Arg.t 39)), guard := none }]) (.seq (.region none [{ dst := some 11, op := Sum.inl (AOp.mv (Arg.c (AVal.bool false))), guard := none },
    { dst := some 12, op := Sum.inl (AOp.mv (Arg.c (AVal.bool false))), guard := none }]) NetPlays_t6)))))
def NetPlays_t8 : ACode :=
  .seq NetPlays_b7 (.region none [{ dst := some 28, op := Sum.inl (AOp.mv (Arg.t 5)), guard := none }, { dst := some 29, op := Sum.inl (AOp.bin BinOp.add (Arg.t 28) (Arg.c (AVal.int IntKind.i64 (1)))), guard := none },
    { dst := some 5, op := Sum.inl (AOp.mv (Arg.t 29)), guard := none }])
def NetPlays_l9 : ACode :=
  .seq (.seq (.region none [{ dst := some 20, op := Sum.inl (AOp.mv (Arg.t 5)), guard := none }, { dst := some 21, op := Sum.inl (AOp.mv (Arg.t 0)), guard := none }, { dst := some 22, op := Sum.inl (AOp.len LenT.sl (Arg.t 21)), guard := none },
    { dst := some 23, op := Sum.inl (AOp.bin BinOp.lss (Arg.t 20) (Arg.t 22)), guard := none }, { dst := some 24, op := Sum.inl (AOp.mv (Arg.t 23)), guard := none }, { dst := some 25, op := Sum.inl (AOp.mv (Arg.t 5)), guard := some (24, true) },
    { dst := some 26, op := Sum.inl (AOp.bin BinOp.lss (Arg.t 25) (Arg.c (AVal.int IntKind.i64 (150)))), guard := some (24, true) }, { dst := some 27, op := Sum.inl (AOp.pick (Arg.t 24) (Arg.t 26) (Arg.c (AVal.bool false))), guard := none }])
    (.cond (Arg.t 27) ACode.skip (.exit 0))) NetPlays_t8
def NetPlays_s10 : ACode :=
  .block 0 (.loop NetPlays_l9)
def NetPlays_t11 : ACode :=
  .seq (.seq (.region none [{ dst := some 5, op := Sum.inl (AOp.mv (Arg.c (AVal.int IntKind.i64 (0)))), guard := none }]) NetPlays_s10) (.seq (.region none [{ dst := some 135, op := Sum.inr (ACallee.k 1 []), guard := none },
    { dst := some 2, op := Sum.inl (AOp.mv (Arg.t 135)), guard := none }]) ACode.ret)
def NetPlays : AFun :=
  ⟨1, [Sum.inl 2], (.seq (.region none [{ dst := some 2, op := Sum.inl (AOp.mv (Arg.c (AVal.bool false))), guard := none }]) (.seq (.region none [{ dst := some 16, op := Sum.inr (ACallee.k 0 []), guard := none },
    { dst := some 3, op := Sum.inl (AOp.mv (Arg.t 16)), guard := none }]) (.seq (.seq (.region none [{ dst := some 17, op := Sum.inl (AOp.mv (Arg.t 3)), guard := none }, { dst := some 18, op := Sum.inl (AOp.eq false EqT.ptr (Arg.t 17) (Arg.c AVal.nilp)), guard := none }])
    (.cond (Arg.t 18) (.seq (.region none [{ dst := some 2, op := Sum.inl (AOp.mv (Arg.c (AVal.bool false))), guard := none }]) ACode.ret) ACode.skip)) (.seq (.region none [{ dst := some 19, op := Sum.inl (AOp.build [AVal.nils, AVal.nils] []), guard := none },
    { dst := some 4, op := Sum.inl (AOp.alloc [AVal.nils, AVal.nils]), guard := none }, { dst := none, op := Sum.inl (AOp.store 2 (Arg.t 4) (Arg.t 19)), guard := none }])
    NetPlays_t11))))⟩

end Am.Ir
