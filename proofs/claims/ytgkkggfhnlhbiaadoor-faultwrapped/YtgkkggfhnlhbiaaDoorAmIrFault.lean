/- The machine's code of the functions, printed by a program of this session; each is checked against the model's. -/
import Derived.Test.YtgkkggfhnlhbiaaDoorAmFun
set_option linter.all false
namespace Am.Ir
open Am Go
set_option maxRecDepth 100000
def l03_small_l0 : ACode :=
  .seq (.seq (.region none [{ dst := some 6, op := Sum.inl (AOp.mv (Arg.t 5)), guard := none }, { dst := some 7, op := Sum.inl (AOp.mv (Arg.t 1)), guard := none }, { dst := some 8, op := Sum.inl (AOp.len LenT.sl (Arg.t 7)), guard := none },
    { dst := some 9, op := Sum.inl (AOp.bin BinOp.lss (Arg.t 6) (Arg.t 8)), guard := none }]) (.cond (Arg.t 9) ACode.skip (.exit 0))) (.seq (.block 1 (.seq (.region none [{ dst := some 12, op := Sum.inl (AOp.mv (Arg.t 5)), guard := none },
    { dst := some 13, op := Sum.inl (AOp.bin BinOp.eql (Arg.t 12) (Arg.c (AVal.int IntKind.i64 (20)))), guard := none }, { dst := some 14, op := Sum.inl (AOp.mv (Arg.t 13)), guard := none },
    { dst := some 15, op := Sum.inl (AOp.mv (Arg.t 1)), guard := some (14, false) }, { dst := some 16, op := Sum.inl (AOp.mv (Arg.t 5)), guard := some (14, false) }, { dst := some 17, op := Sum.inl (AOp.iaddrS 1 (Arg.t 15) (Arg.t 16)), guard := some (14, false) },
    { dst := some 18, op := Sum.inl (AOp.load none (Arg.t 17)), guard := some (14, false) }, { dst := some 19, op := Sum.inl (AOp.len LenT.str (Arg.t 18)), guard := some (14, false) },
    { dst := some 20, op := Sum.inl (AOp.bin BinOp.gtr (Arg.t 19) (Arg.c (AVal.int IntKind.i64 (20)))), guard := some (14, false) }, { dst := some 21, op := Sum.inl (AOp.pick (Arg.t 14) (Arg.c (AVal.bool true)) (Arg.t 20)), guard := none }])
    (.cond (Arg.t 21) (.seq (.region none [{ dst := some 4, op := Sum.inl (AOp.mv (Arg.c (AVal.bool false))), guard := none }]) ACode.ret) ACode.skip))) (.region none [{ dst := some 10, op := Sum.inl (AOp.mv (Arg.t 5)), guard := none },
    { dst := some 11, op := Sum.inl (AOp.bin BinOp.add (Arg.t 10) (Arg.c (AVal.int IntKind.i64 (1)))), guard := none }, { dst := some 5, op := Sum.inl (AOp.mv (Arg.t 11)), guard := none }]))
def l03_small_s1 : ACode :=
  .block 0 (.loop l03_small_l0)
def l03_small_t2 : ACode :=
  .seq (.seq (.region none [{ dst := some 5, op := Sum.inl (AOp.mv (Arg.c (AVal.int IntKind.i64 (0)))), guard := none }]) l03_small_s1) (.seq (.region none [{ dst := some 22, op := Sum.inl (AOp.mv (Arg.t 0)), guard := none },
    { dst := some 23, op := Sum.inl (AOp.len LenT.str (Arg.t 22)), guard := none }, { dst := some 24, op := Sum.inl (AOp.bin BinOp.leq (Arg.t 23) (Arg.c (AVal.int IntKind.i64 (20)))), guard := none },
    { dst := some 4, op := Sum.inl (AOp.mv (Arg.t 24)), guard := none }]) ACode.ret)
def l03_small : AFun :=
  ⟨2, [Sum.inl 4], (.seq (.region none [{ dst := some 4, op := Sum.inl (AOp.mv (Arg.c (AVal.bool false))), guard := none }]) l03_small_t2), false⟩

def fault_Of : AFun :=
  ⟨2, [Sum.inl 4], (.seq (.region none [{ dst := some 4, op := Sum.inl (AOp.mv (Arg.c AVal.nilp)), guard := none }]) (.seq (.seq (.region none [{ dst := some 5, op := Sum.inl (AOp.mv (Arg.t 1)), guard := none },
    { dst := some 6, op := Sum.inl (AOp.bin BinOp.eql (Arg.t 5) (Arg.c (AVal.int IntKind.i64 (0)))), guard := none }]) (.cond (Arg.t 6) (.seq (.region none [{ dst := some 4, op := Sum.inl (AOp.mv (Arg.c AVal.nilp)), guard := none }])
    ACode.ret) ACode.skip)) (.seq (.region none [{ dst := some 7, op := Sum.inl (AOp.mv (Arg.t 0)), guard := none }, { dst := some 8, op := Sum.inl (AOp.mv (Arg.t 1)), guard := none },
    { dst := some 9, op := Sum.inl (AOp.build [AVal.str [], AVal.int IntKind.i64 (0), AVal.nilp] [(0, 1, Arg.t 7), (1, 1, Arg.t 8)]), guard := none }, { dst := some 10, op := Sum.inl (AOp.box (Arg.t 9)), guard := none },
    { dst := some 4, op := Sum.inl (AOp.mv (Arg.t 10)), guard := none }]) ACode.ret))), false⟩

def fault_Wrap : AFun :=
  ⟨2, [Sum.inl 4], (.seq (.region none [{ dst := some 4, op := Sum.inl (AOp.mv (Arg.c AVal.nilp)), guard := none }]) (.seq (.seq (.region none [{ dst := some 5, op := Sum.inl (AOp.mv (Arg.t 1)), guard := none },
    { dst := some 6, op := Sum.inl (AOp.eq false EqT.ptr (Arg.t 5) (Arg.c AVal.nilp)), guard := none }]) (.cond (Arg.t 6) (.seq (.region none [{ dst := some 4, op := Sum.inl (AOp.mv (Arg.c AVal.nilp)), guard := none }])
    ACode.ret) ACode.skip)) (.seq (.region none [{ dst := some 7, op := Sum.inl (AOp.mv (Arg.t 0)), guard := none }, { dst := some 8, op := Sum.inl (AOp.mv (Arg.t 1)), guard := none },
    { dst := some 9, op := Sum.inl (AOp.nilchk (Arg.t 8)), guard := none }, { dst := some 10, op := Sum.inl (AOp.faddr 1 (Arg.t 9)), guard := none }, { dst := some 11, op := Sum.inl (AOp.load none (Arg.t 10)), guard := none },
    { dst := some 12, op := Sum.inl (AOp.mv (Arg.t 1)), guard := none }, { dst := some 13, op := Sum.inl (AOp.build [AVal.str [], AVal.int IntKind.i64 (0), AVal.nilp] [(0, 1, Arg.t 7), (1, 1, Arg.t 11), (2, 1, Arg.t 12)]), guard := none },
    { dst := some 14, op := Sum.inl (AOp.box (Arg.t 13)), guard := none }, { dst := some 4, op := Sum.inl (AOp.mv (Arg.t 14)), guard := none }]) ACode.ret))), false⟩

def fault_link_Unwrap : AFun :=
  ⟨1, [Sum.inl 2], (.seq (.region none [{ dst := some 1, op := Sum.inl (AOp.box (Arg.t 0)), guard := none }, { dst := some 2, op := Sum.inl (AOp.mv (Arg.c AVal.nili)), guard := none }]) (.seq (.seq
    (.region none [{ dst := some 3, op := Sum.inl (AOp.faddr 0 (Arg.t 1)), guard := none }, { dst := some 4, op := Sum.inl (AOp.load none (Arg.t 3)), guard := none }, { dst := some 5, op := Sum.inl (AOp.nilchk (Arg.t 4)), guard := none },
    { dst := some 6, op := Sum.inl (AOp.faddr 2 (Arg.t 5)), guard := none }, { dst := some 7, op := Sum.inl (AOp.load none (Arg.t 6)), guard := none }, { dst := some 8, op := Sum.inl (AOp.eq false EqT.ptr (Arg.t 7) (Arg.c AVal.nilp)), guard := none }])
    (.cond (Arg.t 8) (.seq (.region none [{ dst := some 2, op := Sum.inl (AOp.mv (Arg.c AVal.nili)), guard := none }]) ACode.ret) ACode.skip)) (.seq (.region none [{ dst := some 9, op := Sum.inl (AOp.faddr 0 (Arg.t 1)), guard := none },
    { dst := some 10, op := Sum.inl (AOp.load none (Arg.t 9)), guard := none }, { dst := some 11, op := Sum.inl (AOp.nilchk (Arg.t 10)), guard := none }, { dst := some 12, op := Sum.inl (AOp.faddr 2 (Arg.t 11)), guard := none },
    { dst := some 13, op := Sum.inl (AOp.load none (Arg.t 12)), guard := none }, { dst := some 14, op := Sum.inl (AOp.build [AVal.nilp] [(0, 1, Arg.t 13)]), guard := none }, { dst := some 15, op := Sum.inl (AOp.mkif 46 (Arg.t 14)), guard := none },
    { dst := some 2, op := Sum.inl (AOp.mv (Arg.t 15)), guard := none }]) ACode.ret))), false⟩

def errors_Unwrap : AFun :=
  ⟨1, [Sum.inl 2], (.seq (.region none [{ dst := some 2, op := Sum.inl (AOp.mv (Arg.c AVal.nili)), guard := none }]) (.seq (.region none [{ dst := some 6, op := Sum.inl (AOp.mv (Arg.t 0)), guard := none },
    { dst := some 7, op := Sum.inl (AOp.asrt true [46, 59] [8, 10, 11, 14, 15, 16, 17, 19, 26, 47, 60, 61, 62, 72, 73, 74, 77, 107] 66 AVal.nili (Arg.t 6)), guard := none }, { dst := some 5, op := Sum.inl (AOp.mv (Arg.t 7)), guard := none },
    { dst := some 8, op := Sum.inl (AOp.ext 0 (Arg.t 5)), guard := none }, { dst := some 9, op := Sum.inl (AOp.ext 1 (Arg.t 5)), guard := none }, { dst := some 3, op := Sum.inl (AOp.mv (Arg.t 8)), guard := none },
    { dst := some 4, op := Sum.inl (AOp.mv (Arg.t 9)), guard := none }]) (.seq (.seq (.region none [{ dst := some 10, op := Sum.inl (AOp.mv (Arg.t 4)), guard := none }, { dst := some 11, op := Sum.inl (AOp.un UnOp.not (Arg.t 10)), guard := none }])
    (.cond (Arg.t 11) (.seq (.region none [{ dst := some 2, op := Sum.inl (AOp.mv (Arg.c AVal.nili)), guard := none }]) ACode.ret) ACode.skip)) (.seq (.region none [{ dst := some 12, op := Sum.inl (AOp.mv (Arg.t 3)), guard := none },
    { dst := some 13, op := Sum.inr (ACallee.inv [(46, 0)] (Arg.t 12) []), guard := none }, { dst := some 2, op := Sum.inl (AOp.mv (Arg.t 13)), guard := none }]) ACode.ret)))), false⟩

def fault_next : AFun :=
  ⟨1, [Sum.inl 2], (.seq (.region none [{ dst := some 2, op := Sum.inl (AOp.mv (Arg.c AVal.nilp)), guard := none }]) (.seq (.region none [{ dst := some 3, op := Sum.inl (AOp.alloc [AVal.nilp]), guard := none }])
    (.seq (.seq (.region none [{ dst := some 4, op := Sum.inl (AOp.mv (Arg.t 0)), guard := none }, { dst := some 5, op := Sum.inl (AOp.build [AVal.nilp] [(0, 1, Arg.t 4)]), guard := none },
    { dst := some 6, op := Sum.inl (AOp.mkif 46 (Arg.t 5)), guard := none }, { dst := some 7, op := Sum.inr (ACallee.k 0 [Arg.t 6]), guard := none }, { dst := some 8, op := Sum.inl (AOp.mkif 59 (Arg.t 3)), guard := none },
    { dst := some 9, op := Sum.inr (ACallee.k 1 [Arg.t 7, Arg.t 8]), guard := none }, { dst := some 10, op := Sum.inl (AOp.un UnOp.not (Arg.t 9)), guard := none }]) (.cond (Arg.t 10)
    (.seq (.region none [{ dst := some 2, op := Sum.inl (AOp.mv (Arg.c AVal.nilp)), guard := none }]) ACode.ret) ACode.skip)) (.seq (.region none [{ dst := some 11, op := Sum.inl (AOp.faddr 0 (Arg.t 3)), guard := none },
    { dst := some 12, op := Sum.inl (AOp.load none (Arg.t 11)), guard := none }, { dst := some 2, op := Sum.inl (AOp.mv (Arg.t 12)), guard := none }]) ACode.ret)))), false⟩

def fault_each_l0 : ACode :=
  .seq (.seq (.region none [{ dst := some 4, op := Sum.inl (AOp.mv (Arg.t 0)), guard := none }, { dst := some 5, op := Sum.inl (AOp.eq true EqT.ptr (Arg.t 4) (Arg.c AVal.nilp)), guard := none }])
    (.cond (Arg.t 5) ACode.skip (.exit 0))) (.seq (.block 1 (.region none [{ dst := some 8, op := Sum.inl (AOp.mv (Arg.t 1)), guard := none }, { dst := some 9, op := Sum.inl (AOp.mv (Arg.t 0)), guard := none },
    { dst := some 10, op := Sum.inl (AOp.nilchk (Arg.t 9)), guard := none }, { dst := some 11, op := Sum.inl (AOp.faddr 0 (Arg.t 10)), guard := none }, { dst := some 12, op := Sum.inl (AOp.load none (Arg.t 11)), guard := none },
    { dst := some 13, op := Sum.inr (ACallee.v (Arg.t 8) [Arg.t 12]), guard := none }])) (.region none [{ dst := some 6, op := Sum.inl (AOp.mv (Arg.t 0)), guard := none }, { dst := some 7, op := Sum.inr (ACallee.k 0 [Arg.t 6]), guard := none },
    { dst := some 0, op := Sum.inl (AOp.mv (Arg.t 7)), guard := none }]))
def fault_each_s1 : ACode :=
  .block 0 (.loop fault_each_l0)
def fault_each : AFun :=
  ⟨2, [], fault_each_s1, false⟩

def fault_Name : AFun :=
  ⟨1, [Sum.inl 2], (.seq (.region none [{ dst := some 2, op := Sum.inl (AOp.mv (Arg.c (AVal.str []))), guard := none }]) (.seq (.region none [{ dst := some 4, op := Sum.inl (AOp.build [AVal.str [], AVal.str [], AVal.str [], AVal.str [], AVal.str [], AVal.str [], AVal.str [], AVal.str [], AVal.str [], AVal.str [], AVal.str [], AVal.str [], AVal.str [], AVal.str [], AVal.str [], AVal.str []] [(0, 1, Arg.c (AVal.str [111, 107])), (1, 1, Arg.c (AVal.str [97, 114, 103, 117, 109, 101, 110, 116])), (2, 1, Arg.c (AVal.str [115, 104, 111, 114, 116])), (3, 1, Arg.c (AVal.str [102, 111, 114, 109])), (4, 1, Arg.c (AVal.str [108, 97, 114, 103, 101])), (5, 1, Arg.c (AVal.str [110, 111, 110, 101])), (6, 1, Arg.c (AVal.str [101, 120, 105, 115, 116, 115])), (7, 1, Arg.c (AVal.str [102, 117, 108, 108])), (8, 1, Arg.c (AVal.str [100, 111, 119, 110])), (9, 1, Arg.c (AVal.str [100, 97, 109, 97, 103, 101, 100])), (10, 1, Arg.c (AVal.str [98, 97, 100])), (11, 1, Arg.c (AVal.str [104, 101, 108, 100])), (12, 1, Arg.c (AVal.str [115, 116, 97, 108, 101])), (13, 1, Arg.c (AVal.str [98, 117, 115, 121])), (14, 1, Arg.c (AVal.str [115, 117, 109])), (15, 1, Arg.c (AVal.str [112, 111, 111, 108]))]), guard := none },
    { dst := some 3, op := Sum.inl (AOp.alloc [AVal.str [], AVal.str [], AVal.str [], AVal.str [], AVal.str [], AVal.str [], AVal.str [], AVal.str [], AVal.str [], AVal.str [], AVal.str [], AVal.str [], AVal.str [], AVal.str [], AVal.str [], AVal.str []]), guard := none },
    { dst := none, op := Sum.inl (AOp.store 16 (Arg.t 3) (Arg.t 4)), guard := none }]) (.seq (.seq (.region none [{ dst := some 5, op := Sum.inl (AOp.mv (Arg.t 0)), guard := none }, { dst := some 6, op := Sum.inl (AOp.bin BinOp.lss (Arg.t 5) (Arg.c (AVal.int IntKind.i64 (0)))), guard := none },
    { dst := some 7, op := Sum.inl (AOp.mv (Arg.t 6)), guard := none }, { dst := some 8, op := Sum.inl (AOp.mv (Arg.t 0)), guard := some (7, false) }, { dst := some 9, op := Sum.inl (AOp.bin BinOp.geq (Arg.t 8) (Arg.c (AVal.int IntKind.i64 (16)))), guard := some (7, false) },
    { dst := some 10, op := Sum.inl (AOp.pick (Arg.t 7) (Arg.c (AVal.bool true)) (Arg.t 9)), guard := none }]) (.cond (Arg.t 10) (.seq (.region none [{ dst := some 2, op := Sum.inl (AOp.mv (Arg.c (AVal.str [63]))), guard := none }])
    ACode.ret) ACode.skip)) (.seq (.region none [{ dst := some 11, op := Sum.inl (AOp.mv (Arg.t 0)), guard := none }, { dst := some 12, op := Sum.inl (AOp.iaddrA 1 16 (Arg.t 3) (Arg.t 11)), guard := none },
    { dst := some 13, op := Sum.inl (AOp.load none (Arg.t 12)), guard := none }, { dst := some 2, op := Sum.inl (AOp.mv (Arg.t 13)), guard := none }]) ACode.ret)))), false⟩

def fault_Text_1 : AFun :=
  ⟨2, [], (.region none [{ dst := some 3, op := Sum.inl (AOp.load none (Arg.t 1)), guard := none }, { dst := some 4, op := Sum.inl (AOp.mv (Arg.t 0)), guard := none }, { dst := some 5, op := Sum.inl (AOp.bin BinOp.add (Arg.t 4) (Arg.c (AVal.str [58, 32]))), guard := none },
    { dst := some 6, op := Sum.inl (AOp.bin BinOp.add (Arg.t 3) (Arg.t 5)), guard := none }, { dst := none, op := Sum.inl (AOp.store 1 (Arg.t 1) (Arg.t 6)), guard := none }]), false⟩

def fault_Text : AFun :=
  ⟨1, [Sum.inl 2], (.seq (.region none [{ dst := some 2, op := Sum.inl (AOp.mv (Arg.c (AVal.str []))), guard := none }]) (.seq (.seq (.region none [{ dst := some 4, op := Sum.inl (AOp.mv (Arg.t 0)), guard := none },
    { dst := some 5, op := Sum.inl (AOp.eq false EqT.ptr (Arg.t 4) (Arg.c AVal.nilp)), guard := none }]) (.cond (Arg.t 5) (.seq (.region none [{ dst := some 2, op := Sum.inl (AOp.mv (Arg.c (AVal.str []))), guard := none }])
    ACode.ret) ACode.skip)) (.seq (.region none [{ dst := some 3, op := Sum.inl (AOp.alloc [AVal.str []]), guard := none }, { dst := none, op := Sum.inl (AOp.store 1 (Arg.t 3) (Arg.c (AVal.str []))), guard := none }])
    (.seq (.region none [{ dst := some 6, op := Sum.inl (AOp.mv (Arg.t 0)), guard := none }, { dst := some 7, op := Sum.inl (AOp.mkfn (Fn.func 23) [] [Arg.t 3]), guard := none }, { dst := some 8, op := Sum.inr (ACallee.k 0 [Arg.t 6, Arg.t 7]), guard := none }])
    (.seq (.region (some [(0, [5])]) [{ dst := some 9, op := Sum.inl (AOp.load none (Arg.t 3)), guard := none }, { dst := some 10, op := Sum.inl (AOp.mv (Arg.t 0)), guard := none }, { dst := some 11, op := Sum.inl (AOp.nilchk (Arg.t 10)), guard := none },
    { dst := some 12, op := Sum.inl (AOp.faddr 1 (Arg.t 11)), guard := none }, { dst := some 13, op := Sum.inl (AOp.load none (Arg.t 12)), guard := none }, { dst := some 14, op := Sum.inr (ACallee.k 1 [Arg.t 13]), guard := none },
    { dst := some 15, op := Sum.inl (AOp.bin BinOp.add (Arg.t 9) (Arg.t 14)), guard := none }, { dst := some 2, op := Sum.inl (AOp.mv (Arg.t 15)), guard := none }]) ACode.ret))))), false⟩

def fault_Code : AFun :=
  ⟨1, [Sum.inl 2], (.seq (.region none [{ dst := some 2, op := Sum.inl (AOp.mv (Arg.c (AVal.int IntKind.i64 (0)))), guard := none }]) (.seq (.seq (.region none [{ dst := some 3, op := Sum.inl (AOp.mv (Arg.t 0)), guard := none },
    { dst := some 4, op := Sum.inl (AOp.eq false EqT.ptr (Arg.t 3) (Arg.c AVal.nilp)), guard := none }]) (.cond (Arg.t 4) (.seq (.region none [{ dst := some 2, op := Sum.inl (AOp.mv (Arg.c (AVal.int IntKind.i64 (0)))), guard := none }])
    ACode.ret) ACode.skip)) (.seq (.region none [{ dst := some 5, op := Sum.inl (AOp.mv (Arg.t 0)), guard := none }, { dst := some 6, op := Sum.inl (AOp.nilchk (Arg.t 5)), guard := none },
    { dst := some 7, op := Sum.inl (AOp.faddr 1 (Arg.t 6)), guard := none }, { dst := some 8, op := Sum.inl (AOp.load none (Arg.t 7)), guard := none }, { dst := some 2, op := Sum.inl (AOp.mv (Arg.t 8)), guard := none }])
    ACode.ret))), false⟩

def l03_alive : AFun :=
  ⟨0, [Sum.inl 0], (.seq (.region none [{ dst := some 0, op := Sum.inl (AOp.mv (Arg.c (AVal.bool false))), guard := none }]) (.seq (.region none [{ dst := some 2, op := Sum.inr (ACallee.k 0 [Arg.c (AVal.str [114, 101, 97, 100]), Arg.c (AVal.int IntKind.i64 (9))]), guard := none },
    { dst := some 3, op := Sum.inr (ACallee.k 1 [Arg.c (AVal.str [115, 99, 114, 117, 98]), Arg.t 2]), guard := none }, { dst := some 1, op := Sum.inl (AOp.mv (Arg.t 3)), guard := none }])
    (.seq (.region none [{ dst := some 4, op := Sum.inl (AOp.mv (Arg.t 1)), guard := none }, { dst := some 5, op := Sum.inr (ACallee.k 2 [Arg.t 4]), guard := none }, { dst := some 6, op := Sum.inl (AOp.bin BinOp.eql (Arg.t 5) (Arg.c (AVal.str [115, 99, 114, 117, 98, 58, 32, 114, 101, 97, 100, 58, 32, 100, 97, 109, 97, 103, 101, 100]))), guard := none },
    { dst := some 7, op := Sum.inl (AOp.mv (Arg.t 6)), guard := none }, { dst := some 8, op := Sum.inl (AOp.mv (Arg.t 1)), guard := some (7, true) }, { dst := some 9, op := Sum.inr (ACallee.k 3 [Arg.t 8]), guard := some (7, true) },
    { dst := some 10, op := Sum.inl (AOp.bin BinOp.eql (Arg.t 9) (Arg.c (AVal.int IntKind.i64 (9)))), guard := some (7, true) }, { dst := some 11, op := Sum.inl (AOp.pick (Arg.t 7) (Arg.t 10) (Arg.c (AVal.bool false))), guard := none },
    { dst := some 12, op := Sum.inl (AOp.mv (Arg.t 11)), guard := none }, { dst := some 13, op := Sum.inr (ACallee.k 0 [Arg.c (AVal.str [120]), Arg.c (AVal.int IntKind.i64 (0))]), guard := some (12, true) },
    { dst := some 14, op := Sum.inl (AOp.eq false EqT.ptr (Arg.t 13) (Arg.c AVal.nilp)), guard := some (12, true) }, { dst := some 15, op := Sum.inl (AOp.pick (Arg.t 12) (Arg.t 14) (Arg.c (AVal.bool false))), guard := none },
    { dst := some 0, op := Sum.inl (AOp.mv (Arg.t 15)), guard := none }]) ACode.ret))), false⟩

def l03_made_l0 : ACode :=
  .seq (.seq (.region none [{ dst := some 12, op := Sum.inl (AOp.mv (Arg.t 8)), guard := none }, { dst := some 13, op := Sum.inl (AOp.mv (Arg.t 1)), guard := none }, { dst := some 14, op := Sum.inl (AOp.len LenT.sl (Arg.t 13)), guard := none },
    { dst := some 15, op := Sum.inl (AOp.bin BinOp.lss (Arg.t 12) (Arg.t 14)), guard := none }]) (.cond (Arg.t 15) ACode.skip (.exit 0))) (.seq (.block 1 (.region none [{ dst := some 18, op := Sum.inl (AOp.mv (Arg.t 1)), guard := none },
    { dst := some 19, op := Sum.inl (AOp.mv (Arg.t 8)), guard := none }, { dst := some 20, op := Sum.inl (AOp.iaddrS 1 (Arg.t 18) (Arg.t 19)), guard := none }, { dst := some 21, op := Sum.inl (AOp.load none (Arg.t 20)), guard := none },
    { dst := some 22, op := Sum.inl (AOp.mv (Arg.t 7)), guard := none }, { dst := some 23, op := Sum.inr (ACallee.k 1 [Arg.t 21, Arg.t 22]), guard := none }, { dst := some 7, op := Sum.inl (AOp.mv (Arg.t 23)), guard := none }]))
    (.region none [{ dst := some 16, op := Sum.inl (AOp.mv (Arg.t 8)), guard := none }, { dst := some 17, op := Sum.inl (AOp.bin BinOp.add (Arg.t 16) (Arg.c (AVal.int IntKind.i64 (1)))), guard := none },
    { dst := some 8, op := Sum.inl (AOp.mv (Arg.t 17)), guard := none }]))
def l03_made_s1 : ACode :=
  .block 0 (.loop l03_made_l0)
def l03_made_t2 : ACode :=
  .seq (.seq (.region none [{ dst := some 8, op := Sum.inl (AOp.mv (Arg.c (AVal.int IntKind.i64 (0)))), guard := none }]) l03_made_s1) (.seq (.region none [{ dst := some 24, op := Sum.inl (AOp.mv (Arg.t 7)), guard := none },
    { dst := some 6, op := Sum.inl (AOp.mv (Arg.t 24)), guard := none }]) ACode.ret)
def l03_made : AFun :=
  ⟨3, [Sum.inl 6], (.seq (.region none [{ dst := some 6, op := Sum.inl (AOp.mv (Arg.c AVal.nilp)), guard := none }]) (.seq (.region none [{ dst := some 9, op := Sum.inl (AOp.mv (Arg.t 0)), guard := none },
    { dst := some 10, op := Sum.inl (AOp.mv (Arg.t 2)), guard := none }, { dst := some 11, op := Sum.inr (ACallee.k 0 [Arg.t 9, Arg.t 10]), guard := none }, { dst := some 7, op := Sum.inl (AOp.mv (Arg.t 11)), guard := none }])
    l03_made_t2)), false⟩

def fault_Root_1 : AFun :=
  ⟨2, [], (.region none [{ dst := some 3, op := Sum.inl (AOp.mv (Arg.t 0)), guard := none }, { dst := none, op := Sum.inl (AOp.store 1 (Arg.t 1) (Arg.t 3)), guard := none }]), false⟩

def fault_Root : AFun :=
  ⟨1, [Sum.inl 2], (.seq (.region none [{ dst := some 2, op := Sum.inl (AOp.mv (Arg.c (AVal.str []))), guard := none }]) (.seq (.region none [{ dst := some 3, op := Sum.inl (AOp.alloc [AVal.str []]), guard := none },
    { dst := none, op := Sum.inl (AOp.store 1 (Arg.t 3) (Arg.c (AVal.str []))), guard := none }]) (.seq (.region none [{ dst := some 4, op := Sum.inl (AOp.mv (Arg.t 0)), guard := none },
    { dst := some 5, op := Sum.inl (AOp.mkfn (Fn.func 21) [] [Arg.t 3]), guard := none }, { dst := some 6, op := Sum.inr (ACallee.k 0 [Arg.t 4, Arg.t 5]), guard := none }]) (.seq
    (.region none [{ dst := some 7, op := Sum.inl (AOp.load none (Arg.t 3)), guard := none }, { dst := some 2, op := Sum.inl (AOp.mv (Arg.t 7)), guard := none }]) ACode.ret)))), false⟩

def fault_Depth_1 : AFun :=
  ⟨2, [], (.region none [{ dst := some 3, op := Sum.inl (AOp.load none (Arg.t 1)), guard := none }, { dst := some 4, op := Sum.inl (AOp.bin BinOp.add (Arg.t 3) (Arg.c (AVal.int IntKind.i64 (1)))), guard := none },
    { dst := none, op := Sum.inl (AOp.store 1 (Arg.t 1) (Arg.t 4)), guard := none }]), false⟩

def fault_Depth : AFun :=
  ⟨1, [Sum.inl 2], (.seq (.region none [{ dst := some 2, op := Sum.inl (AOp.mv (Arg.c (AVal.int IntKind.i64 (0)))), guard := none }]) (.seq (.region none [{ dst := some 3, op := Sum.inl (AOp.alloc [AVal.int IntKind.i64 (0)]), guard := none },
    { dst := none, op := Sum.inl (AOp.store 1 (Arg.t 3) (Arg.c (AVal.int IntKind.i64 (0)))), guard := none }]) (.seq (.region none [{ dst := some 4, op := Sum.inl (AOp.mv (Arg.t 0)), guard := none },
    { dst := some 5, op := Sum.inl (AOp.mkfn (Fn.func 22) [] [Arg.t 3]), guard := none }, { dst := some 6, op := Sum.inr (ACallee.k 0 [Arg.t 4, Arg.t 5]), guard := none }]) (.seq
    (.region none [{ dst := some 7, op := Sum.inl (AOp.load none (Arg.t 3)), guard := none }, { dst := some 2, op := Sum.inl (AOp.mv (Arg.t 7)), guard := none }]) ACode.ret)))), false⟩

def fault_Fault_Error : AFun :=
  ⟨1, [Sum.inl 2], (.seq (.region none [{ dst := some 2, op := Sum.inl (AOp.mv (Arg.c (AVal.str []))), guard := none }]) (.seq (.region none [{ dst := some 3, op := Sum.inl (AOp.mv (Arg.t 0)), guard := none },
    { dst := some 4, op := Sum.inr (ACallee.k 0 [Arg.t 3]), guard := none }, { dst := some 2, op := Sum.inl (AOp.mv (Arg.t 4)), guard := none }]) ACode.ret)), false⟩

def r03_Names : AFun :=
  ⟨0, [Sum.inl 0], (.seq (.region none [{ dst := some 0, op := Sum.inl (AOp.mv (Arg.c AVal.nils)), guard := none }]) (.seq (.region none [{ dst := some 1, op := Sum.inl (AOp.bslice false 1 16 [AVal.str []] [(0, 1, Arg.c (AVal.str [111, 107])), (1, 1, Arg.c (AVal.str [97, 114, 103, 117, 109, 101, 110, 116])), (2, 1, Arg.c (AVal.str [115, 104, 111, 114, 116])), (3, 1, Arg.c (AVal.str [102, 111, 114, 109])), (4, 1, Arg.c (AVal.str [108, 97, 114, 103, 101])), (5, 1, Arg.c (AVal.str [110, 111, 110, 101])), (6, 1, Arg.c (AVal.str [101, 120, 105, 115, 116, 115])), (7, 1, Arg.c (AVal.str [102, 117, 108, 108])), (8, 1, Arg.c (AVal.str [100, 111, 119, 110])), (9, 1, Arg.c (AVal.str [100, 97, 109, 97, 103, 101, 100])), (10, 1, Arg.c (AVal.str [98, 97, 100])), (11, 1, Arg.c (AVal.str [104, 101, 108, 100])), (12, 1, Arg.c (AVal.str [115, 116, 97, 108, 101])), (13, 1, Arg.c (AVal.str [98, 117, 115, 121])), (14, 1, Arg.c (AVal.str [115, 117, 109])), (15, 1, Arg.c (AVal.str [112, 111, 111, 108]))]), guard := none },
    { dst := some 0, op := Sum.inl (AOp.mv (Arg.t 1)), guard := none }]) ACode.ret)), false⟩

def r03_Name : AFun :=
  ⟨1, [Sum.inl 2], (.seq (.region none [{ dst := some 2, op := Sum.inl (AOp.mv (Arg.c (AVal.str []))), guard := none }]) (.seq (.region none [{ dst := some 4, op := Sum.inr (ACallee.k 0 []), guard := none },
    { dst := some 3, op := Sum.inl (AOp.mv (Arg.t 4)), guard := none }]) (.seq (.seq (.region none [{ dst := some 5, op := Sum.inl (AOp.mv (Arg.t 0)), guard := none }, { dst := some 6, op := Sum.inl (AOp.bin BinOp.lss (Arg.t 5) (Arg.c (AVal.int IntKind.i64 (0)))), guard := none },
    { dst := some 7, op := Sum.inl (AOp.mv (Arg.t 6)), guard := none }, { dst := some 8, op := Sum.inl (AOp.mv (Arg.t 0)), guard := some (7, false) }, { dst := some 9, op := Sum.inl (AOp.mv (Arg.t 3)), guard := some (7, false) },
    { dst := some 10, op := Sum.inl (AOp.len LenT.sl (Arg.t 9)), guard := some (7, false) }, { dst := some 11, op := Sum.inl (AOp.bin BinOp.geq (Arg.t 8) (Arg.t 10)), guard := some (7, false) },
    { dst := some 12, op := Sum.inl (AOp.pick (Arg.t 7) (Arg.c (AVal.bool true)) (Arg.t 11)), guard := none }]) (.cond (Arg.t 12) (.seq (.region none [{ dst := some 2, op := Sum.inl (AOp.mv (Arg.c (AVal.str [63]))), guard := none }])
    ACode.ret) ACode.skip)) (.seq (.region none [{ dst := some 13, op := Sum.inl (AOp.mv (Arg.t 3)), guard := none }, { dst := some 14, op := Sum.inl (AOp.mv (Arg.t 0)), guard := none },
    { dst := some 15, op := Sum.inl (AOp.iaddrS 1 (Arg.t 13) (Arg.t 14)), guard := none }, { dst := some 16, op := Sum.inl (AOp.load none (Arg.t 15)), guard := none }, { dst := some 2, op := Sum.inl (AOp.mv (Arg.t 16)), guard := none }])
    ACode.ret)))), false⟩

def r03_Text_l0 : ACode :=
  .seq (.seq (.region none [{ dst := some 14, op := Sum.inl (AOp.mv (Arg.t 6)), guard := none }, { dst := some 15, op := Sum.inl (AOp.mv (Arg.t 0)), guard := none }, { dst := some 16, op := Sum.inl (AOp.len LenT.sl (Arg.t 15)), guard := none },
    { dst := some 17, op := Sum.inl (AOp.bin BinOp.lss (Arg.t 14) (Arg.t 16)), guard := none }]) (.cond (Arg.t 17) ACode.skip (.exit 0))) (.seq (.block 1 (.region none [{ dst := some 20, op := Sum.inl (AOp.mv (Arg.t 5)), guard := none },
    { dst := some 21, op := Sum.inl (AOp.mv (Arg.t 0)), guard := none }, { dst := some 22, op := Sum.inl (AOp.mv (Arg.t 6)), guard := none }, { dst := some 23, op := Sum.inl (AOp.iaddrS 1 (Arg.t 21) (Arg.t 22)), guard := none },
    { dst := some 24, op := Sum.inl (AOp.load none (Arg.t 23)), guard := none }, { dst := some 25, op := Sum.inl (AOp.bin BinOp.add (Arg.t 20) (Arg.t 24)), guard := none }, { dst := some 26, op := Sum.inl (AOp.bin BinOp.add (Arg.t 25) (Arg.c (AVal.str [58, 32]))), guard := none },
    { dst := some 5, op := Sum.inl (AOp.mv (Arg.t 26)), guard := none }])) (.region none [{ dst := some 18, op := Sum.inl (AOp.mv (Arg.t 6)), guard := none }, { dst := some 19, op := Sum.inl (AOp.bin BinOp.add (Arg.t 18) (Arg.c (AVal.int IntKind.i64 (1)))), guard := none },
    { dst := some 6, op := Sum.inl (AOp.mv (Arg.t 19)), guard := none }]))
def r03_Text_s1 : ACode :=
  .block 0 (.loop r03_Text_l0)
def r03_Text_t2 : ACode :=
  .seq (.seq (.region none [{ dst := some 6, op := Sum.inl (AOp.mv (Arg.c (AVal.int IntKind.i64 (0)))), guard := none }]) r03_Text_s1) (.seq (.region none [{ dst := some 27, op := Sum.inl (AOp.mv (Arg.t 5)), guard := none },
    { dst := some 28, op := Sum.inl (AOp.mv (Arg.t 1)), guard := none }, { dst := some 29, op := Sum.inr (ACallee.k 0 [Arg.t 28]), guard := none }, { dst := some 30, op := Sum.inl (AOp.bin BinOp.add (Arg.t 27) (Arg.t 29)), guard := none },
    { dst := some 4, op := Sum.inl (AOp.mv (Arg.t 30)), guard := none }]) ACode.ret)
def r03_Text : AFun :=
  ⟨2, [Sum.inl 4], (.seq (.region none [{ dst := some 4, op := Sum.inl (AOp.mv (Arg.c (AVal.str []))), guard := none }]) (.seq (.seq (.region none [{ dst := some 7, op := Sum.inl (AOp.mv (Arg.t 0)), guard := none },
    { dst := some 8, op := Sum.inl (AOp.len LenT.sl (Arg.t 7)), guard := none }, { dst := some 9, op := Sum.inl (AOp.bin BinOp.eql (Arg.t 8) (Arg.c (AVal.int IntKind.i64 (0)))), guard := none },
    { dst := some 10, op := Sum.inl (AOp.mv (Arg.t 9)), guard := none }, { dst := some 11, op := Sum.inl (AOp.mv (Arg.t 1)), guard := some (10, false) }, { dst := some 12, op := Sum.inl (AOp.bin BinOp.eql (Arg.t 11) (Arg.c (AVal.int IntKind.i64 (0)))), guard := some (10, false) },
    { dst := some 13, op := Sum.inl (AOp.pick (Arg.t 10) (Arg.c (AVal.bool true)) (Arg.t 12)), guard := none }]) (.cond (Arg.t 13) (.seq (.region none [{ dst := some 4, op := Sum.inl (AOp.mv (Arg.c (AVal.str []))), guard := none }])
    ACode.ret) ACode.skip)) (.seq (.region none [{ dst := some 5, op := Sum.inl (AOp.mv (Arg.c (AVal.str []))), guard := none }]) r03_Text_t2))), false⟩

def l03_FaultTold_l0 : ACode :=
  .seq (.seq (.region none [{ dst := some 23, op := Sum.inl (AOp.mv (Arg.t 9)), guard := none }, { dst := some 24, op := Sum.inl (AOp.bin BinOp.geq (Arg.t 23) (Arg.c (AVal.int IntKind.i64 (0)))), guard := none }])
    (.cond (Arg.t 24) ACode.skip (.exit 0))) (.seq (.block 1 (.region none [{ dst := some 27, op := Sum.inl (AOp.mv (Arg.t 8)), guard := none }, { dst := some 28, op := Sum.inl (AOp.mv (Arg.t 1)), guard := none },
    { dst := some 29, op := Sum.inl (AOp.mv (Arg.t 9)), guard := none }, { dst := some 30, op := Sum.inl (AOp.iaddrS 1 (Arg.t 28) (Arg.t 29)), guard := none }, { dst := some 31, op := Sum.inl (AOp.load none (Arg.t 30)), guard := none },
    { dst := some 32, op := Sum.inl (AOp.bslice false 1 1 [AVal.str []] [(0, 1, Arg.t 31)]), guard := none }, { dst := some 33, op := Sum.inl (AOp.append 1 16 (Arg.t 27) (Arg.t 32)), guard := none },
    { dst := some 8, op := Sum.inl (AOp.mv (Arg.t 33)), guard := none }])) (.region none [{ dst := some 25, op := Sum.inl (AOp.mv (Arg.t 9)), guard := none }, { dst := some 26, op := Sum.inl (AOp.bin BinOp.sub (Arg.t 25) (Arg.c (AVal.int IntKind.i64 (1)))), guard := none },
    { dst := some 9, op := Sum.inl (AOp.mv (Arg.t 26)), guard := none }]))
def l03_FaultTold_s1 : ACode :=
  .block 0 (.loop l03_FaultTold_l0)
def l03_FaultTold_t2 : ACode :=
  .seq (.seq (.region none [{ dst := some 20, op := Sum.inl (AOp.mv (Arg.t 1)), guard := none }, { dst := some 21, op := Sum.inl (AOp.len LenT.sl (Arg.t 20)), guard := none }, { dst := some 22, op := Sum.inl (AOp.bin BinOp.sub (Arg.t 21) (Arg.c (AVal.int IntKind.i64 (1)))), guard := none },
    { dst := some 9, op := Sum.inl (AOp.mv (Arg.t 22)), guard := none }]) l03_FaultTold_s1) (.seq (.region none [{ dst := some 34, op := Sum.inl (AOp.mv (Arg.t 8)), guard := none }, { dst := some 35, op := Sum.inl (AOp.mv (Arg.t 0)), guard := none },
    { dst := some 36, op := Sum.inl (AOp.bslice false 1 1 [AVal.str []] [(0, 1, Arg.t 35)]), guard := none }, { dst := some 37, op := Sum.inl (AOp.append 1 16 (Arg.t 34) (Arg.t 36)), guard := none },
    { dst := some 8, op := Sum.inl (AOp.mv (Arg.t 37)), guard := none }]) (.seq (.seq (.region none [{ dst := some 38, op := Sum.inl (AOp.mv (Arg.t 2)), guard := none }, { dst := some 39, op := Sum.inl (AOp.bin BinOp.eql (Arg.t 38) (Arg.c (AVal.int IntKind.i64 (0)))), guard := none }])
    (.cond (Arg.t 39) (.seq (.region none [{ dst := some 40, op := Sum.inr (ACallee.k 1 []), guard := none }, { dst := some 41, op := Sum.inl (AOp.mv (Arg.t 40)), guard := none }, { dst := some 42, op := Sum.inl (AOp.mv (Arg.t 7)), guard := some (41, true) },
    { dst := some 43, op := Sum.inl (AOp.eq false EqT.ptr (Arg.t 42) (Arg.c AVal.nilp)), guard := some (41, true) }, { dst := some 44, op := Sum.inl (AOp.pick (Arg.t 41) (Arg.t 43) (Arg.c (AVal.bool false))), guard := none },
    { dst := some 45, op := Sum.inl (AOp.mv (Arg.t 44)), guard := none }, { dst := some 46, op := Sum.inl (AOp.mv (Arg.t 7)), guard := some (45, true) }, { dst := some 47, op := Sum.inr (ACallee.k 3 [Arg.t 46]), guard := some (45, true) },
    { dst := some 48, op := Sum.inl (AOp.bin BinOp.eql (Arg.t 47) (Arg.c (AVal.int IntKind.i64 (0)))), guard := some (45, true) }, { dst := some 49, op := Sum.inl (AOp.pick (Arg.t 45) (Arg.t 48) (Arg.c (AVal.bool false))), guard := none },
    { dst := some 50, op := Sum.inl (AOp.mv (Arg.t 49)), guard := none }, { dst := some 51, op := Sum.inl (AOp.mv (Arg.t 7)), guard := some (50, true) }, { dst := some 52, op := Sum.inr (ACallee.k 4 [Arg.t 51]), guard := some (50, true) },
    { dst := some 53, op := Sum.inl (AOp.bin BinOp.eql (Arg.t 52) (Arg.c (AVal.str []))), guard := some (50, true) }, { dst := some 54, op := Sum.inl (AOp.pick (Arg.t 50) (Arg.t 53) (Arg.c (AVal.bool false))), guard := none },
    { dst := some 55, op := Sum.inl (AOp.mv (Arg.t 54)), guard := none }, { dst := some 56, op := Sum.inl (AOp.mv (Arg.t 7)), guard := some (55, true) }, { dst := some 57, op := Sum.inr (ACallee.k 5 [Arg.t 56]), guard := some (55, true) },
    { dst := some 58, op := Sum.inl (AOp.bin BinOp.eql (Arg.t 57) (Arg.c (AVal.str []))), guard := some (55, true) }, { dst := some 59, op := Sum.inl (AOp.pick (Arg.t 55) (Arg.t 58) (Arg.c (AVal.bool false))), guard := none },
    { dst := some 60, op := Sum.inl (AOp.mv (Arg.t 59)), guard := none }, { dst := some 61, op := Sum.inl (AOp.mv (Arg.t 7)), guard := some (60, true) }, { dst := some 62, op := Sum.inr (ACallee.k 6 [Arg.t 61]), guard := some (60, true) },
    { dst := some 63, op := Sum.inl (AOp.bin BinOp.eql (Arg.t 62) (Arg.c (AVal.int IntKind.i64 (0)))), guard := some (60, true) }, { dst := some 64, op := Sum.inl (AOp.pick (Arg.t 60) (Arg.t 63) (Arg.c (AVal.bool false))), guard := none },
    { dst := some 6, op := Sum.inl (AOp.mv (Arg.t 64)), guard := none }]) ACode.ret) ACode.skip)) (.seq (.region none [{ dst := some 65, op := Sum.inr (ACallee.k 1 []), guard := none },
    { dst := some 66, op := Sum.inl (AOp.mv (Arg.t 65)), guard := none }, { dst := some 67, op := Sum.inl (AOp.mv (Arg.t 7)), guard := some (66, true) }, { dst := some 68, op := Sum.inl (AOp.eq true EqT.ptr (Arg.t 67) (Arg.c AVal.nilp)), guard := some (66, true) },
    { dst := some 69, op := Sum.inl (AOp.pick (Arg.t 66) (Arg.t 68) (Arg.c (AVal.bool false))), guard := none }, { dst := some 70, op := Sum.inl (AOp.mv (Arg.t 69)), guard := none }, { dst := some 71, op := Sum.inl (AOp.mv (Arg.t 7)), guard := some (70, true) },
    { dst := some 72, op := Sum.inr (ACallee.k 7 [Arg.t 71]), guard := some (70, true) }, { dst := some 73, op := Sum.inl (AOp.mv (Arg.t 7)), guard := some (70, true) }, { dst := some 74, op := Sum.inr (ACallee.k 4 [Arg.t 73]), guard := some (70, true) },
    { dst := some 75, op := Sum.inl (AOp.bin BinOp.eql (Arg.t 72) (Arg.t 74)), guard := some (70, true) }, { dst := some 76, op := Sum.inl (AOp.pick (Arg.t 70) (Arg.t 75) (Arg.c (AVal.bool false))), guard := none },
    { dst := some 77, op := Sum.inl (AOp.mv (Arg.t 76)), guard := none }, { dst := some 78, op := Sum.inl (AOp.mv (Arg.t 7)), guard := some (77, true) }, { dst := some 79, op := Sum.inr (ACallee.k 4 [Arg.t 78]), guard := some (77, true) },
    { dst := some 80, op := Sum.inl (AOp.mv (Arg.t 8)), guard := some (77, true) }, { dst := some 81, op := Sum.inl (AOp.mv (Arg.t 2)), guard := some (77, true) }, { dst := some 82, op := Sum.inr (ACallee.k 8 [Arg.t 80, Arg.t 81]), guard := some (77, true) },
    { dst := some 83, op := Sum.inl (AOp.bin BinOp.eql (Arg.t 79) (Arg.t 82)), guard := some (77, true) }, { dst := some 84, op := Sum.inl (AOp.pick (Arg.t 77) (Arg.t 83) (Arg.c (AVal.bool false))), guard := none },
    { dst := some 85, op := Sum.inl (AOp.mv (Arg.t 84)), guard := none }, { dst := some 86, op := Sum.inl (AOp.mv (Arg.t 7)), guard := some (85, true) }, { dst := some 87, op := Sum.inr (ACallee.k 3 [Arg.t 86]), guard := some (85, true) },
    { dst := some 88, op := Sum.inl (AOp.mv (Arg.t 2)), guard := some (85, true) }, { dst := some 89, op := Sum.inl (AOp.bin BinOp.eql (Arg.t 87) (Arg.t 88)), guard := some (85, true) },
    { dst := some 90, op := Sum.inl (AOp.pick (Arg.t 85) (Arg.t 89) (Arg.c (AVal.bool false))), guard := none }, { dst := some 91, op := Sum.inl (AOp.mv (Arg.t 90)), guard := none }, { dst := some 92, op := Sum.inl (AOp.mv (Arg.t 7)), guard := some (91, true) },
    { dst := some 93, op := Sum.inr (ACallee.k 5 [Arg.t 92]), guard := some (91, true) }, { dst := some 94, op := Sum.inl (AOp.mv (Arg.t 0)), guard := some (91, true) }, { dst := some 95, op := Sum.inl (AOp.bin BinOp.eql (Arg.t 93) (Arg.t 94)), guard := some (91, true) },
    { dst := some 96, op := Sum.inl (AOp.pick (Arg.t 91) (Arg.t 95) (Arg.c (AVal.bool false))), guard := none }, { dst := some 97, op := Sum.inl (AOp.mv (Arg.t 96)), guard := none }, { dst := some 98, op := Sum.inl (AOp.mv (Arg.t 7)), guard := some (97, true) },
    { dst := some 99, op := Sum.inr (ACallee.k 6 [Arg.t 98]), guard := some (97, true) }, { dst := some 100, op := Sum.inl (AOp.mv (Arg.t 8)), guard := some (97, true) }, { dst := some 101, op := Sum.inl (AOp.len LenT.sl (Arg.t 100)), guard := some (97, true) },
    { dst := some 102, op := Sum.inl (AOp.bin BinOp.eql (Arg.t 99) (Arg.t 101)), guard := some (97, true) }, { dst := some 103, op := Sum.inl (AOp.pick (Arg.t 97) (Arg.t 102) (Arg.c (AVal.bool false))), guard := none },
    { dst := some 6, op := Sum.inl (AOp.mv (Arg.t 103)), guard := none }]) ACode.ret)))
def l03_FaultTold : AFun :=
  ⟨3, [Sum.inl 6], (.seq (.region none [{ dst := some 6, op := Sum.inl (AOp.mv (Arg.c (AVal.bool false))), guard := none }]) (.seq (.seq (.region none [{ dst := some 10, op := Sum.inl (AOp.mv (Arg.t 0)), guard := none },
    { dst := some 11, op := Sum.inl (AOp.mv (Arg.t 1)), guard := none }, { dst := some 12, op := Sum.inr (ACallee.k 0 [Arg.t 10, Arg.t 11]), guard := none }, { dst := some 13, op := Sum.inl (AOp.un UnOp.not (Arg.t 12)), guard := none }])
    (.cond (Arg.t 13) (.seq (.region none [{ dst := some 14, op := Sum.inr (ACallee.k 1 []), guard := none }, { dst := some 6, op := Sum.inl (AOp.mv (Arg.t 14)), guard := none }])
    ACode.ret) ACode.skip)) (.seq (.region none [{ dst := some 15, op := Sum.inl (AOp.mv (Arg.t 0)), guard := none }, { dst := some 16, op := Sum.inl (AOp.mv (Arg.t 1)), guard := none },
    { dst := some 17, op := Sum.inl (AOp.mv (Arg.t 2)), guard := none }, { dst := some 18, op := Sum.inr (ACallee.k 2 [Arg.t 15, Arg.t 16, Arg.t 17]), guard := none }, { dst := some 7, op := Sum.inl (AOp.mv (Arg.t 18)), guard := none }])
    (.seq (.region none [{ dst := some 19, op := Sum.inl (AOp.bslice false 1 0 [AVal.str []] []), guard := none }, { dst := some 8, op := Sum.inl (AOp.mv (Arg.t 19)), guard := none }])
    l03_FaultTold_t2)))), false⟩

def fault_link_Is : AFun :=
  ⟨2, [Sum.inl 4], (.seq (.region none [{ dst := some 2, op := Sum.inl (AOp.box (Arg.t 0)), guard := none }, { dst := some 4, op := Sum.inl (AOp.mv (Arg.c (AVal.bool false))), guard := none }]) (.seq
    (.region none [{ dst := some 8, op := Sum.inl (AOp.mv (Arg.t 1)), guard := none }, { dst := some 9, op := Sum.inl (AOp.asrt false [] [] 47 (AVal.int IntKind.i64 (0)) (Arg.t 8)), guard := none },
    { dst := some 7, op := Sum.inl (AOp.mv (Arg.t 9)), guard := none }, { dst := some 10, op := Sum.inl (AOp.ext 0 (Arg.t 7)), guard := none }, { dst := some 11, op := Sum.inl (AOp.ext 1 (Arg.t 7)), guard := none },
    { dst := some 5, op := Sum.inl (AOp.mv (Arg.t 10)), guard := none }, { dst := some 6, op := Sum.inl (AOp.mv (Arg.t 11)), guard := none }]) (.seq (.region none [{ dst := some 12, op := Sum.inl (AOp.mv (Arg.t 6)), guard := none },
    { dst := some 13, op := Sum.inl (AOp.mv (Arg.t 12)), guard := none }, { dst := some 14, op := Sum.inl (AOp.mv (Arg.t 5)), guard := some (13, true) }, { dst := some 15, op := Sum.inl (AOp.faddr 0 (Arg.t 2)), guard := some (13, true) },
    { dst := some 16, op := Sum.inl (AOp.load none (Arg.t 15)), guard := some (13, true) }, { dst := some 17, op := Sum.inl (AOp.nilchk (Arg.t 16)), guard := some (13, true) }, { dst := some 18, op := Sum.inl (AOp.faddr 1 (Arg.t 17)), guard := some (13, true) },
    { dst := some 19, op := Sum.inl (AOp.load none (Arg.t 18)), guard := some (13, true) }, { dst := some 20, op := Sum.inl (AOp.bin BinOp.eql (Arg.t 14) (Arg.t 19)), guard := some (13, true) },
    { dst := some 21, op := Sum.inl (AOp.pick (Arg.t 13) (Arg.t 20) (Arg.c (AVal.bool false))), guard := none }, { dst := some 4, op := Sum.inl (AOp.mv (Arg.t 21)), guard := none }])
    ACode.ret))), false⟩

def errors_is_l0 : ACode :=
  .seq (.region none [{ dst := some 46, op := Sum.inl (AOp.bin BinOp.lss (Arg.t 45) (Arg.t 44)), guard := none }]) (.seq (.cond (Arg.t 46) ACode.skip (.exit 3)) (.seq (.block 4 (.seq
    (.region none [{ dst := some 47, op := Sum.inl (AOp.iaddrS 1 (Arg.t 43) (Arg.t 45)), guard := none }, { dst := some 48, op := Sum.inl (AOp.load none (Arg.t 47)), guard := none }, { dst := some 12, op := Sum.inl (AOp.mv (Arg.t 48)), guard := none }])
    (.seq (.region none [{ dst := some 49, op := Sum.inl (AOp.mv (Arg.t 12)), guard := none }, { dst := some 50, op := Sum.inl (AOp.mv (Arg.t 1)), guard := none }, { dst := some 51, op := Sum.inl (AOp.mv (Arg.t 2)), guard := none },
    { dst := some 52, op := Sum.inl AOp.stop, guard := none }]) (.cond (Arg.t 52) (.seq (.region none [{ dst := some 6, op := Sum.inl (AOp.mv (Arg.c (AVal.bool true))), guard := none }])
    ACode.ret) ACode.skip)))) (.region none [{ dst := some 53, op := Sum.inl (AOp.bin BinOp.add (Arg.t 45) (Arg.c (AVal.int IntKind.i64 (1)))), guard := none }, { dst := some 45, op := Sum.inl (AOp.mv (Arg.t 53)), guard := none }])))
def errors_is_s1 : ACode :=
  .block 3 (.loop errors_is_l0)
def errors_is_t2 : ACode :=
  .seq (.seq (.region none [{ dst := some 42, op := Sum.inl (AOp.mv (Arg.t 10)), guard := none }, { dst := some 43, op := Sum.inr (ACallee.inv [(46, 1)] (Arg.t 42) []), guard := none },
    { dst := some 44, op := Sum.inl (AOp.len LenT.sl (Arg.t 43)), guard := none }, { dst := some 45, op := Sum.inl (AOp.mv (Arg.c (AVal.int IntKind.i64 (0)))), guard := none }])
    errors_is_s1) (.seq (.region none [{ dst := some 6, op := Sum.inl (AOp.mv (Arg.c (AVal.bool false))), guard := none }]) ACode.ret)
def errors_is_c3 : ACode :=
  .seq (.region none [{ dst := some 10, op := Sum.inl (AOp.mv (Arg.t 41)), guard := none }]) errors_is_t2
def errors_is_c4 : ACode :=
  .seq (.region none [{ dst := some 39, op := Sum.inl (AOp.asrt true [] [8, 10, 11, 14, 15, 16, 17, 19, 26, 46, 47, 59, 60, 61, 62, 72, 73, 74, 77, 107] 68 AVal.nili (Arg.t 31)), guard := none },
    { dst := some 40, op := Sum.inl (AOp.ext 1 (Arg.t 39)), guard := none }, { dst := some 41, op := Sum.inl (AOp.ext 0 (Arg.t 39)), guard := none }]) (.cond (Arg.t 40) errors_is_c3
    (.seq (.region none [{ dst := some 13, op := Sum.inl (AOp.mv (Arg.t 31)), guard := none }]) (.seq (.region none [{ dst := some 6, op := Sum.inl (AOp.mv (Arg.c (AVal.bool false))), guard := none }])
    ACode.ret)))
def errors_is_b5 : ACode :=
  .block 2 (.seq (.region none [{ dst := some 32, op := Sum.inl (AOp.asrt true [46, 59] [8, 10, 11, 14, 15, 16, 17, 19, 26, 47, 60, 61, 62, 72, 73, 74, 77, 107] 66 AVal.nili (Arg.t 31)), guard := none },
    { dst := some 33, op := Sum.inl (AOp.ext 1 (Arg.t 32)), guard := none }, { dst := some 34, op := Sum.inl (AOp.ext 0 (Arg.t 32)), guard := none }]) (.cond (Arg.t 33) (.seq (.region
    none [{ dst := some 9, op := Sum.inl (AOp.mv (Arg.t 34)), guard := none }]) (.seq (.region none [{ dst := some 35, op := Sum.inl (AOp.mv (Arg.t 9)), guard := none }, { dst := some 36, op := Sum.inr (ACallee.inv [(46, 1)] (Arg.t 35) []), guard := none },
    { dst := some 0, op := Sum.inl (AOp.mv (Arg.t 36)), guard := none }]) (.seq (.region none [{ dst := some 37, op := Sum.inl (AOp.mv (Arg.t 0)), guard := none }, { dst := some 38, op := Sum.inl (AOp.eq false EqT.ifc (Arg.t 37) (Arg.c AVal.nili)), guard := none }])
    (.cond (Arg.t 38) (.seq (.region none [{ dst := some 6, op := Sum.inl (AOp.mv (Arg.c (AVal.bool false))), guard := none }]) ACode.ret) ACode.skip)))) errors_is_c4))
def errors_is_b6 : ACode :=
  .block 1 (.seq (.seq (.region none [{ dst := some 14, op := Sum.inl (AOp.mv (Arg.t 2)), guard := none }, { dst := some 15, op := Sum.inl (AOp.mv (Arg.t 14)), guard := none }, { dst := some 16, op := Sum.inl (AOp.mv (Arg.t 0)), guard := some (15, true) },
    { dst := some 17, op := Sum.inl (AOp.mv (Arg.t 1)), guard := some (15, true) }, { dst := some 18, op := Sum.inl (AOp.eqI false (Arg.t 16) (Arg.t 17)), guard := some (15, true) }, { dst := some 19, op := Sum.inl (AOp.pick (Arg.t 15) (Arg.t 18) (Arg.c (AVal.bool false))), guard := none }])
    (.cond (Arg.t 19) (.seq (.region none [{ dst := some 6, op := Sum.inl (AOp.mv (Arg.c (AVal.bool true))), guard := none }]) ACode.ret) ACode.skip)) (.seq (.seq (.region none [{ dst := some 21, op := Sum.inl (AOp.mv (Arg.t 0)), guard := none },
    { dst := some 22, op := Sum.inl (AOp.asrt true [46, 59] [8, 10, 11, 14, 15, 16, 17, 19, 26, 47, 60, 61, 62, 72, 73, 74, 77, 107] 63 AVal.nili (Arg.t 21)), guard := none }, { dst := some 20, op := Sum.inl (AOp.mv (Arg.t 22)), guard := none },
    { dst := some 23, op := Sum.inl (AOp.ext 0 (Arg.t 20)), guard := none }, { dst := some 24, op := Sum.inl (AOp.ext 1 (Arg.t 20)), guard := none }, { dst := some 7, op := Sum.inl (AOp.mv (Arg.t 23)), guard := none },
    { dst := some 8, op := Sum.inl (AOp.mv (Arg.t 24)), guard := none }]) (.seq (.region none [{ dst := some 25, op := Sum.inl (AOp.mv (Arg.t 8)), guard := none }, { dst := some 26, op := Sum.inl (AOp.mv (Arg.t 25)), guard := none },
    { dst := some 27, op := Sum.inl (AOp.mv (Arg.t 7)), guard := some (26, true) }, { dst := some 28, op := Sum.inl (AOp.mv (Arg.t 1)), guard := some (26, true) }, { dst := some 29, op := Sum.inr (ACallee.inv [(46, 0)] (Arg.t 27) [Arg.t 28]), guard := some (26, true) },
    { dst := some 30, op := Sum.inl (AOp.pick (Arg.t 26) (Arg.t 29) (Arg.c (AVal.bool false))), guard := none }]) (.cond (Arg.t 30) (.seq (.region none [{ dst := some 6, op := Sum.inl (AOp.mv (Arg.c (AVal.bool true))), guard := none }])
    ACode.ret) ACode.skip))) (.seq (.region none [{ dst := some 31, op := Sum.inl (AOp.mv (Arg.t 0)), guard := none }]) errors_is_b5)))
def errors_is_l7 : ACode :=
  errors_is_b6
def errors_is_s8 : ACode :=
  .block 0 (.loop errors_is_l7)
def errors_is : AFun :=
  ⟨3, [Sum.inl 6], (.seq (.region none [{ dst := some 6, op := Sum.inl (AOp.mv (Arg.c (AVal.bool false))), guard := none }]) errors_is_s8), false⟩

def fault_Has : AFun :=
  ⟨2, [Sum.inl 4], (.seq (.region none [{ dst := some 4, op := Sum.inl (AOp.mv (Arg.c (AVal.bool false))), guard := none }]) (.seq (.region none [{ dst := some 5, op := Sum.inl (AOp.mv (Arg.t 0)), guard := none },
    { dst := some 6, op := Sum.inl (AOp.eq true EqT.ptr (Arg.t 5) (Arg.c AVal.nilp)), guard := none }, { dst := some 7, op := Sum.inl (AOp.mv (Arg.t 6)), guard := none }, { dst := some 8, op := Sum.inl (AOp.mv (Arg.t 0)), guard := some (7, true) },
    { dst := some 9, op := Sum.inl (AOp.build [AVal.nilp] [(0, 1, Arg.t 8)]), guard := some (7, true) }, { dst := some 10, op := Sum.inl (AOp.mkif 46 (Arg.t 9)), guard := some (7, true) },
    { dst := some 11, op := Sum.inl (AOp.mv (Arg.t 1)), guard := some (7, true) }, { dst := some 12, op := Sum.inl (AOp.mkif 47 (Arg.t 11)), guard := some (7, true) }, { dst := some 13, op := Sum.inr (ACallee.k 0 [Arg.t 10, Arg.t 12]), guard := some (7, true) },
    { dst := some 14, op := Sum.inl (AOp.pick (Arg.t 7) (Arg.t 13) (Arg.c (AVal.bool false))), guard := none }, { dst := some 4, op := Sum.inl (AOp.mv (Arg.t 14)), guard := none }])
    ACode.ret)), false⟩

def l03_FaultHas : AFun :=
  ⟨3, [Sum.inl 6], (.seq (.region none [{ dst := some 6, op := Sum.inl (AOp.mv (Arg.c (AVal.bool false))), guard := none }]) (.seq (.seq (.region none [{ dst := some 8, op := Sum.inl (AOp.mv (Arg.t 0)), guard := none },
    { dst := some 9, op := Sum.inr (ACallee.k 0 [Arg.c (AVal.str []), Arg.t 8]), guard := none }, { dst := some 10, op := Sum.inl (AOp.un UnOp.not (Arg.t 9)), guard := none }]) (.cond
    (Arg.t 10) (.seq (.region none [{ dst := some 11, op := Sum.inr (ACallee.k 1 []), guard := none }, { dst := some 6, op := Sum.inl (AOp.mv (Arg.t 11)), guard := none }]) ACode.ret)
    ACode.skip)) (.seq (.region none [{ dst := some 12, op := Sum.inl (AOp.mv (Arg.t 0)), guard := none }, { dst := some 13, op := Sum.inl (AOp.mv (Arg.t 1)), guard := none }, { dst := some 14, op := Sum.inr (ACallee.k 2 [Arg.c (AVal.str [114, 111, 111, 116]), Arg.t 12, Arg.t 13]), guard := none },
    { dst := some 7, op := Sum.inl (AOp.mv (Arg.t 14)), guard := none }]) (.seq (.region none [{ dst := some 15, op := Sum.inr (ACallee.k 1 []), guard := none }, { dst := some 16, op := Sum.inl (AOp.mv (Arg.t 15)), guard := none },
    { dst := some 17, op := Sum.inl (AOp.mv (Arg.t 7)), guard := some (16, true) }, { dst := some 18, op := Sum.inl (AOp.mv (Arg.t 2)), guard := some (16, true) }, { dst := some 19, op := Sum.inr (ACallee.k 3 [Arg.t 17, Arg.t 18]), guard := some (16, true) },
    { dst := some 20, op := Sum.inl (AOp.mv (Arg.t 1)), guard := some (16, true) }, { dst := some 21, op := Sum.inl (AOp.mv (Arg.t 2)), guard := some (16, true) }, { dst := some 22, op := Sum.inl (AOp.bin BinOp.eql (Arg.t 20) (Arg.t 21)), guard := some (16, true) },
    { dst := some 23, op := Sum.inl (AOp.mv (Arg.t 22)), guard := some (16, true) }, { dst := some 24, op := Sum.inl (AOp.mv (Arg.t 1)), guard := some (23, true) }, { dst := some 25, op := Sum.inl (AOp.bin BinOp.neq (Arg.t 24) (Arg.c (AVal.int IntKind.i64 (0)))), guard := some (23, true) },
    { dst := some 26, op := Sum.inl (AOp.pick (Arg.t 23) (Arg.t 25) (Arg.c (AVal.bool false))), guard := some (16, true) }, { dst := some 27, op := Sum.inl (AOp.eq false EqT.bool (Arg.t 19) (Arg.t 26)), guard := some (16, true) },
    { dst := some 28, op := Sum.inl (AOp.pick (Arg.t 16) (Arg.t 27) (Arg.c (AVal.bool false))), guard := none }, { dst := some 29, op := Sum.inl (AOp.mv (Arg.t 28)), guard := none }, { dst := some 30, op := Sum.inl (AOp.mv (Arg.t 2)), guard := some (29, true) },
    { dst := some 31, op := Sum.inr (ACallee.k 4 [Arg.t 30]), guard := some (29, true) }, { dst := some 32, op := Sum.inl (AOp.mv (Arg.t 2)), guard := some (29, true) }, { dst := some 33, op := Sum.inr (ACallee.k 5 [Arg.t 32]), guard := some (29, true) },
    { dst := some 34, op := Sum.inl (AOp.bin BinOp.eql (Arg.t 31) (Arg.t 33)), guard := some (29, true) }, { dst := some 35, op := Sum.inl (AOp.pick (Arg.t 29) (Arg.t 34) (Arg.c (AVal.bool false))), guard := none },
    { dst := some 36, op := Sum.inl (AOp.mv (Arg.t 35)), guard := none }, { dst := some 37, op := Sum.inl (AOp.mv (Arg.t 2)), guard := some (36, true) }, { dst := some 38, op := Sum.inr (ACallee.k 3 [Arg.c AVal.nilp, Arg.t 37]), guard := some (36, true) },
    { dst := some 39, op := Sum.inl (AOp.un UnOp.not (Arg.t 38)), guard := some (36, true) }, { dst := some 40, op := Sum.inl (AOp.pick (Arg.t 36) (Arg.t 39) (Arg.c (AVal.bool false))), guard := none },
    { dst := some 6, op := Sum.inl (AOp.mv (Arg.t 40)), guard := none }]) ACode.ret)))), false⟩

def l03_FaultWrapped : AFun :=
  ⟨3, [Sum.inl 6], (.seq (.region none [{ dst := some 6, op := Sum.inl (AOp.mv (Arg.c (AVal.bool false))), guard := none }]) (.seq (.seq (.region none [{ dst := some 9, op := Sum.inl (AOp.mv (Arg.t 1)), guard := none },
    { dst := some 10, op := Sum.inl (AOp.mv (Arg.t 0)), guard := none }, { dst := some 11, op := Sum.inr (ACallee.k 0 [Arg.t 9, Arg.t 10]), guard := none }, { dst := some 12, op := Sum.inl (AOp.un UnOp.not (Arg.t 11)), guard := none }])
    (.cond (Arg.t 12) (.seq (.region none [{ dst := some 13, op := Sum.inr (ACallee.k 1 []), guard := none }, { dst := some 6, op := Sum.inl (AOp.mv (Arg.t 13)), guard := none }])
    ACode.ret) ACode.skip)) (.seq (.region none [{ dst := some 14, op := Sum.inl (AOp.mv (Arg.t 0)), guard := none }, { dst := some 15, op := Sum.inl (AOp.mv (Arg.t 2)), guard := none },
    { dst := some 16, op := Sum.inr (ACallee.k 2 [Arg.c (AVal.str [114, 111, 111, 116]), Arg.t 14, Arg.t 15]), guard := none }, { dst := some 7, op := Sum.inl (AOp.mv (Arg.t 16)), guard := none }])
    (.seq (.region none [{ dst := some 17, op := Sum.inl (AOp.mv (Arg.t 1)), guard := none }, { dst := some 18, op := Sum.inl (AOp.mv (Arg.t 7)), guard := none }, { dst := some 19, op := Sum.inr (ACallee.k 3 [Arg.t 17, Arg.t 18]), guard := none },
    { dst := some 8, op := Sum.inl (AOp.mv (Arg.t 19)), guard := none }]) (.seq (.seq (.region none [{ dst := some 20, op := Sum.inl (AOp.mv (Arg.t 2)), guard := none }, { dst := some 21, op := Sum.inl (AOp.bin BinOp.eql (Arg.t 20) (Arg.c (AVal.int IntKind.i64 (0)))), guard := none }])
    (.cond (Arg.t 21) (.seq (.region none [{ dst := some 22, op := Sum.inr (ACallee.k 1 []), guard := none }, { dst := some 23, op := Sum.inl (AOp.mv (Arg.t 22)), guard := none }, { dst := some 24, op := Sum.inl (AOp.mv (Arg.t 8)), guard := some (23, true) },
    { dst := some 25, op := Sum.inl (AOp.eq false EqT.ptr (Arg.t 24) (Arg.c AVal.nilp)), guard := some (23, true) }, { dst := some 26, op := Sum.inl (AOp.pick (Arg.t 23) (Arg.t 25) (Arg.c (AVal.bool false))), guard := none },
    { dst := some 6, op := Sum.inl (AOp.mv (Arg.t 26)), guard := none }]) ACode.ret) ACode.skip)) (.seq (.region none [{ dst := some 27, op := Sum.inr (ACallee.k 1 []), guard := none },
    { dst := some 28, op := Sum.inl (AOp.mv (Arg.t 27)), guard := none }, { dst := some 29, op := Sum.inl (AOp.mv (Arg.t 8)), guard := some (28, true) }, { dst := some 30, op := Sum.inl (AOp.eq true EqT.ptr (Arg.t 29) (Arg.c AVal.nilp)), guard := some (28, true) },
    { dst := some 31, op := Sum.inl (AOp.pick (Arg.t 28) (Arg.t 30) (Arg.c (AVal.bool false))), guard := none }, { dst := some 32, op := Sum.inl (AOp.mv (Arg.t 31)), guard := none }, { dst := some 33, op := Sum.inl (AOp.mv (Arg.t 8)), guard := some (32, true) },
    { dst := some 34, op := Sum.inr (ACallee.k 4 [Arg.t 33]), guard := some (32, true) }, { dst := some 35, op := Sum.inl (AOp.mv (Arg.t 2)), guard := some (32, true) }, { dst := some 36, op := Sum.inl (AOp.bin BinOp.eql (Arg.t 34) (Arg.t 35)), guard := some (32, true) },
    { dst := some 37, op := Sum.inl (AOp.pick (Arg.t 32) (Arg.t 36) (Arg.c (AVal.bool false))), guard := none }, { dst := some 38, op := Sum.inl (AOp.mv (Arg.t 37)), guard := none }, { dst := some 39, op := Sum.inl (AOp.mv (Arg.t 8)), guard := some (38, true) },
    { dst := some 40, op := Sum.inr (ACallee.k 5 [Arg.t 39]), guard := some (38, true) }, { dst := some 41, op := Sum.inl (AOp.mv (Arg.t 7)), guard := some (38, true) }, { dst := some 42, op := Sum.inr (ACallee.k 5 [Arg.t 41]), guard := some (38, true) },
    { dst := some 43, op := Sum.inl (AOp.bin BinOp.eql (Arg.t 40) (Arg.t 42)), guard := some (38, true) }, { dst := some 44, op := Sum.inl (AOp.pick (Arg.t 38) (Arg.t 43) (Arg.c (AVal.bool false))), guard := none },
    { dst := some 45, op := Sum.inl (AOp.mv (Arg.t 44)), guard := none }, { dst := some 46, op := Sum.inl (AOp.mv (Arg.t 8)), guard := some (45, true) }, { dst := some 47, op := Sum.inr (ACallee.k 6 [Arg.t 46]), guard := some (45, true) },
    { dst := some 48, op := Sum.inl (AOp.mv (Arg.t 7)), guard := some (45, true) }, { dst := some 49, op := Sum.inr (ACallee.k 6 [Arg.t 48]), guard := some (45, true) }, { dst := some 50, op := Sum.inl (AOp.bin BinOp.add (Arg.t 49) (Arg.c (AVal.int IntKind.i64 (1)))), guard := some (45, true) },
    { dst := some 51, op := Sum.inl (AOp.bin BinOp.eql (Arg.t 47) (Arg.t 50)), guard := some (45, true) }, { dst := some 52, op := Sum.inl (AOp.pick (Arg.t 45) (Arg.t 51) (Arg.c (AVal.bool false))), guard := none },
    { dst := some 53, op := Sum.inl (AOp.mv (Arg.t 52)), guard := none }, { dst := some 54, op := Sum.inl (AOp.mv (Arg.t 8)), guard := some (53, true) }, { dst := some 55, op := Sum.inr (ACallee.k 7 [Arg.t 54]), guard := some (53, true) },
    { dst := some 56, op := Sum.inl (AOp.mv (Arg.t 1)), guard := some (53, true) }, { dst := some 57, op := Sum.inl (AOp.bin BinOp.add (Arg.t 56) (Arg.c (AVal.str [58, 32]))), guard := some (53, true) },
    { dst := some 58, op := Sum.inl (AOp.mv (Arg.t 7)), guard := some (53, true) }, { dst := some 59, op := Sum.inr (ACallee.k 7 [Arg.t 58]), guard := some (53, true) }, { dst := some 60, op := Sum.inl (AOp.bin BinOp.add (Arg.t 57) (Arg.t 59)), guard := some (53, true) },
    { dst := some 61, op := Sum.inl (AOp.bin BinOp.eql (Arg.t 55) (Arg.t 60)), guard := some (53, true) }, { dst := some 62, op := Sum.inl (AOp.pick (Arg.t 53) (Arg.t 61) (Arg.c (AVal.bool false))), guard := none },
    { dst := some 6, op := Sum.inl (AOp.mv (Arg.t 62)), guard := none }]) ACode.ret)))))), false⟩

end Am.Ir
