/- The machine's code of the functions, printed by a program of this session; each is checked against the model's. -/
import Derived.Test.YtffhiphcmohjdaaGreatDoorAmIrS
set_option linter.all false
namespace Am.Ir
open Am Go
set_option maxRecDepth 100000
def l14_small : AFun :=
  ⟨1, [.inl 2], (.seq (.region none [ox 1 (.box (.t 0)), ox 2 (.mv (.c (.bool false)))]) (.seq
    (.region none [ox 3 (.faddr 5 (.t 1)), ox 4 (.load none (.t 3)), ox 5 (.len .sl (.t 4)),
    ox 6 (.bin .leq (.t 5) (ai 300)), mo 7 6,
    og 7 true 8 (.faddr 6 (.t 1)), og 7 true 9 (.load none (.t 8)), og 7 true 10 (.len .sl (.t 9)),
    og 7 true 11 (.bin .leq (.t 10) (ai 60)), ox 12 (.pick (.t 7) (.t 11) (.c (.bool false))),
    mo 13 12, og 13 true 14 (.faddr 1 (.t 1)), og 13 true 15 (.load none (.t 14)),
    og 13 true 16 (.len .str (.t 15)), og 13 true 17 (.bin .leq (.t 16) (ai 20)),
    ox 18 (.pick (.t 13) (.t 17) (.c (.bool false))), mo 19 18, og 19 true 20 (.faddr 2 (.t 1)),
    og 19 true 21 (.load none (.t 20)), og 19 true 22 (.len .str (.t 21)), og 19 true 23 (.bin .leq (.t 22) (ai 20)),
    ox 24 (.pick (.t 19) (.t 23) (.c (.bool false))), mo 25 24, og 25 true 26 (.faddr 3 (.t 1)),
    og 25 true 27 (.load none (.t 26)), og 25 true 28 (.len .str (.t 27)), og 25 true 29 (.bin .leq (.t 28) (ai 20)),
    ox 30 (.pick (.t 25) (.t 29) (.c (.bool false))), mo 2 30])
    .ret)), false⟩

def l14_call : AFun :=
  ⟨2, [.inl 4, .inl 5], (.seq (.region none [ox 3 (.box (.t 1)), ox 4 (.mv (.c (.str []))), ox 5 (.mv (.c .nilp))])
    (.seq (.seq (.region none [ox 8 (.faddr 0 (.t 3)), ox 9 (.load none (.t 8))])
    (.block 0 (.seq (.region none [ox 11 (.bin .eql (.t 9) (ai 1)), mo 10 11])
    (.cond (.t 10) (.seq (.region none [mo 12 0, ox 13 (.faddr 1 (.t 3)),
    ox 14 (.load none (.t 13)), kx 15 (.k 0 [.t 12, .t 14]), ox 4 (.mv (.c (.str []))),
    mo 5 15]) .ret) (.seq (.region none [ox 17 (.bin .eql (.t 9) (ai 2)),
    mo 16 17]) (.cond (.t 16) (.seq (.region none [mo 18 0, ox 19 (.faddr 1 (.t 3)),
    ox 20 (.load none (.t 19)), kx 21 (.k 1 [.t 18, .t 20]), ox 4 (.mv (.c (.str []))),
    mo 5 21]) .ret) (.seq (.region none [ox 23 (.bin .eql (.t 9) (ai 3)),
    mo 22 23]) (.cond (.t 22) (.seq (.region none [mo 24 0, ox 25 (.faddr 1 (.t 3)),
    ox 26 (.load none (.t 25)), ox 27 (.faddr 4 (.t 3)), ox 28 (.load none (.t 27)),
    ox 29 (.faddr 5 (.t 3)), ox 30 (.load none (.t 29)), kx 31 (.k 2 [.t 24, .t 26, .t 28, .t 30]),
    ox 4 (.mv (.c (.str []))), mo 5 31]) .ret) (.seq (.region none
    [ox 33 (.bin .eql (.t 9) (ai 4)), mo 32 33])
    (.cond (.t 32) (.seq (.region none [mo 34 0, ox 35 (.faddr 1 (.t 3)),
    ox 36 (.load none (.t 35)), ox 37 (.faddr 4 (.t 3)), ox 38 (.load none (.t 37)),
    kx 39 (.k 3 [.t 34, .t 36, .t 38]), ox 4 (.mv (.c (.str []))), mo 5 39])
    .ret) (.seq (.region none [ox 41 (.bin .eql (.t 9) (ai 5)), mo 40 41])
    (.cond (.t 40) (.seq (.region none [mo 42 0, ox 43 (.faddr 1 (.t 3)),
    ox 44 (.load none (.t 43)), ox 45 (.faddr 2 (.t 3)), ox 46 (.load none (.t 45)),
    kx 47 (.k 4 [.t 42, .t 44, .t 46]), ox 4 (.mv (.c (.str []))), mo 5 47])
    .ret) (.seq (.region none [ox 49 (.bin .eql (.t 9) (ai 6)), mo 48 49])
    (.cond (.t 48) (.seq (.region none [mo 50 0, ox 51 (.faddr 1 (.t 3)),
    ox 52 (.load none (.t 51)), ox 53 (.faddr 2 (.t 3)), ox 54 (.load none (.t 53)),
    kx 55 (.k 5 [.t 50, .t 52, .t 54]), ox 4 (.mv (.c (.str []))), mo 5 55])
    .ret) (.seq (.region none [ox 57 (.bin .eql (.t 9) (ai 7)), mo 56 57])
    (.cond (.t 56) (.seq (.region none [mo 58 0, ox 59 (.faddr 1 (.t 3)),
    ox 60 (.load none (.t 59)), ox 61 (.faddr 2 (.t 3)), ox 62 (.load none (.t 61)),
    kx 63 (.k 6 [.t 58, .t 60, .t 62]), ox 4 (.mv (.c (.str []))), mo 5 63])
    .ret) (.seq (.region none [ox 65 (.bin .eql (.t 9) (ai 8)), mo 64 65])
    (.cond (.t 64) (.seq (.region none [mo 66 0, ox 67 (.faddr 1 (.t 3)),
    ox 68 (.load none (.t 67)), ox 69 (.faddr 2 (.t 3)), ox 70 (.load none (.t 69)),
    ox 71 (.faddr 3 (.t 3)), ox 72 (.load none (.t 71)), kx 73 (.k 7 [.t 66, .t 68, .t 70, .t 72]),
    ox 4 (.mv (.c (.str []))), mo 5 73]) .ret) (.seq (.region none
    [ox 75 (.bin .eql (.t 9) (ai 9)), mo 74 75])
    (.cond (.t 74) (.seq (.region none [mo 76 0, ox 77 (.faddr 1 (.t 3)),
    ox 78 (.load none (.t 77)), ox 79 (.faddr 2 (.t 3)), ox 80 (.load none (.t 79)),
    ox 81 (.faddr 4 (.t 3)), ox 82 (.load none (.t 81)), ox 83 (.bin .and (.t 82) (ai 1)),
    ox 84 (.bin .eql (.t 83) (ai 1)), kx 85 (.k 8 [.t 76, .t 78, .t 80, .t 84]),
    ox 4 (.mv (.c (.str []))), mo 5 85]) .ret) (.seq (.region none
    [ox 87 (.bin .eql (.t 9) (ai 10)), mo 86 87])
    (.cond (.t 86) (.seq (.region none [mo 89 0, ox 90 (.faddr 1 (.t 3)),
    ox 91 (.load none (.t 90)), ox 92 (.faddr 2 (.t 3)), ox 93 (.load none (.t 92)),
    ox 94 (.faddr 4 (.t 3)), ox 95 (.load none (.t 94)), kx 96 (.k 9 [.t 89, .t 91, .t 93, .t 95]),
    mo 88 96, ox 97 (.ext 0 (.t 88)), ox 98 (.ext 1 (.t 88)),
    mo 6 97, mo 7 98]) (.seq (.region none [mo 99 6,
    ox 100 (.convBS (.t 99)), mo 101 7, mo 4 100,
    mo 5 101]) .ret)) .skip)))))))))))))))))))))) (.seq (.region none [ox 4 (.mv (.c (.str []))),
    ox 5 (.mv (.c .nilp))]) .ret))), false⟩

def l14_PoolNil : AFun :=
  ⟨1, [.inl 2], (.seq (.region none [ox 1 (.box (.t 0)), ox 2 (.mv (.c (.bool false)))]) (.seq
    (.region none [ox 3 (.mv (.c .nilp))]) (.seq (.seq (.region none [ox 6 (.load (some 7) (.t 1)),
    kx 7 (.k 0 [.t 6]), ox 8 (.un .not (.t 7))]) (.cond (.t 8) (.seq
    (.region none [kx 9 (.k 1 []), mo 2 9]) .ret) .skip)) (.seq
    (.region none [mo 11 3, ox 12 (.load (some 7) (.t 1)), kx 13 (.k 2 [.t 11, .t 12]),
    mo 10 13, ox 14 (.ext 0 (.t 10)), ox 15 (.ext 1 (.t 10)),
    mo 4 14, mo 5 15]) (.seq (.region none [kx 16 (.k 1 []),
    mo 17 16, og 17 true 18 (.mv (.t 4)), og 17 true 19 (.bin .eql (.t 18) (.c (.str []))),
    ox 20 (.pick (.t 17) (.t 19) (.c (.bool false))), mo 21 20, og 21 true 22 (.faddr 0 (.t 1)),
    og 21 true 23 (.load none (.t 22)), og 21 true 24 (.bin .lss (.t 23) (ai 1)),
    og 21 true 25 (.mv (.t 24)), og 25 false 26 (.faddr 0 (.t 1)), og 25 false 27 (.load none (.t 26)),
    og 25 false 28 (.bin .gtr (.t 27) (ai 10)), og 21 true 29 (.pick (.t 25) (.c (.bool true)) (.t 28)),
    og 21 true 30 (.mv (.t 29)), og 30 false 31 (.mv (.t 5)), kg 30 false 32 (.k 3 [.t 31]),
    og 30 false 33 (.bin .eql (.t 32) (ai 8)), og 21 true 34 (.pick (.t 30) (.c (.bool true)) (.t 33)),
    ox 35 (.pick (.t 21) (.t 34) (.c (.bool false))), mo 36 35, og 36 true 37 (.mv (.t 3)),
    kg 36 true 38 (.k 4 [.t 37]), og 36 true 39 (.bin .eql (.t 38) (.c (.int .u32 0))),
    ox 40 (.pick (.t 36) (.t 39) (.c (.bool false))), mo 41 40, og 41 true 42 (.mv (.t 3)),
    kg 41 true 43 (.k 5 [.t 42]), og 41 true 44 (.bin .eql (.t 43) (ai 0)),
    ox 45 (.pick (.t 41) (.t 44) (.c (.bool false))), mo 46 45, og 46 true 47 (.mv (.t 3)),
    kg 46 true 48 (.k 6 [.t 47]), ox 49 (.pick (.t 46) (.t 48) (.c (.bool false))),
    mo 50 49, og 50 true 51 (.mv (.t 3)), kg 50 true 52 (.k 7 [.t 51]),
    og 50 true 53 (.eq false .ptr (.t 52) (.c .nilp)), ox 54 (.pick (.t 50) (.t 53) (.c (.bool false))),
    mo 55 54, og 55 true 56 (.mv (.t 3)), kg 55 true 57 (.k 8 [.t 56]),
    og 55 true 58 (.fld none 1 (.t 57)), og 55 true 59 (.len .sl (.t 58)), og 55 true 60 (.bin .eql (.t 59) (ai 0)),
    ox 61 (.pick (.t 55) (.t 60) (.c (.bool false))), mo 62 61, og 62 true 63 (.mv (.t 3)),
    og 62 true 64 (.build (rp [(1, .int .u32 0), (2, .nils), (1, .int .u32 0), (32, .int .u8 0), (3, .int .u32 0)]) []),
    kg 62 true 65 (.k 9 [.t 63, .c (.str [120]), .c .nilp, .t 64, .c (.int .i64 0)]), kg 62 true 66 (.k 3 [.t 65]),
    og 62 true 67 (.bin .eql (.t 66) (ai 8)), ox 68 (.pick (.t 62) (.t 67) (.c (.bool false))),
    mo 2 68]) .ret))))), false⟩

end Am.Ir
