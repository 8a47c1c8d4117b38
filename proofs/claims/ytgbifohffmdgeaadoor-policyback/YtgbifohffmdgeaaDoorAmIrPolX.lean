/- The machine's code of the functions, printed by a program of this session; each is checked against the model's. -/
import Derived.Test.YtgbifohffmdgeaaDoorAmIrS
import Derived.Test.YtgbifohffmdgeaaDoorAmIrPolD
set_option linter.all false
namespace Am.Ir
open Am Go
set_option maxRecDepth 100000
def policy_newestZ_l0 : ACode :=
  .seq (.region none [ox 8 (.bin .lss (.t 7) (.t 6))]) (.seq (.cond (.t 8) .skip (.exit 0)) (.seq (.block 1 (.seq
    (.region none [mo 9 7, mo 4 9]) (.region none [mo 10 3,
    mo 11 4, ox 12 (.bslice false 1 1 [.int .i64 0] [(0, 1, .t 11)]),
    ox 13 (.append 1 8 (.t 10) (.t 12)), mo 3 13]))) (.region none [ox 14 (.bin .add (.t 7) (ai 1)),
    mo 7 14])))
def policy_newestZ_s1 : ACode :=
  .block 0 (.loop policy_newestZ_l0)
def policy_newestZ_t2 : ACode :=
  .seq (.seq (.region none [ox 5 (.load none (.t 1)), ox 6 (.len .sl (.t 5)), ox 7 (.mv (ai 0))])
    policy_newestZ_s1) (.seq (.region none [mo 15 3, ox 16 (.mkfn (Fn.func 38) [] [.t 1]),
    kx 17 (.k 0 [.t 15, .t 16])]) (.seq (.region none [mo 18 3, mo 2 18])
    .ret))
def policy_newestZ : AFun :=
  ⟨1, [.inl 2], (.seq (.region none [ox 1 (.box (.t 0)), ox 2 (.mv (.c .nils))]) (.seq
    (.region none [ox 3 (.mv (.c .nils))]) policy_newestZ_t2)), false⟩

def clock_leapsZ : AFun :=
  ⟨1, [.inl 2], (.seq (.region none [ox 2 (.mv (ai 0))]) (.seq (.region none [ox 3 (.mv (.c (.fn (Fn.func 97) [] [])))])
    (.seq (.region none [mo 4 3, mo 5 0, ox 6 (.bin .sub (.t 5) (ai 1)),
    kx 7 (.v (.t 4) [.t 6]), mo 8 3, kx 9 (.v (.t 8) [ai 1999]),
    ox 10 (.bin .sub (.t 7) (.t 9)), mo 2 10]) .ret))), false⟩

def strings_splitSeqZ : AFun :=
  ⟨3, [.inl 6], (.seq (.region none [ox 3 (.box (.t 0)), ox 4 (.box (.t 1)), ox 5 (.box (.t 2)),
    ox 6 (.mv (.c .nilf))]) (.seq (.region none [ox 7 (.mkfn (Fn.func 56) [] [.t 4, .t 3, .t 5]),
    mo 6 7]) .ret)), false⟩

def strconv_ParseUintZ_l0 : ACode :=
  .seq (.region none [ox 102 (.bin .lss (.t 101) (.t 100))]) (.seq (.cond (.t 102) .skip (.exit 3)) (.seq (.block 4
    (.seq (.region none [ox 103 (.iaddrS 1 (.t 99) (.t 101)), ox 104 (.load none (.t 103)),
    mo 15 104]) (.seq (.region none [ox 16 (.mv (.c (.int .u8 0)))])
    (.seq (.block 5 (.seq (.region none [mo 107 15, ox 108 (.bin .eql (.t 107) (.c (.int .u8 95))),
    mo 109 108, og 109 true 110 (.mv (.t 8)), ox 111 (.pick (.t 109) (.t 110) (.c (.bool false))),
    mo 106 111]) (.cond (.t 106) (.seq (.region none [ox 12 (.mv (.c (.bool true)))])
    (.exit 4)) (.seq (.region none [mo 113 15, ox 114 (.bin .leq (.c (.int .u8 48)) (.t 113)),
    mo 115 114, og 115 true 116 (.mv (.t 15)), og 115 true 117 (.bin .leq (.t 116) (.c (.int .u8 57))),
    ox 118 (.pick (.t 115) (.t 117) (.c (.bool false))), mo 112 118])
    (.cond (.t 112) (.region none [mo 119 15, ox 120 (.bin .sub (.t 119) (.c (.int .u8 48))),
    mo 16 120]) (.seq (.region none [mo 122 15, kx 123 (.k 0 [.t 122]),
    ox 124 (.bin .leq (.c (.int .u8 97)) (.t 123)), mo 125 124,
    og 125 true 126 (.mv (.t 15)), kg 125 true 127 (.k 0 [.t 126]), og 125 true 128 (.bin .leq (.t 127) (.c (.int .u8 122))),
    ox 129 (.pick (.t 125) (.t 128) (.c (.bool false))), mo 121 129])
    (.cond (.t 121) (.region none [mo 130 15, kx 131 (.k 0 [.t 130]),
    ox 132 (.bin .sub (.t 131) (.c (.int .u8 97))), ox 133 (.bin .add (.t 132) (.c (.int .u8 10))),
    mo 16 133]) (.seq (.region none [ox 105 (.mkif 121 (ai 2)),
    ox 6 (.mv (.c (.int .u64 0))), mo 7 105])
    .ret)))))))) (.seq (.seq (.region none [mo 134 16, mo 135 1,
    ox 136 (.convI .u8 (.t 135)), ox 137 (.bin .geq (.t 134) (.t 136))])
    (.cond (.t 137) (.seq (.region none [ox 138 (.mkif 121 (ai 2)), ox 6 (.mv (.c (.int .u64 0))),
    mo 7 138]) .ret) .skip)) (.seq (.seq (.region none [mo 139 13,
    mo 140 10, ox 141 (.bin .geq (.t 139) (.t 140))]) (.cond (.t
    141) (.seq (.region none [mo 142 11, ox 143 (.mkif 121 (ai 1)),
    mo 6 142, mo 7 143]) .ret) .skip)) (.seq (.region
    none [mo 144 13, mo 145 1, ox 146 (.convI .u64 (.t 145)),
    ox 147 (.bin .mul (.t 144) (.t 146)), mo 13 147]) (.seq
    (.region none [mo 148 13, mo 149 16, ox 150 (.convI .u64 (.t 149)),
    ox 151 (.bin .add (.t 148) (.t 150)), mo 17 151]) (.seq (.seq
    (.region none [mo 152 17, mo 153 13, ox 154 (.bin .lss (.t 152) (.t 153)),
    mo 155 154, og 155 false 156 (.mv (.t 17)), og 155 false 157 (.mv (.t 11)),
    og 155 false 158 (.bin .gtr (.t 156) (.t 157)), ox 159 (.pick (.t 155) (.c (.bool true)) (.t 158))])
    (.cond (.t 159) (.seq (.region none [mo 160 11, ox 161 (.mkif 121 (ai 1)),
    mo 6 160, mo 7 161]) .ret) .skip)) (.region none
    [mo 162 17, mo 13 162])))))))))) (.region none [ox 163 (.bin .add (.t 101) (ai 1)),
    mo 101 163])))
def strconv_ParseUintZ_s1 : ACode :=
  .block 3 (.loop strconv_ParseUintZ_l0)
def strconv_ParseUintZ_t2 : ACode :=
  .seq (.seq (.region none [mo 98 0, ox 99 (.convSB (.t 98)), ox 100 (.len .sl (.t 99)),
    ox 101 (.mv (ai 0))]) strconv_ParseUintZ_s1) (.seq (.seq (.region none [mo 164 12,
    mo 165 164, og 165 true 166 (.mv (.t 9)), kg 165 true 167 (.k 1 [.t 166]),
    og 165 true 168 (.un .not (.t 167)), ox 169 (.pick (.t 165) (.t 168) (.c (.bool false)))])
    (.cond (.t 169) (.seq (.region none [ox 170 (.mkif 121 (ai 2)), ox 6 (.mv (.c (.int .u64 0))),
    mo 7 170]) .ret) .skip)) (.seq (.region none [mo 171 13,
    mo 6 171, ox 7 (.mv (.c .nili))]) .ret))
def strconv_ParseUintZ : AFun :=
  ⟨3, [.inl 6, .inl 7], (.seq (.region none [ox 6 (.mv (.c (.int .u64 0))), ox 7 (.mv (.c .nili))])
    (.seq (.seq (.region none [mo 18 0, ox 19 (.bin .eql (.t 18) (.c (.str [])))])
    (.cond (.t 19) (.seq (.region none [ox 20 (.mkif 121 (ai 2)), ox 6 (.mv (.c (.int .u64 0))),
    mo 7 20]) .ret) .skip)) (.seq (.region none [mo 21 1,
    ox 22 (.bin .eql (.t 21) (ai 0)), mo 8 22])
    (.seq (.region none [mo 23 0, mo 9 23]) (.seq (.block 0
    (.seq (.region none [mo 26 1, ox 27 (.bin .leq (ai 2) (.t 26)),
    mo 28 27, og 28 true 29 (.mv (.t 1)), og 28 true 30 (.bin .leq (.t 29) (ai 36)),
    ox 31 (.pick (.t 28) (.t 30) (.c (.bool false))), mo 25 31])
    (.cond (.t 25) .skip (.seq (.region none [mo 33 1, ox 34 (.bin .eql (.t 33) (ai 0)),
    mo 32 34]) (.cond (.t 32) (.seq (.region none [ox 1 (.mv (ai 10))])
    (.seq (.region none [mo 35 0, ox 36 (.idxStr (.t 35) (ai 0)),
    ox 37 (.bin .eql (.t 36) (.c (.int .u8 48)))]) (.cond (.t 37) (.block 1 (.seq (.region none [mo 41 0,
    ox 42 (.len .str (.t 41)), ox 43 (.bin .geq (.t 42) (ai 3)),
    mo 44 43, og 44 true 45 (.mv (.t 0)), og 44 true 46 (.idxStr (.t 45) (ai 1)),
    kg 44 true 47 (.k 0 [.t 46]), og 44 true 48 (.bin .eql (.t 47) (.c (.int .u8 98))),
    ox 49 (.pick (.t 44) (.t 48) (.c (.bool false))), mo 40 49])
    (.cond (.t 40) (.seq (.region none [ox 1 (.mv (ai 2))]) (.region none [mo 50 0,
    ox 51 (.slcStr (.t 50) (some (ai 2)) none), mo 0 51]))
    (.seq (.region none [mo 53 0, ox 54 (.len .str (.t 53)), ox 55 (.bin .geq (.t 54) (ai 3)),
    mo 56 55, og 56 true 57 (.mv (.t 0)), og 56 true 58 (.idxStr (.t 57) (ai 1)),
    kg 56 true 59 (.k 0 [.t 58]), og 56 true 60 (.bin .eql (.t 59) (.c (.int .u8 111))),
    ox 61 (.pick (.t 56) (.t 60) (.c (.bool false))), mo 52 61])
    (.cond (.t 52) (.seq (.region none [ox 1 (.mv (ai 8))]) (.region none [mo 62 0,
    ox 63 (.slcStr (.t 62) (some (ai 2)) none), mo 0 63]))
    (.seq (.region none [mo 65 0, ox 66 (.len .str (.t 65)), ox 67 (.bin .geq (.t 66) (ai 3)),
    mo 68 67, og 68 true 69 (.mv (.t 0)), og 68 true 70 (.idxStr (.t 69) (ai 1)),
    kg 68 true 71 (.k 0 [.t 70]), og 68 true 72 (.bin .eql (.t 71) (.c (.int .u8 120))),
    ox 73 (.pick (.t 68) (.t 72) (.c (.bool false))), mo 64 73])
    (.cond (.t 64) (.seq (.region none [ox 1 (.mv (ai 16))]) (.region none [mo 74 0,
    ox 75 (.slcStr (.t 74) (some (ai 2)) none), mo 0 75]))
    (.seq (.region none [ox 1 (.mv (ai 8))]) (.region none [mo 38 0,
    ox 39 (.slcStr (.t 38) (some (ai 1)) none), mo 0 39])))))))))
    .skip))) (.seq (.region none [ox 24 (.mkif 121 (ai 3)), ox 6 (.mv (.c (.int .u64 0))),
    mo 7 24]) .ret)))))) (.seq (.seq (.region none [mo 76 2,
    ox 77 (.bin .eql (.t 76) (ai 0))]) (.cond (.t 77) (.region none [ox 2 (.mv (ai 64))])
    (.seq (.region none [mo 78 2, ox 79 (.bin .lss (.t 78) (ai 0)),
    mo 80 79, og 80 false 81 (.mv (.t 2)), og 80 false 82 (.bin .gtr (.t 81) (ai 64)),
    ox 83 (.pick (.t 80) (.c (.bool true)) (.t 82))]) (.cond (.t 83) (.seq (.region none [ox 84 (.mkif 121 (ai 4)),
    ox 6 (.mv (.c (.int .u64 0))), mo 7 84]) .ret)
    .skip)))) (.seq (.region none [ox 10 (.mv (.c (.int .u64 0)))]) (.seq (.seq (.region none [mo 85 1])
    (.block 2 (.seq (.region none [ox 91 (.bin .eql (.t 85) (ai 10)), mo 90 91])
    (.cond (.t 90) (.region none [ox 10 (.mv (.c (.int .u64 1844674407370955162)))]) (.seq (.region none [ox 93 (.bin .eql (.t 85) (ai 16)),
    mo 92 93]) (.cond (.t 92) (.region none [ox 10 (.mv (.c (.int .u64 1152921504606846976)))])
    (.region none [mo 86 1, ox 87 (.convI .u64 (.t 86)), ox 88 (.bin .quo (.c (.int .u64 18446744073709551615)) (.t 87)),
    ox 89 (.bin .add (.t 88) (.c (.int .u64 1))), mo 10 89])))))))
    (.seq (.region none [mo 94 2, ox 95 (.convI .u64 (.t 94)), ox 96 (.bin .shl (.c (.int .u64 1)) (.t 95)),
    ox 97 (.bin .sub (.t 96) (.c (.int .u64 1))), mo 11 97])
    (.seq (.region none [ox 12 (.mv (.c (.bool false)))]) (.seq (.region none [ox 13 (.mv (.c (.int .u64 0)))])
    strconv_ParseUintZ_t2))))))))))), false⟩

def strconv_ParseIntZ : AFun :=
  ⟨3, [.inl 6, .inl 7], (.seq (.region none [ox 6 (.mv (ai 0)), ox 7 (.mv (.c .nili))])
    (.seq (.seq (.region none [mo 12 0, ox 13 (.bin .eql (.t 12) (.c (.str [])))])
    (.cond (.t 13) (.seq (.region none [ox 14 (.mkif 121 (ai 2)), ox 6 (.mv (ai 0)),
    mo 7 14]) .ret) .skip)) (.seq (.region none [ox 8 (.mv (.c (.bool false)))])
    (.seq (.seq (.region none [mo 15 0, ox 16 (.idxStr (.t 15) (ai 0))])
    (.block 0 (.seq (.region none [ox 18 (.bin .eql (.t 16) (.c (.int .u8 43))), mo 17 18])
    (.cond (.t 17) (.region none [mo 19 0, ox 20 (.slcStr (.t 19) (some (ai 1)) none),
    mo 0 20]) (.seq (.region none [ox 22 (.bin .eql (.t 16) (.c (.int .u8 45))),
    mo 21 22]) (.cond (.t 21) (.seq (.region none [mo 23 0, ox 24 (.slcStr (.t 23) (some (ai 1)) none),
    mo 0 24]) (.region none [ox 8 (.mv (.c (.bool true)))]))
    .skip)))))) (.seq (.region none [ox 9 (.mv (.c (.int .u64 0)))]) (.seq (.region none [mo 26 0,
    mo 27 1, mo 28 2, kx 29 (.k 0 [.t 26, .t 27, .t 28]),
    mo 25 29, ox 30 (.ext 0 (.t 25)), ox 31 (.ext 1 (.t 25)),
    mo 9 30, mo 7 31]) (.seq (.seq (.region none [mo 32 7,
    ox 33 (.eq true .ifc (.t 32) (.c .nili)), mo 34 33, og 34 true 35 (.mv (.t 7)),
    og 34 true 36 (.mkif 121 (ai 1)), og 34 true 37 (.eqI true (.t 35) (.t 36)),
    ox 38 (.pick (.t 34) (.t 37) (.c (.bool false)))]) (.cond (.t 38) (.seq (.region none [mo 39 7,
    ox 6 (.mv (ai 0)), mo 7 39]) .ret)
    .skip)) (.seq (.seq (.region none [mo 40 2, ox 41 (.bin .eql (.t 40) (ai 0))])
    (.cond (.t 41) (.region none [ox 2 (.mv (ai 64))]) .skip)) (.seq (.region none [mo 42 2,
    ox 43 (.bin .sub (.t 42) (ai 1)), ox 44 (.convI .u64 (.t 43)),
    ox 45 (.bin .shl (.c (.int .u64 1)) (.t 44)), mo 10 45])
    (.seq (.seq (.region none [mo 46 8, ox 47 (.un .not (.t 46)), mo 48 47,
    og 48 true 49 (.mv (.t 9)), og 48 true 50 (.mv (.t 10)), og 48 true 51 (.bin .geq (.t 49) (.t 50)),
    ox 52 (.pick (.t 48) (.t 51) (.c (.bool false)))]) (.cond (.t 52) (.seq (.region none [mo 53 10,
    ox 54 (.bin .sub (.t 53) (.c (.int .u64 1))), ox 55 (.convI .i64 (.t 54)),
    ox 56 (.mkif 121 (ai 1)), mo 6 55, mo 7 56])
    .ret) .skip)) (.seq (.seq (.region none [mo 57 8, mo 58 57,
    og 58 true 59 (.mv (.t 9)), og 58 true 60 (.mv (.t 10)), og 58 true 61 (.bin .gtr (.t 59) (.t 60)),
    ox 62 (.pick (.t 58) (.t 61) (.c (.bool false)))]) (.cond (.t 62) (.seq (.region none [mo 63 10,
    ox 64 (.convI .i64 (.t 63)), ox 65 (.un .neg (.t 64)), ox 66 (.mkif 121 (ai 1)),
    mo 6 65, mo 7 66]) .ret) .skip)) (.seq (.region
    none [mo 67 9, ox 68 (.convI .i64 (.t 67)), mo 11 68])
    (.seq (.seq (.region none [mo 69 8]) (.cond (.t 69) (.region none [mo 70 11,
    ox 71 (.un .neg (.t 70)), mo 11 71]) .skip)) (.seq (.region
    none [mo 72 11, mo 6 72, ox 7 (.mv (.c .nili))])
    .ret)))))))))))))), false⟩

def strconv_AtoiZ_l0 : ACode :=
  .seq (.region none [ox 50 (.bin .lss (.t 49) (.t 48))]) (.seq (.cond (.t 50) .skip (.exit 0)) (.seq (.block 1 (.seq
    (.region none [ox 51 (.iaddrS 1 (.t 47) (.t 49)), ox 52 (.load none (.t 51)), mo 8 52])
    (.seq (.region none [mo 53 8, ox 54 (.bin .sub (.t 53) (.c (.int .u8 48))),
    mo 8 54]) (.seq (.seq (.region none [mo 55 8, ox 56 (.bin .gtr (.t 55) (.c (.int .u8 9)))])
    (.cond (.t 56) (.seq (.region none [ox 57 (.mkif 121 (ai 2)), ox 2 (.mv (ai 0)),
    mo 3 57]) .ret) .skip)) (.region none [mo 58 6, ox 59 (.bin .mul (.t 58) (ai 10)),
    mo 60 8, ox 61 (.convI .i64 (.t 60)), ox 62 (.bin .add (.t 59) (.t 61)),
    mo 6 62]))))) (.region none [ox 63 (.bin .add (.t 49) (ai 1)),
    mo 49 63])))
def strconv_AtoiZ_s1 : ACode :=
  .block 0 (.loop strconv_AtoiZ_l0)
def strconv_AtoiZ_t2 : ACode :=
  .seq (.seq (.region none [mo 46 0, ox 47 (.convSB (.t 46)), ox 48 (.len .sl (.t 47)),
    ox 49 (.mv (ai 0))]) strconv_AtoiZ_s1) (.seq (.seq (.region none [mo 64 5,
    ox 65 (.idxStr (.t 64) (ai 0)), ox 66 (.bin .eql (.t 65) (.c (.int .u8 45)))])
    (.cond (.t 66) (.region none [mo 67 6, ox 68 (.un .neg (.t 67)),
    mo 6 68]) .skip)) (.seq (.region none [mo 69 6, mo 2 69,
    ox 3 (.mv (.c .nili))]) .ret))
def strconv_AtoiZ_c3 : ACode :=
  .seq (.region none [mo 31 0, mo 5 31]) (.seq (.seq (.region
    none [mo 32 0, ox 33 (.idxStr (.t 32) (ai 0)),
    ox 34 (.bin .eql (.t 33) (.c (.int .u8 45))), mo 35 34,
    og 35 false 36 (.mv (.t 0)), og 35 false 37 (.idxStr (.t 36) (ai 0)),
    og 35 false 38 (.bin .eql (.t 37) (.c (.int .u8 43))), ox 39 (.pick (.t 35) (.c (.bool true)) (.t 38))])
    (.cond (.t 39) (.seq (.region none [mo 40 0, ox 41 (.slcStr (.t 40) (some (ai 1)) none),
    mo 0 41]) (.seq (.region none [mo 42 0, ox 43 (.len .str (.t 42)),
    ox 44 (.bin .lss (.t 43) (ai 1))]) (.cond (.t 44) (.seq (.region none [ox 45 (.mkif 121 (ai 2)),
    ox 2 (.mv (ai 0)), mo 3 45]) .ret)
    .skip))) .skip)) (.seq (.region none [ox 6 (.mv (ai 0))]) strconv_AtoiZ_t2))
def strconv_AtoiZ_t4 : ACode :=
  .seq (.seq (.region none [ox 13 (.mv (.c (.bool false))), og 13 true 14 (.mv (.t 4)),
    og 13 true 15 (.bin .lss (ai 0) (.t 14)), og 13 true 16 (.mv (.t 15)),
    og 16 true 17 (.mv (.t 4)), og 16 true 18 (.bin .lss (.t 17) (ai 10)),
    og 13 true 19 (.pick (.t 16) (.t 18) (.c (.bool false))), ox 20 (.pick (.t 13) (.t 19) (.c (.bool false))),
    mo 21 20, og 21 false 22 (.mv (.c (.bool true))), og 22 true 23 (.mv (.t 4)),
    og 22 true 24 (.bin .lss (ai 0) (.t 23)), og 22 true 25 (.mv (.t 24)),
    og 25 true 26 (.mv (.t 4)), og 25 true 27 (.bin .lss (.t 26) (ai 19)),
    og 22 true 28 (.pick (.t 25) (.t 27) (.c (.bool false))), og 21 false 29 (.pick (.t 22) (.t 28) (.c (.bool false))),
    ox 30 (.pick (.t 21) (.c (.bool true)) (.t 29))]) (.cond (.t 30) strconv_AtoiZ_c3 .skip)) (.seq (.region none [mo 71 0,
    kx 72 (.k 0 [.t 71, .c (.int .i64 10), .c (.int .i64 0)]), mo 70 72,
    ox 73 (.ext 0 (.t 70)), ox 74 (.ext 1 (.t 70)), mo 9 73,
    mo 10 74]) (.seq (.region none [mo 75 9, mo 76 10,
    mo 2 75, mo 3 76]) .ret))
def strconv_AtoiZ : AFun :=
  ⟨1, [.inl 2, .inl 3], (.seq (.region none [ox 2 (.mv (ai 0)), ox 3 (.mv (.c .nili))])
    (.seq (.region none [mo 11 0, ox 12 (.len .str (.t 11)), mo 4 12])
    strconv_AtoiZ_t4)), false⟩

def errors_NewZ : AFun :=
  ⟨1, [.inl 2], (.seq (.region none [ox 2 (.mv (.c .nili))]) (.seq (.region none [mo 3 0,
    ox 4 (.build [.str []] [(0, 1, .t 3)]), ox 5 (.box (.t 4)), ox 6 (.mkif 155 (.t 5)),
    mo 2 6]) .ret)), false⟩

def strconv_toErrorZ : AFun :=
  ⟨5, [.inl 10], (.seq (.region none [ox 10 (.mv (.c .nili))]) (.seq (.seq (.region none [mo 11 4])
    (.block 0 (.seq (.region none [ox 13 (.mkif 121 (ai 2)), ox 14 (.eqI false (.t 11) (.t 13)),
    mo 12 14]) (.cond (.t 12) (.seq (.region none [mo 15 0, mo 16 1,
    kx 17 (.k 0 [.t 15, .t 16]), ox 18 (.mkif 124 (.t 17)), mo 10 18])
    .ret) (.seq (.region none [ox 20 (.mkif 121 (ai 1)), ox 21 (.eqI false (.t 11) (.t 20)),
    mo 19 21]) (.cond (.t 19) (.seq (.region none [mo 22 0, mo 23 1,
    kx 24 (.k 1 [.t 22, .t 23]), ox 25 (.mkif 124 (.t 24)), mo 10 25])
    .ret) (.seq (.region none [ox 27 (.mkif 121 (ai 3)), ox 28 (.eqI false (.t 11) (.t 27)),
    mo 26 28]) (.cond (.t 26) (.seq (.region none [mo 29 0, mo 30 1,
    mo 31 2, kx 32 (.k 2 [.t 29, .t 30, .t 31]), ox 33 (.mkif 124 (.t 32)),
    mo 10 33]) .ret) (.seq (.region none [ox 35 (.mkif 121 (ai 4)),
    ox 36 (.eqI false (.t 11) (.t 35)), mo 34 36]) (.cond (.t 34)
    (.seq (.region none [mo 37 0, mo 38 1, mo 39 3,
    kx 40 (.k 3 [.t 37, .t 38, .t 39]), ox 41 (.mkif 124 (.t 40)), mo 10 41])
    .ret) .skip)))))))))) (.seq (.region none [mo 42 4, mo 10 42])
    .ret))), false⟩

def policy_ParseZ_a0 : ACode :=
  .region none [mo 6 18]
def policy_ParseZ_r1 : ACode :=
  .block 1 (.seq (.region none [mo 20 6, kx 21 (.k 2 [.t 20, .c (.str [61])]),
    mo 19 21, ox 22 (.ext 0 (.t 19)), ox 23 (.ext 1 (.t 19)),
    ox 24 (.ext 2 (.t 19)), ox 7 (.alloc [.str []]), oz (.store 1 (.t 7) (.t 22)),
    mo 8 23, mo 9 24]) (.seq (.region none [ox 25 (.load none (.t 5)),
    ox 26 (.mkfn (Fn.func 29) [] [.t 7]), kx 27 (.k 3 [.t 25, .t 26]), mo 10 27])
    (.seq (.region none [mo 28 8, kx 29 (.k 4 [.t 28]), mo 11 29])
    (.seq (.seq (.region none [mo 30 10, ox 31 (.bin .lss (.t 30) (ai 0)),
    mo 32 31, og 32 false 33 (.mv (.t 11)), og 32 false 34 (.bin .eql (.t 33) (ai 0)),
    ox 35 (.pick (.t 32) (.c (.bool true)) (.t 34))]) (.cond (.t 35) (.seq (.region none [ox 36 (.build [.int .i64 0, .int .i64 0, .int .i64 0, .int .i64 0, .int .i64 0] []),
    oz (.store 5 (.t 2) (.t 36)), oz (.store 1 (.t 3) (ai 3))])
    .ret) .skip)) (.seq (.region none [ox 37 (.load none (.t 5)), mo 38 10,
    ox 39 (.iaddrS 2 (.t 37) (.t 38)), ox 40 (.faddr 1 (.t 39)), ox 41 (.load none (.t 40)),
    mo 42 11, ox 43 (.nilchk (.t 41)), oz (.store 1 (.t 43) (.t 42))])
    (.region none [ox 44 (.load none (.t 5)), mo 45 10, ox 46 (.bin .add (.t 45) (ai 1)),
    ox 47 (.slcS 2 (.t 44) (some (.t 46)) none), oz (.store 1 (.t 5) (.t 47))]))))))
def policy_ParseZ_g2 : ACode :=
  .range (.t 17) [18] policy_ParseZ_a0 policy_ParseZ_r1
def policy_ParseZ_b3 : ACode :=
  .block 0 policy_ParseZ_g2
def policy_ParseZ_t4 : ACode :=
  .seq (.seq (.region none [mo 16 0, kx 17 (.k 1 [.t 16, .c (.str [32])])])
    policy_ParseZ_b3) (.seq (.region none [ox 48 (.load (some 5) (.t 4)), oz (.store 5 (.t 2) (.t 48)),
    oz (.store 1 (.t 3) (ai 0))]) .ret)
def policy_ParseZ : AFun :=
  ⟨1, [.inr (2, some 5), .inr (3, none)], (.seq (.region none [ox 2 (.alloc [.int .i64 0, .int .i64 0, .int .i64 0, .int .i64 0, .int .i64 0]),
    ox 3 (.alloc [.int .i64 0])]) (.seq (.region none [ox 4 (.alloc [.int .i64 0, .int .i64 0, .int .i64 0, .int .i64 0, .int .i64 0])])
    (.seq (.seq (.region none [mo 12 0, ox 13 (.bin .eql (.t 12) (.c (.str [110, 111, 110, 101])))])
    (.cond (.t 13) (.seq (.region none [ox 14 (.load (some 5) (.t 4)), oz (.store 5 (.t 2) (.t 14)),
    oz (.store 1 (.t 3) (ai 0))]) .ret) .skip)) (.seq (.region none [kx 15 (.k 0 [.t 4]),
    ox 5 (.alloc [.nils]), oz (.store 1 (.t 5) (.t 15))]) policy_ParseZ_t4)))), true⟩

def l30_plain : AFun :=
  ⟨1, [.inr (2, some 5)], (.seq (.region none [ox 1 (.box (.t 0)), ox 2 (.alloc [.int .i64 0, .int .i64 0, .int .i64 0, .int .i64 0, .int .i64 0])])
    (.seq (.region none [ox 3 (.faddr 0 (.t 1)), ox 4 (.load none (.t 3)), ox 5 (.faddr 1 (.t 1)),
    ox 6 (.load none (.t 5)), ox 7 (.faddr 2 (.t 1)), ox 8 (.load none (.t 7)),
    ox 9 (.faddr 3 (.t 1)), ox 10 (.load none (.t 9)), ox 11 (.faddr 4 (.t 1)),
    ox 12 (.load none (.t 11)), ox 13 (.build [.int .i64 0, .int .i64 0, .int .i64 0, .int .i64 0, .int .i64 0] [(0, 1, .t 4), (1, 1, .t 6), (2, 1, .t 8), (3, 1, .t 10), (4, 1, .t 12)]),
    oz (.store 5 (.t 2) (.t 13))]) .ret)), false⟩

def r30_greater : AFun :=
  ⟨3, [.inl 6], (.seq (.region none [ox 6 (.mv (.c (.bool false)))]) (.seq (.region (some []) [mo 7 0,
    mo 8 1, ox 9 (.iaddrS 1 (.t 7) (.t 8)), ox 10 (.load none (.t 9)),
    mo 11 0, mo 12 2, ox 13 (.iaddrS 1 (.t 11) (.t 12)),
    ox 14 (.load none (.t 13)), ox 15 (.bin .gtr (.t 10) (.t 14)), mo 16 15,
    og 16 false 17 (.mv (.t 0)), og 16 false 18 (.mv (.t 1)), og 16 false 19 (.iaddrS 1 (.t 17) (.t 18)),
    og 16 false 20 (.load none (.t 19)), og 16 false 21 (.mv (.t 0)), og 16 false 22 (.mv (.t 2)),
    og 16 false 23 (.iaddrS 1 (.t 21) (.t 22)), og 16 false 24 (.load none (.t 23)),
    og 16 false 25 (.bin .eql (.t 20) (.t 24)), og 16 false 26 (.mv (.t 25)),
    og 26 true 27 (.mv (.t 1)), og 26 true 28 (.mv (.t 2)), og 26 true 29 (.bin .lss (.t 27) (.t 28)),
    og 16 false 30 (.pick (.t 26) (.t 29) (.c (.bool false))), ox 31 (.pick (.t 16) (.c (.bool true)) (.t 30)),
    mo 6 31]) .ret)), false⟩

def r29_Week : AFun :=
  ⟨1, [.inl 2], (.seq (.region none [ox 2 (.mv (.c (.int .u64 0)))]) (.seq (.region none [mo 3 0,
    ox 4 (.bin .quo (.t 3) (.c (.int .u64 86400))), ox 5 (.bin .add (.t 4) (.c (.int .u64 5))),
    ox 6 (.bin .quo (.t 5) (.c (.int .u64 7))), mo 2 6])
    .ret)), false⟩

def r29_Days : AFun :=
  ⟨2, [.inl 4], (.seq (.region none [ox 4 (.mv (ai 0))]) (.seq (.seq (.region none [mo 5 0,
    ox 6 (.bin .lss (.t 5) (ai 2000)), mo 7 6,
    og 7 false 8 (.mv (.t 0)), og 7 false 9 (.bin .gtr (.t 8) (ai 2199)),
    ox 10 (.pick (.t 7) (.c (.bool true)) (.t 9)), mo 11 10, og 11 false 12 (.mv (.t 1)),
    og 11 false 13 (.bin .lss (.t 12) (ai 1)), ox 14 (.pick (.t 11) (.c (.bool true)) (.t 13)),
    mo 15 14, og 15 false 16 (.mv (.t 1)), og 15 false 17 (.bin .gtr (.t 16) (ai 12)),
    ox 18 (.pick (.t 15) (.c (.bool true)) (.t 17))]) (.cond (.t 18) (.seq (.region none [ox 4 (.mv (ai 0))])
    .ret) .skip)) (.seq (.seq (.region none [mo 19 1, ox 20 (.bin .eql (.t 19) (ai 2))])
    (.cond (.t 20) (.seq (.seq (.region none [mo 21 0, ox 22 (.bin .rem (.t 21) (ai 400)),
    ox 23 (.bin .eql (.t 22) (ai 0)), mo 24 23,
    og 24 false 25 (.mv (.t 0)), og 24 false 26 (.bin .rem (.t 25) (ai 4)),
    og 24 false 27 (.bin .eql (.t 26) (ai 0)), og 24 false 28 (.mv (.t 27)),
    og 28 true 29 (.mv (.t 0)), og 28 true 30 (.bin .rem (.t 29) (ai 100)),
    og 28 true 31 (.bin .neq (.t 30) (ai 0)), og 24 false 32 (.pick (.t 28) (.t 31) (.c (.bool false))),
    ox 33 (.pick (.t 24) (.c (.bool true)) (.t 32))]) (.cond (.t 33) (.seq (.region none [ox 4 (.mv (ai 29))])
    .ret) .skip)) (.seq (.region none [ox 4 (.mv (ai 28))]) .ret)) .skip)) (.seq (.seq
    (.region none [mo 34 1, ox 35 (.bin .eql (.t 34) (ai 4)),
    mo 36 35, og 36 false 37 (.mv (.t 1)), og 36 false 38 (.bin .eql (.t 37) (ai 6)),
    ox 39 (.pick (.t 36) (.c (.bool true)) (.t 38)), mo 40 39, og 40 false 41 (.mv (.t 1)),
    og 40 false 42 (.bin .eql (.t 41) (ai 9)), ox 43 (.pick (.t 40) (.c (.bool true)) (.t 42)),
    mo 44 43, og 44 false 45 (.mv (.t 1)), og 44 false 46 (.bin .eql (.t 45) (ai 11)),
    ox 47 (.pick (.t 44) (.c (.bool true)) (.t 46))]) (.cond (.t 47) (.seq (.region none [ox 4 (.mv (ai 30))])
    .ret) .skip)) (.seq (.region none [ox 4 (.mv (ai 31))]) .ret))))), false⟩

def r29_Split_l0 : ACode :=
  .seq (.seq (.region none [mo 18 7, ox 19 (.bin .leq (.t 18) (ai 12))])
    (.cond (.t 19) .skip (.exit 2))) (.seq (.block 3 (.seq (.region none [mo 22 6, mo 23 7,
    kx 24 (.k 0 [.t 22, .t 23]), ox 25 (.convI .u64 (.t 24)), mo 8 25])
    (.seq (.seq (.region none [mo 26 4, mo 27 8, ox 28 (.bin .lss (.t 26) (.t 27))])
    (.cond (.t 28) (.seq (.region none [mo 29 6, mo 30 7, mo 31 4,
    ox 32 (.convI .i64 (.t 31)), ox 33 (.bin .add (.t 32) (ai 1)),
    mo 34 5, ox 35 (.bin .quo (.t 34) (ai 3600)),
    mo 36 5, ox 37 (.bin .quo (.t 36) (ai 60)),
    ox 38 (.bin .rem (.t 37) (ai 60)), mo 39 5,
    ox 40 (.bin .rem (.t 39) (ai 60)), ox 41 (.build [.int .i64 0, .int .i64 0, .int .i64 0, .int .i64 0, .int .i64 0, .int .i64 0] [(0, 1, .t 29), (1, 1, .t 30), (2, 1, .t 33), (3, 1, .t 35), (4, 1, .t 38), (5, 1, .t 40)]),
    oz (.store 6 (.t 2) (.t 41)), ox 3 (.mv (ai 0))])
    .ret) .skip)) (.region none [mo 42 4, mo 43 8, ox 44 (.bin .sub (.t 42) (.t 43)),
    mo 4 44])))) (.region none [mo 20 7, ox 21 (.bin .add (.t 20) (ai 1)),
    mo 7 21]))
def r29_Split_s1 : ACode :=
  .block 2 (.loop r29_Split_l0)
def r29_Split_b2 : ACode :=
  .block 1 (.seq (.region none [ox 7 (.mv (ai 1))]) r29_Split_s1)
def r29_Split_t3 : ACode :=
  .seq r29_Split_b2 (.region none [mo 16 6, ox 17 (.bin .add (.t 16) (ai 1)),
    mo 6 17])
def r29_Split_l4 : ACode :=
  .seq (.seq (.region none [mo 14 6, ox 15 (.bin .leq (.t 14) (ai 2199))])
    (.cond (.t 15) .skip (.exit 0))) r29_Split_t3
def r29_Split_s5 : ACode :=
  .block 0 (.loop r29_Split_l4)
def r29_Split_t6 : ACode :=
  .seq (.seq (.region none [ox 6 (.mv (ai 2000))]) r29_Split_s5) (.seq (.region none [ox 45 (.build [.int .i64 0, .int .i64 0, .int .i64 0, .int .i64 0, .int .i64 0, .int .i64 0] []),
    oz (.store 6 (.t 2) (.t 45)), ox 3 (.mv (ai 4))])
    .ret)
def r29_Split : AFun :=
  ⟨1, [.inr (2, some 6), .inl 3], (.seq (.region none [ox 2 (.alloc [.int .i64 0, .int .i64 0, .int .i64 0, .int .i64 0, .int .i64 0, .int .i64 0]),
    ox 3 (.mv (ai 0))]) (.seq (.region none [mo 9 0,
    ox 10 (.bin .quo (.t 9) (.c (.int .u64 86400))), mo 11 0,
    ox 12 (.bin .rem (.t 11) (.c (.int .u64 86400))), ox 13 (.convI .i64 (.t 12)),
    mo 4 10, mo 5 13]) r29_Split_t6)), false⟩

def r30_Slot : AFun :=
  ⟨2, [.inl 4], (.seq (.region none [ox 4 (.mv (.c (.int .u64 0)))]) (.seq (.seq (.region none [mo 7 1])
    (.block 0 (.seq (.region none [ox 9 (.bin .eql (.t 7) (ai 0)), mo 8 9])
    (.cond (.t 8) (.seq (.region none [mo 10 0, ox 11 (.bin .quo (.t 10) (.c (.int .u64 3600))),
    mo 4 11]) .ret) (.seq (.region none [ox 13 (.bin .eql (.t 7) (ai 1)),
    mo 12 13]) (.cond (.t 12) (.seq (.region none [mo 14 0, ox 15 (.bin .quo (.t 14) (.c (.int .u64 86400))),
    mo 4 15]) .ret) (.seq (.region none [ox 17 (.bin .eql (.t 7) (ai 2)),
    mo 16 17]) (.cond (.t 16) (.seq (.region none [mo 18 0, kx 19 (.k 0 [.t 18]),
    mo 4 19]) .ret) (.seq (.region none [ox 21 (.bin .eql (.t 7) (ai 3)),
    mo 20 21]) (.cond (.t 20) (.seq (.region none [mo 23 0, kx 24 (.k 1 [.t 23]),
    mo 22 24, ox 25 (.ext 0 (.t 22)), ox 26 (.ext 1 (.t 22)),
    ox 5 (.alloc [.int .i64 0, .int .i64 0, .int .i64 0, .int .i64 0, .int .i64 0, .int .i64 0]),
    oz (.store 6 (.t 5) (.t 25)), mo 6 26]) (.seq (.seq (.region none [mo 27 6,
    ox 28 (.bin .neq (.t 27) (ai 0))]) (.cond (.t 28) (.seq (.region none [ox 4 (.mv (.c (.int .u64 2400)))])
    .ret) .skip)) (.seq (.region none [ox 29 (.faddr 0 (.t 5)), ox 30 (.load none (.t 29)),
    ox 31 (.bin .sub (.t 30) (ai 2000)), ox 32 (.bin .mul (.t 31) (ai 12)),
    ox 33 (.faddr 1 (.t 5)), ox 34 (.load none (.t 33)), ox 35 (.bin .add (.t 32) (.t 34)),
    ox 36 (.bin .sub (.t 35) (ai 1)), ox 37 (.convI .u64 (.t 36)),
    mo 4 37]) .ret))) .skip)))))))))) (.seq (.region none [ox 4 (.mv (.c (.int .u64 0)))])
    .ret))), false⟩

def r30_behind_l0 : ACode :=
  .seq (.seq (.region none [mo 44 12, mo 45 10, ox 46 (.bin .lss (.t 44) (.t 45))])
    (.cond (.t 46) .skip (.exit 2))) (.seq (.block 3 (.region (some [(11, [7])]) [mo 49 11, mo 50 49,
    og 50 true 51 (.mv (.t 0)), og 50 true 52 (.mv (.t 12)), og 50 true 53 (.iaddrS 1 (.t 51) (.t 52)),
    og 50 true 54 (.load none (.t 53)), og 50 true 55 (.mv (.t 2)), kg 50 true 56 (.k 0 [.t 54, .t 55]),
    og 50 true 57 (.mv (.t 0)), og 50 true 58 (.mv (.t 10)), og 50 true 59 (.iaddrS 1 (.t 57) (.t 58)),
    og 50 true 60 (.load none (.t 59)), og 50 true 61 (.mv (.t 2)), kg 50 true 62 (.k 0 [.t 60, .t 61]),
    og 50 true 63 (.bin .neq (.t 56) (.t 62)), ox 64 (.pick (.t 50) (.t 63) (.c (.bool false))),
    mo 11 64])) (.region none [mo 47 12, ox 48 (.bin .add (.t 47) (ai 1)),
    mo 12 48]))
def r30_behind_s1 : ACode :=
  .block 2 (.loop r30_behind_l0)
def r30_behind_t2 : ACode :=
  .seq (.seq (.region none [ox 12 (.mv (ai 0))]) r30_behind_s1) (.seq (.region none [mo 65 11,
    mo 66 65, og 66 true 67 (.mv (.t 0)), og 66 true 68 (.mv (.t 10)),
    og 66 true 69 (.iaddrS 1 (.t 67) (.t 68)), og 66 true 70 (.load none (.t 69)),
    og 66 true 71 (.mv (.t 2)), kg 66 true 72 (.k 0 [.t 70, .t 71]), og 66 true 73 (.mv (.t 9)),
    og 66 true 74 (.bin .gtr (.t 72) (.t 73)), ox 75 (.pick (.t 66) (.t 74) (.c (.bool false)))])
    (.cond (.t 75) (.region none [mo 76 8, ox 77 (.bin .add (.t 76) (ai 1)),
    mo 8 77]) .skip))
def r30_behind_b3 : ACode :=
  .block 1 (.seq (.seq (.region none [mo 25 10, mo 26 1, ox 27 (.bin .neq (.t 25) (.t 26)),
    mo 28 27, og 28 true 29 (.mv (.t 0)), og 28 true 30 (.mv (.t 10)),
    og 28 true 31 (.iaddrS 1 (.t 29) (.t 30)), og 28 true 32 (.load none (.t 31)),
    og 28 true 33 (.mv (.t 2)), kg 28 true 34 (.k 0 [.t 32, .t 33]), og 28 true 35 (.mv (.t 9)),
    og 28 true 36 (.bin .eql (.t 34) (.t 35)), ox 37 (.pick (.t 28) (.t 36) (.c (.bool false))),
    mo 38 37, og 38 true 39 (.mv (.t 0)), og 38 true 40 (.mv (.t 10)),
    og 38 true 41 (.mv (.t 1)), kg 38 true 42 (.k 1 [.t 39, .t 40, .t 41]),
    ox 43 (.pick (.t 38) (.t 42) (.c (.bool false)))]) (.cond (.t 43) (.seq (.region none [ox 6 (.mv (ai 0)),
    ox 7 (.mv (.c (.bool false)))]) .ret) .skip)) (.seq (.region none [ox 11 (.mv (.c (.bool true)))])
    r30_behind_t2))
def r30_behind_t4 : ACode :=
  .seq r30_behind_b3 (.region none [mo 23 10, ox 24 (.bin .add (.t 23) (ai 1)),
    mo 10 24])
def r30_behind_l5 : ACode :=
  .seq (.seq (.region none [mo 19 10, mo 20 0, ox 21 (.len .sl (.t 20)),
    ox 22 (.bin .lss (.t 19) (.t 21))]) (.cond (.t 22) .skip (.exit 0))) r30_behind_t4
def r30_behind_s6 : ACode :=
  .block 0 (.loop r30_behind_l5)
def r30_behind_t7 : ACode :=
  .seq (.seq (.region none [ox 10 (.mv (ai 0))]) r30_behind_s6) (.seq (.region none [mo 78 8,
    mo 6 78, ox 7 (.mv (.c (.bool true)))]) .ret)
def r30_behind : AFun :=
  ⟨3, [.inl 6, .inl 7], (.seq (.region none [ox 6 (.mv (ai 0)), ox 7 (.mv (.c (.bool false)))])
    (.seq (.region none [ox 8 (.mv (ai 0))]) (.seq (.region none [mo 13 0,
    mo 14 1, ox 15 (.iaddrS 1 (.t 13) (.t 14)), ox 16 (.load none (.t 15)),
    mo 17 2, kx 18 (.k 0 [.t 16, .t 17]), mo 9 18])
    r30_behind_t7))), false⟩

def r30_stays_l0 : ACode :=
  .seq (.seq (.region none [mo 13 8, mo 14 0, ox 15 (.len .sl (.t 14)),
    ox 16 (.bin .lss (.t 13) (.t 15))]) (.cond (.t 16) .skip (.exit 0))) (.seq (.block 1 (.seq (.region none [mo 19 8,
    mo 20 1, ox 21 (.bin .neq (.t 19) (.t 20)), mo 22 21,
    og 22 true 23 (.mv (.t 0)), og 22 true 24 (.mv (.t 8)), og 22 true 25 (.mv (.t 1)),
    kg 22 true 26 (.k 0 [.t 23, .t 24, .t 25]), ox 27 (.pick (.t 22) (.t 26) (.c (.bool false)))])
    (.cond (.t 27) (.region none [mo 28 7, ox 29 (.bin .add (.t 28) (ai 1)),
    mo 7 29]) .skip))) (.region none [mo 17 8, ox 18 (.bin .add (.t 17) (ai 1)),
    mo 8 18]))
def r30_stays_s1 : ACode :=
  .block 0 (.loop r30_stays_l0)
def r30_stays_l2 : ACode :=
  .seq (.seq (.region none [mo 43 10, ox 44 (.bin .lss (.t 43) (ai 4))])
    (.cond (.t 44) .skip (.exit 2))) (.seq (.block 3 (.seq (.region none [mo 48 0, mo 49 1,
    mo 50 10, kx 51 (.k 1 [.t 48, .t 49, .t 50]), mo 47 51,
    ox 52 (.ext 0 (.t 47)), ox 53 (.ext 1 (.t 47)), mo 11 52,
    mo 12 53]) (.seq (.region none [mo 54 12, mo 55 54,
    og 55 true 56 (.mv (.t 11)), og 55 true 57 (.mv (.t 10)), og 55 true 58 (.iaddrA 1 4 (.t 9) (.t 57)),
    og 55 true 59 (.load none (.t 58)), og 55 true 60 (.bin .lss (.t 56) (.t 59)),
    ox 61 (.pick (.t 55) (.t 60) (.c (.bool false)))]) (.cond (.t 61) (.seq (.region none [ox 6 (.mv (.c (.bool true)))])
    .ret) .skip)))) (.region none [mo 45 10, ox 46 (.bin .add (.t 45) (ai 1)),
    mo 10 46]))
def r30_stays_s3 : ACode :=
  .block 2 (.loop r30_stays_l2)
def r30_stays_t4 : ACode :=
  .seq (.seq (.region none [ox 10 (.mv (ai 0))]) r30_stays_s3) (.seq (.region none [ox 6 (.mv (.c (.bool false)))])
    .ret)
def r30_stays_t5 : ACode :=
  .seq (.seq (.region none [ox 8 (.mv (ai 0))]) r30_stays_s1) (.seq (.seq (.region none [mo 30 7,
    ox 31 (.faddr 0 (.t 5)), ox 32 (.load none (.t 31)), ox 33 (.bin .lss (.t 30) (.t 32))])
    (.cond (.t 33) (.seq (.region none [ox 6 (.mv (.c (.bool true)))]) .ret) .skip)) (.seq (.region none [ox 34 (.faddr 1 (.t 5)),
    ox 35 (.load none (.t 34)), ox 36 (.faddr 2 (.t 5)), ox 37 (.load none (.t 36)),
    ox 38 (.faddr 3 (.t 5)), ox 39 (.load none (.t 38)), ox 40 (.faddr 4 (.t 5)),
    ox 41 (.load none (.t 40)), ox 42 (.build [.int .i64 0, .int .i64 0, .int .i64 0, .int .i64 0] [(0, 1, .t 35), (1, 1, .t 37), (2, 1, .t 39), (3, 1, .t 41)]),
    ox 9 (.alloc [.int .i64 0, .int .i64 0, .int .i64 0, .int .i64 0]), oz (.store 4 (.t 9) (.t 42))])
    r30_stays_t4))
def r30_stays : AFun :=
  ⟨3, [.inl 6], (.seq (.region none [ox 5 (.box (.t 2)), ox 6 (.mv (.c (.bool false)))]) (.seq
    (.region none [ox 7 (.mv (ai 0))]) r30_stays_t5)), false⟩

def r30_Keep_l0 : ACode :=
  .seq (.seq (.region none [mo 8 6, mo 9 0, ox 10 (.len .sl (.t 9)),
    ox 11 (.bin .lss (.t 8) (.t 10))]) (.cond (.t 11) .skip (.exit 0))) (.seq (.block 1 (.region none [mo 14 5,
    mo 15 0, mo 16 6, ox 17 (.load (some 5) (.t 3)),
    kx 18 (.k 0 [.t 15, .t 16, .t 17]), ox 19 (.bslice false 1 1 [.bool false] [(0, 1, .t 18)]),
    ox 20 (.append 1 1 (.t 14) (.t 19)), mo 5 20])) (.region none [mo 12 6,
    ox 13 (.bin .add (.t 12) (ai 1)), mo 6 13]))
def r30_Keep_s1 : ACode :=
  .block 0 (.loop r30_Keep_l0)
def r30_Keep_t2 : ACode :=
  .seq (.seq (.region none [ox 6 (.mv (ai 0))]) r30_Keep_s1) (.seq (.region none [mo 21 5,
    mo 4 21]) .ret)
def r30_Keep : AFun :=
  ⟨2, [.inl 4], (.seq (.region none [ox 3 (.box (.t 1)), ox 4 (.mv (.c .nils))]) (.seq
    (.region none [ox 7 (.bslice false 1 0 [.bool false] []), mo 5 7])
    r30_Keep_t2)), false⟩

def r30_Drop_l0 : ACode :=
  .seq (.seq (.region none [mo 8 6, mo 9 0, ox 10 (.len .sl (.t 9)),
    ox 11 (.bin .lss (.t 8) (.t 10))]) (.cond (.t 11) .skip (.exit 0))) (.seq (.block 1 (.seq (.region none [mo 14 0,
    mo 15 6, ox 16 (.load (some 5) (.t 3)), kx 17 (.k 0 [.t 14, .t 15, .t 16]),
    ox 18 (.un .not (.t 17))]) (.cond (.t 18) (.region none [mo 19 5,
    mo 20 6, ox 21 (.bslice false 1 1 [.int .i64 0] [(0, 1, .t 20)]),
    ox 22 (.append 1 8 (.t 19) (.t 21)), mo 5 22]) .skip)))
    (.region none [mo 12 6, ox 13 (.bin .add (.t 12) (ai 1)),
    mo 6 13]))
def r30_Drop_s1 : ACode :=
  .block 0 (.loop r30_Drop_l0)
def r30_Drop_t2 : ACode :=
  .seq (.seq (.region none [ox 6 (.mv (ai 0))]) r30_Drop_s1) (.seq (.region none [mo 23 5,
    mo 4 23]) .ret)
def r30_Drop : AFun :=
  ⟨2, [.inl 4], (.seq (.region none [ox 3 (.box (.t 1)), ox 4 (.mv (.c .nils))]) (.seq
    (.region none [ox 7 (.bslice false 1 0 [.int .i64 0] []), mo 5 7])
    r30_Drop_t2)), false⟩

def r09_SameInts_l0 : ACode :=
  .seq (.seq (.region none [mo 11 5, mo 12 0, ox 13 (.len .sl (.t 12)),
    ox 14 (.bin .lss (.t 11) (.t 13))]) (.cond (.t 14) .skip (.exit 0))) (.seq (.block 1 (.seq (.region (some []) [mo 17 0,
    mo 18 5, ox 19 (.iaddrS 1 (.t 17) (.t 18)), ox 20 (.load none (.t 19)),
    mo 21 1, mo 22 5, ox 23 (.iaddrS 1 (.t 21) (.t 22)),
    ox 24 (.load none (.t 23)), ox 25 (.bin .neq (.t 20) (.t 24))]) (.cond
    (.t 25) (.seq (.region none [ox 4 (.mv (.c (.bool false)))]) .ret) .skip))) (.region none [mo 15 5,
    ox 16 (.bin .add (.t 15) (ai 1)), mo 5 16]))
def r09_SameInts_s1 : ACode :=
  .block 0 (.loop r09_SameInts_l0)
def r09_SameInts_t2 : ACode :=
  .seq (.seq (.region none [ox 5 (.mv (ai 0))]) r09_SameInts_s1) (.seq (.region none [ox 4 (.mv (.c (.bool true)))])
    .ret)
def r09_SameInts : AFun :=
  ⟨2, [.inl 4], (.seq (.region none [ox 4 (.mv (.c (.bool false)))]) (.seq (.seq (.region none [mo 6 0,
    ox 7 (.len .sl (.t 6)), mo 8 1, ox 9 (.len .sl (.t 8)),
    ox 10 (.bin .neq (.t 7) (.t 9))]) (.cond (.t 10) (.seq (.region none [ox 4 (.mv (.c (.bool false)))])
    .ret) .skip)) r09_SameInts_t2)), false⟩

def l30_PolicyKeep_l0 : ACode :=
  .seq (.seq (.region none [mo 30 10, mo 31 8, ox 32 (.len .sl (.t 31)),
    ox 33 (.bin .lss (.t 30) (.t 32))]) (.cond (.t 33) .skip (.exit 0))) (.seq (.block 1 (.seq (.region (some [(30,
    [26])]) [mo 36 8, mo 37 10, ox 38 (.iaddrS 1 (.t 36) (.t 37)),
    ox 39 (.load none (.t 38)), mo 40 9, mo 41 10,
    ox 42 (.iaddrS 1 (.t 40) (.t 41)), ox 43 (.load none (.t 42)), ox 44 (.eq true .bool (.t 39) (.t 43)),
    mo 45 44, og 45 false 46 (.mv (.t 7)), og 45 false 47 (.mv (.t 10)),
    og 45 false 48 (.iaddrS 1 (.t 46) (.t 47)), og 45 false 49 (.load none (.t 48)),
    og 45 false 50 (.mv (.t 0)), og 45 false 51 (.mv (.t 10)), og 45 false 52 (.iaddrS 1 (.t 50) (.t 51)),
    og 45 false 53 (.load none (.t 52)), og 45 false 54 (.bin .neq (.t 49) (.t 53)),
    ox 55 (.pick (.t 45) (.c (.bool true)) (.t 54)), mo 56 55, og 56 false 57 (.mv (.t 0)),
    og 56 false 58 (.mv (.t 10)), og 56 false 59 (.iaddrS 1 (.t 57) (.t 58)),
    og 56 false 60 (.load none (.t 59)), og 56 false 61 (.mv (.t 2)), kg 56 false 62 (.k 4 [.t 60, .t 61]),
    og 56 false 63 (.mv (.t 0)), og 56 false 64 (.mv (.t 10)), og 56 false 65 (.iaddrS 1 (.t 63) (.t 64)),
    og 56 false 66 (.load none (.t 65)), og 56 false 67 (.mv (.t 2)), kg 56 false 68 (.k 5 [.t 66, .t 67]),
    og 56 false 69 (.bin .neq (.t 62) (.t 68)), ox 70 (.pick (.t 56) (.c (.bool true)) (.t 69))])
    (.cond (.t 70) (.seq (.region none [ox 6 (.mv (.c (.bool false)))]) .ret) .skip))) (.region none [mo 34 10,
    ox 35 (.bin .add (.t 34) (ai 1)), mo 10 35]))
def l30_PolicyKeep_s1 : ACode :=
  .block 0 (.loop l30_PolicyKeep_l0)
def l30_PolicyKeep_t2 : ACode :=
  .seq (.seq (.region none [ox 10 (.mv (ai 0))]) l30_PolicyKeep_s1) (.seq (.region (some [(6, [4])]) [kx 71 (.k 0 []),
    mo 72 71, og 72 true 73 (.mv (.t 7)), og 72 true 74 (.load (some 5) (.t 4)),
    kg 72 true 75 (.k 6 [.t 73, .t 74]), og 72 true 76 (.mv (.t 0)), og 72 true 77 (.load (some 5) (.t 4)),
    kg 72 true 78 (.k 2 [.t 77]), kg 72 true 79 (.k 7 [.t 76, .t 78]),
    kg 72 true 80 (.k 8 [.t 75, .t 79]), ox 81 (.pick (.t 72) (.t 80) (.c (.bool false))),
    mo 6 81]) .ret)
def l30_PolicyKeep : AFun :=
  ⟨3, [.inl 6], (.seq (.region none [ox 4 (.box (.t 1)), ox 6 (.mv (.c (.bool false)))]) (.seq
    (.seq (.region none [mo 11 0, ox 12 (.len .sl (.t 11)), ox 13 (.bin .gtr (.t 12) (ai 30))])
    (.cond (.t 13) (.seq (.region none [kx 14 (.k 0 []), mo 6 14])
    .ret) .skip)) (.seq (.region none [ox 15 (.bslice false 1 0 [.int .u64 0] []), mo 16 0,
    ox 17 (.append 1 8 (.t 15) (.t 16)), mo 7 17]) (.seq (.region (some
    [(4, [2])]) [mo 18 7, ox 19 (.load (some 5) (.t 4)), kx 20 (.k 1 [.t 18, .t 19]),
    mo 21 0, ox 22 (.load (some 5) (.t 4)), kx 23 (.k 2 [.t 22]),
    kx 24 (.k 3 [.t 21, .t 23]), mo 8 20, mo 9 24])
    (.seq (.seq (.region none [mo 25 8, ox 26 (.len .sl (.t 25)), mo 27 9,
    ox 28 (.len .sl (.t 27)), ox 29 (.bin .neq (.t 26) (.t 28))]) (.cond
    (.t 29) (.seq (.region none [ox 6 (.mv (.c (.bool false)))]) .ret) .skip)) l30_PolicyKeep_t2))))), false⟩

def r30_cut_l0 : ACode :=
  .seq (.seq (.region none [mo 8 7, mo 9 0, ox 10 (.len .str (.t 9)),
    ox 11 (.bin .lss (.t 8) (.t 10))]) (.cond (.t 11) .skip (.exit 0))) (.seq (.block 1 (.seq (.region none [mo 14 0,
    mo 15 7, ox 16 (.idxStr (.t 14) (.t 15)), mo 17 1,
    ox 18 (.bin .eql (.t 16) (.t 17))]) (.cond (.t 18) (.seq (.region (some []) [mo 19 0,
    mo 20 7, ox 21 (.slcStr (.t 19) none (some (.t 20))), mo 22 0,
    mo 23 7, ox 24 (.bin .add (.t 23) (ai 1)),
    ox 25 (.slcStr (.t 22) (some (.t 24)) none), mo 4 21, mo 5 25,
    ox 6 (.mv (.c (.bool true)))]) .ret) .skip))) (.region none [mo 12 7,
    ox 13 (.bin .add (.t 12) (ai 1)), mo 7 13]))
def r30_cut_s1 : ACode :=
  .block 0 (.loop r30_cut_l0)
def r30_cut_t2 : ACode :=
  .seq (.seq (.region none [ox 7 (.mv (ai 0))]) r30_cut_s1) (.seq (.region none [mo 26 0,
    mo 4 26, ox 5 (.mv (.c (.str []))), ox 6 (.mv (.c (.bool false)))])
    .ret)
def r30_cut : AFun :=
  ⟨2, [.inl 4, .inl 5, .inl 6], (.seq (.region none [ox 4 (.mv (.c (.str []))), ox 5 (.mv (.c (.str []))),
    ox 6 (.mv (.c (.bool false)))]) r30_cut_t2), false⟩

def r30_names : AFun :=
  ⟨0, [.inl 0], (.seq (.region none [ox 0 (.mv (.c .nils))]) (.seq (.region none [ox 1 (.bslice false 1 5 [.str []] [(0, 1, .c (.str [108, 97, 115, 116])), (1, 1, .c (.str [104, 111, 117, 114, 115])), (2, 1, .c (.str [100, 97, 121, 115])), (3, 1, .c (.str [119, 101, 101, 107, 115])), (4, 1, .c (.str [109, 111, 110, 116, 104, 115]))]),
    mo 0 1]) .ret)), false⟩

def r30_count_l0 : ACode :=
  .seq (.seq (.region none [mo 5 4, mo 6 0, ox 7 (.len .str (.t 6)),
    ox 8 (.bin .lss (.t 5) (.t 7))]) (.cond (.t 8) .skip (.exit 0))) (.seq (.block 1 (.seq (.seq (.region none [mo 11 0,
    mo 12 4, ox 13 (.idxStr (.t 11) (.t 12)), ox 14 (.bin .lss (.t 13) (.c (.int .u8 48))),
    mo 15 14, og 15 false 16 (.mv (.t 0)), og 15 false 17 (.mv (.t 4)),
    og 15 false 18 (.idxStr (.t 16) (.t 17)), og 15 false 19 (.bin .gtr (.t 18) (.c (.int .u8 57))),
    ox 20 (.pick (.t 15) (.c (.bool true)) (.t 19)), mo 21 20, og 21 false 22 (.mv (.t 4)),
    og 21 false 23 (.bin .eql (.t 22) (ai 0)), og 21 false 24 (.mv (.t 23)),
    og 24 true 25 (.mv (.t 0)), og 24 true 26 (.mv (.t 4)), og 24 true 27 (.idxStr (.t 25) (.t 26)),
    og 24 true 28 (.bin .eql (.t 27) (.c (.int .u8 48))), og 21 false 29 (.pick (.t 24) (.t 28) (.c (.bool false))),
    ox 30 (.pick (.t 21) (.c (.bool true)) (.t 29))]) (.cond (.t 30) (.seq (.region none [ox 2 (.mv (ai 0))])
    .ret) .skip)) (.region none [mo 31 3, ox 32 (.bin .mul (.t 31) (ai 10)),
    mo 33 0, mo 34 4, ox 35 (.idxStr (.t 33) (.t 34)),
    ox 36 (.bin .sub (.t 35) (.c (.int .u8 48))), ox 37 (.convI .i64 (.t 36)),
    ox 38 (.bin .add (.t 32) (.t 37)), mo 3 38]))) (.region none [mo 9 4,
    ox 10 (.bin .add (.t 9) (ai 1)), mo 4 10]))
def r30_count_s1 : ACode :=
  .block 0 (.loop r30_count_l0)
def r30_count_t2 : ACode :=
  .seq (.seq (.region none [ox 4 (.mv (ai 0))]) r30_count_s1) (.seq (.seq (.region none [mo 39 0,
    ox 40 (.len .str (.t 39)), ox 41 (.bin .gtr (.t 40) (ai 4))])
    (.cond (.t 41) (.seq (.region none [ox 2 (.mv (ai 0))]) .ret) .skip)) (.seq (.region none [mo 42 3,
    mo 2 42]) .ret))
def r30_count : AFun :=
  ⟨1, [.inl 2], (.seq (.region none [ox 2 (.mv (ai 0))]) (.seq (.region none [ox 3 (.mv (ai 0))])
    r30_count_t2)), false⟩

def r30_Parse_l0 : ACode :=
  .seq (.seq (.region none [mo 31 5, ox 32 (.bin .lss (.t 31) (ai 5)),
    mo 33 32, kg 33 true 34 (.k 1 []), og 33 true 35 (.mv (.t 5)),
    og 33 true 36 (.iaddrS 1 (.t 34) (.t 35)), og 33 true 37 (.load none (.t 36)),
    og 33 true 38 (.mv (.t 10)), og 33 true 39 (.bin .neq (.t 37) (.t 38)),
    ox 40 (.pick (.t 33) (.t 39) (.c (.bool false)))]) (.cond (.t 40) .skip (.exit 2))) (.block 3 (.region none [mo 41 5,
    ox 42 (.bin .add (.t 41) (ai 1)), mo 5 42]))
def r30_Parse_s1 : ACode :=
  .block 2 (.loop r30_Parse_l0)
def r30_Parse_t2 : ACode :=
  .seq r30_Parse_s1 (.seq (.region none [ox 13 (.mv (ai 0))]) (.seq (.seq (.region none [mo 43 11,
    ox 44 (.len .str (.t 43)), ox 45 (.bin .leq (.t 44) (ai 4))])
    (.cond (.t 45) (.region none [mo 46 11, kx 47 (.k 2 [.t 46]), mo 13 47])
    .skip)) (.seq (.seq (.region none [mo 48 5, ox 49 (.bin .eql (.t 48) (ai 5)),
    mo 50 49, og 50 false 51 (.mv (.t 13)), og 50 false 52 (.bin .eql (.t 51) (ai 0)),
    ox 53 (.pick (.t 50) (.c (.bool true)) (.t 52))]) (.cond (.t 53) (.seq (.region none [ox 54 (.build [.int .i64 0, .int .i64 0, .int .i64 0, .int .i64 0, .int .i64 0] []),
    oz (.store 5 (.t 2) (.t 54)), ox 3 (.mv (ai 3))])
    .ret) .skip)) (.seq (.region none [mo 55 5, mo 56 13,
    ox 57 (.iaddrA 1 5 (.t 4) (.t 55)), oz (.store 1 (.t 57) (.t 56))]) (.seq
    (.region none [mo 58 5, ox 59 (.bin .add (.t 58) (ai 1)),
    mo 5 59]) (.seq (.region none [mo 60 8, mo 0 60])
    (.region none [mo 61 9, mo 6 61])))))))
def r30_Parse_b3 : ACode :=
  .block 1 (.seq (.region none [mo 20 0, kx 21 (.k 0 [.t 20, .c (.int .u8 32)]),
    mo 19 21, ox 22 (.ext 0 (.t 19)), ox 23 (.ext 1 (.t 19)),
    ox 24 (.ext 2 (.t 19)), mo 7 22, mo 8 23,
    mo 9 24]) (.seq (.region none [mo 26 7, kx 27 (.k 0 [.t 26, .c (.int .u8 61)]),
    mo 25 27, ox 28 (.ext 0 (.t 25)), ox 29 (.ext 1 (.t 25)),
    ox 30 (.ext 2 (.t 25)), mo 10 28, mo 11 29,
    mo 12 30]) r30_Parse_t2))
def r30_Parse_l4 : ACode :=
  .seq (.seq (.region none [mo 18 6]) (.cond (.t 18) .skip (.exit 0))) r30_Parse_b3
def r30_Parse_s5 : ACode :=
  .block 0 (.loop r30_Parse_l4)
def r30_Parse_t6 : ACode :=
  .seq r30_Parse_s5 (.seq (.region none [ox 62 (.iaddrA 1 5 (.t 4) (ai 0)), ox 63 (.load none (.t 62)),
    ox 64 (.iaddrA 1 5 (.t 4) (ai 1)), ox 65 (.load none (.t 64)),
    ox 66 (.iaddrA 1 5 (.t 4) (ai 2)), ox 67 (.load none (.t 66)),
    ox 68 (.iaddrA 1 5 (.t 4) (ai 3)), ox 69 (.load none (.t 68)),
    ox 70 (.iaddrA 1 5 (.t 4) (ai 4)), ox 71 (.load none (.t 70)),
    ox 72 (.build [.int .i64 0, .int .i64 0, .int .i64 0, .int .i64 0, .int .i64 0] [(0, 1, .t 63), (1, 1, .t 65), (2, 1, .t 67), (3, 1, .t 69), (4, 1, .t 71)]),
    oz (.store 5 (.t 2) (.t 72)), ox 3 (.mv (ai 0))])
    .ret)
def r30_Parse : AFun :=
  ⟨1, [.inr (2, some 5), .inl 3], (.seq (.region none [ox 2 (.alloc [.int .i64 0, .int .i64 0, .int .i64 0, .int .i64 0, .int .i64 0]),
    ox 3 (.mv (ai 0))]) (.seq (.seq (.region none [mo 14 0,
    ox 15 (.bin .eql (.t 14) (.c (.str [110, 111, 110, 101])))]) (.cond (.t 15) (.seq (.region none [ox 16 (.build [.int .i64 0, .int .i64 0, .int .i64 0, .int .i64 0, .int .i64 0] []),
    oz (.store 5 (.t 2) (.t 16)), ox 3 (.mv (ai 0))])
    .ret) .skip)) (.seq (.region none [ox 17 (.build [.int .i64 0, .int .i64 0, .int .i64 0, .int .i64 0, .int .i64 0] []),
    ox 4 (.alloc [.int .i64 0, .int .i64 0, .int .i64 0, .int .i64 0, .int .i64 0]),
    oz (.store 5 (.t 4) (.t 17))]) (.seq (.region none [ox 5 (.mv (ai 0))])
    (.seq (.region none [ox 6 (.mv (.c (.bool true)))]) r30_Parse_t6))))), false⟩

def r30_decimal_l0 : ACode :=
  .seq (.seq (.region none [mo 4 0, ox 5 (.bin .gtr (.t 4) (ai 0))])
    (.cond (.t 5) .skip (.exit 0))) (.block 1 (.seq (.region none [mo 6 0, ox 7 (.bin .rem (.t 6) (ai 10)),
    ox 8 (.bin .add (ai 48) (.t 7)), ox 9 (.convI .u8 (.t 8)),
    ox 10 (.bslice false 1 1 [.int .u8 0] [(0, 1, .t 9)]), ox 11 (.convBS (.t 10)),
    mo 12 3, ox 13 (.bin .add (.t 11) (.t 12)), mo 3 13])
    (.region none [mo 14 0, ox 15 (.bin .quo (.t 14) (ai 10)),
    mo 0 15])))
def r30_decimal_s1 : ACode :=
  .block 0 (.loop r30_decimal_l0)
def r30_decimal_t2 : ACode :=
  .seq r30_decimal_s1 (.seq (.region none [mo 16 3, mo 2 16])
    .ret)
def r30_decimal : AFun :=
  ⟨1, [.inl 2], (.seq (.region none [ox 2 (.mv (.c (.str [])))]) (.seq (.region none [ox 3 (.mv (.c (.str [])))])
    r30_decimal_t2)), false⟩

def r30_Text_l0 : ACode :=
  .seq (.seq (.region none [mo 17 5, ox 18 (.bin .lss (.t 17) (ai 5))])
    (.cond (.t 18) .skip (.exit 0))) (.seq (.block 1 (.seq (.seq (.region none [mo 21 5, ox 22 (.iaddrA 1 5 (.t 3) (.t 21)),
    ox 23 (.load none (.t 22)), ox 24 (.bin .leq (.t 23) (ai 0))])
    (.cond (.t 24) (.exit 1) .skip)) (.seq (.seq (.region none [mo 25 4, ox 26 (.bin .neq (.t 25) (.c (.str [])))])
    (.cond (.t 26) (.region none [mo 27 4, ox 28 (.bin .add (.t 27) (.c (.str [32]))),
    mo 4 28]) .skip)) (.region (some [(4, [10]), (9, [1])]) [mo 29 4,
    kx 30 (.k 0 []), mo 31 5, ox 32 (.iaddrS 1 (.t 30) (.t 31)),
    ox 33 (.load none (.t 32)), ox 34 (.bin .add (.t 29) (.t 33)), ox 35 (.bin .add (.t 34) (.c (.str [61]))),
    mo 36 5, ox 37 (.iaddrA 1 5 (.t 3) (.t 36)), ox 38 (.load none (.t 37)),
    kx 39 (.k 1 [.t 38]), ox 40 (.bin .add (.t 35) (.t 39)), mo 4 40]))))
    (.region none [mo 19 5, ox 20 (.bin .add (.t 19) (ai 1)),
    mo 5 20]))
def r30_Text_s1 : ACode :=
  .block 0 (.loop r30_Text_l0)
def r30_Text_t2 : ACode :=
  .seq (.seq (.region none [ox 5 (.mv (ai 0))]) r30_Text_s1) (.seq (.seq (.region none [mo 41 4,
    ox 42 (.bin .eql (.t 41) (.c (.str [])))]) (.cond (.t 42) (.seq (.region none [ox 2 (.mv (.c (.str [110, 111, 110, 101])))])
    .ret) .skip)) (.seq (.region none [mo 43 4, mo 2 43])
    .ret))
def r30_Text : AFun :=
  ⟨1, [.inl 2], (.seq (.region none [ox 1 (.box (.t 0)), ox 2 (.mv (.c (.str [])))]) (.seq
    (.region none [ox 6 (.faddr 0 (.t 1)), ox 7 (.load none (.t 6)), ox 8 (.faddr 1 (.t 1)),
    ox 9 (.load none (.t 8)), ox 10 (.faddr 2 (.t 1)), ox 11 (.load none (.t 10)),
    ox 12 (.faddr 3 (.t 1)), ox 13 (.load none (.t 12)), ox 14 (.faddr 4 (.t 1)),
    ox 15 (.load none (.t 14)), ox 16 (.build [.int .i64 0, .int .i64 0, .int .i64 0, .int .i64 0, .int .i64 0] [(0, 1, .t 7), (1, 1, .t 9), (2, 1, .t 11), (3, 1, .t 13), (4, 1, .t 15)]),
    ox 3 (.alloc [.int .i64 0, .int .i64 0, .int .i64 0, .int .i64 0, .int .i64 0]),
    oz (.store 5 (.t 3) (.t 16))]) (.seq (.region none [ox 4 (.mv (.c (.str [])))])
    r30_Text_t2))), false⟩

def l30_PolicyText : AFun :=
  ⟨2, [.inl 4], (.seq (.region none [ox 2 (.box (.t 0)), ox 4 (.mv (.c (.bool false)))]) (.seq
    (.seq (.region none [mo 9 1, ox 10 (.len .str (.t 9)), ox 11 (.bin .gtr (.t 10) (ai 100))])
    (.cond (.t 11) (.seq (.region none [kx 12 (.k 0 []), mo 4 12])
    .ret) .skip)) (.seq (.region none [mo 14 1, kx 15 (.k 1 [.t 14]),
    mo 13 15, ox 16 (.ext 0 (.t 13)), ox 17 (.ext 1 (.t 13)),
    ox 5 (.alloc [.int .i64 0, .int .i64 0, .int .i64 0, .int .i64 0, .int .i64 0]),
    oz (.store 5 (.t 5) (.t 16)), mo 6 17]) (.seq (.region none [mo 19 1,
    kx 20 (.k 2 [.t 19]), mo 18 20, ox 21 (.ext 0 (.t 18)),
    ox 22 (.ext 1 (.t 18)), ox 7 (.alloc [.int .i64 0, .int .i64 0, .int .i64 0, .int .i64 0, .int .i64 0]),
    oz (.store 5 (.t 7) (.t 21)), mo 8 22]) (.seq (.region (some [(4,
    [3]), (12, [11])]) [kx 23 (.k 0 []), mo 24 23, og 24 true 25 (.load (some 5) (.t 2)),
    kg 24 true 26 (.k 3 [.t 25]), og 24 true 27 (.load (some 5) (.t 2)), kg 24 true 28 (.k 4 [.t 27]),
    kg 24 true 29 (.k 5 [.t 28]), og 24 true 30 (.bin .eql (.t 26) (.t 29)),
    ox 31 (.pick (.t 24) (.t 30) (.c (.bool false))), mo 32 31, og 32 true 33 (.load (some 5) (.t 5)),
    kg 32 true 34 (.k 4 [.t 33]), og 32 true 35 (.load (some 5) (.t 7)), og 32 true 36 (.eqA false [.i, .i, .i, .i, .i] (.t 34) (.t 35)),
    ox 37 (.pick (.t 32) (.t 36) (.c (.bool false))), mo 38 37, og 38 true 39 (.mv (.t 6)),
    og 38 true 40 (.mv (.t 8)), og 38 true 41 (.bin .eql (.t 39) (.t 40)),
    ox 42 (.pick (.t 38) (.t 41) (.c (.bool false))), mo 4 42])
    .ret))))), false⟩

end Am.Ir
