/- The machine's code of the functions, printed by a program of this session; each is checked against the model's. -/
import Derived.Test.YtgbifohffmdgeaaDoorAmIrS
set_option linter.all false
namespace Am.Ir
open Am Go
set_option maxRecDepth 100000
def slices_insertionSortCmpFunc_l0 : ACode :=
  .seq (.seq (.region (some []) [mo 18 9, mo 19 1, ox 20 (.bin .gtr (.t 18) (.t 19)),
    mo 21 20, og 21 true 22 (.mv (.t 3)), og 21 true 23 (.mv (.t 0)),
    og 21 true 24 (.mv (.t 9)), og 21 true 25 (.iaddrS 1 (.t 23) (.t 24)), og 21 true 26 (.load none (.t 25)),
    og 21 true 27 (.mv (.t 0)), og 21 true 28 (.mv (.t 9)), og 21 true 29 (.bin .sub (.t 28) (ai 1)),
    og 21 true 30 (.iaddrS 1 (.t 27) (.t 29)), og 21 true 31 (.load none (.t 30)),
    kg 21 true 32 (.v (.t 22) [.t 26, .t 31]), og 21 true 33 (.bin .lss (.t 32) (ai 0)),
    ox 34 (.pick (.t 21) (.t 33) (.c (.bool false)))]) (.cond (.t 34) .skip (.exit 2))) (.seq (.block 3 (.region
    (some []) [mo 37 0, mo 38 9, mo 39 0,
    mo 40 9, ox 41 (.bin .sub (.t 40) (ai 1)),
    mo 42 0, mo 43 9, ox 44 (.bin .sub (.t 43) (ai 1)),
    ox 45 (.iaddrS 1 (.t 42) (.t 44)), ox 46 (.load none (.t 45)), mo 47 0,
    mo 48 9, ox 49 (.iaddrS 1 (.t 47) (.t 48)), ox 50 (.load none (.t 49)),
    ox 51 (.iaddrS 1 (.t 37) (.t 38)), oz (.store 1 (.t 51) (.t 46)), ox 52 (.iaddrS 1 (.t 39) (.t 41)),
    oz (.store 1 (.t 52) (.t 50))])) (.region none [mo 35 9, ox 36 (.bin .sub (.t 35) (ai 1)),
    mo 9 36]))
def slices_insertionSortCmpFunc_s1 : ACode :=
  .block 2 (.loop slices_insertionSortCmpFunc_l0)
def slices_insertionSortCmpFunc_b2 : ACode :=
  .block 1 (.seq (.region none [mo 17 8, mo 9 17])
    slices_insertionSortCmpFunc_s1)
def slices_insertionSortCmpFunc_t3 : ACode :=
  .seq slices_insertionSortCmpFunc_b2 (.region none [mo 15 8, ox 16 (.bin .add (.t 15) (ai 1)),
    mo 8 16])
def slices_insertionSortCmpFunc_l4 : ACode :=
  .seq (.seq (.region none [mo 12 8, mo 13 2, ox 14 (.bin .lss (.t 12) (.t 13))])
    (.cond (.t 14) .skip (.exit 0))) slices_insertionSortCmpFunc_t3
def slices_insertionSortCmpFunc_s5 : ACode :=
  .block 0 (.loop slices_insertionSortCmpFunc_l4)
def slices_insertionSortCmpFunc : AFun :=
  ⟨4, [], (.seq (.region none [mo 10 1, ox 11 (.bin .add (.t 10) (ai 1)),
    mo 8 11]) slices_insertionSortCmpFunc_s5), false⟩

def slices_swapRangeCmpFunc_l0 : ACode :=
  .seq (.seq (.region none [mo 11 10, mo 12 3, ox 13 (.bin .lss (.t 11) (.t 12))])
    (.cond (.t 13) .skip (.exit 0))) (.seq (.block 1 (.region (some []) [mo 16 0, mo 17 1,
    mo 18 10, ox 19 (.bin .add (.t 17) (.t 18)), mo 20 0,
    mo 21 2, mo 22 10, ox 23 (.bin .add (.t 21) (.t 22)),
    mo 24 0, mo 25 2, mo 26 10,
    ox 27 (.bin .add (.t 25) (.t 26)), ox 28 (.iaddrS 1 (.t 24) (.t 27)), ox 29 (.load none (.t 28)),
    mo 30 0, mo 31 1, mo 32 10,
    ox 33 (.bin .add (.t 31) (.t 32)), ox 34 (.iaddrS 1 (.t 30) (.t 33)), ox 35 (.load none (.t 34)),
    ox 36 (.iaddrS 1 (.t 16) (.t 19)), oz (.store 1 (.t 36) (.t 29)), ox 37 (.iaddrS 1 (.t 20) (.t 23)),
    oz (.store 1 (.t 37) (.t 35))])) (.region none [mo 14 10, ox 15 (.bin .add (.t 14) (ai 1)),
    mo 10 15]))
def slices_swapRangeCmpFunc_s1 : ACode :=
  .block 0 (.loop slices_swapRangeCmpFunc_l0)
def slices_swapRangeCmpFunc : AFun :=
  ⟨5, [], (.seq (.region none [ox 10 (.mv (ai 0))]) slices_swapRangeCmpFunc_s1), false⟩

def slices_rotateCmpFunc_l0 : ACode :=
  .seq (.seq (.region none [mo 18 10, mo 19 11, ox 20 (.bin .neq (.t 18) (.t 19))])
    (.cond (.t 20) .skip (.exit 0))) (.block 1 (.seq (.region none [mo 21 10, mo 22 11,
    ox 23 (.bin .gtr (.t 21) (.t 22))]) (.cond (.t 23) (.seq (.region none [mo 24 0,
    mo 25 2, mo 26 10, ox 27 (.bin .sub (.t 25) (.t 26)),
    mo 28 2, mo 29 11, mo 30 4,
    kx 31 (.k 0 [.t 24, .t 27, .t 28, .t 29, .t 30])]) (.region none [mo 32 10,
    mo 33 11, ox 34 (.bin .sub (.t 32) (.t 33)), mo 10 34]))
    (.seq (.region none [mo 35 0, mo 36 2, mo 37 10,
    ox 38 (.bin .sub (.t 36) (.t 37)), mo 39 2, mo 40 11,
    ox 41 (.bin .add (.t 39) (.t 40)), mo 42 10, ox 43 (.bin .sub (.t 41) (.t 42)),
    mo 44 10, mo 45 4, kx 46 (.k 0 [.t 35, .t 38, .t 43, .t 44, .t 45])])
    (.region none [mo 47 11, mo 48 10, ox 49 (.bin .sub (.t 47) (.t 48)),
    mo 11 49])))))
def slices_rotateCmpFunc_s1 : ACode :=
  .block 0 (.loop slices_rotateCmpFunc_l0)
def slices_rotateCmpFunc_t2 : ACode :=
  .seq slices_rotateCmpFunc_s1 (.region none [mo 50 0, mo 51 2,
    mo 52 10, ox 53 (.bin .sub (.t 51) (.t 52)), mo 54 2,
    mo 55 10, mo 56 4, kx 57 (.k 0 [.t 50, .t 53, .t 54, .t 55, .t 56])])
def slices_rotateCmpFunc : AFun :=
  ⟨5, [], (.seq (.region none [mo 12 2, mo 13 1, ox 14 (.bin .sub (.t 12) (.t 13)),
    mo 10 14]) (.seq (.region none [mo 15 3, mo 16 2,
    ox 17 (.bin .sub (.t 15) (.t 16)), mo 11 17])
    slices_rotateCmpFunc_t2)), false⟩

def slices_symMergeCmpFunc_l0 : ACode :=
  .seq (.seq (.region none [mo 31 10, mo 32 11, ox 33 (.bin .lss (.t 31) (.t 32))])
    (.cond (.t 33) .skip (.exit 0))) (.block 1 (.seq (.region none [mo 34 10, mo 35 11,
    ox 36 (.bin .add (.t 34) (.t 35)), ox 37 (.convI .u64 (.t 36)), ox 38 (.bin .shr (.t 37) (.c (.int .u64 1))),
    ox 39 (.convI .i64 (.t 38)), mo 12 39]) (.seq (.region (some [])
    [mo 40 4, mo 41 0, mo 42 12,
    ox 43 (.iaddrS 1 (.t 41) (.t 42)), ox 44 (.load none (.t 43)), mo 45 0,
    mo 46 1, ox 47 (.iaddrS 1 (.t 45) (.t 46)), ox 48 (.load none (.t 47)),
    kx 49 (.v (.t 40) [.t 44, .t 48]), ox 50 (.bin .lss (.t 49) (ai 0))])
    (.cond (.t 50) (.region none [mo 51 12, ox 52 (.bin .add (.t 51) (ai 1)),
    mo 10 52]) (.region none [mo 53 12, mo 11 53])))))
def slices_symMergeCmpFunc_s1 : ACode :=
  .block 0 (.loop slices_symMergeCmpFunc_l0)
def slices_symMergeCmpFunc_l2 : ACode :=
  .seq (.seq (.region none [mo 55 13, mo 56 10, ox 57 (.bin .sub (.t 56) (ai 1)),
    ox 58 (.bin .lss (.t 55) (.t 57))]) (.cond (.t 58) .skip (.exit 2))) (.seq (.block 3 (.region (some []) [mo 61 0,
    mo 62 13, mo 63 0, mo 64 13,
    ox 65 (.bin .add (.t 64) (ai 1)), mo 66 0,
    mo 67 13, ox 68 (.bin .add (.t 67) (ai 1)),
    ox 69 (.iaddrS 1 (.t 66) (.t 68)), ox 70 (.load none (.t 69)), mo 71 0,
    mo 72 13, ox 73 (.iaddrS 1 (.t 71) (.t 72)), ox 74 (.load none (.t 73)),
    ox 75 (.iaddrS 1 (.t 61) (.t 62)), oz (.store 1 (.t 75) (.t 70)), ox 76 (.iaddrS 1 (.t 63) (.t 65)),
    oz (.store 1 (.t 76) (.t 74))])) (.region none [mo 59 13, ox 60 (.bin .add (.t 59) (ai 1)),
    mo 13 60]))
def slices_symMergeCmpFunc_s3 : ACode :=
  .block 2 (.loop slices_symMergeCmpFunc_l2)
def slices_symMergeCmpFunc_t4 : ACode :=
  .seq (.seq (.region none [mo 54 1, mo 13 54])
    slices_symMergeCmpFunc_s3) .ret
def slices_symMergeCmpFunc_t5 : ACode :=
  .seq slices_symMergeCmpFunc_s1 slices_symMergeCmpFunc_t4
def slices_symMergeCmpFunc_c6 : ACode :=
  .seq (.region none [mo 29 2, mo 10 29]) (.seq (.region none
    [mo 30 3, mo 11 30]) slices_symMergeCmpFunc_t5)
def slices_symMergeCmpFunc_l7 : ACode :=
  .seq (.seq (.region none [mo 83 14, mo 84 15, ox 85 (.bin .lss (.t 83) (.t 84))])
    (.cond (.t 85) .skip (.exit 4))) (.block 5 (.seq (.region none [mo 86 14, mo 87 15,
    ox 88 (.bin .add (.t 86) (.t 87)), ox 89 (.convI .u64 (.t 88)), ox 90 (.bin .shr (.t 89) (.c (.int .u64 1))),
    ox 91 (.convI .i64 (.t 90)), mo 16 91]) (.seq (.region (some [])
    [mo 92 4, mo 93 0, mo 94 2,
    ox 95 (.iaddrS 1 (.t 93) (.t 94)), ox 96 (.load none (.t 95)), mo 97 0,
    mo 98 16, ox 99 (.iaddrS 1 (.t 97) (.t 98)), ox 100 (.load none (.t 99)),
    kx 101 (.v (.t 92) [.t 96, .t 100]), ox 102 (.bin .lss (.t 101) (ai 0)),
    ox 103 (.un .not (.t 102))]) (.cond (.t 103) (.region none [mo 104 16,
    ox 105 (.bin .add (.t 104) (ai 1)), mo 14 105])
    (.region none [mo 106 16, mo 15 106])))))
def slices_symMergeCmpFunc_s8 : ACode :=
  .block 4 (.loop slices_symMergeCmpFunc_l7)
def slices_symMergeCmpFunc_l9 : ACode :=
  .seq (.seq (.region none [mo 108 17, mo 109 14, ox 110 (.bin .gtr (.t 108) (.t 109))])
    (.cond (.t 110) .skip (.exit 6))) (.seq (.block 7 (.region (some []) [mo 113 0, mo 114 17,
    mo 115 0, mo 116 17, ox 117 (.bin .sub (.t 116) (ai 1)),
    mo 118 0, mo 119 17, ox 120 (.bin .sub (.t 119) (ai 1)),
    ox 121 (.iaddrS 1 (.t 118) (.t 120)), ox 122 (.load none (.t 121)), mo 123 0,
    mo 124 17, ox 125 (.iaddrS 1 (.t 123) (.t 124)), ox 126 (.load none (.t 125)),
    ox 127 (.iaddrS 1 (.t 113) (.t 114)), oz (.store 1 (.t 127) (.t 122)), ox 128 (.iaddrS 1 (.t 115) (.t 117)),
    oz (.store 1 (.t 128) (.t 126))])) (.region none [mo 111 17, ox 112 (.bin .sub (.t 111) (ai 1)),
    mo 17 112]))
def slices_symMergeCmpFunc_s10 : ACode :=
  .block 6 (.loop slices_symMergeCmpFunc_l9)
def slices_symMergeCmpFunc_t11 : ACode :=
  .seq (.seq (.region none [mo 107 2, mo 17 107])
    slices_symMergeCmpFunc_s10) .ret
def slices_symMergeCmpFunc_t12 : ACode :=
  .seq slices_symMergeCmpFunc_s8 slices_symMergeCmpFunc_t11
def slices_symMergeCmpFunc_c13 : ACode :=
  .seq (.region none [mo 81 1, mo 14 81]) (.seq (.region none
    [mo 82 2, mo 15 82]) slices_symMergeCmpFunc_t12)
def slices_symMergeCmpFunc_l14 : ACode :=
  .seq (.seq (.region none [mo 149 20, mo 150 21, ox 151 (.bin .lss (.t 149) (.t 150))])
    (.cond (.t 151) .skip (.exit 8))) (.block 9 (.seq (.region none [mo 152 20, mo 153 21,
    ox 154 (.bin .add (.t 152) (.t 153)), ox 155 (.convI .u64 (.t 154)),
    ox 156 (.bin .shr (.t 155) (.c (.int .u64 1))), ox 157 (.convI .i64 (.t 156)),
    mo 23 157]) (.seq (.region (some []) [mo 158 4, mo 159 0,
    mo 160 22, mo 161 23, ox 162 (.bin .sub (.t 160) (.t 161)),
    ox 163 (.iaddrS 1 (.t 159) (.t 162)), ox 164 (.load none (.t 163)), mo 165 0,
    mo 166 23, ox 167 (.iaddrS 1 (.t 165) (.t 166)), ox 168 (.load none (.t 167)),
    kx 169 (.v (.t 158) [.t 164, .t 168]), ox 170 (.bin .lss (.t 169) (ai 0)),
    ox 171 (.un .not (.t 170))]) (.cond (.t 171) (.region none [mo 172 23,
    ox 173 (.bin .add (.t 172) (ai 1)), mo 20 173])
    (.region none [mo 174 23, mo 21 174])))))
def slices_symMergeCmpFunc_s15 : ACode :=
  .block 8 (.loop slices_symMergeCmpFunc_l14)
def slices_symMergeCmpFunc_t16 : ACode :=
  .seq slices_symMergeCmpFunc_s15 (.seq (.region none [mo 175 19, mo 176 20,
    ox 177 (.bin .sub (.t 175) (.t 176)), mo 24 177]) (.seq (.seq
    (.region none [mo 178 20, mo 179 2, ox 180 (.bin .lss (.t 178) (.t 179)),
    mo 181 180, og 181 true 182 (.mv (.t 2)), og 181 true 183 (.mv (.t 24)),
    og 181 true 184 (.bin .lss (.t 182) (.t 183)), ox 185 (.pick (.t 181) (.t 184) (.c (.bool false)))])
    (.cond (.t 185) (.region none [mo 186 0, mo 187 20, mo 188 2,
    mo 189 24, mo 190 4, kx 191 (.k 0 [.t 186, .t 187, .t 188, .t 189, .t 190])])
    .skip)) (.seq (.seq (.region none [mo 192 1, mo 193 20,
    ox 194 (.bin .lss (.t 192) (.t 193)), mo 195 194, og 195 true 196 (.mv (.t 20)),
    og 195 true 197 (.mv (.t 18)), og 195 true 198 (.bin .lss (.t 196) (.t 197)),
    ox 199 (.pick (.t 195) (.t 198) (.c (.bool false)))]) (.cond (.t 199) (.region none [mo 200 0,
    mo 201 1, mo 202 20, mo 203 18,
    mo 204 4, kx 205 (.k 1 [.t 200, .t 201, .t 202, .t 203, .t 204])])
    .skip)) (.seq (.region none [mo 206 18, mo 207 24, ox 208 (.bin .lss (.t 206) (.t 207)),
    mo 209 208, og 209 true 210 (.mv (.t 24)), og 209 true 211 (.mv (.t 3)),
    og 209 true 212 (.bin .lss (.t 210) (.t 211)), ox 213 (.pick (.t 209) (.t 212) (.c (.bool false)))])
    (.cond (.t 213) (.region none [mo 214 0, mo 215 18, mo 216 24,
    mo 217 3, mo 218 4, kx 219 (.k 1 [.t 214, .t 215, .t 216, .t 217, .t 218])])
    .skip)))))
def slices_symMergeCmpFunc_t17 : ACode :=
  .seq (.seq (.region none [mo 77 3, mo 78 2, ox 79 (.bin .sub (.t 77) (.t 78)),
    ox 80 (.bin .eql (.t 79) (ai 1))]) (.cond (.t 80) slices_symMergeCmpFunc_c13 .skip)) (.seq
    (.region none [mo 129 1, mo 130 3, ox 131 (.bin .add (.t 129) (.t 130)),
    ox 132 (.convI .u64 (.t 131)), ox 133 (.bin .shr (.t 132) (.c (.int .u64 1))),
    ox 134 (.convI .i64 (.t 133)), mo 18 134]) (.seq (.region none
    [mo 135 18, mo 136 2, ox 137 (.bin .add (.t 135) (.t 136)),
    mo 19 137]) (.seq (.region none [ox 20 (.mv (ai 0)),
    ox 21 (.mv (ai 0))]) (.seq (.seq (.region none [mo 138 2,
    mo 139 18, ox 140 (.bin .gtr (.t 138) (.t 139))]) (.cond (.t
    140) (.seq (.region none [mo 141 19, mo 142 3, ox 143 (.bin .sub (.t 141) (.t 142)),
    mo 20 143]) (.region none [mo 144 18, mo 21 144]))
    (.seq (.region none [mo 145 1, mo 20 145]) (.region none [mo 146 2,
    mo 21 146])))) (.seq (.region none [mo 147 19, ox 148 (.bin .sub (.t 147) (ai 1)),
    mo 22 148]) slices_symMergeCmpFunc_t16)))))
def slices_symMergeCmpFunc_t18 : ACode :=
  .seq (.seq (.region none [mo 25 2, mo 26 1, ox 27 (.bin .sub (.t 25) (.t 26)),
    ox 28 (.bin .eql (.t 27) (ai 1))]) (.cond (.t 28) slices_symMergeCmpFunc_c6 .skip))
    slices_symMergeCmpFunc_t17
def slices_symMergeCmpFunc : AFun :=
  ⟨5, [], slices_symMergeCmpFunc_t18, false⟩

def slices_stableCmpFunc_l0 : ACode :=
  .seq (.seq (.region none [mo 11 8, mo 12 1, ox 13 (.bin .leq (.t 11) (.t 12))])
    (.cond (.t 13) .skip (.exit 0))) (.block 1 (.seq (.region none [mo 14 0, mo 15 7,
    mo 16 8, mo 17 2, kx 18 (.k 0 [.t 14, .t 15, .t 16, .t 17])])
    (.seq (.region none [mo 19 8, mo 7 19]) (.region none [mo 20 8,
    mo 21 6, ox 22 (.bin .add (.t 20) (.t 21)), mo 8 22]))))
def slices_stableCmpFunc_s1 : ACode :=
  .block 0 (.loop slices_stableCmpFunc_l0)
def slices_stableCmpFunc_l2 : ACode :=
  .seq (.seq (.region none [mo 33 8, mo 34 1, ox 35 (.bin .leq (.t 33) (.t 34))])
    (.cond (.t 35) .skip (.exit 4))) (.block 5 (.seq (.region none [mo 36 0, mo 37 7,
    mo 38 7, mo 39 6, ox 40 (.bin .add (.t 38) (.t 39)),
    mo 41 8, mo 42 2, kx 43 (.k 1 [.t 36, .t 37, .t 40, .t 41, .t 42])])
    (.seq (.region none [mo 44 8, mo 7 44]) (.region none [mo 45 8,
    mo 46 6, ox 47 (.bin .mul (ai 2) (.t 46)),
    ox 48 (.bin .add (.t 45) (.t 47)), mo 8 48]))))
def slices_stableCmpFunc_s3 : ACode :=
  .block 4 (.loop slices_stableCmpFunc_l2)
def slices_stableCmpFunc_t4 : ACode :=
  .seq slices_stableCmpFunc_s3 (.seq (.seq (.region none [mo 49 7, mo 50 6,
    ox 51 (.bin .add (.t 49) (.t 50)), mo 9 51]) (.seq (.region
    none [mo 52 9, mo 53 1, ox 54 (.bin .lss (.t 52) (.t 53))])
    (.cond (.t 54) (.region none [mo 55 0, mo 56 7, mo 57 9,
    mo 58 1, mo 59 2, kx 60 (.k 1 [.t 55, .t 56, .t 57, .t 58, .t 59])])
    .skip))) (.region none [mo 61 6, ox 62 (.bin .mul (.t 61) (ai 2)),
    mo 6 62]))
def slices_stableCmpFunc_b5 : ACode :=
  .block 3 (.seq (.region none [mo 31 6, ox 32 (.bin .mul (ai 2) (.t 31)),
    ox 7 (.mv (ai 0)), mo 8 32])
    slices_stableCmpFunc_t4)
def slices_stableCmpFunc_l6 : ACode :=
  .seq (.seq (.region none [mo 28 6, mo 29 1, ox 30 (.bin .lss (.t 28) (.t 29))])
    (.cond (.t 30) .skip (.exit 2))) slices_stableCmpFunc_b5
def slices_stableCmpFunc_s7 : ACode :=
  .block 2 (.loop slices_stableCmpFunc_l6)
def slices_stableCmpFunc_t8 : ACode :=
  .seq slices_stableCmpFunc_s1 (.seq (.region none [mo 23 0, mo 24 7,
    mo 25 1, mo 26 2, kx 27 (.k 0 [.t 23, .t 24, .t 25, .t 26])])
    slices_stableCmpFunc_s7)
def slices_stableCmpFunc : AFun :=
  ⟨3, [], (.seq (.region none [ox 6 (.mv (ai 20))]) (.seq (.region none [mo 10 6,
    ox 7 (.mv (ai 0)), mo 8 10])
    slices_stableCmpFunc_t8)), false⟩

def slices_SortStableFunc : AFun :=
  ⟨2, [], (.region none [mo 4 0, mo 5 0, ox 6 (.len .sl (.t 5)),
    mo 7 1, kx 8 (.k 0 [.t 4, .t 6, .t 7])]), false⟩

def policy_newest_1 : AFun :=
  ⟨3, [.inl 5], (.seq (.region none [ox 5 (.mv (ai 0))]) (.seq (.block 0 (.seq (.region (some []) [ox 7 (.load none (.t 2)),
    mo 8 0, ox 9 (.iaddrS 1 (.t 7) (.t 8)), ox 10 (.load none (.t 9)),
    ox 11 (.load none (.t 2)), mo 12 1, ox 13 (.iaddrS 1 (.t 11) (.t 12)),
    ox 14 (.load none (.t 13)), ox 15 (.bin .gtr (.t 10) (.t 14)), mo 6 15])
    (.cond (.t 6) (.seq (.region none [ox 5 (.mv (ai (-1)))]) .ret) (.seq (.region (some []) [ox 17 (.load none (.t 2)),
    mo 18 0, ox 19 (.iaddrS 1 (.t 17) (.t 18)), ox 20 (.load none (.t 19)),
    ox 21 (.load none (.t 2)), mo 22 1, ox 23 (.iaddrS 1 (.t 21) (.t 22)),
    ox 24 (.load none (.t 23)), ox 25 (.bin .lss (.t 20) (.t 24)), mo 16 25])
    (.cond (.t 16) (.seq (.region none [ox 5 (.mv (ai 1))]) .ret) .skip))))) (.seq (.region none
    [ox 5 (.mv (ai 0))]) .ret))), false⟩

def policy_newest_l0 : ACode :=
  .seq (.region none [ox 8 (.bin .lss (.t 7) (.t 6))]) (.seq (.cond (.t 8) .skip (.exit 0)) (.seq (.block 1 (.seq
    (.region none [mo 9 7, mo 4 9]) (.region none [mo 10 3,
    mo 11 4, ox 12 (.bslice false 1 1 [.int .i64 0] [(0, 1, .t 11)]),
    ox 13 (.append 1 8 (.t 10) (.t 12)), mo 3 13]))) (.region none [ox 14 (.bin .add (.t 7) (ai 1)),
    mo 7 14])))
def policy_newest_s1 : ACode :=
  .block 0 (.loop policy_newest_l0)
def policy_newest_t2 : ACode :=
  .seq (.seq (.region none [ox 5 (.load none (.t 1)), ox 6 (.len .sl (.t 5)), ox 7 (.mv (ai 0))])
    policy_newest_s1) (.seq (.region none [mo 15 3, ox 16 (.mkfn (Fn.func 22) [] [.t 1]),
    kx 17 (.k 0 [.t 15, .t 16])]) (.seq (.region none [mo 18 3, mo 2 18])
    .ret))
def policy_newest : AFun :=
  ⟨1, [.inl 2], (.seq (.region none [ox 1 (.box (.t 0)), ox 2 (.mv (.c .nils))]) (.seq
    (.region none [ox 3 (.mv (.c .nils))]) policy_newest_t2)), false⟩

def clock_Week : AFun :=
  ⟨1, [.inl 2], (.seq (.region none [ox 2 (.mv (.c (.int .u64 0)))]) (.seq (.region none [mo 3 0,
    ox 4 (.bin .quo (.t 3) (.c (.int .u64 86400))), ox 5 (.bin .add (.t 4) (.c (.int .u64 5))),
    ox 6 (.bin .quo (.t 5) (.c (.int .u64 7))), mo 2 6])
    .ret)), false⟩

def clock_leaps_1 : AFun :=
  ⟨1, [.inl 2], (.seq (.region none [ox 2 (.mv (ai 0))]) (.seq (.region none [mo 3 0,
    ox 4 (.bin .quo (.t 3) (ai 4)), mo 5 0,
    ox 6 (.bin .quo (.t 5) (ai 100)), ox 7 (.bin .sub (.t 4) (.t 6)),
    mo 8 0, ox 9 (.bin .quo (.t 8) (ai 400)),
    ox 10 (.bin .add (.t 7) (.t 9)), mo 2 10]) .ret)), false⟩

def clock_leaps : AFun :=
  ⟨1, [.inl 2], (.seq (.region none [ox 2 (.mv (ai 0))]) (.seq (.region none [ox 3 (.mv (.c (.fn (Fn.func 100) [] [])))])
    (.seq (.region none [mo 4 3, mo 5 0, ox 6 (.bin .sub (.t 5) (ai 1)),
    kx 7 (.v (.t 4) [.t 6]), mo 8 3, kx 9 (.v (.t 8) [ai 1999]),
    ox 10 (.bin .sub (.t 7) (.t 9)), mo 2 10]) .ret))), false⟩

def clock_yearDay : AFun :=
  ⟨1, [.inl 2], (.seq (.region none [ox 2 (.mv (ai 0))]) (.seq (.region none [mo 3 0,
    ox 4 (.bin .sub (.t 3) (ai 2000)), ox 5 (.bin .mul (.t 4) (ai 365)),
    mo 6 0, kx 7 (.k 0 [.t 6]), ox 8 (.bin .add (.t 5) (.t 7)),
    mo 2 8]) .ret)), false⟩

def clock_yearOf_l0 : ACode :=
  .seq (.seq (.region none [mo 8 0, mo 9 4, ox 10 (.bin .add (.t 9) (ai 1)),
    kx 11 (.k 0 [.t 10]), ox 12 (.bin .geq (.t 8) (.t 11))]) (.cond (.t
    12) .skip (.exit 0))) (.block 1 (.region none [mo 13 4, ox 14 (.bin .add (.t 13) (ai 1)),
    mo 4 14]))
def clock_yearOf_s1 : ACode :=
  .block 0 (.loop clock_yearOf_l0)
def clock_yearOf_t2 : ACode :=
  .seq clock_yearOf_s1 (.seq (.region none [mo 15 4, mo 16 0,
    mo 17 4, kx 18 (.k 0 [.t 17]), ox 19 (.bin .sub (.t 16) (.t 18)),
    mo 2 15, mo 3 19]) .ret)
def clock_yearOf : AFun :=
  ⟨1, [.inl 2, .inl 3], (.seq (.region none [ox 2 (.mv (ai 0)), ox 3 (.mv (ai 0))])
    (.seq (.region none [mo 5 0, ox 6 (.bin .quo (.t 5) (ai 366)),
    ox 7 (.bin .add (ai 2000) (.t 6)), mo 4 7])
    clock_yearOf_t2)), false⟩

def clock_isLeap : AFun :=
  ⟨1, [.inl 2], (.seq (.region none [ox 2 (.mv (.c (.bool false)))]) (.seq (.region none [mo 3 0,
    ox 4 (.bin .rem (.t 3) (ai 400)), ox 5 (.bin .eql (.t 4) (ai 0)),
    mo 6 5, og 6 false 7 (.mv (.t 0)), og 6 false 8 (.bin .rem (.t 7) (ai 4)),
    og 6 false 9 (.bin .eql (.t 8) (ai 0)), og 6 false 10 (.mv (.t 9)),
    og 10 true 11 (.mv (.t 0)), og 10 true 12 (.bin .rem (.t 11) (ai 100)),
    og 10 true 13 (.bin .neq (.t 12) (ai 0)), og 6 false 14 (.pick (.t 10) (.t 13) (.c (.bool false))),
    ox 15 (.pick (.t 6) (.c (.bool true)) (.t 14)), mo 2 15])
    .ret)), false⟩

def clock_Days : AFun :=
  ⟨2, [.inl 4], (.seq (.region none [ox 4 (.mv (ai 0))]) (.seq (.seq (.region none [mo 5 0,
    ox 6 (.bin .lss (.t 5) (ai 2000)), mo 7 6,
    og 7 false 8 (.mv (.t 0)), og 7 false 9 (.bin .gtr (.t 8) (ai 2199)),
    ox 10 (.pick (.t 7) (.c (.bool true)) (.t 9))]) (.cond (.t 10) (.seq (.region none [ox 4 (.mv (ai 0))])
    .ret) .skip)) (.seq (.seq (.region none [mo 11 1]) (.block 0 (.seq (.seq (.region none [ox 13 (.bin .eql (.t 11) (ai 1)),
    mo 12 13]) (.cond (.t 12) .skip (.seq (.region none [ox 14 (.bin .eql (.t 11) (ai 3)),
    mo 12 14]) (.cond (.t 12) .skip (.seq (.region none [ox 15 (.bin .eql (.t 11) (ai 5)),
    mo 12 15]) (.cond (.t 12) .skip (.seq (.region none [ox 16 (.bin .eql (.t 11) (ai 7)),
    mo 12 16]) (.cond (.t 12) .skip (.seq (.region none [ox 17 (.bin .eql (.t 11) (ai 8)),
    mo 12 17]) (.cond (.t 12) .skip (.seq (.region none [ox 18 (.bin .eql (.t 11) (ai 10)),
    mo 12 18]) (.cond (.t 12) .skip (.region none [ox 19 (.bin .eql (.t 11) (ai 12)),
    mo 12 19]))))))))))))) (.cond (.t 12) (.seq (.region none [ox 4 (.mv (ai 31))])
    .ret) (.seq (.seq (.region none [ox 21 (.bin .eql (.t 11) (ai 4)), mo 20 21])
    (.cond (.t 20) .skip (.seq (.region none [ox 22 (.bin .eql (.t 11) (ai 6)), mo 20 22])
    (.cond (.t 20) .skip (.seq (.region none [ox 23 (.bin .eql (.t 11) (ai 9)), mo 20 23])
    (.cond (.t 20) .skip (.region none [ox 24 (.bin .eql (.t 11) (ai 11)), mo 20 24])))))))
    (.cond (.t 20) (.seq (.region none [ox 4 (.mv (ai 30))]) .ret) (.seq (.region none [ox 26 (.bin .eql (.t 11) (ai 2)),
    mo 25 26]) (.cond (.t 25) (.seq (.seq (.region none [mo 27 0,
    kx 28 (.k 0 [.t 27])]) (.cond (.t 28) (.seq (.region none [ox 4 (.mv (ai 29))])
    .ret) .skip)) (.seq (.region none [ox 4 (.mv (ai 28))]) .ret)) .skip)))))))) (.seq
    (.region none [ox 4 (.mv (ai 0))]) .ret)))), false⟩

def clock_Split_l0 : ACode :=
  .seq (.seq (.region none [mo 24 6, mo 25 5, mo 26 7,
    kx 27 (.k 2 [.t 25, .t 26]), ox 28 (.bin .geq (.t 24) (.t 27))])
    (.cond (.t 28) .skip (.exit 0))) (.block 1 (.seq (.region none [mo 29 6, mo 30 5,
    mo 31 7, kx 32 (.k 2 [.t 30, .t 31]), ox 33 (.bin .sub (.t 29) (.t 32)),
    mo 6 33]) (.region none [mo 34 7, ox 35 (.bin .add (.t 34) (ai 1)),
    mo 7 35])))
def clock_Split_s1 : ACode :=
  .block 0 (.loop clock_Split_l0)
def clock_Split_t2 : ACode :=
  .seq clock_Split_s1 (.seq (.region none [mo 36 5, mo 37 7, mo 38 6,
    ox 39 (.bin .add (.t 38) (ai 1)), mo 40 4,
    ox 41 (.bin .quo (.t 40) (ai 3600)), mo 42 4,
    ox 43 (.bin .quo (.t 42) (ai 60)), ox 44 (.bin .rem (.t 43) (ai 60)),
    mo 45 4, ox 46 (.bin .rem (.t 45) (ai 60)),
    ox 47 (.build [.int .i64 0, .int .i64 0, .int .i64 0, .int .i64 0, .int .i64 0, .int .i64 0] [(0, 1, .t 36), (1, 1, .t 37), (2, 1, .t 39), (3, 1, .t 41), (4, 1, .t 44), (5, 1, .t 46)]),
    oz (.store 6 (.t 2) (.t 47)), ox 3 (.mv (ai 0))])
    .ret)
def clock_Split : AFun :=
  ⟨1, [.inr (2, some 6), .inl 3], (.seq (.region none [ox 2 (.alloc [.int .i64 0, .int .i64 0, .int .i64 0, .int .i64 0, .int .i64 0, .int .i64 0]),
    ox 3 (.mv (ai 0))]) (.seq (.seq (.region none [mo 8 0,
    kx 9 (.k 0 [ai 2200]), ox 10 (.convI .u64 (.t 9)),
    ox 11 (.bin .mul (.t 10) (.c (.int .u64 86400))), ox 12 (.bin .geq (.t 8) (.t 11))])
    (.cond (.t 12) (.seq (.region none [ox 13 (.build [.int .i64 0, .int .i64 0, .int .i64 0, .int .i64 0, .int .i64 0, .int .i64 0] []),
    oz (.store 6 (.t 2) (.t 13)), ox 3 (.mv (ai 4))])
    .ret) .skip)) (.seq (.region none [mo 14 0, ox 15 (.bin .rem (.t 14) (.c (.int .u64 86400))),
    ox 16 (.convI .i64 (.t 15)), mo 4 16]) (.seq (.region none [mo 18 0,
    ox 19 (.bin .quo (.t 18) (.c (.int .u64 86400))), ox 20 (.convI .i64 (.t 19)),
    kx 21 (.k 1 [.t 20]), mo 17 21, ox 22 (.ext 0 (.t 17)),
    ox 23 (.ext 1 (.t 17)), mo 5 22, mo 6 23])
    (.seq (.region none [ox 7 (.mv (ai 1))]) clock_Split_t2))))), false⟩

def policy_month : AFun :=
  ⟨1, [.inl 2], (.seq (.region none [ox 2 (.mv (.c (.int .u64 0)))]) (.seq (.region none [mo 6 0,
    kx 7 (.k 0 [.t 6]), mo 5 7, ox 8 (.ext 0 (.t 5)),
    ox 9 (.ext 1 (.t 5)), ox 3 (.alloc [.int .i64 0, .int .i64 0, .int .i64 0, .int .i64 0, .int .i64 0, .int .i64 0]),
    oz (.store 6 (.t 3) (.t 8)), mo 4 9]) (.seq (.seq (.region none [mo 10 4,
    ox 11 (.bin .neq (.t 10) (ai 0))]) (.cond (.t 11) (.seq (.region none [ox 2 (.mv (.c (.int .u64 2400)))])
    .ret) .skip)) (.seq (.region none [ox 12 (.faddr 0 (.t 3)), ox 13 (.load none (.t 12)),
    ox 14 (.bin .sub (.t 13) (ai 2000)), ox 15 (.bin .mul (.t 14) (ai 12)),
    ox 16 (.faddr 1 (.t 3)), ox 17 (.load none (.t 16)), ox 18 (.bin .add (.t 15) (.t 17)),
    ox 19 (.bin .sub (.t 18) (ai 1)), ox 20 (.convI .u64 (.t 19)),
    mo 2 20]) .ret)))), false⟩

def policy_Slot : AFun :=
  ⟨2, [.inl 4], (.seq (.region none [ox 4 (.mv (.c (.int .u64 0)))]) (.seq (.seq (.region none [mo 5 1])
    (.block 0 (.seq (.region none [ox 7 (.bin .eql (.t 5) (ai 0)), mo 6 7])
    (.cond (.t 6) (.seq (.region none [mo 8 0, ox 9 (.bin .quo (.t 8) (.c (.int .u64 3600))),
    mo 4 9]) .ret) (.seq (.region none [ox 11 (.bin .eql (.t 5) (ai 1)),
    mo 10 11]) (.cond (.t 10) (.seq (.region none [mo 12 0, ox 13 (.bin .quo (.t 12) (.c (.int .u64 86400))),
    mo 4 13]) .ret) (.seq (.region none [ox 15 (.bin .eql (.t 5) (ai 2)),
    mo 14 15]) (.cond (.t 14) (.seq (.region none [mo 16 0, kx 17 (.k 0 [.t 16]),
    mo 4 17]) .ret) (.seq (.region none [ox 19 (.bin .eql (.t 5) (ai 3)),
    mo 18 19]) (.cond (.t 18) (.seq (.region none [mo 20 0, kx 21 (.k 1 [.t 20]),
    mo 4 21]) .ret) .skip)))))))))) (.seq (.region none [ox 4 (.mv (.c (.int .u64 0)))])
    .ret))), false⟩

def policy_mark_l0 : ACode :=
  .seq (.region none [ox 16 (.bin .lss (.t 15) (.t 14))]) (.seq (.cond (.t 16) .skip (.exit 0)) (.seq (.block 1 (.seq
    (.region none [mo 17 15, ox 18 (.iaddrS 1 (.t 13) (.t 15)), ox 19 (.load none (.t 18)),
    mo 10 17, mo 11 19]) (.seq (.region none [mo 20 1,
    mo 21 11, ox 22 (.iaddrS 1 (.t 20) (.t 21)), ox 23 (.load none (.t 22)),
    mo 24 3, kx 25 (.k 0 [.t 23, .t 24]), mo 12 25])
    (.seq (.seq (.region none [mo 26 10, ox 27 (.bin .gtr (.t 26) (ai 0)),
    mo 28 27, og 28 true 29 (.mv (.t 12)), og 28 true 30 (.mv (.t 1)),
    og 28 true 31 (.mv (.t 2)), og 28 true 32 (.mv (.t 10)), og 28 true 33 (.bin .sub (.t 32) (ai 1)),
    og 28 true 34 (.iaddrS 1 (.t 31) (.t 33)), og 28 true 35 (.load none (.t 34)),
    og 28 true 36 (.iaddrS 1 (.t 30) (.t 35)), og 28 true 37 (.load none (.t 36)),
    og 28 true 38 (.mv (.t 3)), kg 28 true 39 (.k 0 [.t 37, .t 38]), og 28 true 40 (.bin .eql (.t 29) (.t 39)),
    ox 41 (.pick (.t 28) (.t 40) (.c (.bool false)))]) (.cond (.t 41) (.exit 1) .skip)) (.seq (.seq (.region none [mo 42 4,
    ox 43 (.bin .leq (.t 42) (ai 0))]) (.cond (.t 43) .ret .skip)) (.seq (.region none [mo 44 0,
    mo 45 11, ox 46 (.iaddrS 1 (.t 44) (.t 45)), oz (.store 1 (.t 46) (.c (.bool true)))])
    (.region none [mo 47 4, ox 48 (.bin .sub (.t 47) (ai 1)),
    mo 4 48]))))))) (.region none [ox 49 (.bin .add (.t 15) (ai 1)),
    mo 15 49])))
def policy_mark_s1 : ACode :=
  .block 0 (.loop policy_mark_l0)
def policy_mark : AFun :=
  ⟨5, [], (.seq (.region none [mo 13 2, ox 14 (.len .sl (.t 13)), ox 15 (.mv (ai 0))])
    policy_mark_s1), false⟩

def policy_Keep_l0 : ACode :=
  .seq (.region none [ox 19 (.bin .lss (.t 18) (.t 17))]) (.seq (.cond (.t 19) .skip (.exit 0)) (.seq (.block 1 (.seq
    (.region none [mo 20 18, ox 21 (.iaddrS 1 (.t 16) (.t 18)), ox 22 (.load none (.t 21)),
    mo 7 20, mo 8 22]) (.region none [mo 23 5,
    mo 24 8, mo 25 7, ox 26 (.faddr 0 (.t 3)),
    ox 27 (.load none (.t 26)), ox 28 (.bin .lss (.t 25) (.t 27)), ox 29 (.iaddrS 1 (.t 23) (.t 24)),
    oz (.store 1 (.t 29) (.t 28))]))) (.region none [ox 30 (.bin .add (.t 18) (ai 1)),
    mo 18 30])))
def policy_Keep_s1 : ACode :=
  .block 0 (.loop policy_Keep_l0)
def policy_Keep_l2 : ACode :=
  .seq (.region none [ox 41 (.bin .lss (.t 40) (ai 4))]) (.seq (.cond (.t 41) .skip (.exit
    2)) (.seq (.block 3 (.seq (.region none [mo 42 40, ox 43 (.idxA none 1 4 (.t 39) (.t 40)),
    mo 9 42, mo 10 43]) (.region none [mo 44 5,
    mo 45 0, mo 46 6, mo 47 9,
    mo 48 10, kx 49 (.k 1 [.t 44, .t 45, .t 46, .t 47, .t 48])])))
    (.region none [ox 50 (.bin .add (.t 40) (ai 1)), mo 40 50])))
def policy_Keep_s3 : ACode :=
  .block 2 (.loop policy_Keep_l2)
def policy_Keep_t4 : ACode :=
  .seq (.seq (.region none [ox 31 (.faddr 1 (.t 3)), ox 32 (.load none (.t 31)), ox 33 (.faddr 2 (.t 3)),
    ox 34 (.load none (.t 33)), ox 35 (.faddr 3 (.t 3)), ox 36 (.load none (.t 35)),
    ox 37 (.faddr 4 (.t 3)), ox 38 (.load none (.t 37)), ox 39 (.build [.int .i64 0, .int .i64 0, .int .i64 0, .int .i64 0] [(0, 1, .t 32), (1, 1, .t 34), (2, 1, .t 36), (3, 1, .t 38)]),
    ox 40 (.mv (ai 0))]) policy_Keep_s3) (.seq (.region none [mo 51 5,
    mo 4 51]) .ret)
def policy_Keep_t5 : ACode :=
  .seq (.seq (.region none [mo 16 6, ox 17 (.len .sl (.t 16)), ox 18 (.mv (ai 0))])
    policy_Keep_s1) policy_Keep_t4
def policy_Keep : AFun :=
  ⟨2, [.inl 4], (.seq (.region none [ox 3 (.box (.t 1)), ox 4 (.mv (.c .nils))]) (.seq
    (.region none [mo 11 0, ox 12 (.len .sl (.t 11)), ox 13 (.mkslice 1 1 [.bool false] (.t 12) (.t 12)),
    mo 5 13]) (.seq (.region none [mo 14 0, kx 15 (.k 0 [.t 14]),
    mo 6 15]) policy_Keep_t5))), false⟩

def policy_Policy_parts : AFun :=
  ⟨1, [.inl 2], (.seq (.region none [ox 2 (.mv (.c .nils))]) (.seq (.region (some []) [mo 3 0,
    ox 4 (.nilchk (.t 3)), ox 5 (.faddr 0 (.t 4)), ox 6 (.build [.str [], .nilp] [(0, 1, .c (.str [108, 97, 115, 116])), (1, 1, .t 5)]),
    mo 7 0, ox 8 (.nilchk (.t 7)), ox 9 (.faddr 1 (.t 8)),
    ox 10 (.build [.str [], .nilp] [(0, 1, .c (.str [104, 111, 117, 114, 115])), (1, 1, .t 9)]), mo 11 0,
    ox 12 (.nilchk (.t 11)), ox 13 (.faddr 2 (.t 12)), ox 14 (.build [.str [], .nilp] [(0, 1, .c (.str [100, 97, 121, 115])), (1, 1, .t 13)]),
    mo 15 0, ox 16 (.nilchk (.t 15)), ox 17 (.faddr 3 (.t 16)),
    ox 18 (.build [.str [], .nilp] [(0, 1, .c (.str [119, 101, 101, 107, 115])), (1, 1, .t 17)]), mo 19 0,
    ox 20 (.nilchk (.t 19)), ox 21 (.faddr 4 (.t 20)), ox 22 (.build [.str [], .nilp] [(0, 1, .c (.str [109, 111, 110, 116, 104, 115])), (1, 1, .t 21)]),
    ox 23 (.bslice false 2 5 [.str [], .nilp] [(0, 2, .t 6), (2, 2, .t 10), (4, 2, .t 14), (6, 2, .t 18), (8, 2, .t 22)]),
    mo 2 23]) .ret)), false⟩

def utf8_decodeRuneInStringSlow : AFun :=
  ⟨1, [.inl 2, .inl 3], (.seq (.region none [ox 2 (.mv (.c (.int .i32 0))), ox 3 (.mv (ai 0))])
    (.seq (.region none [mo 13 0, ox 14 (.len .str (.t 13)), mo 4 14])
    (.seq (.seq (.region none [mo 15 4, ox 16 (.bin .lss (.t 15) (ai 1))])
    (.cond (.t 16) (.seq (.region none [ox 2 (.mv (.c (.int .i32 65533))), ox 3 (.mv (ai 0))])
    .ret) .skip)) (.seq (.region none [mo 17 0, ox 18 (.idxStr (.t 17) (ai 0)),
    mo 5 18]) (.seq (.region none [mo 19 5, { dst := some 20, op := .inl .stop, guard := none },
    ox 21 (.load none (.t 20)), mo 6 21]) (.seq (.seq (.region none [mo 22 6,
    ox 23 (.bin .geq (.t 22) (.c (.int .u8 240)))]) (.cond (.t 23) (.seq (.region none [mo 24 6,
    ox 25 (.convI .i32 (.t 24)), ox 26 (.bin .shl (.t 25) (.c (.int .u64 31))),
    ox 27 (.bin .shr (.t 26) (.c (.int .u64 31))), mo 7 27])
    (.seq (.region none [mo 28 0, ox 29 (.idxStr (.t 28) (ai 0)),
    ox 30 (.convI .i32 (.t 29)), mo 31 7, ox 32 (.bin .andNot (.t 30) (.t 31)),
    mo 33 7, ox 34 (.bin .and (.c (.int .i32 65533)) (.t 33)),
    ox 35 (.bin .or (.t 32) (.t 34)), mo 2 35, ox 3 (.mv (ai 1))])
    .ret)) .skip)) (.seq (.region none [mo 36 6, ox 37 (.bin .and (.t 36) (.c (.int .u8 7))),
    ox 38 (.convI .i64 (.t 37)), mo 8 38]) (.seq (.region none [mo 39 6,
    ox 40 (.bin .shr (.t 39) (.c (.int .u64 4))), { dst := some 41, op := .inl .stop, guard := none }, ox 42 (.load (some 2) (.t 41)),
    ox 9 (.alloc [.int .u8 0, .int .u8 0]), oz (.store 2 (.t 9) (.t 42))])
    (.seq (.seq (.region none [mo 43 4, mo 44 8, ox 45 (.bin .lss (.t 43) (.t 44))])
    (.cond (.t 45) (.seq (.region none [ox 2 (.mv (.c (.int .i32 65533))), ox 3 (.mv (ai 1))])
    .ret) .skip)) (.seq (.region none [mo 46 0, ox 47 (.idxStr (.t 46) (ai 1)),
    mo 10 47]) (.seq (.seq (.region none [mo 48 10, ox 49 (.faddr 0 (.t 9)),
    ox 50 (.load none (.t 49)), ox 51 (.bin .lss (.t 48) (.t 50)), mo 52 51,
    og 52 false 53 (.faddr 1 (.t 9)), og 52 false 54 (.load none (.t 53)), og 52 false 55 (.mv (.t 10)),
    og 52 false 56 (.bin .lss (.t 54) (.t 55)), ox 57 (.pick (.t 52) (.c (.bool true)) (.t 56))])
    (.cond (.t 57) (.seq (.region none [ox 2 (.mv (.c (.int .i32 65533))), ox 3 (.mv (ai 1))])
    .ret) .skip)) (.seq (.seq (.region none [mo 58 8, ox 59 (.bin .leq (.t 58) (ai 2))])
    (.cond (.t 59) (.seq (.region none [mo 60 5, ox 61 (.bin .and (.t 60) (.c (.int .u8 31))),
    ox 62 (.convI .i32 (.t 61)), ox 63 (.bin .shl (.t 62) (.c (.int .u64 6))),
    mo 64 10, ox 65 (.bin .and (.t 64) (.c (.int .u8 63))),
    ox 66 (.convI .i32 (.t 65)), ox 67 (.bin .or (.t 63) (.t 66)), mo 2 67,
    ox 3 (.mv (ai 2))]) .ret) .skip)) (.seq (.region none [mo 68 0,
    ox 69 (.idxStr (.t 68) (ai 2)), mo 11 69])
    (.seq (.seq (.region none [mo 70 11, ox 71 (.bin .lss (.t 70) (.c (.int .u8 128))),
    mo 72 71, og 72 false 73 (.mv (.t 11)), og 72 false 74 (.bin .lss (.c (.int .u8 191)) (.t 73)),
    ox 75 (.pick (.t 72) (.c (.bool true)) (.t 74))]) (.cond (.t 75) (.seq (.region none [ox 2 (.mv (.c (.int .i32 65533))),
    ox 3 (.mv (ai 1))]) .ret) .skip)) (.seq (.seq (.region none [mo 76 8,
    ox 77 (.bin .leq (.t 76) (ai 3))]) (.cond (.t 77) (.seq (.region none [mo 78 5,
    ox 79 (.bin .and (.t 78) (.c (.int .u8 15))), ox 80 (.convI .i32 (.t 79)),
    ox 81 (.bin .shl (.t 80) (.c (.int .u64 12))), mo 82 10,
    ox 83 (.bin .and (.t 82) (.c (.int .u8 63))), ox 84 (.convI .i32 (.t 83)),
    ox 85 (.bin .shl (.t 84) (.c (.int .u64 6))), ox 86 (.bin .or (.t 81) (.t 85)),
    mo 87 11, ox 88 (.bin .and (.t 87) (.c (.int .u8 63))),
    ox 89 (.convI .i32 (.t 88)), ox 90 (.bin .or (.t 86) (.t 89)), mo 2 90,
    ox 3 (.mv (ai 3))]) .ret) .skip)) (.seq (.region none [mo 91 0,
    ox 92 (.idxStr (.t 91) (ai 3)), mo 12 92])
    (.seq (.seq (.region none [mo 93 12, ox 94 (.bin .lss (.t 93) (.c (.int .u8 128))),
    mo 95 94, og 95 false 96 (.mv (.t 12)), og 95 false 97 (.bin .lss (.c (.int .u8 191)) (.t 96)),
    ox 98 (.pick (.t 95) (.c (.bool true)) (.t 97))]) (.cond (.t 98) (.seq (.region none [ox 2 (.mv (.c (.int .i32 65533))),
    ox 3 (.mv (ai 1))]) .ret) .skip)) (.seq (.region none [mo 99 5,
    ox 100 (.bin .and (.t 99) (.c (.int .u8 7))), ox 101 (.convI .i32 (.t 100)),
    ox 102 (.bin .shl (.t 101) (.c (.int .u64 18))), mo 103 10,
    ox 104 (.bin .and (.t 103) (.c (.int .u8 63))), ox 105 (.convI .i32 (.t 104)),
    ox 106 (.bin .shl (.t 105) (.c (.int .u64 12))), ox 107 (.bin .or (.t 102) (.t 106)),
    mo 108 11, ox 109 (.bin .and (.t 108) (.c (.int .u8 63))),
    ox 110 (.convI .i32 (.t 109)), ox 111 (.bin .shl (.t 110) (.c (.int .u64 6))),
    ox 112 (.bin .or (.t 107) (.t 111)), mo 113 12, ox 114 (.bin .and (.t 113) (.c (.int .u8 63))),
    ox 115 (.convI .i32 (.t 114)), ox 116 (.bin .or (.t 112) (.t 115)),
    mo 2 116, ox 3 (.mv (ai 4))])
    .ret)))))))))))))))))), false⟩

def utf8_DecodeRuneInString : AFun :=
  ⟨1, [.inl 2, .inl 3], (.seq (.region none [ox 2 (.mv (.c (.int .i32 0))), ox 3 (.mv (ai 0))])
    (.seq (.seq (.region none [mo 4 0, ox 5 (.bin .neq (.t 4) (.c (.str []))),
    mo 6 5, og 6 true 7 (.mv (.t 0)), og 6 true 8 (.idxStr (.t 7) (ai 0)),
    og 6 true 9 (.bin .lss (.t 8) (.c (.int .u8 128))), ox 10 (.pick (.t 6) (.t 9) (.c (.bool false)))])
    (.cond (.t 10) (.seq (.region none [mo 11 0, ox 12 (.idxStr (.t 11) (ai 0)),
    ox 13 (.convI .i32 (.t 12)), mo 2 13, ox 3 (.mv (ai 1))])
    .ret) (.region none [mo 15 0, kx 16 (.k 0 [.t 15]), mo 14 16,
    ox 17 (.ext 0 (.t 14)), ox 18 (.ext 1 (.t 14)), mo 2 17,
    mo 3 18]))) .ret)), false⟩

def stringslite_IndexByte : AFun :=
  ⟨2, [.inl 4], (.seq (.region none [ox 4 (.mv (ai 0))]) (.seq (.region none [mo 5 0,
    mo 6 1, kx 7 (.k 0 [.t 5, .t 6]), mo 4 7])
    .ret)), false⟩

def bytealg_Cutover : AFun :=
  ⟨1, [.inl 2], (.seq (.region none [ox 2 (.mv (ai 0))]) (.seq (.region none [mo 3 0,
    ox 4 (.bin .add (.t 3) (ai 16)), ox 5 (.bin .quo (.t 4) (ai 8)),
    mo 2 5]) .ret)), false⟩

def bytealg_hashStr_l0 : ACode :=
  .seq (.seq (.region none [mo 9 5, mo 10 0, ox 11 (.len .str (.t 10)),
    ox 12 (.bin .lss (.t 9) (.t 11))]) (.cond (.t 12) .skip (.exit 0))) (.seq (.block 1 (.region none [mo 15 4,
    ox 16 (.bin .mul (.t 15) (.c (.int .u32 16777619))), mo 17 0,
    mo 18 5, ox 19 (.idxStr (.t 17) (.t 18)), ox 20 (.convI .u32 (.t 19)),
    ox 21 (.bin .add (.t 16) (.t 20)), mo 4 21])) (.region none [mo 13 5,
    ox 14 (.bin .add (.t 13) (ai 1)), mo 5 14]))
def bytealg_hashStr_s1 : ACode :=
  .block 0 (.loop bytealg_hashStr_l0)
def bytealg_hashStr_l2 : ACode :=
  .seq (.seq (.region none [mo 24 8, ox 25 (.bin .gtr (.t 24) (ai 0))])
    (.cond (.t 25) .skip (.exit 2))) (.seq (.block 3 (.seq (.seq (.region none [mo 28 8, ox 29 (.bin .and (.t 28) (ai 1)),
    ox 30 (.bin .neq (.t 29) (ai 0))]) (.cond (.t 30) (.region none [mo 31 6,
    mo 32 7, ox 33 (.bin .mul (.t 31) (.t 32)), mo 6 33])
    .skip)) (.region none [mo 34 7, mo 35 7, ox 36 (.bin .mul (.t 34) (.t 35)),
    mo 7 36]))) (.region none [mo 26 8, ox 27 (.bin .shr (.t 26) (.c (.int .u64 1))),
    mo 8 27]))
def bytealg_hashStr_s3 : ACode :=
  .block 2 (.loop bytealg_hashStr_l2)
def bytealg_hashStr_t4 : ACode :=
  .seq (.seq (.region none [mo 22 0, ox 23 (.len .str (.t 22)), mo 8 23])
    bytealg_hashStr_s3) (.seq (.region none [mo 37 4, mo 38 6, mo 2 37,
    mo 3 38]) .ret)
def bytealg_hashStr_t5 : ACode :=
  .seq (.seq (.region none [ox 5 (.mv (ai 0))]) bytealg_hashStr_s1) (.seq (.region none [ox 6 (.mv (.c (.int .u32 1))),
    ox 7 (.mv (.c (.int .u32 16777619)))]) bytealg_hashStr_t4)
def bytealg_hashStr : AFun :=
  ⟨1, [.inl 2, .inl 3], (.seq (.region none [ox 2 (.mv (.c (.int .u32 0))), ox 3 (.mv (.c (.int .u32 0)))])
    (.seq (.region none [ox 4 (.mv (.c (.int .u32 0)))]) bytealg_hashStr_t5)), false⟩

def bytealg_IndexRabinKarp_l0 : ACode :=
  .seq (.seq (.region none [mo 18 9, mo 19 7, ox 20 (.bin .lss (.t 18) (.t 19))])
    (.cond (.t 20) .skip (.exit 0))) (.seq (.block 1 (.region none [mo 23 8, ox 24 (.bin .mul (.t 23) (.c (.int .u32 16777619))),
    mo 25 0, mo 26 9, ox 27 (.idxStr (.t 25) (.t 26)),
    ox 28 (.convI .u32 (.t 27)), ox 29 (.bin .add (.t 24) (.t 28)), mo 8 29]))
    (.region none [mo 21 9, ox 22 (.bin .add (.t 21) (ai 1)),
    mo 9 22]))
def bytealg_IndexRabinKarp_s1 : ACode :=
  .block 0 (.loop bytealg_IndexRabinKarp_l0)
def bytealg_IndexRabinKarp_l2 : ACode :=
  .seq (.seq (.region none [mo 41 10, mo 42 0, ox 43 (.len .str (.t 42)),
    ox 44 (.bin .lss (.t 41) (.t 43))]) (.cond (.t 44) .skip (.exit 2))) (.block 3 (.seq (.region none [mo 45 8,
    ox 46 (.bin .mul (.t 45) (.c (.int .u32 16777619))), mo 8 46])
    (.seq (.region none [mo 47 8, mo 48 0, mo 49 10,
    ox 50 (.idxStr (.t 48) (.t 49)), ox 51 (.convI .u32 (.t 50)), ox 52 (.bin .add (.t 47) (.t 51)),
    mo 8 52]) (.seq (.region none [mo 53 8, mo 54 6,
    mo 55 0, mo 56 10, mo 57 7,
    ox 58 (.bin .sub (.t 56) (.t 57)), ox 59 (.idxStr (.t 55) (.t 58)), ox 60 (.convI .u32 (.t 59)),
    ox 61 (.bin .mul (.t 54) (.t 60)), ox 62 (.bin .sub (.t 53) (.t 61)),
    mo 8 62]) (.seq (.region none [mo 63 10, ox 64 (.bin .add (.t 63) (ai 1)),
    mo 10 64]) (.seq (.region none [mo 65 8, mo 66 5,
    ox 67 (.bin .eql (.t 65) (.t 66)), mo 68 67, og 68 true 69 (.mv (.t 0)),
    og 68 true 70 (.mv (.t 10)), og 68 true 71 (.mv (.t 7)), og 68 true 72 (.bin .sub (.t 70) (.t 71)),
    og 68 true 73 (.mv (.t 10)), og 68 true 74 (.slcStr (.t 69) (some (.t 72)) (some (.t 73))),
    og 68 true 75 (.mv (.t 1)), og 68 true 76 (.bin .eql (.t 74) (.t 75)),
    ox 77 (.pick (.t 68) (.t 76) (.c (.bool false)))]) (.cond (.t 77) (.seq (.region none [mo 78 10,
    mo 79 7, ox 80 (.bin .sub (.t 78) (.t 79)), mo 4 80])
    .ret) .skip)))))))
def bytealg_IndexRabinKarp_s3 : ACode :=
  .block 2 (.loop bytealg_IndexRabinKarp_l2)
def bytealg_IndexRabinKarp_t4 : ACode :=
  .seq (.seq (.region none [mo 40 7, mo 10 40])
    bytealg_IndexRabinKarp_s3) (.seq (.region none [ox 4 (.mv (ai (-1)))]) .ret)
def bytealg_IndexRabinKarp_t5 : ACode :=
  .seq (.seq (.region none [ox 9 (.mv (ai 0))]) bytealg_IndexRabinKarp_s1) (.seq (.seq (.region none [mo 30 8,
    mo 31 5, ox 32 (.bin .eql (.t 30) (.t 31)), mo 33 32,
    og 33 true 34 (.mv (.t 0)), og 33 true 35 (.mv (.t 7)), og 33 true 36 (.slcStr (.t 34) none (some (.t 35))),
    og 33 true 37 (.mv (.t 1)), og 33 true 38 (.bin .eql (.t 36) (.t 37)),
    ox 39 (.pick (.t 33) (.t 38) (.c (.bool false)))]) (.cond (.t 39) (.seq (.region none [ox 4 (.mv (ai 0))])
    .ret) .skip)) bytealg_IndexRabinKarp_t4)
def bytealg_IndexRabinKarp : AFun :=
  ⟨2, [.inl 4], (.seq (.region none [ox 4 (.mv (ai 0))]) (.seq (.region none [mo 12 1,
    kx 13 (.k 0 [.t 12]), mo 11 13, ox 14 (.ext 0 (.t 11)),
    ox 15 (.ext 1 (.t 11)), mo 5 14, mo 6 15])
    (.seq (.region none [mo 16 1, ox 17 (.len .str (.t 16)), mo 7 17])
    (.seq (.region none [ox 8 (.mv (.c (.int .u32 0)))]) bytealg_IndexRabinKarp_t5)))), false⟩

def stringslite_Index_l0 : ACode :=
  .seq (.seq (.region none [mo 57 8, mo 58 9, ox 59 (.bin .lss (.t 57) (.t 58))])
    (.cond (.t 59) .skip (.exit 1))) (.block 2 (.seq (.seq (.region none [mo 60 0, mo 61 8,
    ox 62 (.idxStr (.t 60) (.t 61)), mo 63 6, ox 64 (.bin .neq (.t 62) (.t 63))])
    (.cond (.t 64) (.seq (.region none [mo 65 0, mo 66 8, ox 67 (.bin .add (.t 66) (ai 1)),
    mo 68 9, ox 69 (.slcStr (.t 65) (some (.t 67)) (some (.t 68))), mo 70 6,
    kx 71 (.k 0 [.t 69, .t 70]), mo 11 71]) (.seq (.seq (.region
    none [mo 72 11, ox 73 (.bin .lss (.t 72) (ai 0))])
    (.cond (.t 73) (.seq (.region none [ox 4 (.mv (ai (-1)))]) .ret) .skip)) (.region none [mo 74 8,
    mo 75 11, ox 76 (.bin .add (.t 75) (ai 1)),
    ox 77 (.bin .add (.t 74) (.t 76)), mo 8 77]))) .skip))
    (.seq (.seq (.region none [mo 78 0, mo 79 8, ox 80 (.bin .add (.t 79) (ai 1)),
    ox 81 (.idxStr (.t 78) (.t 80)), mo 82 7, ox 83 (.bin .eql (.t 81) (.t 82)),
    mo 84 83, og 84 true 85 (.mv (.t 0)), og 84 true 86 (.mv (.t 8)),
    og 84 true 87 (.mv (.t 8)), og 84 true 88 (.mv (.t 5)), og 84 true 89 (.bin .add (.t 87) (.t 88)),
    og 84 true 90 (.slcStr (.t 85) (some (.t 86)) (some (.t 89))), og 84 true 91 (.mv (.t 1)),
    og 84 true 92 (.bin .eql (.t 90) (.t 91)), ox 93 (.pick (.t 84) (.t 92) (.c (.bool false)))])
    (.cond (.t 93) (.seq (.region none [mo 94 8, mo 4 94])
    .ret) .skip)) (.seq (.region none [mo 95 8, ox 96 (.bin .add (.t 95) (ai 1)),
    mo 8 96]) (.seq (.region none [mo 97 10, ox 98 (.bin .add (.t 97) (ai 1)),
    mo 10 98]) (.seq (.region none [mo 99 5, { dst := some 100, op := .inl .stop, guard := none },
    ox 101 (.bin .leq (.t 99) (.t 100)), mo 102 101, og 102 true 103 (.mv (.t 10)),
    og 102 true 104 (.mv (.t 8)), kg 102 true 105 (.k 2 [.t 104]), og 102 true 106 (.bin .gtr (.t 103) (.t 105)),
    ox 107 (.pick (.t 102) (.t 106) (.c (.bool false)))]) (.cond (.t 107) (.seq (.region none [mo 108 0,
    mo 109 8, ox 110 (.slcStr (.t 108) (some (.t 109)) none), mo 111 1,
    kx 112 (.k 1 [.t 110, .t 111]), mo 12 112]) (.seq (.seq (.region
    none [mo 113 12, ox 114 (.bin .geq (.t 113) (ai 0))])
    (.cond (.t 114) (.seq (.region none [mo 115 12, mo 116 8,
    ox 117 (.bin .add (.t 115) (.t 116)), mo 4 117]) .ret)
    .skip)) (.seq (.region none [ox 4 (.mv (ai (-1)))]) .ret))) (.seq (.region none [mo 118 5,
    { dst := some 119, op := .inl .stop, guard := none }, ox 120 (.bin .gtr (.t 118) (.t 119)), mo 121 120,
    og 121 true 122 (.mv (.t 10)), og 121 true 123 (.mv (.t 8)), og 121 true 124 (.bin .shr (.t 123) (.c (.int .u64 4))),
    og 121 true 125 (.bin .add (ai 4) (.t 124)), og 121 true 126 (.bin .geq (.t 122) (.t 125)),
    ox 127 (.pick (.t 121) (.t 126) (.c (.bool false))), mo 128 127,
    og 128 true 129 (.mv (.t 8)), og 128 true 130 (.mv (.t 9)), og 128 true 131 (.bin .lss (.t 129) (.t 130)),
    ox 132 (.pick (.t 128) (.t 131) (.c (.bool false)))]) (.cond (.t 132) (.seq (.region none [mo 133 0,
    mo 134 8, ox 135 (.slcStr (.t 133) (some (.t 134)) none), mo 136 1,
    kx 137 (.k 3 [.t 135, .t 136]), mo 13 137]) (.seq (.seq (.region
    none [mo 138 13, ox 139 (.bin .lss (.t 138) (ai 0))])
    (.cond (.t 139) (.seq (.region none [ox 4 (.mv (ai (-1)))]) .ret) .skip)) (.seq (.region none
    [mo 140 8, mo 141 13, ox 142 (.bin .add (.t 140) (.t 141)),
    mo 4 142]) .ret))) .skip)))))))))
def stringslite_Index_s1 : ACode :=
  .block 1 (.loop stringslite_Index_l0)
def stringslite_Index_t2 : ACode :=
  .seq stringslite_Index_s1 (.seq (.region none [ox 4 (.mv (ai (-1)))]) .ret)
def stringslite_Index : AFun :=
  ⟨2, [.inl 4], (.seq (.region none [ox 4 (.mv (ai 0))]) (.seq (.region none [mo 14 1,
    ox 15 (.len .str (.t 14)), mo 5 15]) (.seq (.block 0 (.seq (.region
    none [mo 17 5, ox 18 (.bin .eql (.t 17) (ai 0)),
    mo 19 18, og 19 false 20 (.mv (.t 1)), og 19 false 21 (.mv (.t 0)),
    og 19 false 22 (.bin .eql (.t 20) (.t 21)), ox 23 (.pick (.t 19) (.c (.bool true)) (.t 22)),
    mo 16 23]) (.cond (.t 16) (.seq (.region none [ox 4 (.mv (ai 0))])
    .ret) (.seq (.region none [mo 25 5, ox 26 (.bin .eql (.t 25) (ai 1)),
    mo 24 26]) (.cond (.t 24) (.seq (.region none [mo 27 0, mo 28 1,
    ox 29 (.idxStr (.t 28) (ai 0)), kx 30 (.k 0 [.t 27, .t 29]),
    mo 4 30]) .ret) (.seq (.region none [mo 32 5, mo 33 0,
    ox 34 (.len .str (.t 33)), ox 35 (.bin .geq (.t 32) (.t 34)), mo 31 35])
    (.cond (.t 31) (.seq (.region none [ox 4 (.mv (ai (-1)))]) .ret) (.seq (.region none [mo 37 5,
    { dst := some 38, op := .inl .stop, guard := none }, ox 39 (.bin .leq (.t 37) (.t 38)), mo 40 39,
    og 40 true 41 (.mv (.t 0)), og 40 true 42 (.len .str (.t 41)), og 40 true 43 (.bin .leq (.t 42) (ai 64)),
    ox 44 (.pick (.t 40) (.t 43) (.c (.bool false))), mo 36 44])
    (.cond (.t 36) (.seq (.region none [mo 45 0, mo 46 1, kx 47 (.k 1 [.t 45, .t 46]),
    mo 4 47]) .ret) .skip))))))))) (.seq (.region none [mo 48 1,
    ox 49 (.idxStr (.t 48) (ai 0)), mo 6 49])
    (.seq (.region none [mo 50 1, ox 51 (.idxStr (.t 50) (ai 1)),
    mo 7 51]) (.seq (.region none [ox 8 (.mv (ai 0))])
    (.seq (.region none [mo 52 0, ox 53 (.len .str (.t 52)), mo 54 5,
    ox 55 (.bin .sub (.t 53) (.t 54)), ox 56 (.bin .add (.t 55) (ai 1)),
    mo 9 56]) (.seq (.region none [ox 10 (.mv (ai 0))])
    stringslite_Index_t2)))))))), false⟩

def strings_Index : AFun :=
  ⟨2, [.inl 4], (.seq (.region none [ox 4 (.mv (ai 0))]) (.seq (.region none [mo 5 0,
    mo 6 1, kx 7 (.k 0 [.t 5, .t 6]), mo 4 7])
    .ret)), false⟩

def strings_splitSeq_1_l0 : ACode :=
  .seq (.seq (.region none [ox 12 (.load none (.t 2)), ox 13 (.len .str (.t 12)),
    ox 14 (.bin .gtr (.t 13) (ai 0))]) (.cond (.t 14) .skip (.exit 0))) (.block 1 (.seq
    (.region none [ox 16 (.load none (.t 2)), kx 17 (.k 0 [.t 16]), mo 15 17,
    ox 18 (.ext 0 (.t 15)), ox 19 (.ext 1 (.t 15)), mo 5 18,
    mo 6 19]) (.seq (.seq (.region none [mo 20 0, ox 21 (.load none (.t 2)),
    mo 22 6, ox 23 (.slcStr (.t 21) none (some (.t 22))), kx 24 (.v (.t 20) [.t 23]),
    ox 25 (.un .not (.t 24))]) (.cond (.t 25) .ret .skip)) (.region none [ox 26 (.load none (.t 2)),
    mo 27 6, ox 28 (.slcStr (.t 26) (some (.t 27)) none), oz (.store 1 (.t 2) (.t 28))]))))
def strings_splitSeq_1_s1 : ACode :=
  .block 0 (.loop strings_splitSeq_1_l0)
def strings_splitSeq_1_t2 : ACode :=
  .seq strings_splitSeq_1_s1 .ret
def strings_splitSeq_1_l3 : ACode :=
  .block 3 (.seq (.region none [ox 29 (.load none (.t 2)), ox 30 (.load none (.t 1)),
    kx 31 (.k 1 [.t 29, .t 30]), mo 7 31]) (.seq (.seq (.region none
    [mo 32 7, ox 33 (.bin .lss (.t 32) (ai 0))])
    (.cond (.t 33) (.exit 2) .skip)) (.seq (.region none [ox 34 (.load none (.t 2)), mo 35 7,
    ox 36 (.load none (.t 3)), ox 37 (.bin .add (.t 35) (.t 36)), ox 38 (.slcStr (.t 34) none (some (.t 37))),
    mo 8 38]) (.seq (.seq (.region none [mo 39 0, mo 40 8,
    kx 41 (.v (.t 39) [.t 40]), ox 42 (.un .not (.t 41))]) (.cond (.t
    42) .ret .skip)) (.region none [ox 43 (.load none (.t 2)), mo 44 7,
    ox 45 (.load none (.t 1)), ox 46 (.len .str (.t 45)), ox 47 (.bin .add (.t 44) (.t 46)),
    ox 48 (.slcStr (.t 43) (some (.t 47)) none), oz (.store 1 (.t 2) (.t 48))])))))
def strings_splitSeq_1_s4 : ACode :=
  .block 2 (.loop strings_splitSeq_1_l3)
def strings_splitSeq_1_t5 : ACode :=
  .seq strings_splitSeq_1_s4 (.region none [mo 49 0, ox 50 (.load none (.t 2)),
    kx 51 (.v (.t 49) [.t 50])])
def strings_splitSeq_1_t6 : ACode :=
  .seq (.seq (.region none [ox 9 (.load none (.t 1)), ox 10 (.len .str (.t 9)),
    ox 11 (.bin .eql (.t 10) (ai 0))]) (.cond (.t 11) strings_splitSeq_1_t2 .skip))
    strings_splitSeq_1_t5
def strings_splitSeq_1 : AFun :=
  ⟨4, [], strings_splitSeq_1_t6, false⟩

def strings_splitSeq : AFun :=
  ⟨3, [.inl 6], (.seq (.region none [ox 3 (.box (.t 0)), ox 4 (.box (.t 1)), ox 5 (.box (.t 2)),
    ox 6 (.mv (.c .nilf))]) (.seq (.region none [ox 7 (.mkfn (Fn.func 36) [] [.t 4, .t 3, .t 5]),
    mo 6 7]) .ret)), false⟩

def strings_SplitSeq : AFun :=
  ⟨2, [.inl 4], (.seq (.region none [ox 4 (.mv (.c .nilf))]) (.seq (.region none [mo 5 0,
    mo 6 1, kx 7 (.k 0 [.t 5, .t 6, .c (.int .i64 0)]),
    mo 4 7]) .ret)), false⟩

def stringslite_Cut : AFun :=
  ⟨2, [.inl 4, .inl 5, .inl 6], (.seq (.region none [ox 4 (.mv (.c (.str []))), ox 5 (.mv (.c (.str []))),
    ox 6 (.mv (.c (.bool false)))]) (.seq (.seq (.region none [mo 8 0,
    mo 9 1, kx 10 (.k 0 [.t 8, .t 9]), mo 7 10])
    (.seq (.region none [mo 11 7, ox 12 (.bin .geq (.t 11) (ai 0))])
    (.cond (.t 12) (.seq (.region (some []) [mo 13 0, mo 14 7,
    ox 15 (.slcStr (.t 13) none (some (.t 14))), mo 16 0, mo 17 7,
    mo 18 1, ox 19 (.len .str (.t 18)), ox 20 (.bin .add (.t 17) (.t 19)),
    ox 21 (.slcStr (.t 16) (some (.t 20)) none), mo 4 15, mo 5 21,
    ox 6 (.mv (.c (.bool true)))]) .ret) .skip))) (.seq (.region none [mo 22 0,
    mo 4 22, ox 5 (.mv (.c (.str []))), ox 6 (.mv (.c (.bool false)))])
    .ret))), false⟩

def strings_Cut : AFun :=
  ⟨2, [.inl 4, .inl 5, .inl 6], (.seq (.region none [ox 4 (.mv (.c (.str []))), ox 5 (.mv (.c (.str []))),
    ox 6 (.mv (.c (.bool false)))]) (.seq (.region none [mo 7 0, mo 8 1,
    kx 9 (.k 0 [.t 7, .t 8]), ox 10 (.ext 0 (.t 9)), ox 11 (.ext 1 (.t 9)),
    ox 12 (.ext 2 (.t 9)), mo 4 10, mo 5 11,
    mo 6 12]) .ret)), false⟩

def slices_IndexFunc_l0 : ACode :=
  .seq (.region none [ox 9 (.bin .lss (.t 8) (.t 7))]) (.seq (.cond (.t 9) .skip (.exit 0)) (.seq (.block 1 (.seq
    (.region none [mo 10 8, mo 5 10]) (.seq (.region none [mo 11 1,
    mo 12 0, mo 13 5, ox 14 (.iaddrS 2 (.t 12) (.t 13)),
    ox 15 (.load (some 2) (.t 14)), kx 16 (.v (.t 11) [.t 15])]) (.cond (.t
    16) (.seq (.region none [mo 17 5, mo 4 17]) .ret)
    .skip)))) (.region none [ox 18 (.bin .add (.t 8) (ai 1)), mo 8 18])))
def slices_IndexFunc_s1 : ACode :=
  .block 0 (.loop slices_IndexFunc_l0)
def slices_IndexFunc_t2 : ACode :=
  .seq (.seq (.region none [mo 6 0, ox 7 (.len .sl (.t 6)), ox 8 (.mv (ai 0))])
    slices_IndexFunc_s1) (.seq (.region none [ox 4 (.mv (ai (-1)))]) .ret)
def slices_IndexFunc : AFun :=
  ⟨2, [.inl 4], (.seq (.region none [ox 4 (.mv (ai 0))]) slices_IndexFunc_t2), false⟩

def strings_trimRightByte_l0 : ACode :=
  .seq (.seq (.region none [mo 5 0, ox 6 (.len .str (.t 5)), ox 7 (.bin .gtr (.t 6) (ai 0)),
    mo 8 7, og 8 true 9 (.mv (.t 0)), og 8 true 10 (.mv (.t 0)),
    og 8 true 11 (.len .str (.t 10)), og 8 true 12 (.bin .sub (.t 11) (ai 1)),
    og 8 true 13 (.idxStr (.t 9) (.t 12)), og 8 true 14 (.mv (.t 1)), og 8 true 15 (.bin .eql (.t 13) (.t 14)),
    ox 16 (.pick (.t 8) (.t 15) (.c (.bool false)))]) (.cond (.t 16) .skip (.exit 0))) (.block 1 (.region none [mo 17 0,
    mo 18 0, ox 19 (.len .str (.t 18)), ox 20 (.bin .sub (.t 19) (ai 1)),
    ox 21 (.slcStr (.t 17) none (some (.t 20))), mo 0 21]))
def strings_trimRightByte_s1 : ACode :=
  .block 0 (.loop strings_trimRightByte_l0)
def strings_trimRightByte_t2 : ACode :=
  .seq strings_trimRightByte_s1 (.seq (.region none [mo 22 0, mo 4 22])
    .ret)
def strings_trimRightByte : AFun :=
  ⟨2, [.inl 4], (.seq (.region none [ox 4 (.mv (.c (.str [])))]) strings_trimRightByte_t2), false⟩

def strings_trimLeftByte_l0 : ACode :=
  .seq (.seq (.region none [mo 5 0, ox 6 (.len .str (.t 5)), ox 7 (.bin .gtr (.t 6) (ai 0)),
    mo 8 7, og 8 true 9 (.mv (.t 0)), og 8 true 10 (.idxStr (.t 9) (ai 0)),
    og 8 true 11 (.mv (.t 1)), og 8 true 12 (.bin .eql (.t 10) (.t 11)),
    ox 13 (.pick (.t 8) (.t 12) (.c (.bool false)))]) (.cond (.t 13) .skip (.exit 0))) (.block 1 (.region none [mo 14 0,
    ox 15 (.slcStr (.t 14) (some (ai 1)) none), mo 0 15]))
def strings_trimLeftByte_s1 : ACode :=
  .block 0 (.loop strings_trimLeftByte_l0)
def strings_trimLeftByte_t2 : ACode :=
  .seq strings_trimLeftByte_s1 (.seq (.region none [mo 16 0, mo 4 16])
    .ret)
def strings_trimLeftByte : AFun :=
  ⟨2, [.inl 4], (.seq (.region none [ox 4 (.mv (.c (.str [])))]) strings_trimLeftByte_t2), false⟩

def strings_makeASCIISet_l0 : ACode :=
  .seq (.seq (.region none [mo 6 4, mo 7 0, ox 8 (.len .str (.t 7)),
    ox 9 (.bin .lss (.t 6) (.t 8))]) (.cond (.t 9) .skip (.exit 0))) (.seq (.block 1 (.seq (.region none [mo 12 0,
    mo 13 4, ox 14 (.idxStr (.t 12) (.t 13)), mo 5 14])
    (.seq (.seq (.region none [mo 15 5, ox 16 (.bin .geq (.t 15) (.c (.int .u8 128)))])
    (.cond (.t 16) (.seq (.region none [ox 17 (.load (some 256) (.t 2)), oz (.store 256 (.t 2) (.t 17)),
    ox 3 (.mv (.c (.bool false)))]) .ret) .skip)) (.region none [mo 18 5,
    ox 19 (.iaddrA 1 256 (.t 2) (.t 18)), oz (.store 1 (.t 19) (.c (.bool true)))]))))
    (.region none [mo 10 4, ox 11 (.bin .add (.t 10) (ai 1)),
    mo 4 11]))
def strings_makeASCIISet_s1 : ACode :=
  .block 0 (.loop strings_makeASCIISet_l0)
def strings_makeASCIISet_t2 : ACode :=
  .seq (.seq (.region none [ox 4 (.mv (ai 0))]) strings_makeASCIISet_s1) (.seq (.region none [ox 20 (.load (some 256) (.t 2)),
    oz (.store 256 (.t 2) (.t 20)), ox 3 (.mv (.c (.bool true)))]) .ret)
def strings_makeASCIISet : AFun :=
  ⟨1, [.inr (2, some 256), .inl 3], (.seq (.region none [ox 2 (.alloc (rp [(256, .bool false)])),
    ox 3 (.mv (.c (.bool false)))]) strings_makeASCIISet_t2), false⟩

def strings_asciiSet_contains : AFun :=
  ⟨2, [.inl 4], (.seq (.region none [ox 4 (.mv (.c (.bool false)))]) (.seq (.region none [mo 5 0,
    mo 6 1, ox 7 (.nilchk (.t 5)), ox 8 (.iaddrA 1 256 (.t 7) (.t 6)),
    ox 9 (.load none (.t 8)), mo 4 9]) .ret)), false⟩

def strings_trimRightASCII_l0 : ACode :=
  .seq (.seq (.region none [mo 5 0, ox 6 (.len .str (.t 5)), ox 7 (.bin .gtr (.t 6) (ai 0))])
    (.cond (.t 7) .skip (.exit 0))) (.block 1 (.seq (.seq (.region none [mo 8 1, mo 9 0,
    mo 10 0, ox 11 (.len .str (.t 10)), ox 12 (.bin .sub (.t 11) (ai 1)),
    ox 13 (.idxStr (.t 9) (.t 12)), kx 14 (.k 0 [.t 8, .t 13]), ox 15 (.un .not (.t 14))])
    (.cond (.t 15) (.exit 0) .skip)) (.region none [mo 16 0, mo 17 0,
    ox 18 (.len .str (.t 17)), ox 19 (.bin .sub (.t 18) (ai 1)),
    ox 20 (.slcStr (.t 16) none (some (.t 19))), mo 0 20])))
def strings_trimRightASCII_s1 : ACode :=
  .block 0 (.loop strings_trimRightASCII_l0)
def strings_trimRightASCII_t2 : ACode :=
  .seq strings_trimRightASCII_s1 (.seq (.region none [mo 21 0, mo 4 21])
    .ret)
def strings_trimRightASCII : AFun :=
  ⟨2, [.inl 4], (.seq (.region none [ox 4 (.mv (.c (.str [])))]) strings_trimRightASCII_t2), false⟩

def strings_trimLeftASCII_l0 : ACode :=
  .seq (.seq (.region none [mo 5 0, ox 6 (.len .str (.t 5)), ox 7 (.bin .gtr (.t 6) (ai 0))])
    (.cond (.t 7) .skip (.exit 0))) (.block 1 (.seq (.seq (.region none [mo 8 1, mo 9 0,
    ox 10 (.idxStr (.t 9) (ai 0)), kx 11 (.k 0 [.t 8, .t 10]),
    ox 12 (.un .not (.t 11))]) (.cond (.t 12) (.exit 0) .skip)) (.region none [mo 13 0,
    ox 14 (.slcStr (.t 13) (some (ai 1)) none), mo 0 14])))
def strings_trimLeftASCII_s1 : ACode :=
  .block 0 (.loop strings_trimLeftASCII_l0)
def strings_trimLeftASCII_t2 : ACode :=
  .seq strings_trimLeftASCII_s1 (.seq (.region none [mo 15 0, mo 4 15])
    .ret)
def strings_trimLeftASCII : AFun :=
  ⟨2, [.inl 4], (.seq (.region none [ox 4 (.mv (.c (.str [])))]) strings_trimLeftASCII_t2), false⟩

def utf8_RuneStart : AFun :=
  ⟨1, [.inl 2], (.seq (.region none [ox 2 (.mv (.c (.bool false)))]) (.seq (.region none [mo 3 0,
    ox 4 (.bin .and (.t 3) (.c (.int .u8 192))), ox 5 (.bin .neq (.t 4) (.c (.int .u8 128))),
    mo 2 5]) .ret)), false⟩

def utf8_DecodeLastRuneInString_l0 : ACode :=
  .seq (.seq (.region none [mo 25 5, mo 26 6, ox 27 (.bin .geq (.t 25) (.t 26))])
    (.cond (.t 27) .skip (.exit 0))) (.seq (.block 1 (.seq (.region none [mo 30 0, mo 31 5,
    ox 32 (.idxStr (.t 30) (.t 31)), kx 33 (.k 0 [.t 32])]) (.cond (.t 33)
    (.exit 0) .skip))) (.region none [mo 28 5, ox 29 (.bin .sub (.t 28) (ai 1)),
    mo 5 29]))
def utf8_DecodeLastRuneInString_s1 : ACode :=
  .block 0 (.loop utf8_DecodeLastRuneInString_l0)
def utf8_DecodeLastRuneInString_t2 : ACode :=
  .seq (.seq (.region none [mo 23 5, ox 24 (.bin .sub (.t 23) (ai 1)),
    mo 5 24]) utf8_DecodeLastRuneInString_s1) (.seq (.seq (.region none [mo 34 5,
    ox 35 (.bin .lss (.t 34) (ai 0))]) (.cond (.t 35) (.region none [ox 5 (.mv (ai 0))])
    .skip)) (.seq (.region none [mo 37 0, mo 38 5, mo 39 4,
    ox 40 (.slcStr (.t 37) (some (.t 38)) (some (.t 39))), kx 41 (.k 1 [.t 40]),
    mo 36 41, ox 42 (.ext 0 (.t 36)), ox 43 (.ext 1 (.t 36)),
    mo 2 42, mo 3 43]) (.seq (.seq (.region none [mo 44 5,
    mo 45 3, ox 46 (.bin .add (.t 44) (.t 45)), mo 47 4,
    ox 48 (.bin .neq (.t 46) (.t 47))]) (.cond (.t 48) (.seq (.region none [ox 2 (.mv (.c (.int .i32 65533))),
    ox 3 (.mv (ai 1))]) .ret) .skip)) (.seq (.region none [mo 49 2,
    mo 50 3, mo 2 49, mo 3 50])
    .ret))))
def utf8_DecodeLastRuneInString : AFun :=
  ⟨1, [.inl 2, .inl 3], (.seq (.region none [ox 2 (.mv (.c (.int .i32 0))), ox 3 (.mv (ai 0))])
    (.seq (.region none [mo 7 0, ox 8 (.len .str (.t 7)), mo 4 8])
    (.seq (.seq (.region none [mo 9 4, ox 10 (.bin .eql (.t 9) (ai 0))])
    (.cond (.t 10) (.seq (.region none [ox 2 (.mv (.c (.int .i32 65533))), ox 3 (.mv (ai 0))])
    .ret) .skip)) (.seq (.region none [mo 11 4, ox 12 (.bin .sub (.t 11) (ai 1)),
    mo 5 12]) (.seq (.region none [mo 13 0, mo 14 5,
    ox 15 (.idxStr (.t 13) (.t 14)), ox 16 (.convI .i32 (.t 15)), mo 2 16])
    (.seq (.seq (.region none [mo 17 2, ox 18 (.bin .lss (.t 17) (.c (.int .i32 128)))])
    (.cond (.t 18) (.seq (.region none [mo 19 2, mo 2 19, ox 3 (.mv (ai 1))])
    .ret) .skip)) (.seq (.region none [mo 20 4, ox 21 (.bin .sub (.t 20) (ai 4)),
    ox 22 (.mnmx true (.t 21) (ai 0)), mo 6 22])
    utf8_DecodeLastRuneInString_t2))))))), false⟩

def strings_IndexByte : AFun :=
  ⟨2, [.inl 4], (.seq (.region none [ox 4 (.mv (ai 0))]) (.seq (.region none [mo 5 0,
    mo 6 1, kx 7 (.k 0 [.t 5, .t 6]), mo 4 7])
    .ret)), false⟩

def utf8_ValidRune : AFun :=
  ⟨1, [.inl 2], (.seq (.region none [ox 2 (.mv (.c (.bool false)))]) (.seq (.block 0 (.seq (.region none [mo 4 0,
    ox 5 (.bin .leq (.c (.int .i32 0)) (.t 4)), mo 6 5,
    og 6 true 7 (.mv (.t 0)), og 6 true 8 (.bin .lss (.t 7) (.c (.int .i32 55296))),
    ox 9 (.pick (.t 6) (.t 8) (.c (.bool false))), mo 3 9])
    (.cond (.t 3) (.seq (.region none [ox 2 (.mv (.c (.bool true)))]) .ret) (.seq (.region none [mo 11 0,
    ox 12 (.bin .lss (.c (.int .i32 57343)) (.t 11)), mo 13 12,
    og 13 true 14 (.mv (.t 0)), og 13 true 15 (.bin .leq (.t 14) (.c (.int .i32 1114111))),
    ox 16 (.pick (.t 13) (.t 15) (.c (.bool false))), mo 10 16])
    (.cond (.t 10) (.seq (.region none [ox 2 (.mv (.c (.bool true)))]) .ret) .skip))))) (.seq (.region none [ox 2 (.mv (.c (.bool false)))])
    .ret))), false⟩

def strings_ContainsRune : AFun :=
  ⟨2, [.inl 4], (.seq (.region none [ox 4 (.mv (.c (.bool false)))]) (.seq (.region none [mo 5 0,
    mo 6 1, kx 7 (.k 0 [.t 5, .t 6]), ox 8 (.bin .geq (.t 7) (ai 0)),
    mo 4 8]) .ret)), false⟩

def strings_trimRightUnicode_l0 : ACode :=
  .seq (.seq (.region none [mo 7 0, ox 8 (.len .str (.t 7)), ox 9 (.bin .gtr (.t 8) (ai 0))])
    (.cond (.t 9) .skip (.exit 0))) (.block 1 (.seq (.region none [mo 10 0, mo 11 0,
    ox 12 (.len .str (.t 11)), ox 13 (.bin .sub (.t 12) (ai 1)),
    ox 14 (.idxStr (.t 10) (.t 13)), ox 15 (.convI .i32 (.t 14)), mo 5 15,
    ox 6 (.mv (ai 1))]) (.seq (.seq (.region none [mo 16 5,
    ox 17 (.bin .geq (.t 16) (.c (.int .i32 128)))]) (.cond (.t 17) (.region none [mo 19 0,
    kx 20 (.k 0 [.t 19]), mo 18 20, ox 21 (.ext 0 (.t 18)),
    ox 22 (.ext 1 (.t 18)), mo 5 21, mo 6 22])
    .skip)) (.seq (.seq (.region none [mo 23 1, mo 24 5, kx 25 (.k 1 [.t 23, .t 24]),
    ox 26 (.un .not (.t 25))]) (.cond (.t 26) (.exit 0) .skip)) (.region none [mo 27 0,
    mo 28 0, ox 29 (.len .str (.t 28)), mo 30 6,
    ox 31 (.bin .sub (.t 29) (.t 30)), ox 32 (.slcStr (.t 27) none (some (.t 31))),
    mo 0 32])))))
def strings_trimRightUnicode_s1 : ACode :=
  .block 0 (.loop strings_trimRightUnicode_l0)
def strings_trimRightUnicode_t2 : ACode :=
  .seq strings_trimRightUnicode_s1 (.seq (.region none [mo 33 0, mo 4 33])
    .ret)
def strings_trimRightUnicode : AFun :=
  ⟨2, [.inl 4], (.seq (.region none [ox 4 (.mv (.c (.str [])))]) strings_trimRightUnicode_t2), false⟩

def strings_trimLeftUnicode_l0 : ACode :=
  .seq (.seq (.region none [mo 7 0, ox 8 (.len .str (.t 7)), ox 9 (.bin .gtr (.t 8) (ai 0))])
    (.cond (.t 9) .skip (.exit 0))) (.block 1 (.seq (.region none [mo 11 0, kx 12 (.k 0 [.t 11]),
    mo 10 12, ox 13 (.ext 0 (.t 10)), ox 14 (.ext 1 (.t 10)),
    mo 5 13, mo 6 14]) (.seq (.seq (.region none [mo 15 1,
    mo 16 5, kx 17 (.k 1 [.t 15, .t 16]), ox 18 (.un .not (.t 17))])
    (.cond (.t 18) (.exit 0) .skip)) (.region none [mo 19 0, mo 20 6,
    ox 21 (.slcStr (.t 19) (some (.t 20)) none), mo 0 21]))))
def strings_trimLeftUnicode_s1 : ACode :=
  .block 0 (.loop strings_trimLeftUnicode_l0)
def strings_trimLeftUnicode_t2 : ACode :=
  .seq strings_trimLeftUnicode_s1 (.seq (.region none [mo 22 0, mo 4 22])
    .ret)
def strings_trimLeftUnicode : AFun :=
  ⟨2, [.inl 4], (.seq (.region none [ox 4 (.mv (.c (.str [])))]) strings_trimLeftUnicode_t2), false⟩

def strings_Trim : AFun :=
  ⟨2, [.inl 4], (.seq (.region none [ox 4 (.mv (.c (.str [])))]) (.seq (.seq (.region none [mo 7 0,
    ox 8 (.bin .eql (.t 7) (.c (.str []))), mo 9 8, og 9 false 10 (.mv (.t 1)),
    og 9 false 11 (.bin .eql (.t 10) (.c (.str []))), ox 12 (.pick (.t 9) (.c (.bool true)) (.t 11))])
    (.cond (.t 12) (.seq (.region none [mo 13 0, mo 4 13])
    .ret) .skip)) (.seq (.seq (.region none [mo 14 1, ox 15 (.len .str (.t 14)),
    ox 16 (.bin .eql (.t 15) (ai 1)), mo 17 16,
    og 17 true 18 (.mv (.t 1)), og 17 true 19 (.idxStr (.t 18) (ai 0)),
    og 17 true 20 (.bin .lss (.t 19) (.c (.int .u8 128))), ox 21 (.pick (.t 17) (.t 20) (.c (.bool false)))])
    (.cond (.t 21) (.seq (.region (some []) [mo 22 0, mo 23 1,
    ox 24 (.idxStr (.t 23) (ai 0)), kx 25 (.k 0 [.t 22, .t 24]),
    mo 26 1, ox 27 (.idxStr (.t 26) (ai 0)), kx 28 (.k 1 [.t 25, .t 27]),
    mo 4 28]) .ret) .skip)) (.seq (.seq (.region none [mo 30 1,
    kx 31 (.k 2 [.t 30]), mo 29 31, ox 32 (.ext 0 (.t 29)),
    ox 33 (.ext 1 (.t 29)), ox 5 (.alloc (rp [(256, .bool false)])),
    oz (.store 256 (.t 5) (.t 32)), mo 6 33]) (.seq (.region none [mo 34 6])
    (.cond (.t 34) (.seq (.region none [mo 35 0, kx 36 (.k 3 [.t 35, .t 5]),
    kx 37 (.k 4 [.t 36, .t 5]), mo 4 37]) .ret) .skip)))
    (.seq (.region none [mo 38 0, mo 39 1, kx 40 (.k 5 [.t 38, .t 39]),
    mo 41 1, kx 42 (.k 6 [.t 40, .t 41]), mo 4 42])
    .ret))))), false⟩

def stringslite_HasPrefix : AFun :=
  ⟨2, [.inl 4], (.seq (.region none [ox 4 (.mv (.c (.bool false)))]) (.seq (.region none [mo 5 0,
    ox 6 (.len .str (.t 5)), mo 7 1, ox 8 (.len .str (.t 7)),
    ox 9 (.bin .geq (.t 6) (.t 8)), mo 10 9, og 10 true 11 (.mv (.t 0)),
    og 10 true 12 (.mv (.t 1)), og 10 true 13 (.len .str (.t 12)), og 10 true 14 (.slcStr (.t 11) none (some (.t 13))),
    og 10 true 15 (.mv (.t 1)), og 10 true 16 (.bin .eql (.t 14) (.t 15)),
    ox 17 (.pick (.t 10) (.t 16) (.c (.bool false))), mo 4 17])
    .ret)), false⟩

def strings_HasPrefix : AFun :=
  ⟨2, [.inl 4], (.seq (.region none [ox 4 (.mv (.c (.bool false)))]) (.seq (.region none [mo 5 0,
    mo 6 1, kx 7 (.k 0 [.t 5, .t 6]), mo 4 7])
    .ret)), false⟩

def strconv_lower : AFun :=
  ⟨1, [.inl 2], (.seq (.region none [ox 2 (.mv (.c (.int .u8 0)))]) (.seq (.region none [mo 3 0,
    ox 4 (.bin .or (.t 3) (.c (.int .u8 32))), mo 2 4])
    .ret)), false⟩

def strconv_underscoreOK_l0 : ACode :=
  .seq (.seq (.region none [mo 51 4, mo 52 0, ox 53 (.len .str (.t 52)),
    ox 54 (.bin .lss (.t 51) (.t 53))]) (.cond (.t 54) .skip (.exit 0))) (.seq (.block 1 (.seq (.seq (.region none [mo 57 0,
    mo 58 4, ox 59 (.idxStr (.t 57) (.t 58)), ox 60 (.bin .leq (.c (.int .u8 48)) (.t 59)),
    mo 61 60, og 61 true 62 (.mv (.t 0)), og 61 true 63 (.mv (.t 4)),
    og 61 true 64 (.idxStr (.t 62) (.t 63)), og 61 true 65 (.bin .leq (.t 64) (.c (.int .u8 57))),
    ox 66 (.pick (.t 61) (.t 65) (.c (.bool false))), mo 67 66, og 67 false 68 (.mv (.t 5)),
    og 67 false 69 (.mv (.t 68)), og 69 true 70 (.mv (.t 0)), og 69 true 71 (.mv (.t 4)),
    og 69 true 72 (.idxStr (.t 70) (.t 71)), kg 69 true 73 (.k 0 [.t 72]),
    og 69 true 74 (.bin .leq (.c (.int .u8 97)) (.t 73)), og 67 false 75 (.pick (.t 69) (.t 74) (.c (.bool false))),
    og 67 false 76 (.mv (.t 75)), og 76 true 77 (.mv (.t 0)), og 76 true 78 (.mv (.t 4)),
    og 76 true 79 (.idxStr (.t 77) (.t 78)), kg 76 true 80 (.k 0 [.t 79]),
    og 76 true 81 (.bin .leq (.t 80) (.c (.int .u8 102))), og 67 false 82 (.pick (.t 76) (.t 81) (.c (.bool false))),
    ox 83 (.pick (.t 67) (.c (.bool true)) (.t 82))]) (.cond (.t 83) (.seq (.region none [ox 3 (.mv (.c (.int .i32 48)))])
    (.exit 1)) .skip)) (.seq (.seq (.region none [mo 84 0, mo 85 4,
    ox 86 (.idxStr (.t 84) (.t 85)), ox 87 (.bin .eql (.t 86) (.c (.int .u8 95)))])
    (.cond (.t 87) (.seq (.seq (.region none [mo 88 3, ox 89 (.bin .neq (.t 88) (.c (.int .i32 48)))])
    (.cond (.t 89) (.seq (.region none [ox 2 (.mv (.c (.bool false)))]) .ret) .skip)) (.seq (.region none [ox 3 (.mv (.c (.int .i32 95)))])
    (.exit 1))) .skip)) (.seq (.seq (.region none [mo 90 3, ox 91 (.bin .eql (.t 90) (.c (.int .i32 95)))])
    (.cond (.t 91) (.seq (.region none [ox 2 (.mv (.c (.bool false)))]) .ret) .skip)) (.region none [ox 3 (.mv (.c (.int .i32 33)))])))))
    (.region none [mo 55 4, ox 56 (.bin .add (.t 55) (ai 1)),
    mo 4 56]))
def strconv_underscoreOK_s1 : ACode :=
  .block 0 (.loop strconv_underscoreOK_l0)
def strconv_underscoreOK_t2 : ACode :=
  .seq strconv_underscoreOK_s1 (.seq (.region none [mo 92 3, ox 93 (.bin .neq (.t 92) (.c (.int .i32 95))),
    mo 2 93]) .ret)
def strconv_underscoreOK : AFun :=
  ⟨1, [.inl 2], (.seq (.region none [ox 2 (.mv (.c (.bool false)))]) (.seq (.region none [ox 3 (.mv (.c (.int .i32 94)))])
    (.seq (.region none [ox 4 (.mv (ai 0))]) (.seq (.seq (.region none [mo 6 0,
    ox 7 (.len .str (.t 6)), ox 8 (.bin .geq (.t 7) (ai 1)),
    mo 9 8, og 9 true 10 (.mv (.t 0)), og 9 true 11 (.idxStr (.t 10) (ai 0)),
    og 9 true 12 (.bin .eql (.t 11) (.c (.int .u8 45))), og 9 true 13 (.mv (.t 12)),
    og 13 false 14 (.mv (.t 0)), og 13 false 15 (.idxStr (.t 14) (ai 0)),
    og 13 false 16 (.bin .eql (.t 15) (.c (.int .u8 43))), og 9 true 17 (.pick (.t 13) (.c (.bool true)) (.t 16)),
    ox 18 (.pick (.t 9) (.t 17) (.c (.bool false)))]) (.cond (.t 18) (.region none [mo 19 0,
    ox 20 (.slcStr (.t 19) (some (ai 1)) none), mo 0 20])
    .skip)) (.seq (.region none [ox 5 (.mv (.c (.bool false)))]) (.seq (.seq (.region none [mo 21 0,
    ox 22 (.len .str (.t 21)), ox 23 (.bin .geq (.t 22) (ai 2)),
    mo 24 23, og 24 true 25 (.mv (.t 0)), og 24 true 26 (.idxStr (.t 25) (ai 0)),
    og 24 true 27 (.bin .eql (.t 26) (.c (.int .u8 48))), ox 28 (.pick (.t 24) (.t 27) (.c (.bool false))),
    mo 29 28, og 29 true 30 (.mv (.t 0)), og 29 true 31 (.idxStr (.t 30) (ai 1)),
    kg 29 true 32 (.k 0 [.t 31]), og 29 true 33 (.bin .eql (.t 32) (.c (.int .u8 98))),
    og 29 true 34 (.mv (.t 33)), og 34 false 35 (.mv (.t 0)), og 34 false 36 (.idxStr (.t 35) (ai 1)),
    kg 34 false 37 (.k 0 [.t 36]), og 34 false 38 (.bin .eql (.t 37) (.c (.int .u8 111))),
    og 29 true 39 (.pick (.t 34) (.c (.bool true)) (.t 38)), og 29 true 40 (.mv (.t 39)),
    og 40 false 41 (.mv (.t 0)), og 40 false 42 (.idxStr (.t 41) (ai 1)),
    kg 40 false 43 (.k 0 [.t 42]), og 40 false 44 (.bin .eql (.t 43) (.c (.int .u8 120))),
    og 29 true 45 (.pick (.t 40) (.c (.bool true)) (.t 44)), ox 46 (.pick (.t 29) (.t 45) (.c (.bool false)))])
    (.cond (.t 46) (.seq (.region none [ox 4 (.mv (ai 2))]) (.seq (.region none [ox 3 (.mv (.c (.int .i32 48)))])
    (.region none [mo 47 0, ox 48 (.idxStr (.t 47) (ai 1)),
    kx 49 (.k 0 [.t 48]), ox 50 (.bin .eql (.t 49) (.c (.int .u8 120))),
    mo 5 50]))) .skip)) strconv_underscoreOK_t2)))))), false⟩

def strconv_ParseUint_l0 : ACode :=
  .seq (.region none [ox 102 (.bin .lss (.t 101) (.t 100))]) (.seq (.cond (.t 102) .skip (.exit 3)) (.seq (.block 4
    (.seq (.region none [ox 103 (.iaddrS 1 (.t 99) (.t 101)), ox 104 (.load none (.t 103)),
    mo 15 104]) (.seq (.region none [ox 16 (.mv (.c (.int .u8 0)))])
    (.seq (.block 5 (.seq (.region none [mo 107 15, ox 108 (.bin .eql (.t 107) (.c (.int .u8 95))),
    mo 109 108, og 109 true 110 (.mv (.t 8)), ox 111 (.pick (.t 109) (.t 110) (.c (.bool false))),
    mo 106 111]) (.cond (.t 106) (.seq (.region none [ox 12 (.mv (.c (.bool true)))])
    (.exit 4)) (.seq (.region none [mo 113 15, ox 114 (.bin .leq (.c (.int .u8 48)) (.t 113)),
    mo 115 114, og 115 true 116 (.mv (.t 15)), og 115 true 117 (.bin .leq (.t 116) (.c (.int .u8 57))),
    ox 118 (.pick (.t 115) (.t 117) (.c (.bool false))), mo 112 118])
    (.cond (.t 112) (.region none [mo 119 15, ox 120 (.bin .sub (.t 119) (.c (.int .u8 48))),
    mo 16 120]) (.seq (.region none [mo 122 15, kx 123 (.k 0 [.t 122]),
    ox 124 (.bin .leq (.c (.int .u8 97)) (.t 123)), mo 125 124,
    og 125 true 126 (.mv (.t 15)), kg 125 true 127 (.k 0 [.t 126]), og 125 true 128 (.bin .leq (.t 127) (.c (.int .u8 122))),
    ox 129 (.pick (.t 125) (.t 128) (.c (.bool false))), mo 121 129])
    (.cond (.t 121) (.region none [mo 130 15, kx 131 (.k 0 [.t 130]),
    ox 132 (.bin .sub (.t 131) (.c (.int .u8 97))), ox 133 (.bin .add (.t 132) (.c (.int .u8 10))),
    mo 16 133]) (.seq (.region none [ox 105 (.mkif 102 (ai 2)),
    ox 6 (.mv (.c (.int .u64 0))), mo 7 105])
    .ret)))))))) (.seq (.seq (.region none [mo 134 16, mo 135 1,
    ox 136 (.convI .u8 (.t 135)), ox 137 (.bin .geq (.t 134) (.t 136))])
    (.cond (.t 137) (.seq (.region none [ox 138 (.mkif 102 (ai 2)), ox 6 (.mv (.c (.int .u64 0))),
    mo 7 138]) .ret) .skip)) (.seq (.seq (.region none [mo 139 13,
    mo 140 10, ox 141 (.bin .geq (.t 139) (.t 140))]) (.cond (.t
    141) (.seq (.region none [mo 142 11, ox 143 (.mkif 102 (ai 1)),
    mo 6 142, mo 7 143]) .ret) .skip)) (.seq (.region
    none [mo 144 13, mo 145 1, ox 146 (.convI .u64 (.t 145)),
    ox 147 (.bin .mul (.t 144) (.t 146)), mo 13 147]) (.seq
    (.region none [mo 148 13, mo 149 16, ox 150 (.convI .u64 (.t 149)),
    ox 151 (.bin .add (.t 148) (.t 150)), mo 17 151]) (.seq (.seq
    (.region none [mo 152 17, mo 153 13, ox 154 (.bin .lss (.t 152) (.t 153)),
    mo 155 154, og 155 false 156 (.mv (.t 17)), og 155 false 157 (.mv (.t 11)),
    og 155 false 158 (.bin .gtr (.t 156) (.t 157)), ox 159 (.pick (.t 155) (.c (.bool true)) (.t 158))])
    (.cond (.t 159) (.seq (.region none [mo 160 11, ox 161 (.mkif 102 (ai 1)),
    mo 6 160, mo 7 161]) .ret) .skip)) (.region none
    [mo 162 17, mo 13 162])))))))))) (.region none [ox 163 (.bin .add (.t 101) (ai 1)),
    mo 101 163])))
def strconv_ParseUint_s1 : ACode :=
  .block 3 (.loop strconv_ParseUint_l0)
def strconv_ParseUint_t2 : ACode :=
  .seq (.seq (.region none [mo 98 0, ox 99 (.convSB (.t 98)), ox 100 (.len .sl (.t 99)),
    ox 101 (.mv (ai 0))]) strconv_ParseUint_s1) (.seq (.seq (.region none [mo 164 12,
    mo 165 164, og 165 true 166 (.mv (.t 9)), kg 165 true 167 (.k 1 [.t 166]),
    og 165 true 168 (.un .not (.t 167)), ox 169 (.pick (.t 165) (.t 168) (.c (.bool false)))])
    (.cond (.t 169) (.seq (.region none [ox 170 (.mkif 102 (ai 2)), ox 6 (.mv (.c (.int .u64 0))),
    mo 7 170]) .ret) .skip)) (.seq (.region none [mo 171 13,
    mo 6 171, ox 7 (.mv (.c .nili))]) .ret))
def strconv_ParseUint : AFun :=
  ⟨3, [.inl 6, .inl 7], (.seq (.region none [ox 6 (.mv (.c (.int .u64 0))), ox 7 (.mv (.c .nili))])
    (.seq (.seq (.region none [mo 18 0, ox 19 (.bin .eql (.t 18) (.c (.str [])))])
    (.cond (.t 19) (.seq (.region none [ox 20 (.mkif 102 (ai 2)), ox 6 (.mv (.c (.int .u64 0))),
    mo 7 20]) .ret) .skip)) (.seq (.region none [mo 21 1,
    ox 22 (.bin .eql (.t 21) (ai 0)), mo 8 22])
    (.seq (.region none [mo 23 0, mo 9 23]) (.seq (.block 0
    (.seq (.region none [mo 26 1, ox 27 (.bin .leq (ai 2) (.t 26)),
    mo 28 27, og 28 true 29 (.mv (.t 1)), og 28 true 30 (.bin .leq (.t 29) (ai 36)),
    ox 31 (.pick (.t 28) (.t 30) (.c (.bool false))), mo 25 31])
    (.cond (.t 25) .skip (.seq (.region none [mo 33 1, ox 34 (.bin .eql (.t 33) (ai 0)),
    mo 32 34]) (.cond (.t 32) (.seq (.region none [ox 1 (.mv (ai 10))])
    (.seq (.region none [mo 35 0, ox 36 (.idxStr (.t 35) (ai 0)),
    ox 37 (.bin .eql (.t 36) (.c (.int .u8 48)))]) (.cond (.t 37) (.block 1 (.seq (.region none [mo 41 0,
    ox 42 (.len .str (.t 41)), ox 43 (.bin .geq (.t 42) (ai 3)),
    mo 44 43, og 44 true 45 (.mv (.t 0)), og 44 true 46 (.idxStr (.t 45) (ai 1)),
    kg 44 true 47 (.k 0 [.t 46]), og 44 true 48 (.bin .eql (.t 47) (.c (.int .u8 98))),
    ox 49 (.pick (.t 44) (.t 48) (.c (.bool false))), mo 40 49])
    (.cond (.t 40) (.seq (.region none [ox 1 (.mv (ai 2))]) (.region none [mo 50 0,
    ox 51 (.slcStr (.t 50) (some (ai 2)) none), mo 0 51]))
    (.seq (.region none [mo 53 0, ox 54 (.len .str (.t 53)), ox 55 (.bin .geq (.t 54) (ai 3)),
    mo 56 55, og 56 true 57 (.mv (.t 0)), og 56 true 58 (.idxStr (.t 57) (ai 1)),
    kg 56 true 59 (.k 0 [.t 58]), og 56 true 60 (.bin .eql (.t 59) (.c (.int .u8 111))),
    ox 61 (.pick (.t 56) (.t 60) (.c (.bool false))), mo 52 61])
    (.cond (.t 52) (.seq (.region none [ox 1 (.mv (ai 8))]) (.region none [mo 62 0,
    ox 63 (.slcStr (.t 62) (some (ai 2)) none), mo 0 63]))
    (.seq (.region none [mo 65 0, ox 66 (.len .str (.t 65)), ox 67 (.bin .geq (.t 66) (ai 3)),
    mo 68 67, og 68 true 69 (.mv (.t 0)), og 68 true 70 (.idxStr (.t 69) (ai 1)),
    kg 68 true 71 (.k 0 [.t 70]), og 68 true 72 (.bin .eql (.t 71) (.c (.int .u8 120))),
    ox 73 (.pick (.t 68) (.t 72) (.c (.bool false))), mo 64 73])
    (.cond (.t 64) (.seq (.region none [ox 1 (.mv (ai 16))]) (.region none [mo 74 0,
    ox 75 (.slcStr (.t 74) (some (ai 2)) none), mo 0 75]))
    (.seq (.region none [ox 1 (.mv (ai 8))]) (.region none [mo 38 0,
    ox 39 (.slcStr (.t 38) (some (ai 1)) none), mo 0 39])))))))))
    .skip))) (.seq (.region none [ox 24 (.mkif 102 (ai 3)), ox 6 (.mv (.c (.int .u64 0))),
    mo 7 24]) .ret)))))) (.seq (.seq (.region none [mo 76 2,
    ox 77 (.bin .eql (.t 76) (ai 0))]) (.cond (.t 77) (.region none [ox 2 (.mv (ai 64))])
    (.seq (.region none [mo 78 2, ox 79 (.bin .lss (.t 78) (ai 0)),
    mo 80 79, og 80 false 81 (.mv (.t 2)), og 80 false 82 (.bin .gtr (.t 81) (ai 64)),
    ox 83 (.pick (.t 80) (.c (.bool true)) (.t 82))]) (.cond (.t 83) (.seq (.region none [ox 84 (.mkif 102 (ai 4)),
    ox 6 (.mv (.c (.int .u64 0))), mo 7 84]) .ret)
    .skip)))) (.seq (.region none [ox 10 (.mv (.c (.int .u64 0)))]) (.seq (.seq (.region none [mo 85 1])
    (.block 2 (.seq (.region none [ox 91 (.bin .eql (.t 85) (ai 10)), mo 90 91])
    (.cond (.t 90) (.region none [ox 10 (.mv (.c (.int .u64 1844674407370955162)))]) (.seq (.region none [ox 93 (.bin .eql (.t 85) (ai 16)),
    mo 92 93]) (.cond (.t 92) (.region none [ox 10 (.mv (.c (.int .u64 1152921504606846976)))])
    (.region none [mo 86 1, ox 87 (.convI .u64 (.t 86)), ox 88 (.bin .quo (.c (.int .u64 18446744073709551615)) (.t 87)),
    ox 89 (.bin .add (.t 88) (.c (.int .u64 1))), mo 10 89])))))))
    (.seq (.region none [mo 94 2, ox 95 (.convI .u64 (.t 94)), ox 96 (.bin .shl (.c (.int .u64 1)) (.t 95)),
    ox 97 (.bin .sub (.t 96) (.c (.int .u64 1))), mo 11 97])
    (.seq (.region none [ox 12 (.mv (.c (.bool false)))]) (.seq (.region none [ox 13 (.mv (.c (.int .u64 0)))])
    strconv_ParseUint_t2))))))))))), false⟩

def strconv_ParseInt : AFun :=
  ⟨3, [.inl 6, .inl 7], (.seq (.region none [ox 6 (.mv (ai 0)), ox 7 (.mv (.c .nili))])
    (.seq (.seq (.region none [mo 12 0, ox 13 (.bin .eql (.t 12) (.c (.str [])))])
    (.cond (.t 13) (.seq (.region none [ox 14 (.mkif 102 (ai 2)), ox 6 (.mv (ai 0)),
    mo 7 14]) .ret) .skip)) (.seq (.region none [ox 8 (.mv (.c (.bool false)))])
    (.seq (.seq (.region none [mo 15 0, ox 16 (.idxStr (.t 15) (ai 0))])
    (.block 0 (.seq (.region none [ox 18 (.bin .eql (.t 16) (.c (.int .u8 43))), mo 17 18])
    (.cond (.t 17) (.region none [mo 19 0, ox 20 (.slcStr (.t 19) (some (ai 1)) none),
    mo 0 20]) (.seq (.region none [ox 22 (.bin .eql (.t 16) (.c (.int .u8 45))),
    mo 21 22]) (.cond (.t 21) (.seq (.region none [mo 23 0, ox 24 (.slcStr (.t 23) (some (ai 1)) none),
    mo 0 24]) (.region none [ox 8 (.mv (.c (.bool true)))]))
    .skip)))))) (.seq (.region none [ox 9 (.mv (.c (.int .u64 0)))]) (.seq (.region none [mo 26 0,
    mo 27 1, mo 28 2, kx 29 (.k 0 [.t 26, .t 27, .t 28]),
    mo 25 29, ox 30 (.ext 0 (.t 25)), ox 31 (.ext 1 (.t 25)),
    mo 9 30, mo 7 31]) (.seq (.seq (.region none [mo 32 7,
    ox 33 (.eq true .ifc (.t 32) (.c .nili)), mo 34 33, og 34 true 35 (.mv (.t 7)),
    og 34 true 36 (.mkif 102 (ai 1)), og 34 true 37 (.eqI true (.t 35) (.t 36)),
    ox 38 (.pick (.t 34) (.t 37) (.c (.bool false)))]) (.cond (.t 38) (.seq (.region none [mo 39 7,
    ox 6 (.mv (ai 0)), mo 7 39]) .ret)
    .skip)) (.seq (.seq (.region none [mo 40 2, ox 41 (.bin .eql (.t 40) (ai 0))])
    (.cond (.t 41) (.region none [ox 2 (.mv (ai 64))]) .skip)) (.seq (.region none [mo 42 2,
    ox 43 (.bin .sub (.t 42) (ai 1)), ox 44 (.convI .u64 (.t 43)),
    ox 45 (.bin .shl (.c (.int .u64 1)) (.t 44)), mo 10 45])
    (.seq (.seq (.region none [mo 46 8, ox 47 (.un .not (.t 46)), mo 48 47,
    og 48 true 49 (.mv (.t 9)), og 48 true 50 (.mv (.t 10)), og 48 true 51 (.bin .geq (.t 49) (.t 50)),
    ox 52 (.pick (.t 48) (.t 51) (.c (.bool false)))]) (.cond (.t 52) (.seq (.region none [mo 53 10,
    ox 54 (.bin .sub (.t 53) (.c (.int .u64 1))), ox 55 (.convI .i64 (.t 54)),
    ox 56 (.mkif 102 (ai 1)), mo 6 55, mo 7 56])
    .ret) .skip)) (.seq (.seq (.region none [mo 57 8, mo 58 57,
    og 58 true 59 (.mv (.t 9)), og 58 true 60 (.mv (.t 10)), og 58 true 61 (.bin .gtr (.t 59) (.t 60)),
    ox 62 (.pick (.t 58) (.t 61) (.c (.bool false)))]) (.cond (.t 62) (.seq (.region none [mo 63 10,
    ox 64 (.convI .i64 (.t 63)), ox 65 (.un .neg (.t 64)), ox 66 (.mkif 102 (ai 1)),
    mo 6 65, mo 7 66]) .ret) .skip)) (.seq (.region
    none [mo 67 9, ox 68 (.convI .i64 (.t 67)), mo 11 68])
    (.seq (.seq (.region none [mo 69 8]) (.cond (.t 69) (.region none [mo 70 11,
    ox 71 (.un .neg (.t 70)), mo 11 71]) .skip)) (.seq (.region
    none [mo 72 11, mo 6 72, ox 7 (.mv (.c .nili))])
    .ret)))))))))))))), false⟩

def strconv_Atoi_l0 : ACode :=
  .seq (.region none [ox 50 (.bin .lss (.t 49) (.t 48))]) (.seq (.cond (.t 50) .skip (.exit 0)) (.seq (.block 1 (.seq
    (.region none [ox 51 (.iaddrS 1 (.t 47) (.t 49)), ox 52 (.load none (.t 51)), mo 8 52])
    (.seq (.region none [mo 53 8, ox 54 (.bin .sub (.t 53) (.c (.int .u8 48))),
    mo 8 54]) (.seq (.seq (.region none [mo 55 8, ox 56 (.bin .gtr (.t 55) (.c (.int .u8 9)))])
    (.cond (.t 56) (.seq (.region none [ox 57 (.mkif 102 (ai 2)), ox 2 (.mv (ai 0)),
    mo 3 57]) .ret) .skip)) (.region none [mo 58 6, ox 59 (.bin .mul (.t 58) (ai 10)),
    mo 60 8, ox 61 (.convI .i64 (.t 60)), ox 62 (.bin .add (.t 59) (.t 61)),
    mo 6 62]))))) (.region none [ox 63 (.bin .add (.t 49) (ai 1)),
    mo 49 63])))
def strconv_Atoi_s1 : ACode :=
  .block 0 (.loop strconv_Atoi_l0)
def strconv_Atoi_t2 : ACode :=
  .seq (.seq (.region none [mo 46 0, ox 47 (.convSB (.t 46)), ox 48 (.len .sl (.t 47)),
    ox 49 (.mv (ai 0))]) strconv_Atoi_s1) (.seq (.seq (.region none [mo 64 5,
    ox 65 (.idxStr (.t 64) (ai 0)), ox 66 (.bin .eql (.t 65) (.c (.int .u8 45)))])
    (.cond (.t 66) (.region none [mo 67 6, ox 68 (.un .neg (.t 67)),
    mo 6 68]) .skip)) (.seq (.region none [mo 69 6, mo 2 69,
    ox 3 (.mv (.c .nili))]) .ret))
def strconv_Atoi_c3 : ACode :=
  .seq (.region none [mo 31 0, mo 5 31]) (.seq (.seq (.region
    none [mo 32 0, ox 33 (.idxStr (.t 32) (ai 0)),
    ox 34 (.bin .eql (.t 33) (.c (.int .u8 45))), mo 35 34,
    og 35 false 36 (.mv (.t 0)), og 35 false 37 (.idxStr (.t 36) (ai 0)),
    og 35 false 38 (.bin .eql (.t 37) (.c (.int .u8 43))), ox 39 (.pick (.t 35) (.c (.bool true)) (.t 38))])
    (.cond (.t 39) (.seq (.region none [mo 40 0, ox 41 (.slcStr (.t 40) (some (ai 1)) none),
    mo 0 41]) (.seq (.region none [mo 42 0, ox 43 (.len .str (.t 42)),
    ox 44 (.bin .lss (.t 43) (ai 1))]) (.cond (.t 44) (.seq (.region none [ox 45 (.mkif 102 (ai 2)),
    ox 2 (.mv (ai 0)), mo 3 45]) .ret)
    .skip))) .skip)) (.seq (.region none [ox 6 (.mv (ai 0))]) strconv_Atoi_t2))
def strconv_Atoi_t4 : ACode :=
  .seq (.seq (.region none [ox 13 (.mv (.c (.bool false))), og 13 true 14 (.mv (.t 4)),
    og 13 true 15 (.bin .lss (ai 0) (.t 14)), og 13 true 16 (.mv (.t 15)),
    og 16 true 17 (.mv (.t 4)), og 16 true 18 (.bin .lss (.t 17) (ai 10)),
    og 13 true 19 (.pick (.t 16) (.t 18) (.c (.bool false))), ox 20 (.pick (.t 13) (.t 19) (.c (.bool false))),
    mo 21 20, og 21 false 22 (.mv (.c (.bool true))), og 22 true 23 (.mv (.t 4)),
    og 22 true 24 (.bin .lss (ai 0) (.t 23)), og 22 true 25 (.mv (.t 24)),
    og 25 true 26 (.mv (.t 4)), og 25 true 27 (.bin .lss (.t 26) (ai 19)),
    og 22 true 28 (.pick (.t 25) (.t 27) (.c (.bool false))), og 21 false 29 (.pick (.t 22) (.t 28) (.c (.bool false))),
    ox 30 (.pick (.t 21) (.c (.bool true)) (.t 29))]) (.cond (.t 30) strconv_Atoi_c3 .skip)) (.seq (.region none [mo 71 0,
    kx 72 (.k 0 [.t 71, .c (.int .i64 10), .c (.int .i64 0)]), mo 70 72,
    ox 73 (.ext 0 (.t 70)), ox 74 (.ext 1 (.t 70)), mo 9 73,
    mo 10 74]) (.seq (.region none [mo 75 9, mo 76 10,
    mo 2 75, mo 3 76]) .ret))
def strconv_Atoi : AFun :=
  ⟨1, [.inl 2, .inl 3], (.seq (.region none [ox 2 (.mv (ai 0)), ox 3 (.mv (.c .nili))])
    (.seq (.region none [mo 11 0, ox 12 (.len .str (.t 11)), mo 4 12])
    strconv_Atoi_t4)), false⟩

def stringslite_Clone : AFun :=
  ⟨1, [.inl 2], (.seq (.region none [ox 2 (.mv (.c (.str [])))]) (.seq (.seq (.region none [mo 4 0,
    ox 5 (.len .str (.t 4)), ox 6 (.bin .eql (.t 5) (ai 0))])
    (.cond (.t 6) (.seq (.region none [ox 2 (.mv (.c (.str [])))]) .ret) .skip)) (.seq (.region none [mo 7 0,
    ox 8 (.len .str (.t 7)), ox 9 (.mkslice 1 1 [.int .u8 0] (.t 8) (.t 8)),
    mo 3 9]) (.seq (.region none [mo 10 3, mo 11 0,
    ox 12 (.copy 1 (.t 10) (.t 11))]) (.seq (.region none [mo 13 3, ox 14 (.iaddrS 1 (.t 13) (ai 0)),
    mo 15 3, ox 16 (.len .sl (.t 15)), { dst := some 17, op := .inl .stop, guard := none },
    mo 2 17]) .ret))))), false⟩

def strconv_small : AFun :=
  ⟨1, [.inl 2], (.seq (.region none [ox 2 (.mv (.c (.str [])))]) (.seq (.seq (.region none [mo 3 0,
    ox 4 (.bin .lss (.t 3) (ai 10))]) (.cond (.t 4) (.seq (.region none [mo 5 0,
    mo 6 0, ox 7 (.bin .add (.t 6) (ai 1)),
    ox 8 (.slcStr (.c (.str [48, 49, 50, 51, 52, 53, 54, 55, 56, 57, 97, 98, 99, 100, 101, 102, 103, 104, 105, 106, 107, 108, 109, 110, 111, 112, 113, 114, 115, 116, 117, 118, 119, 120, 121, 122])) (some (.t 5)) (some (.t 7))),
    mo 2 8]) .ret) .skip)) (.seq (.region none [mo 9 0,
    ox 10 (.bin .mul (.t 9) (ai 2)), mo 11 0,
    ox 12 (.bin .mul (.t 11) (ai 2)), ox 13 (.bin .add (.t 12) (ai 2)),
    ox 14 (.slcStr (.c (.str [48, 48, 48, 49, 48, 50, 48, 51, 48, 52, 48, 53, 48, 54, 48, 55, 48, 56, 48, 57, 49, 48, 49, 49, 49, 50, 49, 51, 49, 52, 49, 53, 49, 54, 49, 55, 49, 56, 49, 57, 50, 48, 50, 49, 50, 50, 50, 51, 50, 52, 50, 53, 50, 54, 50, 55, 50, 56, 50, 57, 51, 48, 51, 49, 51, 50, 51, 51, 51, 52, 51, 53, 51, 54, 51, 55, 51, 56, 51, 57, 52, 48, 52, 49, 52, 50, 52, 51, 52, 52, 52, 53, 52, 54, 52, 55, 52, 56, 52, 57, 53, 48, 53, 49, 53, 50, 53, 51, 53, 52, 53, 53, 53, 54, 53, 55, 53, 56, 53, 57, 54, 48, 54, 49, 54, 50, 54, 51, 54, 52, 54, 53, 54, 54, 54, 55, 54, 56, 54, 57, 55, 48, 55, 49, 55, 50, 55, 51, 55, 52, 55, 53, 55, 54, 55, 55, 55, 56, 55, 57, 56, 48, 56, 49, 56, 50, 56, 51, 56, 52, 56, 53, 56, 54, 56, 55, 56, 56, 56, 57, 57, 48, 57, 49, 57, 50, 57, 51, 57, 52, 57, 53, 57, 54, 57, 55, 57, 56, 57, 57])) (some (.t 10)) (some (.t 13))),
    mo 2 14]) .ret))), false⟩

def bits_Len64 : AFun :=
  ⟨1, [.inl 2], (.seq (.region none [ox 2 (.mv (ai 0))]) (.seq (.seq (.region none [mo 3 0,
    ox 4 (.bin .geq (.t 3) (.c (.int .u64 4294967296)))]) (.cond (.t 4) (.seq (.region none [mo 5 0,
    ox 6 (.bin .shr (.t 5) (.c (.int .u64 32))), mo 0 6])
    (.region none [ox 2 (.mv (ai 32))])) .skip)) (.seq (.seq (.region none [mo 7 0,
    ox 8 (.bin .geq (.t 7) (.c (.int .u64 65536)))]) (.cond (.t 8) (.seq (.region none [mo 9 0,
    ox 10 (.bin .shr (.t 9) (.c (.int .u64 16))), mo 0 10])
    (.region none [mo 11 2, ox 12 (.bin .add (.t 11) (ai 16)),
    mo 2 12])) .skip)) (.seq (.seq (.region none [mo 13 0,
    ox 14 (.bin .geq (.t 13) (.c (.int .u64 256)))]) (.cond (.t 14) (.seq (.region none [mo 15 0,
    ox 16 (.bin .shr (.t 15) (.c (.int .u64 8))), mo 0 16])
    (.region none [mo 17 2, ox 18 (.bin .add (.t 17) (ai 8)),
    mo 2 18])) .skip)) (.seq (.region none [mo 19 2, mo 20 0,
    ox 21 (.convI .u8 (.t 20)), ox 22 (.idxStr (.c (.str [0, 1, 2, 2, 3, 3, 3, 3, 4, 4, 4, 4, 4, 4, 4, 4, 5, 5, 5, 5, 5, 5, 5, 5, 5, 5, 5, 5, 5, 5, 5, 5, 6, 6, 6, 6, 6, 6, 6, 6, 6, 6, 6, 6, 6, 6, 6, 6, 6, 6, 6, 6, 6, 6, 6, 6, 6, 6, 6, 6, 6, 6, 6, 6, 7, 7, 7, 7, 7, 7, 7, 7, 7, 7, 7, 7, 7, 7, 7, 7, 7, 7, 7, 7, 7, 7, 7, 7, 7, 7, 7, 7, 7, 7, 7, 7, 7, 7, 7, 7, 7, 7, 7, 7, 7, 7, 7, 7, 7, 7, 7, 7, 7, 7, 7, 7, 7, 7, 7, 7, 7, 7, 7, 7, 7, 7, 7, 7, 8, 8, 8, 8, 8, 8, 8, 8, 8, 8, 8, 8, 8, 8, 8, 8, 8, 8, 8, 8, 8, 8, 8, 8, 8, 8, 8, 8, 8, 8, 8, 8, 8, 8, 8, 8, 8, 8, 8, 8, 8, 8, 8, 8, 8, 8, 8, 8, 8, 8, 8, 8, 8, 8, 8, 8, 8, 8, 8, 8, 8, 8, 8, 8, 8, 8, 8, 8, 8, 8, 8, 8, 8, 8, 8, 8, 8, 8, 8, 8, 8, 8, 8, 8, 8, 8, 8, 8, 8, 8, 8, 8, 8, 8, 8, 8, 8, 8, 8, 8, 8, 8, 8, 8, 8, 8, 8, 8, 8, 8, 8, 8, 8, 8, 8, 8, 8, 8, 8, 8, 8, 8, 8, 8, 8, 8, 8, 8])) (.t 21)),
    ox 23 (.convI .i64 (.t 22)), ox 24 (.bin .add (.t 19) (.t 23)), mo 2 24])
    .ret))))), false⟩

def strconv_log10Pow2 : AFun :=
  ⟨1, [.inl 2], (.seq (.region none [ox 2 (.mv (ai 0))]) (.seq (.region none [mo 3 0,
    ox 4 (.bin .mul (.t 3) (ai 78913)), ox 5 (.bin .shr (.t 4) (.c (.int .u64 18))),
    mo 2 5]) .ret)), false⟩

def strconv_bool2 : AFun :=
  ⟨1, [.inl 2], (.seq (.region none [ox 2 (.mv (ai 0))]) (.seq (.seq (.region none [mo 3 0])
    (.cond (.t 3) (.seq (.region none [ox 2 (.mv (ai 1))]) .ret) .skip)) (.seq (.region none [ox 2 (.mv (ai 0))])
    .ret))), false⟩

def strconv_numDigits : AFun :=
  ⟨1, [.inl 2], (.seq (.region none [ox 2 (.mv (ai 0))]) (.seq (.region none [mo 4 0,
    kx 5 (.k 0 [.t 4]), kx 6 (.k 1 [.t 5]), mo 3 6])
    (.seq (.region none [mo 7 3, mo 8 0, mo 9 3,
    { dst := some 10, op := .inl .stop, guard := none }, ox 11 (.load none (.t 10)), ox 12 (.bin .geq (.t 8) (.t 11)),
    kx 13 (.k 2 [.t 12]), ox 14 (.bin .add (.t 7) (.t 13)), mo 2 14])
    .ret))), false⟩

def strconv_formatBase10_l0 : ACode :=
  .seq (.seq (.region none [mo 19 4, ox 20 (.bin .geq (.t 19) (ai 8))])
    (.cond (.t 20) .skip (.exit 0))) (.block 1 (.seq (.region none [mo 21 1, ox 22 (.bin .rem (.t 21) (.c (.int .u64 100000000))),
    ox 23 (.convI .u32 (.t 22)), mo 5 23]) (.seq (.region none [mo 24 1,
    ox 25 (.bin .quo (.t 24) (.c (.int .u64 100000000))), mo 1 25])
    (.seq (.region none [mo 26 5, ox 27 (.bin .quo (.t 26) (.c (.int .u32 10000))),
    mo 28 5, ox 29 (.bin .rem (.t 28) (.c (.int .u32 10000))),
    mo 6 27, mo 7 29]) (.seq (.region none [mo 30 7,
    ox 31 (.bin .quo (.t 30) (.c (.int .u32 100))), ox 32 (.bin .mul (.t 31) (.c (.int .u32 2))),
    mo 33 7, ox 34 (.bin .rem (.t 33) (.c (.int .u32 100))),
    ox 35 (.bin .mul (.t 34) (.c (.int .u32 2))), mo 8 32,
    mo 9 35]) (.seq (.region none [mo 36 6, ox 37 (.bin .quo (.t 36) (.c (.int .u32 100))),
    ox 38 (.bin .mul (.t 37) (.c (.int .u32 2))), mo 39 6,
    ox 40 (.bin .rem (.t 39) (.c (.int .u32 100))), ox 41 (.bin .mul (.t 40) (.c (.int .u32 2))),
    mo 10 38, mo 11 41]) (.seq (.region (some []) [mo 42 0,
    mo 43 4, ox 44 (.bin .sub (.t 43) (ai 1)),
    mo 45 0, mo 46 4, ox 47 (.bin .sub (.t 46) (ai 2)),
    mo 48 9, ox 49 (.bin .add (.t 48) (.c (.int .u32 1))),
    ox 50 (.idxStr (.c (.str [48, 48, 48, 49, 48, 50, 48, 51, 48, 52, 48, 53, 48, 54, 48, 55, 48, 56, 48, 57, 49, 48, 49, 49, 49, 50, 49, 51, 49, 52, 49, 53, 49, 54, 49, 55, 49, 56, 49, 57, 50, 48, 50, 49, 50, 50, 50, 51, 50, 52, 50, 53, 50, 54, 50, 55, 50, 56, 50, 57, 51, 48, 51, 49, 51, 50, 51, 51, 51, 52, 51, 53, 51, 54, 51, 55, 51, 56, 51, 57, 52, 48, 52, 49, 52, 50, 52, 51, 52, 52, 52, 53, 52, 54, 52, 55, 52, 56, 52, 57, 53, 48, 53, 49, 53, 50, 53, 51, 53, 52, 53, 53, 53, 54, 53, 55, 53, 56, 53, 57, 54, 48, 54, 49, 54, 50, 54, 51, 54, 52, 54, 53, 54, 54, 54, 55, 54, 56, 54, 57, 55, 48, 55, 49, 55, 50, 55, 51, 55, 52, 55, 53, 55, 54, 55, 55, 55, 56, 55, 57, 56, 48, 56, 49, 56, 50, 56, 51, 56, 52, 56, 53, 56, 54, 56, 55, 56, 56, 56, 57, 57, 48, 57, 49, 57, 50, 57, 51, 57, 52, 57, 53, 57, 54, 57, 55, 57, 56, 57, 57])) (.t 49)),
    mo 51 9, ox 52 (.idxStr (.c (.str [48, 48, 48, 49, 48, 50, 48, 51, 48, 52, 48, 53, 48, 54, 48, 55, 48, 56, 48, 57, 49, 48, 49, 49, 49, 50, 49, 51, 49, 52, 49, 53, 49, 54, 49, 55, 49, 56, 49, 57, 50, 48, 50, 49, 50, 50, 50, 51, 50, 52, 50, 53, 50, 54, 50, 55, 50, 56, 50, 57, 51, 48, 51, 49, 51, 50, 51, 51, 51, 52, 51, 53, 51, 54, 51, 55, 51, 56, 51, 57, 52, 48, 52, 49, 52, 50, 52, 51, 52, 52, 52, 53, 52, 54, 52, 55, 52, 56, 52, 57, 53, 48, 53, 49, 53, 50, 53, 51, 53, 52, 53, 53, 53, 54, 53, 55, 53, 56, 53, 57, 54, 48, 54, 49, 54, 50, 54, 51, 54, 52, 54, 53, 54, 54, 54, 55, 54, 56, 54, 57, 55, 48, 55, 49, 55, 50, 55, 51, 55, 52, 55, 53, 55, 54, 55, 55, 55, 56, 55, 57, 56, 48, 56, 49, 56, 50, 56, 51, 56, 52, 56, 53, 56, 54, 56, 55, 56, 56, 56, 57, 57, 48, 57, 49, 57, 50, 57, 51, 57, 52, 57, 53, 57, 54, 57, 55, 57, 56, 57, 57])) (.t 51)),
    ox 53 (.iaddrS 1 (.t 42) (.t 44)), oz (.store 1 (.t 53) (.t 50)), ox 54 (.iaddrS 1 (.t 45) (.t 47)),
    oz (.store 1 (.t 54) (.t 52))]) (.seq (.region (some []) [mo 55 0, mo 56 4,
    ox 57 (.bin .sub (.t 56) (ai 3)), mo 58 0,
    mo 59 4, ox 60 (.bin .sub (.t 59) (ai 4)),
    mo 61 8, ox 62 (.bin .add (.t 61) (.c (.int .u32 1))),
    ox 63 (.idxStr (.c (.str [48, 48, 48, 49, 48, 50, 48, 51, 48, 52, 48, 53, 48, 54, 48, 55, 48, 56, 48, 57, 49, 48, 49, 49, 49, 50, 49, 51, 49, 52, 49, 53, 49, 54, 49, 55, 49, 56, 49, 57, 50, 48, 50, 49, 50, 50, 50, 51, 50, 52, 50, 53, 50, 54, 50, 55, 50, 56, 50, 57, 51, 48, 51, 49, 51, 50, 51, 51, 51, 52, 51, 53, 51, 54, 51, 55, 51, 56, 51, 57, 52, 48, 52, 49, 52, 50, 52, 51, 52, 52, 52, 53, 52, 54, 52, 55, 52, 56, 52, 57, 53, 48, 53, 49, 53, 50, 53, 51, 53, 52, 53, 53, 53, 54, 53, 55, 53, 56, 53, 57, 54, 48, 54, 49, 54, 50, 54, 51, 54, 52, 54, 53, 54, 54, 54, 55, 54, 56, 54, 57, 55, 48, 55, 49, 55, 50, 55, 51, 55, 52, 55, 53, 55, 54, 55, 55, 55, 56, 55, 57, 56, 48, 56, 49, 56, 50, 56, 51, 56, 52, 56, 53, 56, 54, 56, 55, 56, 56, 56, 57, 57, 48, 57, 49, 57, 50, 57, 51, 57, 52, 57, 53, 57, 54, 57, 55, 57, 56, 57, 57])) (.t 62)),
    mo 64 8, ox 65 (.idxStr (.c (.str [48, 48, 48, 49, 48, 50, 48, 51, 48, 52, 48, 53, 48, 54, 48, 55, 48, 56, 48, 57, 49, 48, 49, 49, 49, 50, 49, 51, 49, 52, 49, 53, 49, 54, 49, 55, 49, 56, 49, 57, 50, 48, 50, 49, 50, 50, 50, 51, 50, 52, 50, 53, 50, 54, 50, 55, 50, 56, 50, 57, 51, 48, 51, 49, 51, 50, 51, 51, 51, 52, 51, 53, 51, 54, 51, 55, 51, 56, 51, 57, 52, 48, 52, 49, 52, 50, 52, 51, 52, 52, 52, 53, 52, 54, 52, 55, 52, 56, 52, 57, 53, 48, 53, 49, 53, 50, 53, 51, 53, 52, 53, 53, 53, 54, 53, 55, 53, 56, 53, 57, 54, 48, 54, 49, 54, 50, 54, 51, 54, 52, 54, 53, 54, 54, 54, 55, 54, 56, 54, 57, 55, 48, 55, 49, 55, 50, 55, 51, 55, 52, 55, 53, 55, 54, 55, 55, 55, 56, 55, 57, 56, 48, 56, 49, 56, 50, 56, 51, 56, 52, 56, 53, 56, 54, 56, 55, 56, 56, 56, 57, 57, 48, 57, 49, 57, 50, 57, 51, 57, 52, 57, 53, 57, 54, 57, 55, 57, 56, 57, 57])) (.t 64)),
    ox 66 (.iaddrS 1 (.t 55) (.t 57)), oz (.store 1 (.t 66) (.t 63)), ox 67 (.iaddrS 1 (.t 58) (.t 60)),
    oz (.store 1 (.t 67) (.t 65))]) (.seq (.region (some []) [mo 68 0, mo 69 4,
    ox 70 (.bin .sub (.t 69) (ai 5)), mo 71 0,
    mo 72 4, ox 73 (.bin .sub (.t 72) (ai 6)),
    mo 74 11, ox 75 (.bin .add (.t 74) (.c (.int .u32 1))),
    ox 76 (.idxStr (.c (.str [48, 48, 48, 49, 48, 50, 48, 51, 48, 52, 48, 53, 48, 54, 48, 55, 48, 56, 48, 57, 49, 48, 49, 49, 49, 50, 49, 51, 49, 52, 49, 53, 49, 54, 49, 55, 49, 56, 49, 57, 50, 48, 50, 49, 50, 50, 50, 51, 50, 52, 50, 53, 50, 54, 50, 55, 50, 56, 50, 57, 51, 48, 51, 49, 51, 50, 51, 51, 51, 52, 51, 53, 51, 54, 51, 55, 51, 56, 51, 57, 52, 48, 52, 49, 52, 50, 52, 51, 52, 52, 52, 53, 52, 54, 52, 55, 52, 56, 52, 57, 53, 48, 53, 49, 53, 50, 53, 51, 53, 52, 53, 53, 53, 54, 53, 55, 53, 56, 53, 57, 54, 48, 54, 49, 54, 50, 54, 51, 54, 52, 54, 53, 54, 54, 54, 55, 54, 56, 54, 57, 55, 48, 55, 49, 55, 50, 55, 51, 55, 52, 55, 53, 55, 54, 55, 55, 55, 56, 55, 57, 56, 48, 56, 49, 56, 50, 56, 51, 56, 52, 56, 53, 56, 54, 56, 55, 56, 56, 56, 57, 57, 48, 57, 49, 57, 50, 57, 51, 57, 52, 57, 53, 57, 54, 57, 55, 57, 56, 57, 57])) (.t 75)),
    mo 77 11, ox 78 (.idxStr (.c (.str [48, 48, 48, 49, 48, 50, 48, 51, 48, 52, 48, 53, 48, 54, 48, 55, 48, 56, 48, 57, 49, 48, 49, 49, 49, 50, 49, 51, 49, 52, 49, 53, 49, 54, 49, 55, 49, 56, 49, 57, 50, 48, 50, 49, 50, 50, 50, 51, 50, 52, 50, 53, 50, 54, 50, 55, 50, 56, 50, 57, 51, 48, 51, 49, 51, 50, 51, 51, 51, 52, 51, 53, 51, 54, 51, 55, 51, 56, 51, 57, 52, 48, 52, 49, 52, 50, 52, 51, 52, 52, 52, 53, 52, 54, 52, 55, 52, 56, 52, 57, 53, 48, 53, 49, 53, 50, 53, 51, 53, 52, 53, 53, 53, 54, 53, 55, 53, 56, 53, 57, 54, 48, 54, 49, 54, 50, 54, 51, 54, 52, 54, 53, 54, 54, 54, 55, 54, 56, 54, 57, 55, 48, 55, 49, 55, 50, 55, 51, 55, 52, 55, 53, 55, 54, 55, 55, 55, 56, 55, 57, 56, 48, 56, 49, 56, 50, 56, 51, 56, 52, 56, 53, 56, 54, 56, 55, 56, 56, 56, 57, 57, 48, 57, 49, 57, 50, 57, 51, 57, 52, 57, 53, 57, 54, 57, 55, 57, 56, 57, 57])) (.t 77)),
    ox 79 (.iaddrS 1 (.t 68) (.t 70)), oz (.store 1 (.t 79) (.t 76)), ox 80 (.iaddrS 1 (.t 71) (.t 73)),
    oz (.store 1 (.t 80) (.t 78))]) (.seq (.region (some []) [mo 81 0, mo 82 4,
    ox 83 (.bin .sub (.t 82) (ai 7)), mo 84 0,
    mo 85 4, ox 86 (.bin .sub (.t 85) (ai 8)),
    mo 87 10, ox 88 (.bin .add (.t 87) (.c (.int .u32 1))),
    ox 89 (.idxStr (.c (.str [48, 48, 48, 49, 48, 50, 48, 51, 48, 52, 48, 53, 48, 54, 48, 55, 48, 56, 48, 57, 49, 48, 49, 49, 49, 50, 49, 51, 49, 52, 49, 53, 49, 54, 49, 55, 49, 56, 49, 57, 50, 48, 50, 49, 50, 50, 50, 51, 50, 52, 50, 53, 50, 54, 50, 55, 50, 56, 50, 57, 51, 48, 51, 49, 51, 50, 51, 51, 51, 52, 51, 53, 51, 54, 51, 55, 51, 56, 51, 57, 52, 48, 52, 49, 52, 50, 52, 51, 52, 52, 52, 53, 52, 54, 52, 55, 52, 56, 52, 57, 53, 48, 53, 49, 53, 50, 53, 51, 53, 52, 53, 53, 53, 54, 53, 55, 53, 56, 53, 57, 54, 48, 54, 49, 54, 50, 54, 51, 54, 52, 54, 53, 54, 54, 54, 55, 54, 56, 54, 57, 55, 48, 55, 49, 55, 50, 55, 51, 55, 52, 55, 53, 55, 54, 55, 55, 55, 56, 55, 57, 56, 48, 56, 49, 56, 50, 56, 51, 56, 52, 56, 53, 56, 54, 56, 55, 56, 56, 56, 57, 57, 48, 57, 49, 57, 50, 57, 51, 57, 52, 57, 53, 57, 54, 57, 55, 57, 56, 57, 57])) (.t 88)),
    mo 90 10, ox 91 (.idxStr (.c (.str [48, 48, 48, 49, 48, 50, 48, 51, 48, 52, 48, 53, 48, 54, 48, 55, 48, 56, 48, 57, 49, 48, 49, 49, 49, 50, 49, 51, 49, 52, 49, 53, 49, 54, 49, 55, 49, 56, 49, 57, 50, 48, 50, 49, 50, 50, 50, 51, 50, 52, 50, 53, 50, 54, 50, 55, 50, 56, 50, 57, 51, 48, 51, 49, 51, 50, 51, 51, 51, 52, 51, 53, 51, 54, 51, 55, 51, 56, 51, 57, 52, 48, 52, 49, 52, 50, 52, 51, 52, 52, 52, 53, 52, 54, 52, 55, 52, 56, 52, 57, 53, 48, 53, 49, 53, 50, 53, 51, 53, 52, 53, 53, 53, 54, 53, 55, 53, 56, 53, 57, 54, 48, 54, 49, 54, 50, 54, 51, 54, 52, 54, 53, 54, 54, 54, 55, 54, 56, 54, 57, 55, 48, 55, 49, 55, 50, 55, 51, 55, 52, 55, 53, 55, 54, 55, 55, 55, 56, 55, 57, 56, 48, 56, 49, 56, 50, 56, 51, 56, 52, 56, 53, 56, 54, 56, 55, 56, 56, 56, 57, 57, 48, 57, 49, 57, 50, 57, 51, 57, 52, 57, 53, 57, 54, 57, 55, 57, 56, 57, 57])) (.t 90)),
    ox 92 (.iaddrS 1 (.t 81) (.t 83)), oz (.store 1 (.t 92) (.t 89)), ox 93 (.iaddrS 1 (.t 84) (.t 86)),
    oz (.store 1 (.t 93) (.t 91))]) (.region none [mo 94 4, ox 95 (.bin .sub (.t 94) (ai 8)),
    mo 4 95])))))))))))
def strconv_formatBase10_s1 : ACode :=
  .block 0 (.loop strconv_formatBase10_l0)
def strconv_formatBase10_t2 : ACode :=
  .seq strconv_formatBase10_s1 (.seq (.region none [mo 96 1, ox 97 (.convI .u32 (.t 96)),
    mo 12 97]) (.seq (.seq (.region none [mo 98 4, ox 99 (.bin .geq (.t 98) (ai 4))])
    (.cond (.t 99) (.seq (.region none [mo 100 12, ox 101 (.bin .rem (.t 100) (.c (.int .u32 10000))),
    mo 13 101]) (.seq (.region none [mo 102 12, ox 103 (.bin .quo (.t 102) (.c (.int .u32 10000))),
    mo 12 103]) (.seq (.region none [mo 104 13, ox 105 (.bin .quo (.t 104) (.c (.int .u32 100))),
    ox 106 (.bin .mul (.t 105) (.c (.int .u32 2))), mo 107 13,
    ox 108 (.bin .rem (.t 107) (.c (.int .u32 100))), ox 109 (.bin .mul (.t 108) (.c (.int .u32 2))),
    mo 14 106, mo 15 109]) (.seq (.region (some []) [mo 110 0,
    mo 111 4, ox 112 (.bin .sub (.t 111) (ai 1)),
    mo 113 0, mo 114 4, ox 115 (.bin .sub (.t 114) (ai 2)),
    mo 116 15, ox 117 (.bin .add (.t 116) (.c (.int .u32 1))),
    ox 118 (.idxStr (.c (.str [48, 48, 48, 49, 48, 50, 48, 51, 48, 52, 48, 53, 48, 54, 48, 55, 48, 56, 48, 57, 49, 48, 49, 49, 49, 50, 49, 51, 49, 52, 49, 53, 49, 54, 49, 55, 49, 56, 49, 57, 50, 48, 50, 49, 50, 50, 50, 51, 50, 52, 50, 53, 50, 54, 50, 55, 50, 56, 50, 57, 51, 48, 51, 49, 51, 50, 51, 51, 51, 52, 51, 53, 51, 54, 51, 55, 51, 56, 51, 57, 52, 48, 52, 49, 52, 50, 52, 51, 52, 52, 52, 53, 52, 54, 52, 55, 52, 56, 52, 57, 53, 48, 53, 49, 53, 50, 53, 51, 53, 52, 53, 53, 53, 54, 53, 55, 53, 56, 53, 57, 54, 48, 54, 49, 54, 50, 54, 51, 54, 52, 54, 53, 54, 54, 54, 55, 54, 56, 54, 57, 55, 48, 55, 49, 55, 50, 55, 51, 55, 52, 55, 53, 55, 54, 55, 55, 55, 56, 55, 57, 56, 48, 56, 49, 56, 50, 56, 51, 56, 52, 56, 53, 56, 54, 56, 55, 56, 56, 56, 57, 57, 48, 57, 49, 57, 50, 57, 51, 57, 52, 57, 53, 57, 54, 57, 55, 57, 56, 57, 57])) (.t 117)),
    mo 119 15, ox 120 (.idxStr (.c (.str [48, 48, 48, 49, 48, 50, 48, 51, 48, 52, 48, 53, 48, 54, 48, 55, 48, 56, 48, 57, 49, 48, 49, 49, 49, 50, 49, 51, 49, 52, 49, 53, 49, 54, 49, 55, 49, 56, 49, 57, 50, 48, 50, 49, 50, 50, 50, 51, 50, 52, 50, 53, 50, 54, 50, 55, 50, 56, 50, 57, 51, 48, 51, 49, 51, 50, 51, 51, 51, 52, 51, 53, 51, 54, 51, 55, 51, 56, 51, 57, 52, 48, 52, 49, 52, 50, 52, 51, 52, 52, 52, 53, 52, 54, 52, 55, 52, 56, 52, 57, 53, 48, 53, 49, 53, 50, 53, 51, 53, 52, 53, 53, 53, 54, 53, 55, 53, 56, 53, 57, 54, 48, 54, 49, 54, 50, 54, 51, 54, 52, 54, 53, 54, 54, 54, 55, 54, 56, 54, 57, 55, 48, 55, 49, 55, 50, 55, 51, 55, 52, 55, 53, 55, 54, 55, 55, 55, 56, 55, 57, 56, 48, 56, 49, 56, 50, 56, 51, 56, 52, 56, 53, 56, 54, 56, 55, 56, 56, 56, 57, 57, 48, 57, 49, 57, 50, 57, 51, 57, 52, 57, 53, 57, 54, 57, 55, 57, 56, 57, 57])) (.t 119)),
    ox 121 (.iaddrS 1 (.t 110) (.t 112)), oz (.store 1 (.t 121) (.t 118)), ox 122 (.iaddrS 1 (.t 113) (.t 115)),
    oz (.store 1 (.t 122) (.t 120))]) (.seq (.region (some []) [mo 123 0,
    mo 124 4, ox 125 (.bin .sub (.t 124) (ai 3)),
    mo 126 0, mo 127 4, ox 128 (.bin .sub (.t 127) (ai 4)),
    mo 129 14, ox 130 (.bin .add (.t 129) (.c (.int .u32 1))),
    ox 131 (.idxStr (.c (.str [48, 48, 48, 49, 48, 50, 48, 51, 48, 52, 48, 53, 48, 54, 48, 55, 48, 56, 48, 57, 49, 48, 49, 49, 49, 50, 49, 51, 49, 52, 49, 53, 49, 54, 49, 55, 49, 56, 49, 57, 50, 48, 50, 49, 50, 50, 50, 51, 50, 52, 50, 53, 50, 54, 50, 55, 50, 56, 50, 57, 51, 48, 51, 49, 51, 50, 51, 51, 51, 52, 51, 53, 51, 54, 51, 55, 51, 56, 51, 57, 52, 48, 52, 49, 52, 50, 52, 51, 52, 52, 52, 53, 52, 54, 52, 55, 52, 56, 52, 57, 53, 48, 53, 49, 53, 50, 53, 51, 53, 52, 53, 53, 53, 54, 53, 55, 53, 56, 53, 57, 54, 48, 54, 49, 54, 50, 54, 51, 54, 52, 54, 53, 54, 54, 54, 55, 54, 56, 54, 57, 55, 48, 55, 49, 55, 50, 55, 51, 55, 52, 55, 53, 55, 54, 55, 55, 55, 56, 55, 57, 56, 48, 56, 49, 56, 50, 56, 51, 56, 52, 56, 53, 56, 54, 56, 55, 56, 56, 56, 57, 57, 48, 57, 49, 57, 50, 57, 51, 57, 52, 57, 53, 57, 54, 57, 55, 57, 56, 57, 57])) (.t 130)),
    mo 132 14, ox 133 (.idxStr (.c (.str [48, 48, 48, 49, 48, 50, 48, 51, 48, 52, 48, 53, 48, 54, 48, 55, 48, 56, 48, 57, 49, 48, 49, 49, 49, 50, 49, 51, 49, 52, 49, 53, 49, 54, 49, 55, 49, 56, 49, 57, 50, 48, 50, 49, 50, 50, 50, 51, 50, 52, 50, 53, 50, 54, 50, 55, 50, 56, 50, 57, 51, 48, 51, 49, 51, 50, 51, 51, 51, 52, 51, 53, 51, 54, 51, 55, 51, 56, 51, 57, 52, 48, 52, 49, 52, 50, 52, 51, 52, 52, 52, 53, 52, 54, 52, 55, 52, 56, 52, 57, 53, 48, 53, 49, 53, 50, 53, 51, 53, 52, 53, 53, 53, 54, 53, 55, 53, 56, 53, 57, 54, 48, 54, 49, 54, 50, 54, 51, 54, 52, 54, 53, 54, 54, 54, 55, 54, 56, 54, 57, 55, 48, 55, 49, 55, 50, 55, 51, 55, 52, 55, 53, 55, 54, 55, 55, 55, 56, 55, 57, 56, 48, 56, 49, 56, 50, 56, 51, 56, 52, 56, 53, 56, 54, 56, 55, 56, 56, 56, 57, 57, 48, 57, 49, 57, 50, 57, 51, 57, 52, 57, 53, 57, 54, 57, 55, 57, 56, 57, 57])) (.t 132)),
    ox 134 (.iaddrS 1 (.t 123) (.t 125)), oz (.store 1 (.t 134) (.t 131)), ox 135 (.iaddrS 1 (.t 126) (.t 128)),
    oz (.store 1 (.t 135) (.t 133))]) (.region none [mo 136 4, ox 137 (.bin .sub (.t 136) (ai 4)),
    mo 4 137])))))) .skip)) (.seq (.seq (.region none [mo 138 4,
    ox 139 (.bin .geq (.t 138) (ai 2))]) (.cond (.t 139) (.seq (.region none [mo 140 12,
    ox 141 (.bin .rem (.t 140) (.c (.int .u32 100))), ox 142 (.bin .mul (.t 141) (.c (.int .u32 2))),
    mo 16 142]) (.seq (.region none [mo 143 12, ox 144 (.bin .quo (.t 143) (.c (.int .u32 100))),
    mo 12 144]) (.seq (.region (some []) [mo 145 0, mo 146 4,
    ox 147 (.bin .sub (.t 146) (ai 1)), mo 148 0,
    mo 149 4, ox 150 (.bin .sub (.t 149) (ai 2)),
    mo 151 16, ox 152 (.bin .add (.t 151) (.c (.int .u32 1))),
    ox 153 (.idxStr (.c (.str [48, 48, 48, 49, 48, 50, 48, 51, 48, 52, 48, 53, 48, 54, 48, 55, 48, 56, 48, 57, 49, 48, 49, 49, 49, 50, 49, 51, 49, 52, 49, 53, 49, 54, 49, 55, 49, 56, 49, 57, 50, 48, 50, 49, 50, 50, 50, 51, 50, 52, 50, 53, 50, 54, 50, 55, 50, 56, 50, 57, 51, 48, 51, 49, 51, 50, 51, 51, 51, 52, 51, 53, 51, 54, 51, 55, 51, 56, 51, 57, 52, 48, 52, 49, 52, 50, 52, 51, 52, 52, 52, 53, 52, 54, 52, 55, 52, 56, 52, 57, 53, 48, 53, 49, 53, 50, 53, 51, 53, 52, 53, 53, 53, 54, 53, 55, 53, 56, 53, 57, 54, 48, 54, 49, 54, 50, 54, 51, 54, 52, 54, 53, 54, 54, 54, 55, 54, 56, 54, 57, 55, 48, 55, 49, 55, 50, 55, 51, 55, 52, 55, 53, 55, 54, 55, 55, 55, 56, 55, 57, 56, 48, 56, 49, 56, 50, 56, 51, 56, 52, 56, 53, 56, 54, 56, 55, 56, 56, 56, 57, 57, 48, 57, 49, 57, 50, 57, 51, 57, 52, 57, 53, 57, 54, 57, 55, 57, 56, 57, 57])) (.t 152)),
    mo 154 16, ox 155 (.idxStr (.c (.str [48, 48, 48, 49, 48, 50, 48, 51, 48, 52, 48, 53, 48, 54, 48, 55, 48, 56, 48, 57, 49, 48, 49, 49, 49, 50, 49, 51, 49, 52, 49, 53, 49, 54, 49, 55, 49, 56, 49, 57, 50, 48, 50, 49, 50, 50, 50, 51, 50, 52, 50, 53, 50, 54, 50, 55, 50, 56, 50, 57, 51, 48, 51, 49, 51, 50, 51, 51, 51, 52, 51, 53, 51, 54, 51, 55, 51, 56, 51, 57, 52, 48, 52, 49, 52, 50, 52, 51, 52, 52, 52, 53, 52, 54, 52, 55, 52, 56, 52, 57, 53, 48, 53, 49, 53, 50, 53, 51, 53, 52, 53, 53, 53, 54, 53, 55, 53, 56, 53, 57, 54, 48, 54, 49, 54, 50, 54, 51, 54, 52, 54, 53, 54, 54, 54, 55, 54, 56, 54, 57, 55, 48, 55, 49, 55, 50, 55, 51, 55, 52, 55, 53, 55, 54, 55, 55, 55, 56, 55, 57, 56, 48, 56, 49, 56, 50, 56, 51, 56, 52, 56, 53, 56, 54, 56, 55, 56, 56, 56, 57, 57, 48, 57, 49, 57, 50, 57, 51, 57, 52, 57, 53, 57, 54, 57, 55, 57, 56, 57, 57])) (.t 154)),
    ox 156 (.iaddrS 1 (.t 145) (.t 147)), oz (.store 1 (.t 156) (.t 153)), ox 157 (.iaddrS 1 (.t 148) (.t 150)),
    oz (.store 1 (.t 157) (.t 155))]) (.region none [mo 158 4, ox 159 (.bin .sub (.t 158) (ai 2)),
    mo 4 159])))) .skip)) (.seq (.region none [mo 160 4, ox 161 (.bin .gtr (.t 160) (ai 0))])
    (.cond (.t 161) (.region none [mo 162 0, mo 163 12, ox 164 (.bin .add (.c (.int .u32 48)) (.t 163)),
    ox 165 (.convI .u8 (.t 164)), ox 166 (.iaddrS 1 (.t 162) (ai 0)),
    oz (.store 1 (.t 166) (.t 165))]) .skip)))))
def strconv_formatBase10 : AFun :=
  ⟨2, [], (.seq (.region none [mo 17 0, ox 18 (.len .sl (.t 17)), mo 4 18])
    strconv_formatBase10_t2), false⟩

def strconv_isPowerOfTwo : AFun :=
  ⟨1, [.inl 2], (.seq (.region none [ox 2 (.mv (.c (.bool false)))]) (.seq (.region none [mo 3 0,
    mo 4 0, ox 5 (.bin .sub (.t 4) (ai 1)),
    ox 6 (.bin .and (.t 3) (.t 5)), ox 7 (.bin .eql (.t 6) (ai 0)),
    mo 2 7]) .ret)), false⟩

def bits_TrailingZeros32 : AFun :=
  ⟨1, [.inl 2], (.seq (.region none [ox 2 (.mv (ai 0))]) (.seq (.seq (.region none [mo 3 0,
    ox 4 (.bin .eql (.t 3) (.c (.int .u32 0)))]) (.cond (.t 4) (.seq (.region none [ox 2 (.mv (ai 32))])
    .ret) .skip)) (.seq (.region none [mo 5 0, mo 6 0,
    ox 7 (.un .neg (.t 6)), ox 8 (.bin .and (.t 5) (.t 7)), ox 9 (.bin .mul (.t 8) (.c (.int .u32 125613361))),
    ox 10 (.bin .shr (.t 9) (.c (.int .u64 27))), { dst := some 11, op := .inl .stop, guard := none }, ox 12 (.load none (.t 11)),
    ox 13 (.convI .i64 (.t 12)), mo 2 13]) .ret))), false⟩

def bits_TrailingZeros64 : AFun :=
  ⟨1, [.inl 2], (.seq (.region none [ox 2 (.mv (ai 0))]) (.seq (.seq (.region none [mo 3 0,
    ox 4 (.bin .eql (.t 3) (.c (.int .u64 0)))]) (.cond (.t 4) (.seq (.region none [ox 2 (.mv (ai 64))])
    .ret) .skip)) (.seq (.region none [mo 5 0, mo 6 0,
    ox 7 (.un .neg (.t 6)), ox 8 (.bin .and (.t 5) (.t 7)), ox 9 (.bin .mul (.t 8) (.c (.int .u64 285870213051353865))),
    ox 10 (.bin .shr (.t 9) (.c (.int .u64 58))), { dst := some 11, op := .inl .stop, guard := none }, ox 12 (.load none (.t 11)),
    ox 13 (.convI .i64 (.t 12)), mo 2 13]) .ret))), false⟩

def bits_TrailingZeros : AFun :=
  ⟨1, [.inl 2], (.seq (.region none [ox 2 (.mv (ai 0))]) (.seq (.cond (.c (.bool false)) (.seq (.region none [mo 3 0,
    ox 4 (.convI .u32 (.t 3)), kx 5 (.k 0 [.t 4]), mo 2 5])
    .ret) .skip) (.seq (.region none [mo 6 0, kx 7 (.k 1 [.t 6]),
    mo 2 7]) .ret))), false⟩

def strconv_formatBits_l0 : ACode :=
  .seq (.seq (.region none [mo 44 1, mo 45 15, ox 46 (.bin .geq (.t 44) (.t 45))])
    (.cond (.t 46) .skip (.exit 0))) (.block 1 (.seq (.region none [mo 47 13, ox 48 (.bin .sub (.t 47) (ai 1)),
    mo 13 48]) (.seq (.region none [mo 49 13, mo 50 1,
    mo 51 16, ox 52 (.bin .and (.t 50) (.t 51)), ox 53 (.idxStr (.c (.str [48, 49, 50, 51, 52, 53, 54, 55, 56, 57, 97, 98, 99, 100, 101, 102, 103, 104, 105, 106, 107, 108, 109, 110, 111, 112, 113, 114, 115, 116, 117, 118, 119, 120, 121, 122])) (.t 52)),
    ox 54 (.iaddrA 1 65 (.t 12) (.t 49)), oz (.store 1 (.t 54) (.t 53))])
    (.region none [mo 55 1, mo 56 14, ox 57 (.bin .shr (.t 55) (.t 56)),
    mo 1 57]))))
def strconv_formatBits_s1 : ACode :=
  .block 0 (.loop strconv_formatBits_l0)
def strconv_formatBits_t2 : ACode :=
  .seq strconv_formatBits_s1 (.seq (.region none [mo 58 13, ox 59 (.bin .sub (.t 58) (ai 1)),
    mo 13 59]) (.region none [mo 60 13, mo 61 1,
    ox 62 (.idxStr (.c (.str [48, 49, 50, 51, 52, 53, 54, 55, 56, 57, 97, 98, 99, 100, 101, 102, 103, 104, 105, 106, 107, 108, 109, 110, 111, 112, 113, 114, 115, 116, 117, 118, 119, 120, 121, 122])) (.t 61)),
    ox 63 (.iaddrA 1 65 (.t 12) (.t 60)), oz (.store 1 (.t 63) (.t 62))]))
def strconv_formatBits_c3 : ACode :=
  .seq (.region none [mo 35 2, ox 36 (.convI .u64 (.t 35)), kx 37 (.k 1 [.t 36]),
    ox 38 (.convI .u64 (.t 37)), mo 14 38]) (.seq (.region none [mo 39 2,
    ox 40 (.convI .u64 (.t 39)), mo 15 40]) (.seq (.region none [mo 41 2,
    ox 42 (.convI .u64 (.t 41)), ox 43 (.bin .sub (.t 42) (.c (.int .u64 1))),
    mo 16 43]) strconv_formatBits_t2))
def strconv_formatBits_l4 : ACode :=
  .seq (.seq (.region none [mo 66 1, mo 67 17, ox 68 (.bin .geq (.t 66) (.t 67))])
    (.cond (.t 68) .skip (.exit 2))) (.block 3 (.seq (.region none [mo 69 13, ox 70 (.bin .sub (.t 69) (ai 1)),
    mo 13 70]) (.seq (.region none [mo 71 1, mo 72 17,
    ox 73 (.bin .quo (.t 71) (.t 72)), mo 18 73]) (.seq (.region
    none [mo 74 13, mo 75 1, mo 76 18,
    mo 77 17, ox 78 (.bin .mul (.t 76) (.t 77)), ox 79 (.bin .sub (.t 75) (.t 78)),
    ox 80 (.idxStr (.c (.str [48, 49, 50, 51, 52, 53, 54, 55, 56, 57, 97, 98, 99, 100, 101, 102, 103, 104, 105, 106, 107, 108, 109, 110, 111, 112, 113, 114, 115, 116, 117, 118, 119, 120, 121, 122])) (.t 79)),
    ox 81 (.iaddrA 1 65 (.t 12) (.t 74)), oz (.store 1 (.t 81) (.t 80))])
    (.region none [mo 82 18, mo 1 82])))))
def strconv_formatBits_s5 : ACode :=
  .block 2 (.loop strconv_formatBits_l4)
def strconv_formatBits_t6 : ACode :=
  .seq strconv_formatBits_s5 (.seq (.region none [mo 83 13, ox 84 (.bin .sub (.t 83) (ai 1)),
    mo 13 84]) (.region none [mo 85 13, mo 86 1,
    ox 87 (.idxStr (.c (.str [48, 49, 50, 51, 52, 53, 54, 55, 56, 57, 97, 98, 99, 100, 101, 102, 103, 104, 105, 106, 107, 108, 109, 110, 111, 112, 113, 114, 115, 116, 117, 118, 119, 120, 121, 122])) (.t 86)),
    ox 88 (.iaddrA 1 65 (.t 12) (.t 85)), oz (.store 1 (.t 88) (.t 87))]))
def strconv_formatBits_c7 : ACode :=
  .seq (.region none [mo 64 2, ox 65 (.convI .u64 (.t 64)), mo 17 65])
    strconv_formatBits_t6
def strconv_formatBits_t8 : ACode :=
  .seq (.seq (.region none [mo 33 2, kx 34 (.k 0 [.t 33])]) (.cond
    (.t 34) strconv_formatBits_c3 strconv_formatBits_c7)) (.seq (.seq (.region none [mo 89 3]) (.cond (.t 89) (.seq
    (.region none [mo 90 13, ox 91 (.bin .sub (.t 90) (ai 1)),
    mo 13 91]) (.region none [mo 92 13, ox 93 (.iaddrA 1 65 (.t 12) (.t 92)),
    oz (.store 1 (.t 93) (.c (.int .u8 45)))])) .skip)) (.seq (.seq (.region none [mo 94 4])
    (.cond (.t 94) (.seq (.region none [mo 95 0, mo 96 13, ox 97 (.slcA 1 65 (.t 12) (some (.t 96)) none),
    ox 98 (.append 1 1 (.t 95) (.t 97)), mo 10 98]) .ret)
    .skip)) (.seq (.region none [mo 99 13, ox 100 (.slcA 1 65 (.t 12) (some (.t 99)) none),
    ox 101 (.convBS (.t 100)), mo 11 101]) .ret)))
def strconv_formatBits : AFun :=
  ⟨5, [.inl 10, .inl 11], (.seq (.region none [ox 10 (.mv (.c .nils)), ox 11 (.mv (.c (.str [])))])
    (.seq (.seq (.region none [mo 19 2, ox 20 (.bin .lss (.t 19) (ai 2)),
    mo 21 20, og 21 false 22 (.mv (.t 2)), og 21 false 23 (.bin .eql (.t 22) (ai 10)),
    ox 24 (.pick (.t 21) (.c (.bool true)) (.t 23)), mo 25 24, og 25 false 26 (.mv (.t 2)),
    og 25 false 27 (.bin .gtr (.t 26) (ai 36)), ox 28 (.pick (.t 25) (.c (.bool true)) (.t 27))])
    (.cond (.t 28) (.region none [ox 29 (.mkif 9 (.c (.str [115, 116, 114, 99, 111, 110, 118, 58, 32, 105, 108, 108, 101, 103, 97, 108, 32, 65, 112, 112, 101, 110, 100, 73, 110, 116, 47, 70, 111, 114, 109, 97, 116, 73, 110, 116, 32, 98, 97, 115, 101]))),
    { dst := none, op := .inl .stop, guard := none }]) .skip)) (.seq (.region none [ox 12 (.alloc (rp [(65, .int .u8 0)]))])
    (.seq (.region none [ox 13 (.mv (ai 65))]) (.seq (.seq (.region none [mo 30 3])
    (.cond (.t 30) (.region none [mo 31 1, ox 32 (.un .neg (.t 31)),
    mo 1 32]) .skip)) strconv_formatBits_t8))))), false⟩

def strconv_FormatInt : AFun :=
  ⟨2, [.inl 4], (.seq (.region none [ox 4 (.mv (.c (.str [])))]) (.seq (.seq (.region none [mo 10 1,
    ox 11 (.bin .eql (.t 10) (ai 10))]) (.cond (.t 11) (.seq (.seq (.region none [mo 12 0,
    ox 13 (.bin .leq (ai 0) (.t 12)), mo 14 13,
    og 14 true 15 (.mv (.t 0)), og 14 true 16 (.bin .lss (.t 15) (ai 100)),
    ox 17 (.pick (.t 14) (.t 16) (.c (.bool false)))]) (.cond (.t 17) (.seq (.region none [mo 18 0,
    kx 19 (.k 0 [.t 18]), mo 4 19]) .ret) .skip)) (.seq
    (.region none [ox 5 (.alloc (rp [(24, .int .u8 0)]))])
    (.seq (.region none [mo 20 0, ox 21 (.convI .u64 (.t 20)), mo 6 21])
    (.seq (.seq (.region none [mo 22 0, ox 23 (.bin .lss (.t 22) (ai 0))])
    (.cond (.t 23) (.region none [mo 24 6, ox 25 (.un .neg (.t 24)),
    mo 6 25]) .skip)) (.seq (.region none [mo 26 6, kx 27 (.k 1 [.t 26]),
    mo 7 27]) (.seq (.region none [mo 28 7, ox 29 (.bin .add (ai 1) (.t 28)),
    ox 30 (.slcA 1 24 (.t 5) (some (ai 1)) (some (.t 29))), mo 31 6,
    kx 32 (.k 2 [.t 30, .t 31])]) (.seq (.seq (.region none [mo 33 0,
    ox 34 (.bin .lss (.t 33) (ai 0))]) (.cond (.t 34) (.seq (.region none [ox 35 (.iaddrA 1 24 (.t 5) (ai 0)),
    oz (.store 1 (.t 35) (.c (.int .u8 45)))]) (.seq (.region none [mo 36 7,
    ox 37 (.bin .add (ai 1) (.t 36)), ox 38 (.slcA 1 24 (.t 5) none (some (.t 37))),
    ox 39 (.convBS (.t 38)), mo 4 39]) .ret)) .skip)) (.seq
    (.region none [mo 40 7, ox 41 (.bin .add (ai 1) (.t 40)),
    ox 42 (.slcA 1 24 (.t 5) (some (ai 1)) (some (.t 41))), ox 43 (.convBS (.t 42)),
    mo 4 43]) .ret)))))))) .skip)) (.seq (.region none [mo 45 0,
    ox 46 (.convI .u64 (.t 45)), mo 47 1, mo 48 0,
    ox 49 (.bin .lss (.t 48) (ai 0)), kx 50 (.k 3 [.c .nils, .t 46, .t 47, .t 49, .c (.bool false)]),
    mo 44 50, ox 51 (.ext 0 (.t 44)), ox 52 (.ext 1 (.t 44)),
    mo 8 51, mo 9 52]) (.seq (.region none [mo 53 9,
    mo 4 53]) .ret)))), false⟩

def strconv_Itoa : AFun :=
  ⟨1, [.inl 2], (.seq (.region none [ox 2 (.mv (.c (.str [])))]) (.seq (.region none [mo 3 0,
    kx 4 (.k 0 [.t 3, .c (.int .i64 10)]), mo 2 4])
    .ret)), false⟩

def strconv_Itoa2 : AFun :=
  ⟨1, [.inl 2], (.seq (.region none [ox 2 (.mv (.c (.str [])))]) (.seq (.region none [mo 3 0,
    kx 4 (.k 0 [.t 3]), mo 2 4]) .ret)), false⟩

def errors_New : AFun :=
  ⟨1, [.inl 2], (.seq (.region none [ox 2 (.mv (.c .nili))]) (.seq (.region none [mo 3 0,
    ox 4 (.build [.str []] [(0, 1, .t 3)]), ox 5 (.box (.t 4)), ox 6 (.mkif 138 (.t 5)),
    mo 2 6]) .ret)), false⟩

def strconv_baseError : AFun :=
  ⟨3, [.inl 6], (.seq (.region none [ox 6 (.mv (.c .nilp))]) (.seq (.region none [mo 7 0,
    mo 8 1, kx 9 (.k 0 [.t 8]), mo 10 2,
    kx 11 (.k 1 [.t 10]), ox 12 (.bin .add (.c (.str [105, 110, 118, 97, 108, 105, 100, 32, 98, 97, 115, 101, 32])) (.t 11)),
    kx 13 (.k 2 [.t 12]), ox 14 (.build [.str [], .str [], .nili] [(0, 1, .t 7), (1, 1, .t 9), (2, 1, .t 13)]),
    ox 15 (.box (.t 14)), mo 6 15]) .ret)), false⟩

def strconv_bitSizeError : AFun :=
  ⟨3, [.inl 6], (.seq (.region none [ox 6 (.mv (.c .nilp))]) (.seq (.region none [mo 7 0,
    mo 8 1, kx 9 (.k 0 [.t 8]), mo 10 2,
    kx 11 (.k 1 [.t 10]), ox 12 (.bin .add (.c (.str [105, 110, 118, 97, 108, 105, 100, 32, 98, 105, 116, 32, 115, 105, 122, 101, 32])) (.t 11)),
    kx 13 (.k 2 [.t 12]), ox 14 (.build [.str [], .str [], .nili] [(0, 1, .t 7), (1, 1, .t 9), (2, 1, .t 13)]),
    ox 15 (.box (.t 14)), mo 6 15]) .ret)), false⟩

def strconv_toError : AFun :=
  ⟨5, [.inl 10], (.seq (.region none [ox 10 (.mv (.c .nili))]) (.seq (.seq (.region none [mo 11 4])
    (.block 0 (.seq (.region none [ox 13 (.mkif 102 (ai 2)), ox 14 (.eqI false (.t 11) (.t 13)),
    mo 12 14]) (.cond (.t 12) (.seq (.region none [mo 15 0, mo 16 1,
    kx 17 (.k 0 [.t 15, .t 16]), ox 18 (.mkif 105 (.t 17)), mo 10 18])
    .ret) (.seq (.region none [ox 20 (.mkif 102 (ai 1)), ox 21 (.eqI false (.t 11) (.t 20)),
    mo 19 21]) (.cond (.t 19) (.seq (.region none [mo 22 0, mo 23 1,
    kx 24 (.k 1 [.t 22, .t 23]), ox 25 (.mkif 105 (.t 24)), mo 10 25])
    .ret) (.seq (.region none [ox 27 (.mkif 102 (ai 3)), ox 28 (.eqI false (.t 11) (.t 27)),
    mo 26 28]) (.cond (.t 26) (.seq (.region none [mo 29 0, mo 30 1,
    mo 31 2, kx 32 (.k 2 [.t 29, .t 30, .t 31]), ox 33 (.mkif 105 (.t 32)),
    mo 10 33]) .ret) (.seq (.region none [ox 35 (.mkif 102 (ai 4)),
    ox 36 (.eqI false (.t 11) (.t 35)), mo 34 36]) (.cond (.t 34)
    (.seq (.region none [mo 37 0, mo 38 1, mo 39 3,
    kx 40 (.k 3 [.t 37, .t 38, .t 39]), ox 41 (.mkif 105 (.t 40)), mo 10 41])
    .ret) .skip)))))))))) (.seq (.region none [mo 42 4, mo 10 42])
    .ret))), false⟩

def strconv_Atoi2 : AFun :=
  ⟨1, [.inl 2, .inl 3], (.seq (.region none [ox 2 (.mv (ai 0)), ox 3 (.mv (.c .nili))])
    (.seq (.region none [mo 7 0, kx 8 (.k 0 [.t 7]), mo 6 8,
    ox 9 (.ext 0 (.t 6)), ox 10 (.ext 1 (.t 6)), mo 4 9,
    mo 5 10]) (.seq (.seq (.region none [mo 11 5, ox 12 (.eq true .ifc (.t 11) (.c .nili))])
    (.cond (.t 12) (.seq (.region none [mo 13 4, mo 14 0, mo 15 5,
    kx 16 (.k 1 [.c (.str [65, 116, 111, 105]), .t 14, .c (.int .i64 0), .c (.int .i64 0), .t 15]),
    mo 2 13, mo 3 16]) .ret) .skip)) (.seq (.region
    none [mo 17 4, mo 2 17, ox 3 (.mv (.c .nili))])
    .ret)))), false⟩

def policy_count : AFun :=
  ⟨1, [.inl 2], (.seq (.region none [ox 2 (.mv (ai 0))]) (.seq (.seq (.region none [mo 5 0,
    ox 6 (.len .str (.t 5)), ox 7 (.bin .gtr (.t 6) (ai 4)),
    mo 8 7, og 8 false 9 (.mv (.t 0)), kg 8 false 10 (.k 0 [.t 9, .c (.str [48, 49, 50, 51, 52, 53, 54, 55, 56, 57])]),
    og 8 false 11 (.bin .neq (.t 10) (.c (.str []))), ox 12 (.pick (.t 8) (.c (.bool true)) (.t 11)),
    mo 13 12, og 13 false 14 (.mv (.t 0)), kg 13 false 15 (.k 1 [.t 14, .c (.str [48])]),
    ox 16 (.pick (.t 13) (.c (.bool true)) (.t 15))]) (.cond (.t 16) (.seq (.region none [ox 2 (.mv (ai 0))])
    .ret) .skip)) (.seq (.region none [mo 18 0, kx 19 (.k 2 [.t 18]),
    mo 17 19, ox 20 (.ext 0 (.t 17)), ox 21 (.ext 1 (.t 17)),
    mo 3 20, mo 4 21]) (.seq (.region none [mo 22 3,
    mo 2 22]) .ret)))), false⟩

def policy_Parse_1 : AFun :=
  ⟨2, [.inl 3], (.seq (.region none [ox 2 (.box (.t 0)), ox 3 (.mv (.c (.bool false)))]) (.seq
    (.region none [ox 4 (.faddr 0 (.t 2)), ox 5 (.load none (.t 4)), ox 6 (.load none (.t 1)),
    ox 7 (.bin .eql (.t 5) (.t 6)), mo 3 7]) .ret)), false⟩

def policy_Parse_a0 : ACode :=
  .region none [mo 6 18]
def policy_Parse_r1 : ACode :=
  .block 1 (.seq (.region none [mo 20 6, kx 21 (.k 2 [.t 20, .c (.str [61])]),
    mo 19 21, ox 22 (.ext 0 (.t 19)), ox 23 (.ext 1 (.t 19)),
    ox 24 (.ext 2 (.t 19)), ox 7 (.alloc [.str []]), oz (.store 1 (.t 7) (.t 22)),
    mo 8 23, mo 9 24]) (.seq (.region none [ox 25 (.load none (.t 5)),
    ox 26 (.mkfn (Fn.func 17) [] [.t 7]), kx 27 (.k 3 [.t 25, .t 26]), mo 10 27])
    (.seq (.region none [mo 28 8, kx 29 (.k 4 [.t 28]), mo 11 29])
    (.seq (.seq (.region none [mo 30 10, ox 31 (.bin .lss (.t 30) (ai 0)),
    mo 32 31, og 32 false 33 (.mv (.t 11)), og 32 false 34 (.bin .eql (.t 33) (ai 0)),
    ox 35 (.pick (.t 32) (.c (.bool true)) (.t 34))]) (.cond (.t 35) (.seq (.region none [ox 36 (.build [.int .i64 0, .int .i64 0, .int .i64 0, .int .i64 0, .int .i64 0] []),
    oz (.store 5 (.t 2) (.t 36)), oz (.store 1 (.t 3) (ai 3))])
    .ret) .skip)) (.seq (.region none [ox 37 (.load none (.t 5)), mo 38 10,
    ox 39 (.iaddrS 2 (.t 37) (.t 38)), ox 40 (.faddr 1 (.t 39)), ox 41 (.load none (.t 40)),
    mo 42 11, ox 43 (.nilchk (.t 41)), oz (.store 1 (.t 43) (.t 42))])
    (.region none [ox 44 (.load none (.t 5)), mo 45 10, ox 46 (.bin .add (.t 45) (ai 1)),
    ox 47 (.slcS 2 (.t 44) (some (.t 46)) none), oz (.store 1 (.t 5) (.t 47))]))))))
def policy_Parse_g2 : ACode :=
  .range (.t 17) [18] policy_Parse_a0 policy_Parse_r1
def policy_Parse_b3 : ACode :=
  .block 0 policy_Parse_g2
def policy_Parse_t4 : ACode :=
  .seq (.seq (.region none [mo 16 0, kx 17 (.k 1 [.t 16, .c (.str [32])])])
    policy_Parse_b3) (.seq (.region none [ox 48 (.load (some 5) (.t 4)), oz (.store 5 (.t 2) (.t 48)),
    oz (.store 1 (.t 3) (ai 0))]) .ret)
def policy_Parse : AFun :=
  ⟨1, [.inr (2, some 5), .inr (3, none)], (.seq (.region none [ox 2 (.alloc [.int .i64 0, .int .i64 0, .int .i64 0, .int .i64 0, .int .i64 0]),
    ox 3 (.alloc [.int .i64 0])]) (.seq (.region none [ox 4 (.alloc [.int .i64 0, .int .i64 0, .int .i64 0, .int .i64 0, .int .i64 0])])
    (.seq (.seq (.region none [mo 12 0, ox 13 (.bin .eql (.t 12) (.c (.str [110, 111, 110, 101])))])
    (.cond (.t 13) (.seq (.region none [ox 14 (.load (some 5) (.t 4)), oz (.store 5 (.t 2) (.t 14)),
    oz (.store 1 (.t 3) (ai 0))]) .ret) .skip)) (.seq (.region none [kx 15 (.k 0 [.t 4]),
    ox 5 (.alloc [.nils]), oz (.store 1 (.t 5) (.t 15))]) policy_Parse_t4)))), true⟩

def l30_alive : AFun :=
  ⟨0, [.inl 0], (.seq (.region none [ox 0 (.mv (.c (.bool false)))]) (.seq (.region none [ox 6 (.bslice false 1 3 [.int .u64 0] [(0, 1, .c (.int .u64 10)), (1, 1, .c (.int .u64 20)), (2, 1, .c (.int .u64 4000))]),
    ox 7 (.build [.int .i64 0, .int .i64 0, .int .i64 0, .int .i64 0, .int .i64 0] [(1, 1, .c (.int .i64 2))]),
    kx 8 (.k 0 [.t 6, .t 7]), mo 1 8]) (.seq (.region none [kx 10 (.k 1 [.c (.str [108, 97, 115, 116, 61, 49, 32, 100, 97, 121, 115, 61, 51, 48])]),
    mo 9 10, ox 11 (.ext 0 (.t 9)), ox 12 (.ext 1 (.t 9)),
    ox 2 (.alloc [.int .i64 0, .int .i64 0, .int .i64 0, .int .i64 0, .int .i64 0]),
    oz (.store 5 (.t 2) (.t 11)), mo 3 12]) (.seq (.region none [kx 14 (.k 1 [.c (.str [])]),
    mo 13 14, ox 15 (.ext 0 (.t 13)), ox 16 (.ext 1 (.t 13)),
    ox 4 (.alloc [.int .i64 0, .int .i64 0, .int .i64 0, .int .i64 0, .int .i64 0]),
    oz (.store 5 (.t 4) (.t 15)), mo 5 16]) (.seq (.region none [mo 17 1,
    ox 18 (.len .sl (.t 17)), ox 19 (.bin .eql (.t 18) (ai 3)),
    mo 20 19, og 20 true 21 (.mv (.t 1)), og 20 true 22 (.iaddrS 1 (.t 21) (ai 0)),
    og 20 true 23 (.load none (.t 22)), og 20 true 24 (.un .not (.t 23)), ox 25 (.pick (.t 20) (.t 24) (.c (.bool false))),
    mo 26 25, og 26 true 27 (.mv (.t 1)), og 26 true 28 (.iaddrS 1 (.t 27) (ai 1)),
    og 26 true 29 (.load none (.t 28)), ox 30 (.pick (.t 26) (.t 29) (.c (.bool false))),
    mo 31 30, og 31 true 32 (.mv (.t 1)), og 31 true 33 (.iaddrS 1 (.t 32) (ai 2)),
    og 31 true 34 (.load none (.t 33)), ox 35 (.pick (.t 31) (.t 34) (.c (.bool false))),
    mo 36 35, og 36 true 37 (.mv (.t 3)), og 36 true 38 (.bin .eql (.t 37) (ai 0)),
    ox 39 (.pick (.t 36) (.t 38) (.c (.bool false))), mo 40 39, og 40 true 41 (.load (some 5) (.t 2)),
    og 40 true 42 (.build [.int .i64 0, .int .i64 0, .int .i64 0, .int .i64 0, .int .i64 0] [(0, 1, .c (.int .i64 1)), (2, 1, .c (.int .i64 30))]),
    og 40 true 43 (.eqA false [.i, .i, .i, .i, .i] (.t 41) (.t 42)), ox 44 (.pick (.t 40) (.t 43) (.c (.bool false))),
    mo 45 44, og 45 true 46 (.mv (.t 5)), og 45 true 47 (.bin .eql (.t 46) (ai 3)),
    ox 48 (.pick (.t 45) (.t 47) (.c (.bool false))), mo 0 48])
    .ret))))), false⟩

def policy_Drop_l0 : ACode :=
  .seq (.region none [ox 13 (.bin .lss (.t 12) (.t 11))]) (.seq (.cond (.t 13) .skip (.exit 0)) (.seq (.block 1 (.seq
    (.region none [mo 14 12, ox 15 (.iaddrS 1 (.t 10) (.t 12)), ox 16 (.load none (.t 15)),
    mo 6 14, mo 7 16]) (.seq (.region none [mo 17 7,
    ox 18 (.un .not (.t 17))]) (.cond (.t 18) (.region none [mo 19 5,
    mo 20 6, ox 21 (.bslice false 1 1 [.int .i64 0] [(0, 1, .t 20)]),
    ox 22 (.append 1 8 (.t 19) (.t 21)), mo 5 22]) .skip))))
    (.region none [ox 23 (.bin .add (.t 12) (ai 1)), mo 12 23])))
def policy_Drop_s1 : ACode :=
  .block 0 (.loop policy_Drop_l0)
def policy_Drop_t2 : ACode :=
  .seq (.seq (.region none [mo 8 0, ox 9 (.load (some 5) (.t 3)), kx 10 (.k 0 [.t 8, .t 9]),
    ox 11 (.len .sl (.t 10)), ox 12 (.mv (ai 0))])
    policy_Drop_s1) (.seq (.region none [mo 24 5, mo 4 24])
    .ret)
def policy_Drop : AFun :=
  ⟨2, [.inl 4], (.seq (.region none [ox 3 (.box (.t 1)), ox 4 (.mv (.c .nils))]) (.seq
    (.region none [ox 5 (.mv (.c .nils))]) policy_Drop_t2)), false⟩

def l30_PolicyMore_l0 : ACode :=
  .seq (.seq (.region none [mo 98 12, mo 99 0, ox 100 (.len .sl (.t 99)),
    ox 101 (.bin .lss (.t 98) (.t 100))]) (.cond (.t 101) .skip (.exit 0))) (.seq (.block 1 (.seq (.seq (.region none
    [mo 104 8, mo 105 12, ox 106 (.iaddrS 1 (.t 104) (.t 105)),
    ox 107 (.load none (.t 106)), mo 108 107, og 108 true 109 (.mv (.t 9)),
    og 108 true 110 (.mv (.t 12)), og 108 true 111 (.iaddrS 1 (.t 109) (.t 110)),
    og 108 true 112 (.load none (.t 111)), og 108 true 113 (.un .not (.t 112)),
    ox 114 (.pick (.t 108) (.t 113) (.c (.bool false)))]) (.cond (.t 114) (.seq (.region none [ox 6 (.mv (.c (.bool false)))])
    .ret) .skip)) (.seq (.seq (.region (some []) [mo 115 0, mo 116 12,
    ox 117 (.iaddrS 1 (.t 115) (.t 116)), ox 118 (.load none (.t 117)), mo 119 0,
    mo 120 10, ox 121 (.iaddrS 1 (.t 119) (.t 120)), ox 122 (.load none (.t 121)),
    ox 123 (.bin .gtr (.t 118) (.t 122))]) (.cond (.t 123) (.region none [mo 124 12,
    mo 10 124]) .skip)) (.seq (.region none [mo 125 8, mo 126 12,
    ox 127 (.iaddrS 1 (.t 125) (.t 126)), ox 128 (.load none (.t 127))]) (.cond
    (.t 128) (.region none [mo 129 11, mo 130 0, mo 131 12,
    ox 132 (.iaddrS 1 (.t 130) (.t 131)), ox 133 (.load none (.t 132)), ox 134 (.bslice false 1 1 [.int .u64 0] [(0, 1, .t 133)]),
    ox 135 (.append 1 8 (.t 129) (.t 134)), mo 11 135]) .skip)))))
    (.region none [mo 102 12, ox 103 (.bin .add (.t 102) (ai 1)),
    mo 12 103]))
def l30_PolicyMore_s1 : ACode :=
  .block 0 (.loop l30_PolicyMore_l0)
def l30_PolicyMore_t2 : ACode :=
  .seq (.seq (.region none [ox 12 (.mv (ai 0))]) l30_PolicyMore_s1) (.seq (.region none [ox 136 (.faddr 0 (.t 4)),
    ox 137 (.load none (.t 136)), ox 138 (.bin .gtr (.t 137) (ai 0)),
    mo 139 138, og 139 false 140 (.faddr 1 (.t 4)), og 139 false 141 (.load none (.t 140)),
    og 139 false 142 (.bin .gtr (.t 141) (ai 0)), ox 143 (.pick (.t 139) (.c (.bool true)) (.t 142)),
    mo 144 143, og 144 false 145 (.faddr 2 (.t 4)), og 144 false 146 (.load none (.t 145)),
    og 144 false 147 (.bin .gtr (.t 146) (ai 0)), ox 148 (.pick (.t 144) (.c (.bool true)) (.t 147)),
    mo 149 148, og 149 false 150 (.faddr 3 (.t 4)), og 149 false 151 (.load none (.t 150)),
    og 149 false 152 (.bin .gtr (.t 151) (ai 0)), ox 153 (.pick (.t 149) (.c (.bool true)) (.t 152)),
    mo 154 153, og 154 false 155 (.faddr 4 (.t 4)), og 154 false 156 (.load none (.t 155)),
    og 154 false 157 (.bin .gtr (.t 156) (ai 0)), ox 158 (.pick (.t 154) (.c (.bool true)) (.t 157)),
    mo 13 158]) (.seq (.region none [kx 159 (.k 0 []), mo 160 159,
    og 160 true 161 (.mv (.t 8)), og 160 true 162 (.mv (.t 10)), og 160 true 163 (.iaddrS 1 (.t 161) (.t 162)),
    og 160 true 164 (.load none (.t 163)), og 160 true 165 (.mv (.t 13)), og 160 true 166 (.eq false .bool (.t 164) (.t 165)),
    ox 167 (.pick (.t 160) (.t 166) (.c (.bool false))), mo 168 167,
    og 168 true 169 (.mv (.t 11)), og 168 true 170 (.load (some 5) (.t 4)), kg 168 true 171 (.k 2 [.t 169, .t 170]),
    og 168 true 172 (.len .sl (.t 171)), og 168 true 173 (.bin .eql (.t 172) (ai 0)),
    ox 174 (.pick (.t 168) (.t 173) (.c (.bool false))), mo 6 174])
    .ret))
def l30_PolicyMore : AFun :=
  ⟨3, [.inl 6], (.seq (.region none [ox 4 (.box (.t 1)), ox 5 (.box (.t 2)), ox 6 (.mv (.c (.bool false)))])
    (.seq (.seq (.region none [mo 14 0, ox 15 (.len .sl (.t 14)), ox 16 (.bin .gtr (.t 15) (ai 30)),
    mo 17 16, og 17 false 18 (.mv (.t 0)), og 17 false 19 (.len .sl (.t 18)),
    og 17 false 20 (.bin .eql (.t 19) (ai 0)), ox 21 (.pick (.t 17) (.c (.bool true)) (.t 20)),
    mo 22 21, og 22 false 23 (.faddr 0 (.t 4)), og 22 false 24 (.load none (.t 23)),
    og 22 false 25 (.bin .gtr (.t 24) (ai 1099511627776)), ox 26 (.pick (.t 22) (.c (.bool true)) (.t 25)),
    mo 27 26, og 27 false 28 (.faddr 1 (.t 4)), og 27 false 29 (.load none (.t 28)),
    og 27 false 30 (.bin .gtr (.t 29) (ai 1099511627776)), ox 31 (.pick (.t 27) (.c (.bool true)) (.t 30)),
    mo 32 31, og 32 false 33 (.faddr 2 (.t 4)), og 32 false 34 (.load none (.t 33)),
    og 32 false 35 (.bin .gtr (.t 34) (ai 1099511627776)), ox 36 (.pick (.t 32) (.c (.bool true)) (.t 35)),
    mo 37 36, og 37 false 38 (.faddr 3 (.t 4)), og 37 false 39 (.load none (.t 38)),
    og 37 false 40 (.bin .gtr (.t 39) (ai 1099511627776)), ox 41 (.pick (.t 37) (.c (.bool true)) (.t 40)),
    mo 42 41, og 42 false 43 (.faddr 4 (.t 4)), og 42 false 44 (.load none (.t 43)),
    og 42 false 45 (.bin .gtr (.t 44) (ai 1099511627776)), ox 46 (.pick (.t 42) (.c (.bool true)) (.t 45))])
    (.cond (.t 46) (.seq (.region none [kx 47 (.k 0 []), mo 6 47])
    .ret) .skip)) (.seq (.region none [ox 48 (.faddr 0 (.t 4)), ox 49 (.load none (.t 48)),
    ox 50 (.iaddrA 1 5 (.t 5) (ai 0)), ox 51 (.load none (.t 50)),
    ox 52 (.convI .i64 (.t 51)), ox 53 (.bin .add (.t 49) (.t 52)), ox 54 (.faddr 1 (.t 4)),
    ox 55 (.load none (.t 54)), ox 56 (.iaddrA 1 5 (.t 5) (ai 1)),
    ox 57 (.load none (.t 56)), ox 58 (.convI .i64 (.t 57)), ox 59 (.bin .add (.t 55) (.t 58)),
    ox 60 (.faddr 2 (.t 4)), ox 61 (.load none (.t 60)), ox 62 (.iaddrA 1 5 (.t 5) (ai 2)),
    ox 63 (.load none (.t 62)), ox 64 (.convI .i64 (.t 63)), ox 65 (.bin .add (.t 61) (.t 64)),
    ox 66 (.faddr 3 (.t 4)), ox 67 (.load none (.t 66)), ox 68 (.iaddrA 1 5 (.t 5) (ai 3)),
    ox 69 (.load none (.t 68)), ox 70 (.convI .i64 (.t 69)), ox 71 (.bin .add (.t 67) (.t 70)),
    ox 72 (.faddr 4 (.t 4)), ox 73 (.load none (.t 72)), ox 74 (.iaddrA 1 5 (.t 5) (ai 4)),
    ox 75 (.load none (.t 74)), ox 76 (.convI .i64 (.t 75)), ox 77 (.bin .add (.t 73) (.t 76)),
    ox 78 (.build [.int .i64 0, .int .i64 0, .int .i64 0, .int .i64 0, .int .i64 0] [(0, 1, .t 53), (1, 1, .t 59), (2, 1, .t 65), (3, 1, .t 71), (4, 1, .t 77)]),
    ox 7 (.alloc [.int .i64 0, .int .i64 0, .int .i64 0, .int .i64 0, .int .i64 0]),
    oz (.store 5 (.t 7) (.t 78))]) (.seq (.region (some [(4, [2])]) [mo 79 0,
    ox 80 (.load (some 5) (.t 4)), kx 81 (.k 1 [.t 79, .t 80]), mo 82 0,
    ox 83 (.load (some 5) (.t 7)), kx 84 (.k 1 [.t 82, .t 83]), mo 8 81,
    mo 9 84]) (.seq (.seq (.region none [mo 85 8, ox 86 (.len .sl (.t 85)),
    mo 87 0, ox 88 (.len .sl (.t 87)), ox 89 (.bin .neq (.t 86) (.t 88)),
    mo 90 89, og 90 false 91 (.mv (.t 9)), og 90 false 92 (.len .sl (.t 91)),
    og 90 false 93 (.mv (.t 0)), og 90 false 94 (.len .sl (.t 93)), og 90 false 95 (.bin .neq (.t 92) (.t 94)),
    ox 96 (.pick (.t 90) (.c (.bool true)) (.t 95))]) (.cond (.t 96) (.seq (.region none [ox 6 (.mv (.c (.bool false)))])
    .ret) .skip)) (.seq (.region none [ox 10 (.mv (ai 0))]) (.seq (.region none [ox 97 (.bslice false 1 0 [.int .u64 0] []),
    mo 11 97]) l30_PolicyMore_t2))))))), false⟩

def strings_Builder_grow : AFun :=
  ⟨2, [], (.seq (.region (some [(12, [4, 8])]) [mo 5 0, ox 6 (.nilchk (.t 5)), ox 7 (.faddr 1 (.t 6)),
    ox 8 (.load none (.t 7)), { dst := some 9, op := .inl .stop, guard := none }, ox 10 (.bin .mul (ai 2) (.t 9)),
    mo 11 1, ox 12 (.bin .add (.t 10) (.t 11)), kx 13 (.k 0 [.t 12]),
    mo 14 0, ox 15 (.nilchk (.t 14)), ox 16 (.faddr 1 (.t 15)),
    ox 17 (.load none (.t 16)), ox 18 (.len .sl (.t 17)), ox 19 (.slcS 1 (.t 13) none (some (.t 18))),
    mo 4 19]) (.seq (.region none [mo 20 4, mo 21 0,
    ox 22 (.nilchk (.t 21)), ox 23 (.faddr 1 (.t 22)), ox 24 (.load none (.t 23)),
    ox 25 (.copy 1 (.t 20) (.t 24))]) (.region none [mo 26 0, mo 27 4,
    ox 28 (.nilchk (.t 26)), ox 29 (.faddr 1 (.t 28)), oz (.store 1 (.t 29) (.t 27))]))), false⟩

def strings_Builder_Grow : AFun :=
  ⟨2, [], (.seq (.region none [mo 4 0, kx 5 (.k 0 [.t 4])]) (.seq (.seq
    (.region none [mo 6 1, ox 7 (.bin .lss (.t 6) (ai 0))])
    (.cond (.t 7) (.region none [ox 8 (.mkif 9 (.c (.str [115, 116, 114, 105, 110, 103, 115, 46, 66, 117, 105, 108, 100, 101, 114, 46, 71, 114, 111, 119, 58, 32, 110, 101, 103, 97, 116, 105, 118, 101, 32, 99, 111, 117, 110, 116]))),
    { dst := none, op := .inl .stop, guard := none }]) .skip)) (.seq (.region (some [(8, [4])]) [mo 9 0, ox 10 (.nilchk (.t 9)),
    ox 11 (.faddr 1 (.t 10)), ox 12 (.load none (.t 11)), { dst := some 13, op := .inl .stop, guard := none },
    mo 14 0, ox 15 (.nilchk (.t 14)), ox 16 (.faddr 1 (.t 15)),
    ox 17 (.load none (.t 16)), ox 18 (.len .sl (.t 17)), ox 19 (.bin .sub (.t 13) (.t 18)),
    mo 20 1, ox 21 (.bin .lss (.t 19) (.t 20))]) (.cond (.t 21)
    (.region none [mo 22 0, mo 23 1, kx 24 (.k 1 [.t 22, .t 23])])
    .skip)))), false⟩

def strings_Builder_WriteString : AFun :=
  ⟨2, [.inl 4, .inl 5], (.seq (.region none [ox 4 (.mv (ai 0)), ox 5 (.mv (.c .nili))])
    (.seq (.region none [mo 6 0, kx 7 (.k 0 [.t 6])]) (.seq (.region
    none [mo 8 0, mo 9 0, ox 10 (.nilchk (.t 9)),
    ox 11 (.faddr 1 (.t 10)), ox 12 (.load none (.t 11)), mo 13 1,
    ox 14 (.append 1 1 (.t 12) (.t 13)), ox 15 (.nilchk (.t 8)), ox 16 (.faddr 1 (.t 15)),
    oz (.store 1 (.t 16) (.t 14))]) (.seq (.region none [mo 17 1, ox 18 (.len .str (.t 17)),
    mo 4 18, ox 5 (.mv (.c .nili))]) .ret)))), false⟩

def strings_Builder_String : AFun :=
  ⟨1, [.inl 2], (.seq (.region none [ox 2 (.mv (.c (.str [])))]) (.seq (.region (some [(8, [4])]) [mo 3 0,
    ox 4 (.nilchk (.t 3)), ox 5 (.faddr 1 (.t 4)), ox 6 (.load none (.t 5)),
    { dst := some 7, op := .inl .stop, guard := none }, mo 8 0, ox 9 (.nilchk (.t 8)),
    ox 10 (.faddr 1 (.t 9)), ox 11 (.load none (.t 10)), ox 12 (.len .sl (.t 11)),
    { dst := some 13, op := .inl .stop, guard := none }, mo 2 13]) .ret)), false⟩

def strings_Join_l0 : ACode :=
  .seq (.region none [ox 42 (.bin .lss (.t 41) (.t 40))]) (.seq (.cond (.t 42) .skip (.exit 1)) (.seq (.block 2 (.seq
    (.region none [ox 43 (.iaddrS 1 (.t 39) (.t 41)), ox 44 (.load none (.t 43)), mo 7 44])
    (.seq (.seq (.region none [mo 45 7, ox 46 (.len .str (.t 45)), mo 47 5,
    ox 48 (.bin .sub (ai 9223372036854775807) (.t 47)), ox 49 (.bin .gtr (.t 46) (.t 48))])
    (.cond (.t 49) (.region none [ox 50 (.mkif 9 (.c (.str [115, 116, 114, 105, 110, 103, 115, 58, 32, 74, 111, 105, 110, 32, 111, 117, 116, 112, 117, 116, 32, 108, 101, 110, 103, 116, 104, 32, 111, 118, 101, 114, 102, 108, 111, 119]))),
    { dst := none, op := .inl .stop, guard := none }]) .skip)) (.region none [mo 51 5, mo 52 7,
    ox 53 (.len .str (.t 52)), ox 54 (.bin .add (.t 51) (.t 53)), mo 5 54]))))
    (.region none [ox 55 (.bin .add (.t 41) (ai 1)), mo 41 55])))
def strings_Join_s1 : ACode :=
  .block 1 (.loop strings_Join_l0)
def strings_Join_l2 : ACode :=
  .seq (.region none [ox 66 (.bin .lss (.t 65) (.t 64))]) (.seq (.cond (.t 66) .skip (.exit 3)) (.seq (.block 4 (.seq
    (.region none [ox 67 (.iaddrS 1 (.t 63) (.t 65)), ox 68 (.load none (.t 67)), mo 10 68])
    (.seq (.region none [mo 69 1, kx 70 (.k 1 [.t 8, .t 69])])
    (.region none [mo 71 10, kx 72 (.k 1 [.t 8, .t 71])]))))
    (.region none [ox 73 (.bin .add (.t 65) (ai 1)), mo 65 73])))
def strings_Join_s3 : ACode :=
  .block 3 (.loop strings_Join_l2)
def strings_Join_t4 : ACode :=
  .seq (.seq (.region none [mo 62 0, ox 63 (.slcS 1 (.t 62) (some (ai 1)) none),
    ox 64 (.len .sl (.t 63)), ox 65 (.mv (ai 0))])
    strings_Join_s3) (.seq (.region none [kx 74 (.k 2 [.t 8]), mo 4 74])
    .ret)
def strings_Join_t5 : ACode :=
  .seq (.seq (.region none [mo 39 0, ox 40 (.len .sl (.t 39)), ox 41 (.mv (ai 0))])
    strings_Join_s1) (.seq (.region none [ox 8 (.alloc [.nilp, .nils])]) (.seq (.region none [mo 56 5,
    kx 57 (.k 0 [.t 8, .t 56])]) (.seq (.region none [mo 58 0, ox 59 (.iaddrS 1 (.t 58) (ai 0)),
    ox 60 (.load none (.t 59)), kx 61 (.k 1 [.t 8, .t 60])]) strings_Join_t4)))
def strings_Join : AFun :=
  ⟨2, [.inl 4], (.seq (.region none [ox 4 (.mv (.c (.str [])))]) (.seq (.seq (.region none [mo 11 0,
    ox 12 (.len .sl (.t 11))]) (.block 0 (.seq (.region none [ox 14 (.bin .eql (.t 12) (ai 0)),
    mo 13 14]) (.cond (.t 13) (.seq (.region none [ox 4 (.mv (.c (.str [])))])
    .ret) (.seq (.region none [ox 16 (.bin .eql (.t 12) (ai 1)), mo 15 16])
    (.cond (.t 15) (.seq (.region none [mo 17 0, ox 18 (.iaddrS 1 (.t 17) (ai 0)),
    ox 19 (.load none (.t 18)), mo 4 19]) .ret) .skip)))))) (.seq
    (.region none [ox 5 (.mv (ai 0))]) (.seq (.seq (.region none [mo 20 1,
    ox 21 (.len .str (.t 20)), ox 22 (.bin .gtr (.t 21) (ai 0))])
    (.cond (.t 22) (.seq (.seq (.region none [mo 23 1, ox 24 (.len .str (.t 23)),
    mo 25 0, ox 26 (.len .sl (.t 25)), ox 27 (.bin .sub (.t 26) (ai 1)),
    ox 28 (.bin .quo (ai 9223372036854775807) (.t 27)), ox 29 (.bin .geq (.t 24) (.t 28))])
    (.cond (.t 29) (.region none [ox 30 (.mkif 9 (.c (.str [115, 116, 114, 105, 110, 103, 115, 58, 32, 74, 111, 105, 110, 32, 111, 117, 116, 112, 117, 116, 32, 108, 101, 110, 103, 116, 104, 32, 111, 118, 101, 114, 102, 108, 111, 119]))),
    { dst := none, op := .inl .stop, guard := none }]) .skip)) (.region none [mo 31 5, mo 32 1,
    ox 33 (.len .str (.t 32)), mo 34 0, ox 35 (.len .sl (.t 34)),
    ox 36 (.bin .sub (.t 35) (ai 1)), ox 37 (.bin .mul (.t 33) (.t 36)),
    ox 38 (.bin .add (.t 31) (.t 37)), mo 5 38])) .skip))
    strings_Join_t5)))), false⟩

def policy_Text_l0 : ACode :=
  .seq (.region none [ox 9 (.bin .lss (.t 8) (.t 7))]) (.seq (.cond (.t 9) .skip (.exit 0)) (.seq (.block 1 (.seq
    (.region none [ox 10 (.iaddrS 2 (.t 6) (.t 8)), ox 11 (.load (some 2) (.t 10)),
    ox 5 (.alloc [.str [], .nilp]), oz (.store 2 (.t 5) (.t 11))]) (.seq
    (.region none [ox 12 (.faddr 1 (.t 5)), ox 13 (.load none (.t 12)), ox 14 (.nilchk (.t 13)),
    ox 15 (.load none (.t 14)), ox 16 (.bin .gtr (.t 15) (ai 0))])
    (.cond (.t 16) (.region (some [(2, [8])]) [mo 17 3, ox 18 (.faddr 0 (.t 5)),
    ox 19 (.load none (.t 18)), ox 20 (.bin .add (.t 19) (.c (.str [61]))),
    ox 21 (.faddr 1 (.t 5)), ox 22 (.load none (.t 21)), ox 23 (.nilchk (.t 22)),
    ox 24 (.load none (.t 23)), kx 25 (.k 1 [.t 24]), ox 26 (.bin .add (.t 20) (.t 25)),
    ox 27 (.bslice false 1 1 [.str []] [(0, 1, .t 26)]), ox 28 (.append 1 16 (.t 17) (.t 27)),
    mo 3 28]) .skip)))) (.region none [ox 29 (.bin .add (.t 8) (ai 1)),
    mo 8 29])))
def policy_Text_s1 : ACode :=
  .block 0 (.loop policy_Text_l0)
def policy_Text_t2 : ACode :=
  .seq (.seq (.region none [kx 6 (.k 0 [.t 1]), ox 7 (.len .sl (.t 6)), ox 8 (.mv (ai 0))])
    policy_Text_s1) (.seq (.seq (.region none [mo 30 3, ox 31 (.len .sl (.t 30)),
    ox 32 (.bin .eql (.t 31) (ai 0))]) (.cond (.t 32) (.seq (.region none [ox 2 (.mv (.c (.str [110, 111, 110, 101])))])
    .ret) .skip)) (.seq (.region none [mo 33 3, kx 34 (.k 2 [.t 33, .c (.str [32])]),
    mo 2 34]) .ret))
def policy_Text : AFun :=
  ⟨1, [.inl 2], (.seq (.region none [ox 1 (.box (.t 0)), ox 2 (.mv (.c (.str [])))]) (.seq
    (.region none [ox 3 (.mv (.c .nils))]) policy_Text_t2)), false⟩

def l30_isIn : AFun :=
  ⟨1, [.inl 2], (.seq (.region none [ox 2 (.mv (.c (.bool false)))]) (.seq (.region none [mo 3 0,
    ox 4 (.bin .geq (.t 3) (ai 0)), mo 5 4,
    og 5 true 6 (.mv (.t 0)), og 5 true 7 (.bin .leq (.t 6) (ai 9999)),
    ox 8 (.pick (.t 5) (.t 7) (.c (.bool false))), mo 2 8])
    .ret)), false⟩

def l30_PolicyBack : AFun :=
  ⟨2, [.inl 4], (.seq (.region none [ox 2 (.box (.t 0)), ox 4 (.mv (.c (.bool false)))]) (.seq
    (.seq (.region none [mo 9 1, ox 10 (.len .str (.t 9)), ox 11 (.bin .gtr (.t 10) (ai 100))])
    (.cond (.t 11) (.seq (.region none [kx 12 (.k 0 []), mo 4 12])
    .ret) .skip)) (.seq (.region none [mo 14 1, kx 15 (.k 1 [.t 14]),
    mo 13 15, ox 16 (.ext 0 (.t 13)), ox 17 (.ext 1 (.t 13)),
    ox 5 (.alloc [.int .i64 0, .int .i64 0, .int .i64 0, .int .i64 0, .int .i64 0]),
    oz (.store 5 (.t 5) (.t 16)), mo 6 17]) (.seq (.seq (.region none [mo 18 6,
    ox 19 (.bin .eql (.t 18) (ai 0)), mo 20 19,
    og 20 true 21 (.load (some 5) (.t 5)), kg 20 true 22 (.k 2 [.t 21]), og 20 true 23 (.mv (.t 1)),
    og 20 true 24 (.bin .neq (.t 22) (.t 23)), ox 25 (.pick (.t 20) (.t 24) (.c (.bool false)))])
    (.cond (.t 25) (.seq (.region none [ox 4 (.mv (.c (.bool false)))]) .ret) .skip)) (.seq (.seq (.region none [ox 26 (.faddr 0 (.t 2)),
    ox 27 (.load none (.t 26)), kx 28 (.k 3 [.t 27]), ox 29 (.un .not (.t 28)),
    mo 30 29, og 30 false 31 (.faddr 1 (.t 2)), og 30 false 32 (.load none (.t 31)),
    kg 30 false 33 (.k 3 [.t 32]), og 30 false 34 (.un .not (.t 33)), ox 35 (.pick (.t 30) (.c (.bool true)) (.t 34)),
    mo 36 35, og 36 false 37 (.faddr 2 (.t 2)), og 36 false 38 (.load none (.t 37)),
    kg 36 false 39 (.k 3 [.t 38]), og 36 false 40 (.un .not (.t 39)), ox 41 (.pick (.t 36) (.c (.bool true)) (.t 40)),
    mo 42 41, og 42 false 43 (.faddr 3 (.t 2)), og 42 false 44 (.load none (.t 43)),
    kg 42 false 45 (.k 3 [.t 44]), og 42 false 46 (.un .not (.t 45)), ox 47 (.pick (.t 42) (.c (.bool true)) (.t 46)),
    mo 48 47, og 48 false 49 (.faddr 4 (.t 2)), og 48 false 50 (.load none (.t 49)),
    kg 48 false 51 (.k 3 [.t 50]), og 48 false 52 (.un .not (.t 51)), ox 53 (.pick (.t 48) (.c (.bool true)) (.t 52))])
    (.cond (.t 53) (.seq (.region none [kx 54 (.k 0 []), mo 4 54])
    .ret) .skip)) (.seq (.region none [ox 56 (.load (some 5) (.t 2)), kx 57 (.k 2 [.t 56]),
    kx 58 (.k 1 [.t 57]), mo 55 58, ox 59 (.ext 0 (.t 55)),
    ox 60 (.ext 1 (.t 55)), ox 7 (.alloc [.int .i64 0, .int .i64 0, .int .i64 0, .int .i64 0, .int .i64 0]),
    oz (.store 5 (.t 7) (.t 59)), mo 8 60]) (.seq (.region none [kx 61 (.k 0 []),
    mo 62 61, og 62 true 63 (.mv (.t 8)), og 62 true 64 (.bin .eql (.t 63) (ai 0)),
    ox 65 (.pick (.t 62) (.t 64) (.c (.bool false))), mo 66 65, og 66 true 67 (.load (some 5) (.t 7)),
    og 66 true 68 (.load (some 5) (.t 2)), og 66 true 69 (.eqA false [.i, .i, .i, .i, .i] (.t 67) (.t 68)),
    ox 70 (.pick (.t 66) (.t 69) (.c (.bool false))), mo 4 70])
    .ret))))))), false⟩

end Am.Ir
