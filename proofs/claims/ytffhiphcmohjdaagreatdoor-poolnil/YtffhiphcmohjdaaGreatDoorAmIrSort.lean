/- The machine's code of the functions, printed by a program of this session; each is checked against the model's. -/
import Derived.Test.YtffhiphcmohjdaaGreatDoorAmIrS
set_option linter.all false
namespace Am.Ir
open Am Go
set_option maxRecDepth 100000
def cmp_isNaN : AFun :=
  ⟨1, [.inl 2], (.seq (.region none [ox 2 (.mv (.c (.bool false)))]) (.seq (.region none [mo 3 0,
    mo 4 0, ox 5 (.bin .neq (.t 3) (.t 4)), mo 2 5])
    .ret)), false⟩

def cmp_Less : AFun :=
  ⟨2, [.inl 4], (.seq (.region none [ox 4 (.mv (.c (.bool false)))]) (.seq (.region none [mo 5 0,
    kx 6 (.k 0 [.t 5]), mo 7 6, og 7 true 8 (.mv (.t 1)),
    kg 7 true 9 (.k 0 [.t 8]), og 7 true 10 (.un .not (.t 9)), ox 11 (.pick (.t 7) (.t 10) (.c (.bool false))),
    mo 12 11, og 12 false 13 (.mv (.t 0)), og 12 false 14 (.mv (.t 1)),
    og 12 false 15 (.bin .lss (.t 13) (.t 14)), ox 16 (.pick (.t 12) (.c (.bool true)) (.t 15)),
    mo 4 16]) .ret)), false⟩

def slices_insertionSortOrdered_l0 : ACode :=
  .seq (.seq (.region (some []) [mo 16 7, mo 17 1, ox 18 (.bin .gtr (.t 16) (.t 17)),
    mo 19 18, og 19 true 20 (.mv (.t 0)), og 19 true 21 (.mv (.t 7)),
    og 19 true 22 (.iaddrS 1 (.t 20) (.t 21)), og 19 true 23 (.load none (.t 22)),
    og 19 true 24 (.mv (.t 0)), og 19 true 25 (.mv (.t 7)), og 19 true 26 (.bin .sub (.t 25) (ai 1)),
    og 19 true 27 (.iaddrS 1 (.t 24) (.t 26)), og 19 true 28 (.load none (.t 27)),
    kg 19 true 29 (.k 0 [.t 23, .t 28]), ox 30 (.pick (.t 19) (.t 29) (.c (.bool false)))])
    (.cond (.t 30) .skip (.exit 2))) (.seq (.block 3 (.region (some []) [mo 33 0, mo 34 7,
    mo 35 0, mo 36 7, ox 37 (.bin .sub (.t 36) (ai 1)),
    mo 38 0, mo 39 7, ox 40 (.bin .sub (.t 39) (ai 1)),
    ox 41 (.iaddrS 1 (.t 38) (.t 40)), ox 42 (.load none (.t 41)), mo 43 0,
    mo 44 7, ox 45 (.iaddrS 1 (.t 43) (.t 44)), ox 46 (.load none (.t 45)),
    ox 47 (.iaddrS 1 (.t 33) (.t 34)), oz (.store 1 (.t 47) (.t 42)), ox 48 (.iaddrS 1 (.t 35) (.t 37)),
    oz (.store 1 (.t 48) (.t 46))])) (.region none [mo 31 7, ox 32 (.bin .sub (.t 31) (ai 1)),
    mo 7 32]))
def slices_insertionSortOrdered_s1 : ACode :=
  .block 2 (.loop slices_insertionSortOrdered_l0)
def slices_insertionSortOrdered_b2 : ACode :=
  .block 1 (.seq (.region none [mo 15 6, mo 7 15])
    slices_insertionSortOrdered_s1)
def slices_insertionSortOrdered_t3 : ACode :=
  .seq slices_insertionSortOrdered_b2 (.region none [mo 13 6, ox 14 (.bin .add (.t 13) (ai 1)),
    mo 6 14])
def slices_insertionSortOrdered_l4 : ACode :=
  .seq (.seq (.region none [mo 10 6, mo 11 2, ox 12 (.bin .lss (.t 10) (.t 11))])
    (.cond (.t 12) .skip (.exit 0))) slices_insertionSortOrdered_t3
def slices_insertionSortOrdered_s5 : ACode :=
  .block 0 (.loop slices_insertionSortOrdered_l4)
def slices_insertionSortOrdered : AFun :=
  ⟨3, [], (.seq (.region none [mo 8 1, ox 9 (.bin .add (.t 8) (ai 1)),
    mo 6 9]) slices_insertionSortOrdered_s5), false⟩

def slices_pdqsortOrdered_l0 : ACode :=
  .block 1 (.seq (.region none [mo 19 2, mo 20 1, ox 21 (.bin .sub (.t 19) (.t 20)),
    mo 10 21]) (.seq (.seq (.region none [mo 22 10, ox 23 (.bin .leq (.t 22) (ai 12))])
    (.cond (.t 23) (.seq (.region none [mo 24 0, mo 25 1, mo 26 2,
    kx 27 (.k 0 [.t 24, .t 25, .t 26])]) .ret) .skip)) (.seq (.seq (.region none [mo 28 3,
    ox 29 (.bin .eql (.t 28) (ai 0))]) (.cond (.t 29) (.seq (.region none [mo 30 0,
    mo 31 1, mo 32 2, kx 33 (.k 1 [.t 30, .t 31, .t 32])])
    .ret) .skip)) (.seq (.seq (.region none [mo 34 8, ox 35 (.un .not (.t 34))])
    (.cond (.t 35) (.seq (.region none [mo 36 0, mo 37 1, mo 38 2,
    kx 39 (.k 2 [.t 36, .t 37, .t 38])]) (.region none [mo 40 3,
    ox 41 (.bin .sub (.t 40) (ai 1)), mo 3 41]))
    .skip)) (.seq (.region none [mo 43 0, mo 44 1, mo 45 2,
    kx 46 (.k 3 [.t 43, .t 44, .t 45]), mo 42 46, ox 47 (.ext 0 (.t 42)),
    ox 48 (.ext 1 (.t 42)), mo 11 47, mo 12 48])
    (.seq (.seq (.region none [mo 49 12, ox 50 (.bin .eql (.t 49) (ai 2))])
    (.cond (.t 50) (.seq (.region none [mo 51 0, mo 52 1, mo 53 2,
    kx 54 (.k 4 [.t 51, .t 52, .t 53])]) (.seq (.region none [mo 55 2,
    ox 56 (.bin .sub (.t 55) (ai 1)), mo 57 11,
    mo 58 1, ox 59 (.bin .sub (.t 57) (.t 58)), ox 60 (.bin .sub (.t 56) (.t 59)),
    mo 11 60]) (.region none [ox 12 (.mv (ai 1))])))
    .skip)) (.seq (.seq (.region none [mo 61 8, mo 62 61, og 62 true 63 (.mv (.t 9)),
    ox 64 (.pick (.t 62) (.t 63) (.c (.bool false))), mo 65 64, og 65 true 66 (.mv (.t 12)),
    og 65 true 67 (.bin .eql (.t 66) (ai 1)), ox 68 (.pick (.t 65) (.t 67) (.c (.bool false)))])
    (.cond (.t 68) (.seq (.region none [mo 69 0, mo 70 1, mo 71 2,
    kx 72 (.k 5 [.t 69, .t 70, .t 71])]) (.cond (.t 72) .ret .skip)) .skip)) (.seq (.seq (.region (some [])
    [mo 73 1, ox 74 (.bin .gtr (.t 73) (ai 0)),
    mo 75 74, og 75 true 76 (.mv (.t 0)), og 75 true 77 (.mv (.t 1)),
    og 75 true 78 (.bin .sub (.t 77) (ai 1)), og 75 true 79 (.iaddrS 1 (.t 76) (.t 78)),
    og 75 true 80 (.load none (.t 79)), og 75 true 81 (.mv (.t 0)), og 75 true 82 (.mv (.t 11)),
    og 75 true 83 (.iaddrS 1 (.t 81) (.t 82)), og 75 true 84 (.load none (.t 83)),
    kg 75 true 85 (.k 6 [.t 80, .t 84]), og 75 true 86 (.un .not (.t 85)),
    ox 87 (.pick (.t 75) (.t 86) (.c (.bool false)))]) (.cond (.t 87) (.seq (.region none [mo 88 0,
    mo 89 1, mo 90 2, mo 91 11,
    kx 92 (.k 7 [.t 88, .t 89, .t 90, .t 91]), mo 13 92])
    (.seq (.region none [mo 93 13, mo 1 93]) (.exit 1)))
    .skip)) (.seq (.region none [mo 95 0, mo 96 1, mo 97 2,
    mo 98 11, kx 99 (.k 8 [.t 95, .t 96, .t 97, .t 98]), mo 94 99,
    ox 100 (.ext 0 (.t 94)), ox 101 (.ext 1 (.t 94)), mo 14 100,
    mo 15 101]) (.seq (.region none [mo 102 15, mo 9 102])
    (.seq (.region none [mo 103 14, mo 104 1, ox 105 (.bin .sub (.t 103) (.t 104)),
    mo 106 2, mo 107 14, ox 108 (.bin .sub (.t 106) (.t 107)),
    mo 16 105, mo 17 108]) (.seq (.region none [mo 109 10,
    ox 110 (.bin .quo (.t 109) (ai 8)), mo 18 110])
    (.seq (.region none [mo 111 16, mo 112 17, ox 113 (.bin .lss (.t 111) (.t 112))])
    (.cond (.t 113) (.seq (.region none [mo 114 16, mo 115 18,
    ox 116 (.bin .geq (.t 114) (.t 115)), mo 8 116]) (.seq (.region
    none [mo 117 0, mo 118 1, mo 119 14,
    mo 120 3, kx 121 (.k 9 [.t 117, .t 118, .t 119, .t 120])])
    (.region none [mo 122 14, ox 123 (.bin .add (.t 122) (ai 1)),
    mo 1 123]))) (.seq (.region none [mo 124 17, mo 125 18,
    ox 126 (.bin .geq (.t 124) (.t 125)), mo 8 126]) (.seq (.region
    none [mo 127 0, mo 128 14, ox 129 (.bin .add (.t 128) (ai 1)),
    mo 130 2, mo 131 3, kx 132 (.k 9 [.t 127, .t 129, .t 130, .t 131])])
    (.region none [mo 133 14, mo 2 133])))))))))))))))))
def slices_pdqsortOrdered_s1 : ACode :=
  .block 0 (.loop slices_pdqsortOrdered_l0)
def slices_pdqsortOrdered : AFun :=
  ⟨4, [], (.seq (.region none [ox 8 (.mv (.c (.bool true)))]) (.seq (.region none [ox 9 (.mv (.c (.bool true)))])
    slices_pdqsortOrdered_s1)), false⟩

def slices_Sort : AFun :=
  ⟨1, [], (.seq (.region none [mo 3 0, ox 4 (.len .sl (.t 3)), mo 2 4])
    (.region none [mo 5 0, mo 6 2, mo 7 2,
    ox 8 (.convI .u64 (.t 7)), kx 9 (.k 0 [.t 8]), kx 10 (.k 1 [.t 5, .c (.int .i64 0), .t 6, .t 9])])), false⟩

end Am.Ir
