import Derived.Test.YtgbifohffmdgeaaGreatDoorAmPq8
import Derived.Lib.Bytealg
import Derived.Lib.AtoiAll
import Derived.Test.YtgbifohffmdgeaaGreatDoorAmPure
import Derived.Shelf.Strings.Builder1
import Derived.Shelf.Strings.Builder2
import Derived.Shelf.Strings.OnBuilder
import Derived.Shelf.Small.Strs
import Derived.Shelf.Strconv.Atoi
import Derived.Shelf.Strconv.Itoa0
import Derived.Shelf.Strconv.Itoa1
import Derived.Shelf.LaysM
import Derived.Shelf.Strconv.Itoa2
import Derived.Shelf.Strconv.Itoa3
import Derived.Shelf.Strconv.AtoiErrFast
import Derived.Shelf.Strconv.ParseIntEmpty
import Derived.Shelf.Strconv.AtoiFail
import Derived.Shelf.Strconv.Clone
import Derived.Shelf.Strconv.SyntaxError
import Derived.Shelf.LaysC
import Derived.Shelf.Strconv.ToError
import Derived.Shelf.Strconv.Lower
import Derived.Shelf.Strconv.ParseUint10
import Derived.Shelf.Strconv.ParseUint10Empty
import Derived.Shelf.Strconv.ParseUint10Any
import Derived.Shelf.Strconv.ParseInt10
import Derived.Shelf.Strconv.AtoiLong
import Derived.Shelf.Strconv.AtoiInnerAll
import Derived.Shelf.Strconv.RangeError
import Derived.Shelf.Strconv.ToErrorRange
import Derived.Shelf.Strconv.AtoiAll
import Derived.Shelf.Strconv.ErrVarAll
import Derived.Shelf.Strings.Search1
import Derived.Test.YtgbifohffmdgeaaGreatDoorProg
set_option linter.all false
/- Texts: the models of Parse and of what it calls. -/
section
namespace Am.Pol
open Am Go Am.Ir
set_option maxRecDepth 100000

def noM : Model := fun _ _ => none
/-- internal/stringslite.IndexByte. -/
def mIxB : Model := fun args S => match args with
  | [.str s, .int .u8 c] => some (.int .i64 (Lib.indexByte s c.toNat.toUInt8), S)
  | _ => none
/-- strconv.Atoi; what an error is, nobody asks. -/
def mAtoi : Model := fun args S => match args with
  | [.str s] => if s.length ≤ 1000 then (match Lib.atoiAll s with
    | .ok v => some (.tup [.int .i64 v, .nili], S)
    | .range => none
    | _ => some (.tup [.int .i64 0, .junk], S)) else none
  | _ => none

def xIndexL : Model := exM (orc [mIxB, noM, noM, noM]) stringslite_Index 10
def xIndex : Model := exM (orc [xIndexL]) strings_Index 10
def xCutL : Model := exM (orc [xIndexL]) stringslite_Cut 10
def xCut : Model := exM (orc [xCutL]) strings_Cut 10
/-- The closure that splitSeq hands back, as an iterator. -/
def itSplit : (Nat → Model) → Model := fun Y => exM { orc [noM, xIndex] with yld := Y } strings_splitSeq_1 1000
def splitSeqF (k : Nat) : AFun := ⟨3, [.inl 6], (.seq (.region none [ox 3 (.box (.t 0)), ox 4 (.box (.t 1)), ox 5 (.box (.t 2)),
    ox 6 (.mv (.c .nilf))]) (.seq (.region none [ox 7 (.mkfn (Fn.func k) [] [.t 4, .t 3, .t 5]),
    mo 6 7]) .ret)), false⟩
theorem splitSeqD : strings_splitSeq = splitSeqF 36 := rfl
def xSpl0 (k : Nat) : Model := exM (orc []) (splitSeqF k) 10
def xSpl (k : Nat) : Model := exM (orc [xSpl0 k]) strings_SplitSeq 10
def xParts : Model := exM (orc []) policy_Policy_parts 10
def xP1 : Model := exM (orc []) policy_Parse_1 10
def xIdxF (p1 : Nat) : Model := exM (orcD [] [(p1, xP1)] []) slices_IndexFunc 1000
def mMkSet : Model := pureM 3 (exM (orc []) strings_makeASCIISet 1000)
def xHas : Model := exM (orc []) strings_asciiSet_contains 10
def xTrR : Model := exM (orc [xHas]) strings_trimRightASCII 1000
def xTrL : Model := exM (orc [xHas]) strings_trimLeftASCII 1000
def xTrim : Model := exM (orc [noM, noM, mMkSet, xTrR, xTrL, noM, noM]) strings_Trim 10
def xHasPL : Model := exM (orc []) stringslite_HasPrefix 10
def xHasP : Model := exM (orc [xHasPL]) strings_HasPrefix 10
def mCount : Model := pureM 2 (exM (orc [xTrim, xHasP, mAtoi]) policy_count 10)
/-- Parse, whose closures have numbers of the program's. -/
def parseR (p1 : Nat) : ACode := .block 1 (.seq (.region none [mo 20 6, kx 21 (.k 2 [.t 20, .c (.str [61])]),
    mo 19 21, ox 22 (.ext 0 (.t 19)), ox 23 (.ext 1 (.t 19)),
    ox 24 (.ext 2 (.t 19)), ox 7 (.alloc [.str []]), oz (.store 1 (.t 7) (.t 22)),
    mo 8 23, mo 9 24]) (.seq (.region none [ox 25 (.load none (.t 5)),
    ox 26 (.mkfn (Fn.func p1) [] [.t 7]), kx 27 (.k 3 [.t 25, .t 26]), mo 10 27])
    (.seq (.region none [mo 28 8, kx 29 (.k 4 [.t 28]), mo 11 29])
    (.seq (.seq (.region none [mo 30 10, ox 31 (.bin .lss (.t 30) (ai 0)),
    mo 32 31, og 32 false 33 (.mv (.t 11)), og 32 false 34 (.bin .eql (.t 33) (ai 0)),
    ox 35 (.pick (.t 32) (.c (.bool true)) (.t 34))]) (.cond (.t 35) (.seq (.region none [ox 36 (.build [.int .i64 0, .int .i64 0, .int .i64 0, .int .i64 0, .int .i64 0] []),
    oz (.store 5 (.t 2) (.t 36)), oz (.store 1 (.t 3) (ai 3))])
    .ret) .skip)) (.seq (.region none [ox 37 (.load none (.t 5)), mo 38 10,
    ox 39 (.iaddrS 2 (.t 37) (.t 38)), ox 40 (.faddr 1 (.t 39)), ox 41 (.load none (.t 40)),
    mo 42 11, ox 43 (.nilchk (.t 41)), oz (.store 1 (.t 43) (.t 42))])
    (.region none [ox 44 (.load none (.t 5)), mo 45 10, ox 46 (.bin .add (.t 45) (ai 1)),
    ox 47 (.slcS 2 (.t 44) (some (.t 46)) none), oz (.store 1 (.t 5) (.t 47))]))))))
def parseF (p1 : Nat) : AFun :=
  ⟨1, [.inr (2, some 5), .inr (3, none)], (.seq (.region none [ox 2 (.alloc [.int .i64 0, .int .i64 0, .int .i64 0, .int .i64 0, .int .i64 0]),
    ox 3 (.alloc [.int .i64 0])]) (.seq (.region none [ox 4 (.alloc [.int .i64 0, .int .i64 0, .int .i64 0, .int .i64 0, .int .i64 0])])
    (.seq (.seq (.region none [mo 12 0, ox 13 (.bin .eql (.t 12) (.c (.str [110, 111, 110, 101])))])
    (.cond (.t 13) (.seq (.region none [ox 14 (.load (some 5) (.t 4)), oz (.store 5 (.t 2) (.t 14)),
    oz (.store 1 (.t 3) (ai 0))]) .ret) .skip)) (.seq (.region none [kx 15 (.k 0 [.t 4]),
    ox 5 (.alloc [.nils]), oz (.store 1 (.t 5) (.t 15))]) (.seq (.seq (.region none [mo 16 0, kx 17 (.k 1 [.t 16, .c (.str [32])])])
    (.block 0 (.range (.t 17) [18] policy_Parse_a0 (parseR p1)))) (.seq (.region none [ox 48 (.load (some 5) (.t 4)), oz (.store 5 (.t 2) (.t 48)),
    oz (.store 1 (.t 3) (ai 0))]) .ret)))))), true⟩
theorem parseD : policy_Parse = parseF 17 := rfl
def xParse (sp p1 : Nat) : Model := exM (orcD [xParts, xSpl sp, xCut, xIdxF p1, mCount] [] [(sp, itSplit)]) (parseF p1) 1000
def xAlive (k g sp p1 : Nat) : Model := exM (orc [xKeep k g, xParse sp p1]) l30_alive 10
def mAlive (k g sp p1 : Nat) : Model := pureM 1 (xAlive k g sp p1)
end Am.Pol
end

/- From a contract of the library to a model of the machine. -/
section
namespace Am
open Go Go.RowKit
variable {P : Program} {W : World} {κ : Kap} {S : St} {w w' : World}

/-- What was there stays, and more lies behind. -/
theorem Rel.more (h : Rel W κ S w) (hb : Below w.heap.size w w') : Rel W κ S w' := by
  have hk : ∀ (b : Nat) o, w.heap[b]? = some o → w'.heap[b]? = some o := fun b o ho => by
    rw [hb.block b (Array.getElem?_eq_some_iff.1 ho).1]; exact ho
  refine ⟨h.below.trans (hb.mono h.below.size), h.len, ?_, h.disj, ?_, h.fzd, h.lo, h.loops.step (fun _ _ h => h) (fun _ _ _ h => h) (fun b o hb _ => hk b o hb), h.dom,
    h.held.step h.loops rfl (fun b o _ hb => hk b o hb) (fun r v cs i hr hi => .inl ⟨r, v, cs, i, hr, hi, rfl⟩) (fun b x y hy => .inl hy) (fun _ _ _ h => h) (fun _ _ h => h)⟩
  · intro r v cells i hS hi
    obtain ⟨a1, a2, a3, arr', e', fr, a4, a5, a6, a7, a8⟩ := h.own r v cells i hS hi
    exact ⟨a1, a2, a3, arr', e', fr, hk _ _ a4, a5, a6, a7, a8⟩
  · intro b o' y hy
    have := h.fz b o' y hy
    rw [hb.cell (World.block_lt_of_cell? _ _ this)]; exact this

theorem Rel.wok (h : Rel W κ S w) (hW : WOk P W) : WOk P w := hW.later h.below

/-- A function's contract, where its result is told in place. -/
theorem SoundW.of {g : FuncId} {m : Model} (hc : Callable P g)
    (h : ∀ args S v S', m args S = some (v, S') → S' = S ∧ ∀ (κ : Kap) (w : World) (args' : List Value), WOk P w → Rel W κ S w → VRelL κ args args' →
      Calls P g args'.toArray w fun e w' => ∃ x, e = .returned x ∧ VRel κ v x ∧ Below w.heap.size w w') (hW : WOk P W) : SoundW P W g m := by
  intro args S v S' hm
  refine ⟨hc, fun κ w args' hr ha => ?_⟩
  obtain ⟨rfl, h1⟩ := h args S v S' hm
  refine (h1 κ w args' (hr.wok hW) hr ha).mono ?_
  rintro e w' ⟨x, rfl, hx, hb⟩
  exact ⟨v, x, S', κ, rfl, ⟨rfl, rfl⟩, hx, hr.more hb, Kap.le_refl κ⟩

theorem below_refl (w : World) : Below w.heap.size w w := Below.refl _ _

/-- A text of the machine and the program's. -/
theorem str_inv {s : List UInt8} {y : Value} (h : VRel κ (.str s) y) : ∃ b : ByteArray, y = .string b ∧ b.data.toList = s := by
  cases h with
  | str _ b h => exact ⟨b, rfl, h⟩
theorem int_inv {k : IntKind} {n : Int} {y : Value} (h : VRel κ (.int k n) y) : y = .int k n := by
  cases h; rfl
theorem str_of (l : List UInt8) : VRel κ (.str l) (.string ⟨l.toArray⟩) := .str _ _ (by simp)
end Am
end

/- Contracts of the library, laid over a seat; printed by the kit's own tools, cut down. -/
section
namespace Go.Proofs
open Go.Shelf
def Tryz.lays156_ren : Go.Shelf.Ren := ⟨fun | 156 => 35 | 165 => 49 | 166 => 50 | 169 => 51 | 240 => 71 | 241 => 72 | 276 => 94 | 277 => 95 | n => n, fun | 31 => 70 | 9 => 9 | 3 => 3 | 4 => 4 | 0 => 0 | 20 => 20 | 72 => 93 | 76 => 88 | 70 => 90 | 37 => 91 | 75 => 87 | 127 => 113 | 164 => 132 | 5 => 5 | 80 => 95 | n => n, fun | n => n⟩
theorem Tryz.lays156 : Go.Proofs.Lays.n156 Tryz.prog Tryz.lays156_ren := {
  mixed := by kernel_rfl
  f156 := Tryz.func35.trans (congrArg some (by kernel_rfl))
  f165 := Tryz.func49.trans (congrArg some (by kernel_rfl))
  f166 := Tryz.func50.trans (congrArg some (by kernel_rfl))
  f169 := Tryz.func51.trans (congrArg some (by kernel_rfl))
  f240 := Tryz.func71.trans (congrArg some (by kernel_rfl))
  f241 := Tryz.func72.trans (congrArg some (by kernel_rfl))
  f276 := Tryz.func94.trans (congrArg some (by kernel_rfl))
  f277 := Tryz.func95.trans (congrArg some (by kernel_rfl))
  t0 := Tryz.underlying0
  a0 := Tryz.isAgg0
  z0 := Tryz.sizeOf0
  v0 := Tryz.zeroValue0
  t3 := Tryz.underlying3
  a3 := Tryz.isAgg3
  z3 := Tryz.sizeOf3
  v3 := Tryz.zeroValue3
  t4 := Tryz.underlying4
  a4 := Tryz.isAgg4
  z4 := Tryz.sizeOf4
  v4 := Tryz.zeroValue4
  t9 := Tryz.underlying9
  a9 := Tryz.isAgg9
  z9 := Tryz.sizeOf9
  v9 := Tryz.zeroValue9
  t20 := Tryz.underlying20
  a20 := Tryz.isAgg20
  z20 := Tryz.sizeOf20
  v20 := Tryz.zeroValue20
  t31 := Tryz.underlying70
  a31 := Tryz.isAgg70
  z31 := Tryz.sizeOf70
  v31 := Tryz.zeroValue70
  t37 := Tryz.underlying91
  a37 := Tryz.isAgg91
  z37 := Tryz.sizeOf91
  v37 := Tryz.zeroValue91
  t70 := Tryz.underlying90
  a70 := Tryz.isAgg90
  z70 := Tryz.sizeOf90
  v70 := Tryz.zeroValue90
  t72 := Tryz.underlying93
  a72 := Tryz.isAgg93
  z72 := Tryz.sizeOf93
  v72 := Tryz.zeroValue93
  t75 := Tryz.underlying87
  a75 := Tryz.isAgg87
  z75 := Tryz.sizeOf87
  v75 := Tryz.zeroValue87
  t76 := Tryz.underlying88
  a76 := Tryz.isAgg88
  z76 := Tryz.sizeOf88
  v76 := Tryz.zeroValue88
  t127 := Tryz.underlying113
  a127 := Tryz.isAgg113
  z127 := Tryz.sizeOf113
  v127 := Tryz.zeroValue113
  t164 := Tryz.underlying132
  a164 := Tryz.isAgg132
  z164 := Tryz.sizeOf132
  v164 := Tryz.zeroValue132 }
theorem Tryz.Builder_Extra_156 : Builder.Extra Tryz.prog Tryz.lays156_ren := {
  sizeBuilder := by kernel_rfl
  liesBuilder := by kernel_rfl
  t5 := Tryz.underlying5
  a5 := Tryz.isAgg5
  z5 := Tryz.sizeOf5
  v5 := Tryz.zeroValue5
  infoByte := by kernel_rfl
  cellsByte := by kernel_rfl
  sizeByte := by kernel_rfl
  neB5 := by decide }
open Go.RowKit in
/-- strings.Join: "Join concatenates the elements of its first argument to create a single string. The separator string sep is placed between elements in the resulting string.": HOWEVER MANY ELEMENTS. Below the heap's end the world is as it was. (LAID: no walk: one application.) -/
theorem Tryz.strings_Join (bk o c : Nat) (xs : List ByteArray) (sep : ByteArray) (w : World) (hcells : ∀ (j : Nat) x, xs[j]? = some x → w.cell? ⟨bk, o + j, none⟩ = some (.string x)) (hbk : bk < w.heap.size) (hN : xs.length ≤ 140737488355328) (hcap : xs.length ≤ c) (hlen : (Lib.join (xs.map (·.data.toList)) sep.data.toList).length ≤ 140737488355328) :
    Calls Tryz.prog 35 #[.slice (some ⟨bk, o, none⟩) xs.length c, .string sep] w fun e w' => e = .returned (.string ⟨(Lib.join (xs.map (·.data.toList)) sep.data.toList).toArray⟩) ∧ Below w.heap.size w w' := Any.strings_Join Tryz.lays156 Tryz.Builder_Extra_156 bk o c xs sep w hcells hbk hN hcap hlen
def Tryz.laysM171_ren : Go.Shelf.Ren := ⟨fun | 171 => 34 | 243 => 48 | 246 => 70 | 283 => 90 | 284 => 91 | 285 => 92 | 286 => 93 | 129 => 106 | 317 => 105 | 318 => 107 | 319 => 108 | 320 => 109 | 337 => 115 | 338 => 116 | n => n, fun | 3 => 3 | 9 => 9 | 2 => 2 | 4 => 4 | 171 => 127 | 0 => 0 | 53 => 31 | 37 => 91 | 5 => 5 | 173 => 130 | 212 => 150 | 51 => 139 | 20 => 20 | 213 => 151 | 46 => 118 | 232 => 159 | 233 => 160 | n => n, fun | 17 => 5 | 18 => 6 | 19 => 7 | n => n⟩
theorem Tryz.laysM171 : Go.Proofs.LaysM.n171 Tryz.prog Tryz.laysM171_ren := {
  mixed := by kernel_rfl
  f129 := Tryz.func106.trans (congrArg some (by kernel_rfl))
  f171 := Tryz.func34.trans (congrArg some (by kernel_rfl))
  f243 := Tryz.func48.trans (congrArg some (by kernel_rfl))
  f246 := Tryz.func70.trans (congrArg some (by kernel_rfl))
  f283 := Tryz.func90.trans (congrArg some (by kernel_rfl))
  f284 := Tryz.func91.trans (congrArg some (by kernel_rfl))
  f285 := Tryz.func92.trans (congrArg some (by kernel_rfl))
  f286 := Tryz.func93.trans (congrArg some (by kernel_rfl))
  f317 := Tryz.func105.trans (congrArg some (by kernel_rfl))
  f318 := Tryz.func107.trans (congrArg some (by kernel_rfl))
  f319 := Tryz.func108.trans (congrArg some (by kernel_rfl))
  f320 := Tryz.func109.trans (congrArg some (by kernel_rfl))
  f337 := Tryz.func115.trans (congrArg some (by kernel_rfl))
  f338 := Tryz.func116.trans (congrArg some (by kernel_rfl))
  t0 := Tryz.underlying0
  a0 := Tryz.isAgg0
  z0 := Tryz.sizeOf0
  v0 := Tryz.zeroValue0
  t2 := Tryz.underlying2
  a2 := Tryz.isAgg2
  z2 := Tryz.sizeOf2
  v2 := Tryz.zeroValue2
  t3 := Tryz.underlying3
  a3 := Tryz.isAgg3
  z3 := Tryz.sizeOf3
  v3 := Tryz.zeroValue3
  t4 := Tryz.underlying4
  a4 := Tryz.isAgg4
  z4 := Tryz.sizeOf4
  v4 := Tryz.zeroValue4
  t5 := Tryz.underlying5
  a5 := Tryz.isAgg5
  z5 := Tryz.sizeOf5
  v5 := Tryz.zeroValue5
  t9 := Tryz.underlying9
  a9 := Tryz.isAgg9
  z9 := Tryz.sizeOf9
  v9 := Tryz.zeroValue9
  t20 := Tryz.underlying20
  a20 := Tryz.isAgg20
  z20 := Tryz.sizeOf20
  v20 := Tryz.zeroValue20
  t37 := Tryz.underlying91
  a37 := Tryz.isAgg91
  z37 := Tryz.sizeOf91
  v37 := Tryz.zeroValue91
  t46 := Tryz.underlying118
  a46 := Tryz.isAgg118
  z46 := Tryz.sizeOf118
  v46 := Tryz.zeroValue118
  t51 := Tryz.underlying139
  a51 := Tryz.isAgg139
  z51 := Tryz.sizeOf139
  v51 := Tryz.zeroValue139
  t53 := Tryz.underlying31
  a53 := Tryz.isAgg31
  z53 := Tryz.sizeOf31
  v53 := Tryz.zeroValue31
  t171 := Tryz.underlying127
  a171 := Tryz.isAgg127
  z171 := Tryz.sizeOf127
  v171 := Tryz.zeroValue127
  t173 := Tryz.underlying130
  a173 := Tryz.isAgg130
  z173 := Tryz.sizeOf130
  v173 := Tryz.zeroValue130
  t212 := Tryz.underlying150
  a212 := Tryz.isAgg150
  z212 := Tryz.sizeOf150
  v212 := Tryz.zeroValue150
  t213 := Tryz.underlying151
  a213 := Tryz.isAgg151
  z213 := Tryz.sizeOf151
  t232 := Tryz.underlying159
  a232 := Tryz.isAgg159
  z232 := Tryz.sizeOf159
  v232 := Tryz.zeroValue159
  t233 := Tryz.underlying160
  a233 := Tryz.isAgg160
  z233 := Tryz.sizeOf160
  v233 := Tryz.zeroValue160
  g17 := by kernel_rfl
  g18 := by kernel_rfl
  g19 := by kernel_rfl
  i0 := by kernel_rfl
  i2 := by kernel_rfl
  i3 := by kernel_rfl
  i4 := by kernel_rfl
  i5 := by kernel_rfl
  i9 := by kernel_rfl
  i20 := by kernel_rfl
  i37 := by kernel_rfl
  i46 := by kernel_rfl
  i51 := by kernel_rfl
  i53 := by kernel_rfl
  i171 := by kernel_rfl
  i173 := by kernel_rfl
  i212 := by kernel_rfl
  i232 := by kernel_rfl
  i233 := by kernel_rfl
  m17 := by kernel_rfl
  m18 := by kernel_rfl
  m19 := by kernel_rfl }
open Go.RowKit Go.Sort Go.Lib in
/-- strconv.Itoa: "Itoa is equivalent to FormatInt(int64(i), 10).": i's DECIMAL NUMERAL ('Lib.itoa': a '-' where i is negative, then the digits), FOR EVERY int. The world behind the call: the world before it, new blocks behind the heap (the library's 'var a [24]byte'), draws. (LAID: no walk: one application.) -/
theorem Tryz.strconv_Itoa (n : Int) (h0 : -9223372036854775808 ≤ n) (h1 : n ≤ 9223372036854775807) (w : World) (htab : Lib.TabIs Tryz.prog w "internal/strconv.uint64pow10" .u64 Lib.pow10Tab) :
    Calls Tryz.prog 34 #[.int .i64 n] w fun e w' => e = .returned (.string ⟨(Lib.itoa n).toArray⟩) ∧ ∃ k os, w' = grow (w.drewN k) os := Any.strconv_Itoa Tryz.laysM171 n h0 h1 w htab
def Tryz.laysC172_ren : Go.Shelf.Ren := ⟨fun | 172 => 47 | 244 => 68 | 245 => 69 | 247 => 85 | 279 => 86 | 280 => 87 | 281 => 88 | 282 => 89 | 287 => 102 | 316 => 103 | 171 => 34 | 205 => 104 | 321 => 113 | 322 => 114 | 243 => 48 | 246 => 70 | 283 => 90 | 284 => 91 | 285 => 92 | 286 => 93 | 129 => 106 | 317 => 105 | 318 => 107 | 319 => 108 | 320 => 109 | 337 => 115 | 338 => 116 | n => n, fun | 9 => 9 | 3 => 3 | 75 => 87 | 76 => 88 | 4 => 4 | 5 => 5 | 167 => 121 | 37 => 91 | 0 => 0 | 85 => 122 | 2 => 2 | 168 => 124 | 53 => 31 | 175 => 143 | 46 => 118 | 210 => 147 | 127 => 113 | 145 => 157 | 143 => 155 | 21 => 21 | 171 => 127 | 173 => 130 | 212 => 150 | 51 => 139 | 20 => 20 | 213 => 151 | 232 => 159 | 233 => 160 | 80 => 95 | n => n, fun | 15 => 3 | 16 => 4 | 17 => 5 | 18 => 6 | 19 => 7 | n => n⟩
theorem Tryz.laysC172 : Go.Proofs.LaysC.n172 Tryz.prog Tryz.laysC172_ren := {
  mixed := by kernel_rfl
  f129 := Tryz.func106.trans (congrArg some (by kernel_rfl))
  f171 := Tryz.func34.trans (congrArg some (by kernel_rfl))
  f172 := Tryz.func47.trans (congrArg some (by kernel_rfl))
  f205 := Tryz.func104.trans (congrArg some (by kernel_rfl))
  f243 := Tryz.func48.trans (congrArg some (by kernel_rfl))
  f244 := Tryz.func68.trans (congrArg some (by kernel_rfl))
  f245 := Tryz.func69.trans (congrArg some (by kernel_rfl))
  f246 := Tryz.func70.trans (congrArg some (by kernel_rfl))
  f247 := Tryz.func85.trans (congrArg some (by kernel_rfl))
  f279 := Tryz.func86.trans (congrArg some (by kernel_rfl))
  f280 := Tryz.func87.trans (congrArg some (by kernel_rfl))
  f281 := Tryz.func88.trans (congrArg some (by kernel_rfl))
  f282 := Tryz.func89.trans (congrArg some (by kernel_rfl))
  f283 := Tryz.func90.trans (congrArg some (by kernel_rfl))
  f284 := Tryz.func91.trans (congrArg some (by kernel_rfl))
  f285 := Tryz.func92.trans (congrArg some (by kernel_rfl))
  f286 := Tryz.func93.trans (congrArg some (by kernel_rfl))
  f287 := Tryz.func102.trans (congrArg some (by kernel_rfl))
  f316 := Tryz.func103.trans (congrArg some (by kernel_rfl))
  f317 := Tryz.func105.trans (congrArg some (by kernel_rfl))
  f318 := Tryz.func107.trans (congrArg some (by kernel_rfl))
  f319 := Tryz.func108.trans (congrArg some (by kernel_rfl))
  f320 := Tryz.func109.trans (congrArg some (by kernel_rfl))
  f321 := Tryz.func113.trans (congrArg some (by kernel_rfl))
  f322 := Tryz.func114.trans (congrArg some (by kernel_rfl))
  f337 := Tryz.func115.trans (congrArg some (by kernel_rfl))
  f338 := Tryz.func116.trans (congrArg some (by kernel_rfl))
  t0 := Tryz.underlying0
  a0 := Tryz.isAgg0
  z0 := Tryz.sizeOf0
  v0 := Tryz.zeroValue0
  t2 := Tryz.underlying2
  a2 := Tryz.isAgg2
  z2 := Tryz.sizeOf2
  v2 := Tryz.zeroValue2
  t3 := Tryz.underlying3
  a3 := Tryz.isAgg3
  z3 := Tryz.sizeOf3
  v3 := Tryz.zeroValue3
  t4 := Tryz.underlying4
  a4 := Tryz.isAgg4
  z4 := Tryz.sizeOf4
  v4 := Tryz.zeroValue4
  t5 := Tryz.underlying5
  a5 := Tryz.isAgg5
  z5 := Tryz.sizeOf5
  v5 := Tryz.zeroValue5
  t9 := Tryz.underlying9
  a9 := Tryz.isAgg9
  z9 := Tryz.sizeOf9
  v9 := Tryz.zeroValue9
  t20 := Tryz.underlying20
  a20 := Tryz.isAgg20
  z20 := Tryz.sizeOf20
  v20 := Tryz.zeroValue20
  t21 := Tryz.underlying21
  a21 := Tryz.isAgg21
  z21 := Tryz.sizeOf21
  v21 := Tryz.zeroValue21
  t37 := Tryz.underlying91
  a37 := Tryz.isAgg91
  z37 := Tryz.sizeOf91
  v37 := Tryz.zeroValue91
  t46 := Tryz.underlying118
  a46 := Tryz.isAgg118
  z46 := Tryz.sizeOf118
  v46 := Tryz.zeroValue118
  t51 := Tryz.underlying139
  a51 := Tryz.isAgg139
  z51 := Tryz.sizeOf139
  v51 := Tryz.zeroValue139
  t53 := Tryz.underlying31
  a53 := Tryz.isAgg31
  z53 := Tryz.sizeOf31
  v53 := Tryz.zeroValue31
  t75 := Tryz.underlying87
  a75 := Tryz.isAgg87
  z75 := Tryz.sizeOf87
  v75 := Tryz.zeroValue87
  t76 := Tryz.underlying88
  a76 := Tryz.isAgg88
  z76 := Tryz.sizeOf88
  v76 := Tryz.zeroValue88
  t85 := Tryz.underlying122
  a85 := Tryz.isAgg122
  z85 := Tryz.sizeOf122
  v85 := Tryz.zeroValue122
  t127 := Tryz.underlying113
  a127 := Tryz.isAgg113
  z127 := Tryz.sizeOf113
  v127 := Tryz.zeroValue113
  t143 := Tryz.underlying155
  a143 := Tryz.isAgg155
  z143 := Tryz.sizeOf155
  v143 := Tryz.zeroValue155
  t145 := Tryz.underlying157
  a145 := Tryz.isAgg157
  z145 := Tryz.sizeOf157
  v145 := Tryz.zeroValue157
  t167 := Tryz.underlying121
  a167 := Tryz.isAgg121
  z167 := Tryz.sizeOf121
  v167 := Tryz.zeroValue121
  t168 := Tryz.underlying124
  a168 := Tryz.isAgg124
  z168 := Tryz.sizeOf124
  v168 := Tryz.zeroValue124
  t171 := Tryz.underlying127
  a171 := Tryz.isAgg127
  z171 := Tryz.sizeOf127
  v171 := Tryz.zeroValue127
  t173 := Tryz.underlying130
  a173 := Tryz.isAgg130
  z173 := Tryz.sizeOf130
  v173 := Tryz.zeroValue130
  t175 := Tryz.underlying143
  a175 := Tryz.isAgg143
  z175 := Tryz.sizeOf143
  v175 := Tryz.zeroValue143
  t210 := Tryz.underlying147
  a210 := Tryz.isAgg147
  z210 := Tryz.sizeOf147
  v210 := Tryz.zeroValue147
  t212 := Tryz.underlying150
  a212 := Tryz.isAgg150
  z212 := Tryz.sizeOf150
  v212 := Tryz.zeroValue150
  t213 := Tryz.underlying151
  a213 := Tryz.isAgg151
  z213 := Tryz.sizeOf151
  t232 := Tryz.underlying159
  a232 := Tryz.isAgg159
  z232 := Tryz.sizeOf159
  v232 := Tryz.zeroValue159
  t233 := Tryz.underlying160
  a233 := Tryz.isAgg160
  z233 := Tryz.sizeOf160
  v233 := Tryz.zeroValue160
  g15 := by kernel_rfl
  g16 := by kernel_rfl
  g17 := by kernel_rfl
  g18 := by kernel_rfl
  g19 := by kernel_rfl
  t80 := Tryz.underlying95
  a80 := Tryz.isAgg95
  z80 := Tryz.sizeOf95
  v80 := Tryz.zeroValue95
  i0 := by kernel_rfl
  i2 := by kernel_rfl
  i3 := by kernel_rfl
  i4 := by kernel_rfl
  i5 := by kernel_rfl
  i9 := by kernel_rfl
  i20 := by kernel_rfl
  i21 := by kernel_rfl
  i37 := by kernel_rfl
  i46 := by kernel_rfl
  i51 := by kernel_rfl
  i53 := by kernel_rfl
  i75 := by kernel_rfl
  i76 := by kernel_rfl
  i80 := by kernel_rfl
  i85 := by kernel_rfl
  i127 := by kernel_rfl
  i143 := by kernel_rfl
  i145 := by kernel_rfl
  i167 := by kernel_rfl
  i168 := by kernel_rfl
  i171 := by kernel_rfl
  i173 := by kernel_rfl
  i175 := by kernel_rfl
  i210 := by kernel_rfl
  i212 := by kernel_rfl
  i232 := by kernel_rfl
  i233 := by kernel_rfl
  m15 := by kernel_rfl
  m16 := by kernel_rfl
  m17 := by kernel_rfl
  m18 := by kernel_rfl
  m19 := by kernel_rfl
  c0 := by kernel_rfl
  c2 := by kernel_rfl
  c3 := by kernel_rfl
  c4 := by kernel_rfl
  c5 := by kernel_rfl
  c9 := by kernel_rfl
  c20 := by kernel_rfl
  c21 := by kernel_rfl
  c37 := by kernel_rfl
  c46 := by kernel_rfl
  c51 := by kernel_rfl
  c53 := by kernel_rfl
  c75 := by kernel_rfl
  c76 := by kernel_rfl
  c80 := by kernel_rfl
  c85 := by kernel_rfl
  c127 := by kernel_rfl
  c143 := by kernel_rfl
  c145 := by kernel_rfl
  c167 := by kernel_rfl
  c168 := by kernel_rfl
  c171 := by kernel_rfl
  c173 := by kernel_rfl
  c175 := by kernel_rfl
  c210 := by kernel_rfl
  c212 := by kernel_rfl
  c213 := by kernel_rfl
  c232 := by kernel_rfl
  c233 := by kernel_rfl }
open Go.RowKit in
/-- strconv.Atoi, AT EVERY STRING THAT SPELLS AN int ('Lib.atoiAll .. = .ok v'; of whatever length: leading zeros count): v, AND NO ERROR. The world: as it was, or with the one new row that '[]byte(..)' lays. (LAID: no walk: one application.) -/
theorem Tryz.strconv_Atoi_ok (s : ByteArray) (hmax : s.size ≤ 9223372036854775806) (v : Int) (h : Lib.atoiAll s.data.toList = .ok v) (w : World) :
    Calls Tryz.prog 47 #[.string s] w fun e w' => e = .returned (.tuple #[.int .i64 v, .nilIface]) ∧ (w' = w ∨ ∃ t, w' = Lib.bytesWorld w 5 t) := Any.strconv_Atoi_ok Tryz.laysC172 s hmax v h w
def Tryz.lays217_ren : Go.Shelf.Ren := ⟨fun | 217 => 78 | 266 => 98 | n => n, fun | 9 => 9 | 5 => 5 | 3 => 3 | n => n, fun | n => n⟩
theorem Tryz.lays217 : Go.Proofs.Lays.n217 Tryz.prog Tryz.lays217_ren := {
  mixed := by kernel_rfl
  f217 := Tryz.func78.trans (congrArg some (by kernel_rfl))
  f266 := Tryz.func98.trans (congrArg some (by kernel_rfl))
  t3 := Tryz.underlying3
  a3 := Tryz.isAgg3
  z3 := Tryz.sizeOf3
  v3 := Tryz.zeroValue3
  t5 := Tryz.underlying5
  a5 := Tryz.isAgg5
  z5 := Tryz.sizeOf5
  v5 := Tryz.zeroValue5
  t9 := Tryz.underlying9
  a9 := Tryz.isAgg9
  z9 := Tryz.sizeOf9
  v9 := Tryz.zeroValue9 }
open Go.RowKit Go.Lib in
/-- internal/stringslite.IndexByte (what strings.IndexByte calls): IT RETURNS 'Lib.indexByte s c'; the world is as it was. (LAID: no walk: one application.) -/
theorem Tryz.stringslite_IndexByte (s : ByteArray) (c : Int) (w : World) :
    Calls Tryz.prog 78 #[.string s, .int .u8 c] w fun e w' => e = .returned (.int .i64 (Lib.indexByte s.data.toList c.toNat.toUInt8)) ∧ w' = w := Any.stringslite_IndexByte Tryz.lays217 s c w
end Go.Proofs
end

