import Derived.Test.YtjinhkamckibaaaAmBis21
import Derived.Test.YtjinhkamckibaaaAmTop
import Derived.Test.YtjinhkamckibaaaAmIrBisectOk
import Derived.Test.YtjinhkamckibaaaRows
set_option linter.all false
/- Messages: each model is the truth of its function in the given program. -/
section
namespace Am.Bis
open Am Go Am.Ir Am.Sha Go.Proofs Go.Proofs.Ytjinhkamckibaaa Go.RowKit
set_option maxRecDepth 100000

theorem own : ownKnob Try.prog.godebug = none := by kernel_rfl
theorem laidOut : laidOutB Try.prog = true := by kernel_rfl
theorem mix : Try.prog.follows .mixedOrders = true := Checked.mixed Try.checked
theorem noE0 : e0 Try.prog = none := by kernel_rfl

theorem sx {fs : List FuncId} {l : List Model} (hl : SoundAll Try.prog fs l) {g : FuncId} {fn : Func} (hg : Try.prog.funcs[g]? = some fn) {h : Nat → Nat → Bool} {F : AFun}
    (hc : compF Try.prog fs h fn = some F) (k : Nat) : Sound Try.prog g (exM (orc l) F k) := Sound.ex hl mix hg hc k

theorem sNew : Sound Try.prog 37 xNew := sx (fs := []) (l := []) trivial Try.func37 sha_New_ok 10
theorem sLoad : Sound Try.prog 48 mLoad := Sound.pure 2 (sx (fs := []) (l := []) trivial Try.func48 sha_load_ok 1000)
theorem sSteps : Sound Try.prog 49 mSteps := Sound.pure 2 (sx (fs := []) (l := []) trivial Try.func49 sha_steps_ok 10)
theorem sRot : Sound Try.prog 50 xRot := sx (fs := []) (l := []) trivial Try.func50 bits_RotateLeft32_ok 10
theorem sNext : Sound Try.prog 51 xNext := sx (fs := [50]) (l := [xRot]) ⟨sRot, trivial⟩ Try.func51 sha_wheel_next_ok 10
theorem sHashTake : Sound Try.prog 45 Sha.xTake := sx (fs := [48, 49, 50, 51]) (l := [mLoad, mSteps, xRot, xNext]) ⟨sLoad, sSteps, sRot, sNext, trivial⟩ Try.func45 sha_Hash_take_ok 1000
theorem sWrite : Sound Try.prog 38 xWrite := sx (fs := [45]) (l := [Sha.xTake]) ⟨sHashTake, trivial⟩ Try.func38 sha_Hash_Write_ok 100000
theorem sSum : Sound Try.prog 39 xSum := sx (fs := [38]) (l := [xWrite]) ⟨sWrite, trivial⟩ Try.func39 sha_Hash_Sum_ok 100000
theorem sAll : Sound Try.prog 26 mAll := Sound.tell 2 (sx (fs := [37, 38, 39]) (l := [xNew, xWrite, xSum]) ⟨sNew, sWrite, sSum, trivial⟩ Try.func26 sha_All_ok 10000)
theorem sSumP : Sound Try.prog 17 mSumP := Sound.tell 2 (sx (fs := [26]) (l := [mAll]) ⟨sAll, trivial⟩ Try.func17 sha_Sum_ok 10)
theorem sTurn : Sound Try.prog 41 xTurn := sx (fs := []) (l := []) trivial Try.func41 r02_turn_ok 10
theorem sStart : Sound Try.prog 28 mStart := Sound.pure 2 (sx (fs := []) (l := []) trivial Try.func28 r02_start_ok 10)
theorem sSteps2 : Sound Try.prog 29 mSteps2 := Sound.pure 2 (sx (fs := []) (l := []) trivial Try.func29 r02_steps_ok 10)
theorem sPadded : Sound Try.prog 30 mPadded := Sound.tell 2 (sx (fs := []) (l := []) trivial Try.func30 r02_padded_ok 1000)
theorem sBlock : Sound Try.prog 31 mBlock := Sound.tell 2 (sx (fs := [41]) (l := [xTurn]) ⟨sTurn, trivial⟩ Try.func31 r02_block_ok 1000)
theorem sSum2 : Sound Try.prog 19 mSum2 := Sound.tell 2 (sx (fs := [28, 29, 30, 31]) (l := [mStart, mSteps2, mPadded, mBlock]) ⟨sStart, sSteps2, sPadded, sBlock, trivial⟩ Try.func19 r02_Sum_ok 100000)

theorem sMay : Sound Try.prog 11 mMay := Sound.tell 1 (sx (fs := [20, 17]) (l := [mIsName, mSumP]) ⟨sIsName, sSumP, trivial⟩ Try.func11 bisect_May_ok 10)
theorem sGrown : Sound Try.prog 36 xGrown := sx (fs := []) (l := []) trivial Try.func36 num_grown_ok 10
theorem sPut : Sound Try.prog 25 xPut := sx (fs := [36]) (l := [xGrown]) ⟨sGrown, trivial⟩ Try.func25 num_Put_ok 100
theorem sPutString : Sound Try.prog 16 xPutString := sx (fs := [25]) (l := [xPut]) ⟨sPut, trivial⟩ Try.func16 num_PutString_ok 10
theorem sEncode : Sound Try.prog 8 mEncode := Sound.tell 3 (sx (fs := [11, 16, 17]) (l := [mMay, xPutString, mSumP]) ⟨sMay, sPutString, sSumP, trivial⟩ Try.func8 bisect_Encode_ok 10)
theorem sEqual : Sound Try.prog 22 xEqual := sx (fs := []) (l := []) trivial Try.func22 bytes_Equal_ok 10
theorem sIsShort : Sound Try.prog 46 xIsShort := sx (fs := []) (l := []) trivial Try.func46 num_isShort_ok 10
theorem sClone : Sound Try.prog 47 xClone := sx (fs := []) (l := []) trivial Try.func47 bytes_Clone_ok 10
theorem sTake : Sound Try.prog 42 Bis.xTake := sx (fs := [46, 47]) (l := [xIsShort, xClone]) ⟨sIsShort, sClone, trivial⟩ Try.func42 num_Take_ok 100
theorem sTakeBytes : Sound Try.prog 43 xTakeBytes := sx (fs := [47]) (l := [xClone]) ⟨sClone, trivial⟩ Try.func43 num_TakeBytes_ok 10
theorem sTakeString : Sound Try.prog 33 xTakeString := sx (fs := [42, 43]) (l := [Bis.xTake, xTakeBytes]) ⟨sTake, sTakeBytes, trivial⟩ Try.func33 num_TakeString_ok 10
theorem sParse : Sound Try.prog 23 xParse := sx (fs := [33, 11]) (l := [xTakeString, mMay]) ⟨sTakeString, sMay, trivial⟩ Try.func23 bisect_parse_ok 10
theorem sDecode : Sound Try.prog 13 xDecode := sx (fs := [17, 22, 23]) (l := [mSumP, xEqual, xParse]) ⟨sSumP, sEqual, sParse, trivial⟩ Try.func13 bisect_Decode_ok 10
theorem sAlive : Sound Try.prog 7 mAlive := Sound.tell 1 (sx (fs := [8, 13, 11]) (l := [mEncode, xDecode, mMay]) ⟨sEncode, sDecode, sMay, trivial⟩ Try.func7 l21_alive_ok 10)
theorem sPlain : Sound Try.prog 10 xPlain := sx (fs := []) (l := []) trivial Try.func10 l21_plain_ok 10
theorem sSame : Sound Try.prog 15 xSame := sx (fs := []) (l := []) trivial Try.func15 r21_Same_ok 10
theorem sSmall : Sound Try.prog 6 xSmall := sx (fs := []) (l := []) trivial Try.func6 l21_small_ok 10
theorem sIsName2 : Sound Try.prog 21 xIsName2 := sx (fs := []) (l := []) trivial Try.func21 r12_IsName_ok 10000
theorem sMay2 : Sound Try.prog 12 mMay2 := Sound.tell 1 (sx (fs := [21, 19]) (l := [xIsName2, mSum2]) ⟨sIsName2, sSum2, trivial⟩ Try.func12 r21_May_ok 10)
theorem sPut2 : Sound Try.prog 40 xPut2 := sx (fs := []) (l := []) trivial Try.func40 r01_Put_ok 100
theorem sPutString2 : Sound Try.prog 27 xPutString2 := sx (fs := [40]) (l := [xPut2]) ⟨sPut2, trivial⟩ Try.func27 r01_PutString_ok 10
theorem sAhead2 : Sound Try.prog 18 xAhead2 := sx (fs := [27]) (l := [xPutString2]) ⟨sPutString2, trivial⟩ Try.func18 r21_ahead_ok 10
theorem sEncode2 : Sound Try.prog 9 mEncode2 := Sound.tell 3 (sx (fs := [12, 18, 19]) (l := [mMay2, xAhead2, mSum2]) ⟨sMay2, sAhead2, sSum2, trivial⟩ Try.func9 r21_Encode_ok 10)
theorem sTakeBytes2 : Sound Try.prog 34 xTakeBytes2 := sx (fs := []) (l := []) trivial Try.func34 r01_TakeBytes_ok 10
theorem sTake2 : Sound Try.prog 44 xTake2 := sx (fs := [40]) (l := [xPut2]) ⟨sPut2, trivial⟩ Try.func44 r01_Take_ok 100
theorem sTakeString2 : Sound Try.prog 35 xTakeString2 := sx (fs := [44]) (l := [xTake2]) ⟨sTake2, trivial⟩ Try.func35 r01_TakeString_ok 10
theorem sParse2 : Sound Try.prog 24 xParse2 := sx (fs := [34, 35, 12]) (l := [xTakeBytes2, xTakeString2, mMay2]) ⟨sTakeBytes2, sTakeString2, sMay2, trivial⟩ Try.func24 r21_parse_ok 100
theorem sDecode2 : Sound Try.prog 14 xDecode2 := sx (fs := [19, 24]) (l := [mSum2, xParse2]) ⟨sSum2, sParse2, trivial⟩ Try.func14 r21_Decode_ok 10

/-- The arguments. -/
abbrev msgT : DT := .st (.fld (.int .i64) (.fld .str (.fld .str (.fld (.int .i64) (.fld (.int .i64) (.fld (.arr 32 (.int .u8)) (.fld (.sl (.int .u8)) .done)))))))
abbrev bytT : DT := .sl (.int .u8)

theorem byt_arg {x : Option (List Int)} (h : bytT.Wf x) : ∃ u : List UInt8, u.length ≤ 9223372036854775807 ∧ ∀ S, Rd S (bytT.one x) u := by
  cases x with
  | none => exact ⟨[], by simp, fun S => nilRd S⟩
  | some l =>
    obtain ⟨h1, h2⟩ := h
    obtain ⟨u, k1, k2⟩ := bytes_arg l (fun n hn => h2 n hn)
    refine ⟨u, by have : maxLen ≤ 9223372036854775807 := by decide +kernel
                  omega, fun S => ?_⟩
    have e : bytT.one (some l) = .fz false u.length (bcells u) := by
      show AVal.fz false l.length (l.flatMap (DT.int .u8).enc) = _
      rw [k2, k1]
    rw [e]
    exact ⟨.inr (.inl ⟨_, _, _, rfl⟩), by simp [cellsOf, bcells_len]⟩

theorem byt_enc (x : bytT.Val) : bytT.enc x = [bytT.one x] := by cases x <;> rfl

theorem msg_arg (x : msgT.Val) (h : msgT.Wf x) : ∃ (m : Msg) (b : AVal) (w : List UInt8), m.Arg ∧ (∀ S, Rd S b w) ∧ msgT.one x = .agg (m.c b) := by
  obtain ⟨k, s, n, lo, hi, h32, b, _⟩ := x
  obtain ⟨hk, hs, hn, hlo, hhi, ⟨hh1, hh2⟩, hb, _⟩ := h
  obtain ⟨w, -, hw⟩ := byt_arg hb
  obtain ⟨u, k1, k2⟩ := bytes_arg h32 (fun n hn => hh2 n hn)
  refine ⟨⟨k, s, n, lo, hi, u⟩, bytT.one b, w, ⟨by rw [k1]; exact hh1, hk, hlo, hhi⟩, hw, ?_⟩
  have e : msgT.one (k, s, n, lo, hi, h32, b, ()) = .agg ([AVal.int .i64 k] ++ ([AVal.str s] ++ ([AVal.str n] ++ ([AVal.int .i64 lo] ++ ([AVal.int .i64 hi] ++ (h32.flatMap (DT.int .u8).enc ++ (bytT.enc b ++ []))))))) := rfl
  rw [e, k2, byt_enc]
  simp [Msg.c]

theorem lawE_calls (W : World) (hW : WOk Try.prog W) (m : Msg) (b : AVal) (w : List UInt8) (ha : m.Arg) (hb : ∀ S, Rd S b w) : ACalls Try.prog W 3 [.agg (m.c b)] [] fun v _ => v = .bool true := by
  obtain ⟨T, hT⟩ := lawE ha hb
  exact ((sx (fs := [6, 7, 8, 10, 9, 11, 12]) (l := [xSmall, mAlive, mEncode, xPlain, mEncode2, mMay, mMay2])
    ⟨sSmall, sAlive, sEncode, sPlain, sEncode2, sMay, sMay2, trivial⟩ Try.func3 l21_BisectEncode_ok 10) W hW _ _ _ _ hT).2.mono fun _ _ h => h.1
theorem lawD_calls (W : World) (hW : WOk Try.prog W) (x : AVal) (u : List UInt8) (hx : ∀ S, Rd S x u) (hl : u.length ≤ 9223372036854775807) : ACalls Try.prog W 4 [x] [] fun v _ => v = .bool true := by
  obtain ⟨T, hT⟩ := lawD hx hl
  exact ((sx (fs := [7, 13, 14, 10, 15]) (l := [mAlive, xDecode, xDecode2, xPlain, xSame])
    ⟨sAlive, sDecode, sDecode2, sPlain, sSame, trivial⟩ Try.func4 l21_BisectDecode_ok 10000) W hW _ _ _ _ hT).2.mono fun _ _ h => h.1
theorem lawB_calls (W : World) (hW : WOk Try.prog W) (m : Msg) (b x : AVal) (w u : List UInt8) (ha : m.Arg) (hb : ∀ S, Rd S b w) (hx : ∀ S, Rd S x u) (hl : u.length ≤ 9223372036854775807) : ACalls Try.prog W 5 [.agg (m.c b), x] [] fun v _ => v = .bool true := by
  obtain ⟨T, hT⟩ := lawB ha hb hx hl
  exact ((sx (fs := [6, 7, 8, 13, 11, 10, 15]) (l := [xSmall, mAlive, mEncode, xDecode, mMay, xPlain, xSame])
    ⟨sSmall, sAlive, sEncode, sDecode, sMay, sPlain, sSame, trivial⟩ Try.func5 l21_BisectBack_ok 10) W hW _ _ _ _ hT).2.mono fun _ _ h => h.1
end Am.Bis
end

/- BisectEncode: any message as it is written, and whether it may be, is as the document says; for every input, no condition. -/
section
namespace Am.Bis
open Am Go Am.Ir Am.Sha Go.Proofs Go.Proofs.Ytjinhkamckibaaa Go.RowKit
set_option maxRecDepth 100000

theorem bisectEncode_lifted (os : Os) (started : os.Started) (H : Type) (enc : TypeId × Value → H) :
    ReturnsInHanded {} Try.checked os 3 .any (Rows.bisectEncodeSpec.pre6 enc Try.prog Try.f3 Rows.bisectEncodeRow.domain false) (Rows.bisectEncodeSpec.post enc Try.prog Try.f3 false true false false) :=
  lifted (C := Try.checked) own started (by kernel_rfl) Try.func3
    (ChangeSpec.witness6 (enc := enc) (C := Try.checked) false ⟨#[], #[.agg (#[.int .i64 0, .string ⟨#[]⟩, .string ⟨#[]⟩, .int .i64 0, .int .i64 0] ++ Array.replicate 32 (.int .u8 0) ++ #[.slice none 0 0])], []⟩ 8 (by kernel_rfl) (by kernel_rfl) (by kernel_rfl) (by kernel_rfl))
    rfl laidOut [msgT] (by kernel_rfl) rfl (by kernel_rfl)
    (fun ds h => by rcases ds with _ | ⟨a, _ | ⟨b, ds⟩⟩ <;> first | rfl | (exfalso; revert h; rw [Try.params3]; simp))
    noE0
    (fun x hx W hW => by
      obtain ⟨m, b, w, ha, hb, he⟩ := msg_arg x.1 hx.1
      have := lawE_calls W hW m b w ha hb
      rw [← he] at this
      exact this)

theorem bisectEncode_holds : Rows.BisectEncodeSaid :=
  OpenClaim.holds_of_wide 3 Try.f3 rfl rfl rfl rfl rfl rfl rfl ⟨rfl, rfl, rfl, rfl, rfl⟩ rfl rfl rfl rfl rfl (by kernel_rfl) Try.func3 (by kernel_rfl)
    (of_decide_eq_true (by kernel_rfl)) (by unfold Func.isWrapper; first | (rw [if_pos (by decide +kernel)]; kernel_rfl) | (rw [if_neg (by decide +kernel)]; exact ⟨rfl, rfl⟩))
    (fun os started H enc _ => bisectEncode_lifted os started H enc)
end Am.Bis

namespace Go.Proofs.Ytjinhkamckibaaa
theorem bisectEncode_holds : Rows.BisectEncodeSaid := Am.Bis.bisectEncode_holds
end Go.Proofs.Ytjinhkamckibaaa
end

