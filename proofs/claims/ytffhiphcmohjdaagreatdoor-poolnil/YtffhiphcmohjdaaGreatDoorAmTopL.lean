import Derived.Test.YtffhiphcmohjdaaGreatDoorAmTop
import Derived.Handed
import Derived.LaidLaws
import Derived.LaidHandle
import Derived.Lib.LaidU8
import Derived.Test.YtffhiphcmohjdaaGreatDoorAmAlM
import Derived.Test.YtffhiphcmohjdaaGreatDoorAmLayP
import Derived.Test.YtffhiphcmohjdaaGreatDoorAmShelf
import Derived.Test.YtffhiphcmohjdaaGreatDoorAmFz6
import Derived.Test.YtffhiphcmohjdaaGreatDoorProg
import Derived.KernelRfl
import Derived.Test.YtffhiphcmohjdaaGreatDoorAmNilP
set_option linter.all false
/- From the machine's word at an empty heap to a row whose listed variable is laid. -/
section
namespace Am
open Go Go.RowKit Go.ChangeShapes Go.WideShapes
section
variable {H : Type} {enc : TypeId × Value → H}

theorem liftedL {C : Checked} {os : Os} {f : FuncId} {fn : Func} {s : ChangeSpec} {conds : List PathCond} {fresh handsOn again : Bool} {tb : TypeId} {X : World → Prop}
    (own : ownKnob C.prog.godebug = none) (started : os.Started) (noInit : C.prog.inits.idxOf? f = none) (hfn : C.prog.funcs[f]? = some fn)
    (hXh : ∀ (w w' : World), w.heap = w'.heap → X w → X w')
    (witness : ∃ (w : World) (tape : Tape) (i : Input), w.os = os ∧ (w.forCall tape i).Shaped C.prog ∧ i.vars = [] ∧ Input.okWide C.prog (w.forCall tape i) .any w.heap.size f i ∧
      ((s.pre enc C.prog fn conds false (w.forCall tape i).memory i.args ∧ X (w.forCall tape i).memory) ∧ sizedMet enc C.prog fn (OpenSpec.ofChange s) false (w.forCall tape i).memory i.args) ∧ ({} : Assume).holds C.prog (lone (Frame.enter C.prog f i.args .normal) [] (w.forCall tape i)))
    (hv : s.vars = []) (hl : laidOutB C.prog = true) (ts : List DT) (hf : fitAll C.prog ts fn.params.toList = true)
    (hr : fn.resultTypes = #[tb]) (ht : (C.prog.underlying tb matches some .bool) = true)
    (hs : ∀ ds : List (DataW H), ds.length = fn.params.toList.length → s.fn H ds = { results := [.lit (.bool true)], args := ds })
    (hXW : ∀ W, X W → WOk C.prog W) (law : ∀ x : Vals ts, Wfs ts x → ∀ W, WOk C.prog W → ACalls C.prog W f (encs ts x) [] fun v _ => v = .bool true) :
    ReturnsInHanded {} C os f .any (fun w args => (s.pre enc C.prog fn conds false w args ∧ X w) ∧ sizedMet enc C.prog fn (OpenSpec.ofChange s) false w args) (s.post enc C.prog fn false fresh handsOn again) := by
  have ht' : C.prog.underlying tb = some .bool := by split at ht <;> simp_all
  refine returnsInHanded_of_change_and (X := fun w _ => X w) (fun w w' _ hh h => hXh w w' hh h) own started noInit hfn witness ?_
  intro W base args ds gs before hval hW _ _ hX _
  have hW0 := hW
  obtain ⟨p, q, hA, hV, hpq, hfz, hnd⟩ := hW
  obtain ⟨h1, h2⟩ := fitAll_ok hf
  obtain ⟨x, hx1, hx2⟩ := told_all (b := base) ts fn.params.toList args.toList ds p h1
    (fun j u v hu hv => hval j u v (by simpa using hu) (by simpa using hv)) hA
  have := law x hx1 W (hXW W hX) (kap0 W) W args.toList (rel0 W) hx2
  simp only [Array.toArray_toList] at this
  refine this.mono fun e W' ⟨v, v', S', κ', he, hv', hrel, hR, _⟩ => ?_
  subst hv'
  cases hrel
  exact ⟨_, he, post_true hW0 hv hl h2 hr ht' hs hR.below⟩
end
end Am
end

/- From a row's laid variables to what the machine asks of a world. -/
section
namespace Am
open Go Go.RowKit Go.Lib Go.Proofs

/-- A table that stands on the list. -/
structure TabOk (P : Program) (l : List (String × DataW Unit)) (x : String × IntKind × List Int) : Prop where
  has : (x.1, tabData x.2.1 x.2.2) ∈ l
  typ : ∃ g t m e, P.globalNamed x.1 = some g ∧ (P.globals[g]?).map (·.type) = some t ∧ P.underlying t = some (.array m e) ∧ P.underlying e = some (.int x.2.1) ∧ P.cellsOf e = 1 ∧ P.cellsOf t = m

theorem TabOk.is {P : Program} {l : List (String × DataW Unit)} {x : String × IntKind × List Int} {W : World} (h : TabOk P l x) (hl : laidMet P l W) : TabIs P W x.1 x.2.1 x.2.2 := by
  obtain ⟨g, t, cs, fuel, p, hg, ht, hv, hd⟩ := laidMet.reads hl h.has
  obtain ⟨g', t', m, e, hg', ht', hu, he, hce, hct⟩ := h.typ
  obtain rfl := Option.some.inj (hg.symm.trans hg')
  obtain rfl := Option.some.inj (ht.symm.trans ht')
  unfold TabIs
  rw [hv, ← cells_of_tab hu he hce hct hd]

/-- An error that stands on the list. -/
structure ErrOk (P : Program) (l : List (String × DataW Unit)) (n : String) : Prop where
  has : ∃ nm d, (n, .iface nm d) ∈ l
  typ : ∃ g t ms, P.globalNamed n = some g ∧ (P.globals[g]?).map (·.type) = some t ∧ P.underlying t = some (.interface ms)

theorem ErrOk.is {P : Program} {l : List (String × DataW Unit)} {n : String} {W : World} (h : ErrOk P l n) (hl : laidMet P l W) : ∃ t p, W.var? P n = some #[.iface t p] := by
  obtain ⟨nm, d, hm⟩ := h.has
  obtain ⟨g, t, cs, fuel, p, hg, ht, hv, hd⟩ := laidMet.reads hl hm
  obtain ⟨g', t', ms, hg', ht', hu⟩ := h.typ
  obtain rfl := Option.some.inj (hg.symm.trans hg')
  obtain rfl := Option.some.inj (ht.symm.trans ht')
  obtain ⟨l0⟩ := cs
  cases fuel with
  | zero => simp [DataW.trod] at hd
  | succ fuel =>
    simp only [DataW.trod, hu] at hd
    split at hd
    all_goals first
      | (rename_i heq; cases heq; done)
      | (cases hd; done)
      | exact ⟨_, _, hv⟩

theorem wok_of {P : Program} {l : List (String × DataW Unit)} {W : World} (hl : laidMet P l W) (he : e0 P = none) (hT : ∀ x ∈ wTabs, P.globalNamed x.1 ≠ none → TabOk P l x) (hE : ∀ n ∈ wErrs, P.globalNamed n ≠ none → ErrOk P l n) : WOk P W :=
  ⟨fun y hy => (by rw [he] at hy; cases hy), fun x hx hn => (hT x hx hn).is hl, fun n hn hg => (hE n hn hg).is hl⟩
end Am
end

/- A seat: each model is the truth of its function. Printed by a program of ours. -/
section
set_option linter.all false
namespace Go.Proofs.AlP
open Am Am.Fz Am.Ir Am.Sha Am.Srt Go Go.RowKit Go.Proofs
set_option maxRecDepth 100000
theorem sha_New_ok : compF Tryz.prog [] (fun _ _ => false) Tryz.f347 = some sha_New := by kernel_rfl
theorem sha_load_ok : compF Tryz.prog [] (fun _ _ => false) Tryz.f377 = some sha_load := by kernel_rfl
theorem sha_steps_ok : compF Tryz.prog [] (fun _ _ => false) Tryz.f378 = some sha_steps := by kernel_rfl
theorem bits_RotateLeft32_ok : compF Tryz.prog [] (fun _ _ => false) Tryz.f379 = some bits_RotateLeft32 := by kernel_rfl
theorem sha_wheel_next_ok : compF Tryz.prog [379] (fun _ _ => false) Tryz.f380 = some sha_wheel_next := by kernel_rfl
theorem sha_Hash_take_ok : compF Tryz.prog [377, 378, 379, 380] (fun _ _ => false) Tryz.f362 = some sha_Hash_take := by kernel_rfl
theorem sha_Hash_Write_ok : compF Tryz.prog [362] (fun _ _ => false) Tryz.f348 = some sha_Hash_Write := by kernel_rfl
theorem sha_Hash_Sum_ok : compF Tryz.prog [348] (fun _ _ => false) Tryz.f349 = some sha_Hash_Sum := by kernel_rfl
theorem sha_All_ok : compF Tryz.prog [347, 348, 349] (fun _ _ => false) Tryz.f313 = some sha_All := by kernel_rfl
theorem cmp_isNaN_ok : compF Tryz.prog [] (fun _ _ => false) Tryz.f386 = some cmp_isNaN := by kernel_rfl
theorem cmp_Less_ok : compF Tryz.prog [386] (fun _ _ => false) Tryz.f369 = some cmp_Less := by kernel_rfl
theorem slices_insertionSortOrdered_ok : compF Tryz.prog [369] (fun _ _ => false) Tryz.f363 = some slices_insertionSortOrdered := by kernel_rfl
theorem slices_pdqsortOrdered_ok : compF Tryz.prog [363, 364, 365, 366, 367, 368, 369, 370, 371, 354] (fun _ _ => false) Tryz.f354 = some slices_pdqsortOrdered := by kernel_rfl
theorem slices_Sort_ok : compF Tryz.prog [355, 354] (fun _ _ => false) Tryz.f326 = some slices_Sort := by kernel_rfl
theorem mix : Tryz.prog.follows .mixedOrders = true := by kernel_rfl
theorem sx {fs : List FuncId} {l : List Model} (hl : SoundAll Tryz.prog fs l) {g : FuncId} {fn : Func} (hg : Tryz.prog.funcs[g]? = some fn) {h : Nat → Nat → Bool} {F : AFun}
    (hc : compF Tryz.prog fs h fn = some F) (k : Nat) : Sound Tryz.prog g (exM (orc l) F k) := Sound.ex hl mix hg hc k
theorem sNew : Sound Tryz.prog 347 xNew := sx (fs := []) (l := []) trivial Tryz.func347 sha_New_ok 10
theorem sLoad : Sound Tryz.prog 377 mLoad := Sound.pure 2 (sx (fs := []) (l := []) trivial Tryz.func377 sha_load_ok 1000)
theorem sSteps : Sound Tryz.prog 378 mSteps := Sound.pure 2 (sx (fs := []) (l := []) trivial Tryz.func378 sha_steps_ok 10)
theorem sRot : Sound Tryz.prog 379 xRot := sx (fs := []) (l := []) trivial Tryz.func379 bits_RotateLeft32_ok 10
theorem sNext : Sound Tryz.prog 380 xNext := sx (fs := [379]) (l := [xRot]) ⟨sRot, trivial⟩ Tryz.func380 sha_wheel_next_ok 10
theorem sTake : Sound Tryz.prog 362 xTake := sx (fs := [377, 378, 379, 380]) (l := [mLoad, mSteps, xRot, xNext]) ⟨sLoad, sSteps, sRot, sNext, trivial⟩ Tryz.func362 sha_Hash_take_ok 1000
theorem sWrite : Sound Tryz.prog 348 xWrite := sx (fs := [362]) (l := [xTake]) ⟨sTake, trivial⟩ Tryz.func348 sha_Hash_Write_ok 100000
theorem sSum : Sound Tryz.prog 349 xSum := sx (fs := [348]) (l := [xWrite]) ⟨sWrite, trivial⟩ Tryz.func349 sha_Hash_Sum_ok 100000
theorem sAll : Sound Tryz.prog 313 mAll := Sound.tell 2 (sx (fs := [347, 348, 349]) (l := [xNew, xWrite, xSum]) ⟨sNew, sWrite, sSum, trivial⟩ Tryz.func313 sha_All_ok 10000)
theorem sNaN : Sound Tryz.prog 386 mNaN := sx (fs := []) (l := []) trivial Tryz.func386 cmp_isNaN_ok 10
theorem sLess : Sound Tryz.prog 369 mLess := sx (fs := [386]) (l := [mNaN]) ⟨sNaN, trivial⟩ Tryz.func369 cmp_Less_ok 10
theorem sIns : Sound Tryz.prog 363 mIns := sx (fs := [369]) (l := [mLess]) ⟨sLess, trivial⟩ Tryz.func363 slices_insertionSortOrdered_ok 100000
theorem sPdq : Sound Tryz.prog 354 mPdq := Sound.ex (l := [mIns, noM, noM, noM, noM, noM, noM, noM, noM, noM]) (fs := [363, 364, 365, 366, 367, 368, 369, 370, 371, 354]) ⟨sIns, Sound.none _ _, Sound.none _ _, Sound.none _ _, Sound.none _ _, Sound.none _ _, Sound.none _ _, Sound.none _ _, Sound.none _ _, Sound.none _ _, trivial⟩ mix Tryz.func354 slices_pdqsortOrdered_ok 10
theorem sLenB : Sound Tryz.prog 355 mLenB := fun W hW => SoundW.of ⟨_, Tryz.func355, by kernel_rfl, by kernel_rfl⟩ (fun args S v S' hm => by
  unfold mLenB at hm
  split at hm
  · rename_i n
    split at hm
    · rename_i hn
      cases hm
      refine ⟨rfl, fun κ w args' hw hr ha => ?_⟩
      obtain ⟨y, ys, rfl, h1, h2⟩ := ha.uncons
      obtain rfl := h2.unnil
      obtain rfl := int_inv h1
      refine (Any.bits_Len Tryz.len n w hn.1 hn.2).mono ?_
      rintro e w' ⟨rfl, rfl⟩
      exact ⟨_, rfl, .int _ _, below_refl _⟩
    · cases hm
  · cases hm) hW
theorem tabAt {w : World} (hw : WOk Tryz.prog w) : TabAt (Tryz.tz_ren.g 1) Lib.deBruijn64tab w := by
  intro j hj
  have h := hw.tab ("math/bits.deBruijn64tab", .u8, Lib.deBruijn64tab.map Int.ofNat) (by simp [wTabs]) (by rw [show Tryz.prog.globalNamed "math/bits.deBruijn64tab" = some (Tryz.tz_ren.g 1) by kernel_rfl]; simp)
  have hg : Tryz.prog.globalNamed "math/bits.deBruijn64tab" = some (Tryz.tz_ren.g 1) := by kernel_rfl
  have h2 : j < 64 := hj
  rw [Lib.TabIs] at h
  have h3 := World.var?_cell hg h j
  rw [h3]
  have h4 : j < Lib.deBruijn64tab.length := hj
  simp [List.getD_eq_getElem?_getD, List.getElem?_eq_getElem h4]
theorem sTz : Sound Tryz.prog 346 mTz := fun W hW => SoundW.of ⟨_, Tryz.func346, by kernel_rfl, by kernel_rfl⟩ (fun args S v S' hm => by
  unfold mTz at hm
  split at hm
  · rename_i n
    split at hm
    · rename_i hn
      cases hm
      refine ⟨rfl, fun κ w args' hw hr ha => ?_⟩
      obtain ⟨y, ys, rfl, h1, h2⟩ := ha.uncons
      obtain rfl := h2.unnil
      obtain rfl := int_inv h1
      refine (Any7.bits_TrailingZeros64 Tryz.tz n hn w (fun _ => tabAt hw)).mono ?_
      rintro e w' ⟨rfl, rfl⟩
      exact ⟨_, rfl, .int _ _, below_refl _⟩
    · cases hm
  · cases hm) hW
theorem sSort : Sound Tryz.prog 326 (xSort mLenB) := sx (fs := [355, 354]) (l := [mLenB, mPdq]) ⟨sLenB, sPdq, trivial⟩ Tryz.func326 slices_Sort_ok 10
theorem sSorted : Sound Tryz.prog 282 (mSorted 327 12) := fun W hW => sorted_calls (ρ := Tryz.sorted_ren) Tryz.sorted Tryz.keys1 (N := 12) (by omega) (sortsN lenB_ok sSort hW) (enters_of Tryz.func326 (by kernel_rfl) rfl) (enters_of Tryz.func327 (by kernel_rfl) rfl) ⟨_, Tryz.func282, by kernel_rfl, by kernel_rfl⟩
noncomputable def ovs : List Ov := [⟨176, fName, mIsName⟩, ⟨346, fTz, mTz⟩, ⟨282, fSorted 327 12, mSorted 327 12⟩, ⟨313, fAll, mAll⟩]
theorem ovsOk : OvOk Tryz.prog ovs := ⟨⟨fName_ok, sIsName⟩, ⟨fTz_ok, sTz⟩, ⟨fSorted_ok 327 12, sSorted⟩, ⟨fAll_ok, sAll⟩, trivial⟩
end Go.Proofs.AlP
end

/- The functions that are run: numbers, callees, code. Printed by a program of ours. -/
section
set_option linter.all false
namespace Go.Proofs.AlP
open Am Am.Fz Go Go.Proofs
set_option maxRecDepth 100000
noncomputable def rows0 : List Sp := [
  ⟨16, [], [], Tryz.f16⟩,
  ⟨55, [], [], Tryz.f55⟩,
  ⟨213, [], [], Tryz.f213⟩,
  ⟨133, [213], [], Tryz.f133⟩,
  ⟨54, [133], [], Tryz.f54⟩,
  ⟨48, [], [], Tryz.f48⟩,
  ⟨12, [], [], Tryz.f12⟩,
  ⟨46, [], [], Tryz.f46⟩,
  ⟨45, [], [], Tryz.f45⟩,
  ⟨124, [], [], Tryz.f124⟩,
  ⟨125, [], [], Tryz.f125⟩,
  ⟨126, [], [], Tryz.f126⟩,
  ⟨47, [124, 125, 126], [], Tryz.f47⟩,
  ⟨14, [47], [], Tryz.f14⟩,
  ⟨23, [12, 46, 45, 14], [], Tryz.f23⟩,
  ⟨407, [], [], Tryz.f407⟩,
  ⟨408, [], [], Tryz.f408⟩,
  ⟨270, [270, 407, 408], [], Tryz.f270⟩,
  ⟨201, [269, 270], [], Tryz.f201⟩,
  ⟨127, [201], [], Tryz.f127⟩,
  ⟨49, [127], [], Tryz.f49⟩,
  ⟨261, [], [], Tryz.f261⟩,
  ⟨319, [], [], Tryz.f319⟩,
  ⟨271, [176, 261, 319], [], Tryz.f271⟩,
  ⟨188, [], [], Tryz.f188⟩,
  ⟨273, [188], [], Tryz.f273⟩,
  ⟨274, [], [], Tryz.f274⟩,
  ⟨276, [], [], Tryz.f276⟩,
  ⟨272, [176], [], Tryz.f272⟩,
  ⟨202, [176, 261, 271, 273, 274, 276], [], Tryz.f202⟩,
  ⟨263, [], [], Tryz.f263⟩,
  ⟨192, [263], [], Tryz.f192⟩,
  ⟨203, [192], [], Tryz.f203⟩,
  ⟨278, [263], [], Tryz.f278⟩,
  ⟨204, [278], [], Tryz.f204⟩,
  ⟨321, [278], [], Tryz.f321⟩,
  ⟨279, [321], [], Tryz.f279⟩,
  ⟨265, [192], [], Tryz.f265⟩,
  ⟨207, [265], [], Tryz.f207⟩,
  ⟨280, [279, 203, 207], [], Tryz.f280⟩]
theorem in0 : Am.Fz.RowsIn Tryz.prog rows0 := ⟨Tryz.func16, Tryz.func55, Tryz.func213, Tryz.func133, Tryz.func54, Tryz.func48, Tryz.func12, Tryz.func46, Tryz.func45, Tryz.func124, Tryz.func125, Tryz.func126, Tryz.func47, Tryz.func14, Tryz.func23, Tryz.func407, Tryz.func408, Tryz.func270, Tryz.func201, Tryz.func127, Tryz.func49, Tryz.func261, Tryz.func319, Tryz.func271, Tryz.func188, Tryz.func273, Tryz.func274, Tryz.func276, Tryz.func272, Tryz.func202, Tryz.func263, Tryz.func192, Tryz.func203, Tryz.func278, Tryz.func204, Tryz.func321, Tryz.func279, Tryz.func265, Tryz.func207, Tryz.func280, trivial⟩
theorem some0 : someAll Tryz.prog rows0 = true := by kernel_rfl
noncomputable def rows1 : List Sp := [
  ⟨205, [203, 279, 207, 204, 280], [], Tryz.f205⟩,
  ⟨206, [203, 279, 204], [], Tryz.f206⟩,
  ⟨128, [202, 203, 204, 205, 206, 207], [], Tryz.f128⟩,
  ⟨52, [], [], Tryz.f52⟩,
  ⟨197, [], [], Tryz.f197⟩,
  ⟨264, [197], [], Tryz.f264⟩,
  ⟨193, [], [], Tryz.f193⟩,
  ⟨134, [55], [], Tryz.f134⟩,
  ⟨171, [], [], Tryz.f171⟩,
  ⟨135, [], [], Tryz.f135⟩,
  ⟨298, [], [], Tryz.f298⟩,
  ⟨235, [134, 171, 135], [], Tryz.f235⟩,
  ⟨253, [235], [], Tryz.f253⟩,
  ⟨122, [], [], Tryz.f122⟩,
  ⟨123, [], [], Tryz.f123⟩,
  ⟨44, [122, 123], [], Tryz.f44⟩,
  ⟨312, [346], [], Tryz.f312⟩,
  ⟨254, [44, 312, 213], [], Tryz.f254⟩,
  ⟨255, [313], [], Tryz.f255⟩,
  ⟨209, [], [], Tryz.f209⟩,
  ⟨212, [134, 209, 171], [], Tryz.f212⟩,
  ⟨350, [122], [], Tryz.f350⟩,
  ⟨314, [350], [], Tryz.f314⟩,
  ⟨256, [314], [], Tryz.f256⟩,
  ⟨182, [253, 254, 255, 212, 256], [], Tryz.f182⟩,
  ⟨196, [182], [], Tryz.f196⟩,
  ⟨266, [265], [(1, 0), (6, 2), (8, 1)], Tryz.f266⟩,
  ⟨195, [266, 196, 265], [], Tryz.f195⟩,
  ⟨194, [196, 195], [], Tryz.f194⟩,
  ⟨113, [52, 46, 192, 193, 194, 195, 197, 196], [], Tryz.f113⟩,
  ⟨322, [], [], Tryz.f322⟩,
  ⟨281, [322], [], Tryz.f281⟩,
  ⟨327, [], [], Tryz.f327⟩,
  ⟨283, [], [], Tryz.f283⟩,
  ⟨208, [281, 283, 282], [], Tryz.f208⟩,
  ⟨129, [208, 52, 133], [], Tryz.f129⟩,
  ⟨130, [209, 135], [], Tryz.f130⟩,
  ⟨25, [], [], Tryz.f25⟩,
  ⟨132, [], [], Tryz.f132⟩,
  ⟨210, [261, 265, 192, 255], [], Tryz.f210⟩]
theorem in1 : Am.Fz.RowsIn Tryz.prog rows1 := ⟨Tryz.func205, Tryz.func206, Tryz.func128, Tryz.func52, Tryz.func197, Tryz.func264, Tryz.func193, Tryz.func134, Tryz.func171, Tryz.func135, Tryz.func298, Tryz.func235, Tryz.func253, Tryz.func122, Tryz.func123, Tryz.func44, Tryz.func312, Tryz.func254, Tryz.func255, Tryz.func209, Tryz.func212, Tryz.func350, Tryz.func314, Tryz.func256, Tryz.func182, Tryz.func196, Tryz.func266, Tryz.func195, Tryz.func194, Tryz.func113, Tryz.func322, Tryz.func281, Tryz.func327, Tryz.func283, Tryz.func208, Tryz.func129, Tryz.func130, Tryz.func25, Tryz.func132, Tryz.func210, trivial⟩
theorem some1 : someAll Tryz.prog rows1 = true := by kernel_rfl
noncomputable def rows2 : List Sp := [
  ⟨211, [], [], Tryz.f211⟩,
  ⟨131, [210, 211, 212], [], Tryz.f131⟩,
  ⟨50, [128, 113, 129, 130, 25, 52, 132, 131], [], Tryz.f50⟩,
  ⟨51, [], [], Tryz.f51⟩,
  ⟨15, [12, 48, 49, 50, 51, 47, 52, 46, 25], [], Tryz.f15⟩,
  ⟨56, [23, 48, 15], [], Tryz.f56⟩,
  ⟨57, [], [], Tryz.f57⟩,
  ⟨19, [55, 54, 48, 56], [], Tryz.f19⟩,
  ⟨249, [], [], Tryz.f249⟩,
  ⟨250, [], [], Tryz.f250⟩,
  ⟨177, [249], [], Tryz.f177⟩,
  ⟨96, [176, 177], [], Tryz.f96⟩,
  ⟨95, [96], [], Tryz.f95⟩,
  ⟨34, [56], [], Tryz.f34⟩,
  ⟨178, [177], [], Tryz.f178⟩,
  ⟨97, [56], [], Tryz.f97⟩,
  ⟨251, [], [], Tryz.f251⟩,
  ⟨259, [253, 261], [], Tryz.f259⟩,
  ⟨189, [], [], Tryz.f189⟩,
  ⟨260, [235, 255], [], Tryz.f260⟩,
  ⟨186, [259, 189, 260], [], Tryz.f186⟩,
  ⟨337, [171], [], Tryz.f337⟩,
  ⟨303, [337], [], Tryz.f303⟩,
  ⟨301, [303, 261], [], Tryz.f301⟩,
  ⟨306, [301], [], Tryz.f306⟩,
  ⟨252, [186, 189, 306], [], Tryz.f252⟩,
  ⟨179, [251, 252], [], Tryz.f179⟩,
  ⟨180, [52, 46], [], Tryz.f180⟩,
  ⟨315, [], [], Tryz.f315⟩,
  ⟨257, [315, 266, 182], [], Tryz.f257⟩,
  ⟨183, [257], [], Tryz.f183⟩,
  ⟨181, [182, 183], [], Tryz.f181⟩,
  ⟨99, [179, 180], [], Tryz.f99⟩,
  ⟨98, [99], [], Tryz.f98⟩,
  ⟨35, [97], [], Tryz.f35⟩,
  ⟨187, [], [], Tryz.f187⟩,
  ⟨258, [], [], Tryz.f258⟩,
  ⟨184, [187], [], Tryz.f184⟩,
  ⟨100, [177, 184], [], Tryz.f100⟩,
  ⟨13, [46, 45], [], Tryz.f13⟩]
theorem in2 : Am.Fz.RowsIn Tryz.prog rows2 := ⟨Tryz.func211, Tryz.func131, Tryz.func50, Tryz.func51, Tryz.func15, Tryz.func56, Tryz.func57, Tryz.func19, Tryz.func249, Tryz.func250, Tryz.func177, Tryz.func96, Tryz.func95, Tryz.func34, Tryz.func178, Tryz.func97, Tryz.func251, Tryz.func259, Tryz.func189, Tryz.func260, Tryz.func186, Tryz.func337, Tryz.func303, Tryz.func301, Tryz.func306, Tryz.func252, Tryz.func179, Tryz.func180, Tryz.func315, Tryz.func257, Tryz.func183, Tryz.func181, Tryz.func99, Tryz.func98, Tryz.func35, Tryz.func187, Tryz.func258, Tryz.func184, Tryz.func100, Tryz.func13, trivial⟩
theorem some2 : someAll Tryz.prog rows2 = true := by kernel_rfl
noncomputable def rows3 : List Sp := [
  ⟨185, [179], [], Tryz.f185⟩,
  ⟨101, [185, 186], [], Tryz.f101⟩,
  ⟨36, [12, 48, 100, 13, 101], [], Tryz.f36⟩,
  ⟨234, [408], [], Tryz.f234⟩,
  ⟨297, [269, 334, 294, 335, 297], [], Tryz.f297⟩,
  ⟨233, [294, 295, 296, 297], [], Tryz.f233⟩,
  ⟨170, [234, 233], [], Tryz.f170⟩,
  ⟨81, [170], [], Tryz.f81⟩,
  ⟨83, [], [], Tryz.f83⟩,
  ⟨82, [], [], Tryz.f82⟩,
  ⟨28, [81, 83], [], Tryz.f28⟩,
  ⟨10, [], [], Tryz.f10⟩,
  ⟨7, [16, 19, 34, 35, 36, 28, 10], [], Tryz.f7⟩,
  ⟨275, [], [], Tryz.f275⟩,
  ⟨277, [], [], Tryz.f277⟩,
  ⟨320, [], [], Tryz.f320⟩,
  ⟨305, [], [], Tryz.f305⟩,
  ⟨304, [], [], Tryz.f304⟩,
  ⟨339, [], [], Tryz.f339⟩,
  ⟨338, [], [], Tryz.f338⟩,
  ⟨340, [], [], Tryz.f340⟩,
  ⟨358, [], [], Tryz.f358⟩,
  ⟨342, [358], [], Tryz.f342⟩,
  ⟨341, [358], [], Tryz.f341⟩,
  ⟨376, [], [], Tryz.f376⟩,
  ⟨375, [], [], Tryz.f375⟩,
  ⟨359, [375], [], Tryz.f359⟩,
  ⟨361, [376, 359], [], Tryz.f361⟩,
  ⟨360, [], [], Tryz.f360⟩,
  ⟨344, [361, 360], [], Tryz.f344⟩,
  ⟨343, [359, 360], [], Tryz.f343⟩,
  ⟨307, [339, 338, 340, 342, 341, 344, 343], [], Tryz.f307⟩,
  ⟨242, [307], [], Tryz.f242⟩,
  ⟨239, [186, 303, 305, 304, 301, 189, 242], [], Tryz.f239⟩,
  ⟨241, [305], [], Tryz.f241⟩,
  ⟨240, [186, 306, 189], [], Tryz.f240⟩,
  ⟨323, [189, 239, 241, 240], [], Tryz.f323⟩,
  ⟨352, [189, 252, 352], [], Tryz.f352⟩,
  ⟨324, [352], [], Tryz.f324⟩]
theorem in3 : Am.Fz.RowsIn Tryz.prog rows3 := ⟨Tryz.func185, Tryz.func101, Tryz.func36, Tryz.func234, Tryz.func297, Tryz.func233, Tryz.func170, Tryz.func81, Tryz.func83, Tryz.func82, Tryz.func28, Tryz.func10, Tryz.func7, Tryz.func275, Tryz.func277, Tryz.func320, Tryz.func305, Tryz.func304, Tryz.func339, Tryz.func338, Tryz.func340, Tryz.func358, Tryz.func342, Tryz.func341, Tryz.func376, Tryz.func375, Tryz.func359, Tryz.func361, Tryz.func360, Tryz.func344, Tryz.func343, Tryz.func307, Tryz.func242, Tryz.func239, Tryz.func241, Tryz.func240, Tryz.func323, Tryz.func352, Tryz.func324, trivial⟩
theorem some3 : someAll Tryz.prog rows3 = true := by kernel_rfl
noncomputable def rows : List Sp := rows0 ++ (rows1 ++ (rows2 ++ (rows3)))
theorem rowsIn : Am.Fz.RowsIn Tryz.prog rows := Am.Fz.RowsIn.append in0 (Am.Fz.RowsIn.append in1 (Am.Fz.RowsIn.append in2 (in3)))
theorem rowsSome : someAll Tryz.prog rows = true := someAll.append some0 (someAll.append some1 (someAll.append some2 (some3)))
end Go.Proofs.AlP
end

/- The live question, run by the kernel. Printed by a program of ours. -/
section
set_option linter.all false
namespace Go.Proofs.AlP
open Am Am.Fz Go Go.Proofs
set_option maxRecDepth 1000000
theorem run_cauterylaw14_alive : tabK (tabOf Tryz.prog rows ovs) .nil (fun T => Am.Fz.runT T 100000 60 7) = true := by kernel_rfl
theorem told_cauterylaw14_alive : ∃ M : Model, Sound Tryz.prog 7 M ∧ ∃ S, M [] [] = some (.bool true, S) := run_told mix rowsIn rowsSome ovsOk run_cauterylaw14_alive
end Go.Proofs.AlP
end

/- PoolNil: what it tells at any arguments. -/
section
set_option linter.all false
namespace Go.Proofs.AlP
open Am Am.Fz Am.Ir Go Go.Proofs Go.RowKit
set_option maxRecDepth 100000

@[reducible] def actT : DT := .st (.fld (.int .i64) (.fld .str (.fld .str (.fld .str (.fld (.int .i64) (.fld (.sl (.int .u8)) (.fld (.sl (.int .i64)) .done)))))))
theorem closed_ints {k : IntKind} (l : List Int) : closedL 0 (l.flatMap (DT.int k).enc) = true := by
  induction l with
  | nil => rfl
  | cons a l ih =>
    rw [List.flatMap_cons]
    show closedL 0 (AVal.int k a :: _) = true
    simp [closedL, closedV, ih]
theorem sl_arg {k : IntKind} (x : Option (List Int)) : Bs ((DT.sl (.int k)).one x) ∧ closedV 0 ((DT.sl (.int k)).one x) = true ∧ ∃ n, SlN ((DT.sl (.int k)).one x) n := by
  cases x with
  | none => exact ⟨.inl rfl, rfl, 0, rfl⟩
  | some l =>
    have e : (DT.sl (.int k)).one (some l) = .fz false l.length (l.flatMap (DT.int k).enc) := rfl
    rw [e]
    exact ⟨.inr ⟨_, _, _, rfl⟩, closed_ints l, _, rfl⟩

theorem sX (g : FuncId) : Sound Tryz.prog g (mX g) := Sound.pure 3 (rm_sound mix inN someN g)
theorem sCall : Sound Tryz.prog 8 mCall := Sound.pure 4 (sx (fs := [34, 37, 35, 38, 39, 40, 41, 42, 43, 36]) (l := [mX 34, mX 37, mX 35, mX 38, mX 39, mX 40, mX 41, mX 42, mX 43, mX 36])
  ⟨sX 34, sX 37, sX 35, sX 38, sX 39, sX 40, sX 41, sX 42, sX 43, sX 36, trivial⟩ Tryz.func8 l14_call_ok 10)
theorem sSmall : Sound Tryz.prog 6 mSmall := Sound.pure 1 (sx (fs := []) (l := []) trivial Tryz.func6 l14_small_ok 10)

theorem poolNil_calls (x : actT.Val) {W : World} (hW : WOk Tryz.prog W) : ACalls Tryz.prog W 3 [actT.one x] [] fun v _ => v = .bool true := by
  obtain ⟨k, a, b, c, n, y, z, _⟩ := x
  obtain ⟨M, hM, S0, hrun⟩ := told_cauterylaw14_alive
  have hA : ∀ S, pureM 1 M [] S = some (.bool true, S) := fun S => pureM_run rfl hrun rfl
  obtain ⟨g1, g2, p, g3⟩ := sl_arg (k := .u8) y
  obtain ⟨_, g5, q, g6⟩ := sl_arg (k := .i64) z
  obtain ⟨S, hS⟩ := nil_ok hA k a b c n _ _ g1 g2 g5 g3 g6
  have hs := sx (fs := [6, 7, 8, 9, 10, 11, 12, 13, 14, 15]) (l := [mSmall, pureM 1 M, mCall, mX 9, mX 10, mX 11, mX 12, mX 13, mX 14, mX 15])
    ⟨sSmall, Sound.pure 1 hM, sCall, sX 9, sX 10, sX 11, sX 12, sX 13, sX 14, sX 15, trivial⟩ Tryz.func3 l14_PoolNil_ok 10
  have e : actT.one (k, a, b, c, n, y, z, ()) = actV k a b c n ((DT.sl (.int .u8)).one y) ((DT.sl (.int .i64)).one z) := by cases y <;> cases z <;> rfl
  have h9 := ((hs W hW _ _ _ _ hS).2).mono fun _ _ h => h.1
  rw [← e] at h9
  exact h9

end Go.Proofs.AlP
end

