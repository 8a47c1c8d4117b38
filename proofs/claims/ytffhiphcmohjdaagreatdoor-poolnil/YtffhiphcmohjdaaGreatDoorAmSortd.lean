/- slices.Sorted of the keys of a map of uint32: its model is the truth. -/
import Derived.Test.YtffhiphcmohjdaaGreatDoorAmU32
import Derived.Test.YtffhiphcmohjdaaGreatDoorAmNewAt
set_option linter.all false

set_option linter.all false
namespace Am
set_option maxRecDepth 100000
set_option maxHeartbeats 2000000
open Go Go.RowKit Go.Maps Go.Sort Go.Shelf Go.Proofs
variable {P : Program} {ρ : Ren}

def u32s (l : List Int) : List AVal := l.map (.int .u32)
/-- The keys of a map, where all are numbers of this kind. -/
def keysU : List (AVal × AVal) → Option (List Int)
  | [] => some []
  | (k, _) :: r => match k, keysU r with
    | .int .u32 n, some l => if 0 ≤ n ∧ n ≤ 4294967295 then some (n :: l) else none
    | _, _ => none
def sortI (l : List Int) : List Int := l.mergeSort leI
def sortOut (ks : List Int) (S : St) : AVal × St := if ks = [] then (.nils, S) else (.sl S.length 0 0 ks.length 1, S ++ [.live 0 (u32s (sortI ks))])
def mSorted (K1 N : Nat) : Model := fun args S => match args with
  | [.fn (.func g) [] [.ptr r 0 off]] => match S[r]? with
    | some (.live 0 cs) => match cs[off]? with
      | some (.mpv j) => match S[j]? with
        | some (.mp es _) => match keysU es with
          | some ks => if g = K1 ∧ ks.Nodup ∧ ks.length ≤ N then some (sortOut ks S) else none
          | none => none
        | _ => none
      | _ => none
    | _ => none
  | _ => none

theorem keysU_at : ∀ {es : List (AVal × AVal)} {ks : List Int}, keysU es = some ks → ks.length = es.length ∧ ∀ (i : Nat) e, es[i]? = some e → ∃ n : Int, ks[i]? = some n ∧ e.1 = .int .u32 n ∧ 0 ≤ n ∧ n ≤ 4294967295
  | [], ks, h => by cases h; exact ⟨rfl, fun i e h => by simp at h⟩
  | (k, v) :: r, ks, h => by
    simp only [keysU] at h
    split at h
    · rename_i n l hr
      split at h
      · rename_i hn
        cases h
        obtain ⟨h1, h2⟩ := keysU_at hr
        refine ⟨by simp [h1], fun i e he => ?_⟩
        cases i with
        | zero => cases he; exact ⟨n, rfl, rfl, hn⟩
        | succ i => exact h2 i e (by simpa using he)
      · cases h
    · cases h

/-- What sorts. -/
structure SortsN (P : Program) (g : FuncId) (N : Nat) (W : World) : Prop where
  some : ∀ (S : St) (ss : List Int), ss.Nodup → ss.length ≤ N → ss ≠ [] → ACalls P W g [.sl S.length 0 0 ss.length 1] (S ++ [.live 0 (u32s ss)]) fun u T => T = S ++ [.live 0 (u32s (sortI ss))]
  none : ∀ S : St, ACalls P W g [.nils] S fun u T => T = S

abbrev R0 : Value → Option (DataW Unit × List MemPlace) := fun _ => some (.lit (.bool true), [])

theorem fit_of {k : TypeId} (hk : P.underlying k = some (.int .u32)) {es : List (AVal × AVal)} {xs : Array MapEntry} {ks : List Int} {clk : Nat} (he : EntsOk es xs) (hB : Born clk xs) (hks : keysU es = some ks) (hnd : ks.Nodup) (hl : ks.length ≤ maxLen) :
    Go.WideElems.Fit P k R0 xs clk ∧ ∀ (i : Nat) x, xs[i]? = some x → ∃ n, ks[i]? = some n ∧ x.key = .int .u32 n ∧ (Lit.int .u32 n).wf = true := by
  obtain ⟨h1, h2⟩ := keysU_at hks
  have hx : ∀ (i : Nat) x, xs[i]? = some x → ∃ n, ks[i]? = some n ∧ x.key = .int .u32 n ∧ (Lit.int .u32 n).wf = true := by
    intro i x hx
    have hi : i < es.length := by rw [he.1]; exact (Array.getElem?_eq_some_iff.1 hx).1
    obtain ⟨n, h3, h4, h5, h6⟩ := h2 i _ (List.getElem?_eq_getElem hi)
    obtain ⟨h7, _⟩ := he.2 i _ _ (List.getElem?_eq_getElem hi) hx
    rw [h4] at h7
    refine ⟨n, h3, ?_, ?_⟩
    · cases hkey : x.key with
      | int j m => rw [hkey] at h7; simp only [flatV] at h7; rw [h7.1, h7.2]
      | _ => rw [hkey] at h7; simp [flatV] at h7
    · simp [Lit.wf, IntKind.min, IntKind.max, IntKind.bits, IntKind.signed]; omega
  refine ⟨⟨by rw [← he.1, ← h1]; exact hl, ⟨hB.2, hB.1, ?_⟩, fun x hxm => ?_⟩, hx⟩
  · have e : xs.toList.map (·.key) = ks.map (Value.int .u32) := by
      apply List.ext_getElem?
      intro i
      simp only [List.getElem?_map, Array.getElem?_toList]
      cases hxi : xs[i]? with
      | none =>
        have : xs.size ≤ i := Array.getElem?_eq_none_iff.1 hxi
        rw [List.getElem?_eq_none (l := ks) (by rw [h1, he.1]; exact this)]; rfl
      | some x =>
        obtain ⟨n, h3, h4, _⟩ := hx i x hxi
        rw [h3]; simp [h4]
    rw [e]
    exact List.pairwise_map.2 (hnd.imp (fun hne h => hne (by simpa using h)))
  · obtain ⟨i, hi, hxi⟩ := List.getElem_of_mem hxm
    obtain ⟨n, _, h4, h5⟩ := hx i x (by rw [← Array.getElem?_toList, List.getElem?_eq_getElem hi, hxi])
    have hkey : keyOf P k x.key = some (.int .u32 n) := by rw [h4]; simp [keyOf, hk, mapKey, h5]
    exact ⟨_, Go.WideElems.rd_mk (born := x.born) hkey rfl⟩


theorem size_of {k : TypeId} {xs : Array MapEntry} {ks : List Int} (hks : ∀ (i : Nat) x, xs[i]? = some x → ∃ n, ks[i]? = some n ∧ x.key = .int .u32 n ∧ (Lit.int .u32 n).wf = true) (hk : P.underlying k = some (.int .u32)) (hl : ks.length = xs.size) :
    (intKeys (.map ((xs.toList.map (Go.WideElems.rg P k R0)).foldr DataW.insert []))).Perm ks ∧ Maps.size (.map ((xs.toList.map (Go.WideElems.rg P k R0)).foldr DataW.insert []) : DataW Unit) = ks.length := by
  have e : (xs.toList.map (Go.WideElems.rg P k R0)).map (fun p : Lit × DataW Unit => Go.intOf p.1) = ks := by
    apply List.ext_getElem?
    intro i
    simp only [List.getElem?_map, Array.getElem?_toList]
    cases hxi : xs[i]? with
    | none =>
      have : xs.size ≤ i := Array.getElem?_eq_none_iff.1 hxi
      rw [List.getElem?_eq_none (l := ks) (by omega)]; rfl
    | some x =>
      obtain ⟨n, h3, h4, h5⟩ := hks i x hxi
      have hkey : keyOf P k x.key = some (.int .u32 n) := by rw [h4]; simp [keyOf, hk, mapKey, h5]
      have hr : Go.WideElems.rd P k R0 x = some (.int .u32 n, .lit (.bool true)) := Go.WideElems.rd_mk (key := x.key) (val := x.val) (born := x.born) hkey (yv := (.lit (.bool true), [])) rfl
      rw [h3]
      simp [Go.WideElems.rg_of hr, Go.intOf]
  have hp := Go.WideShapes.sorted_perm (xs.toList.map (Go.WideElems.rg P k R0))
  refine ⟨?_, ?_⟩
  · have := hp.map (fun p : Lit × DataW Unit => Go.intOf p.1)
    rw [e] at this
    exact this
  · show List.length _ = _
    rw [hp.length_eq, ← e]; simp

theorem sorted_calls {ρ' : Ren} (L : SlLaysZU.n6 P ρ) (L10 : SlLaysZU.n10 P ρ') {W : World} {N : Nat} (hN : N ≤ 1000) (hsort : SortsN P (ρ.f 9) N W) (e9 : ∀ args w, (callFunc (ρ.f 9) args).run P w = .ok (.enter (ρ.f 9) args) w) (e10 : ∀ args w, (callFunc (ρ'.f 10) args).run P w = .ok (.enter (ρ'.f 10) args) w) (hc : Callable P (ρ.f 6)) :
    SoundW P W (ρ.f 6) (mSorted (ρ'.f 10) N) := by
  intro args S v S' hm
  refine ⟨hc, fun κ w args' hr ha => ?_⟩
  unfold mSorted at hm
  split at hm
  case h_2 => cases hm
  rename_i g r off
  split at hm
  case h_2 => cases hm
  rename_i cs hS
  split at hm
  case h_2 => cases hm
  rename_i j hcs
  split at hm
  case h_2 => cases hm
  rename_i es clk hSj
  split at hm
  case h_2 => cases hm
  rename_i ks hks
  split at hm
  case isFalse => cases hm
  rename_i hcond
  obtain ⟨rfl, hnd, hlen⟩ := hcond
  obtain ⟨hv, hS'⟩ : v = (sortOut ks S).1 ∧ S' = (sortOut ks S).2 := by have := Option.some.inj hm; exact ⟨congrArg Prod.fst this.symm, congrArg Prod.snd this.symm⟩
  clear hm
  obtain ⟨x0, r0, rfl, hx0, hr0⟩ := ha.uncons
  obtain rfl := hr0.unnil
  cases hx0 with
  | fn _ _ _ f' c' hl1 hl2 hq1 hq2 =>
    obtain rfl : f' = [] := List.eq_nil_of_length_eq_zero (by simpa using hl1.symm)
    have hcl : VRelL κ [.ptr r 0 off] c' := ⟨hl2, hq2⟩
    obtain ⟨p, r1, rfl, hp, hr1⟩ := hcl.uncons
    obtain rfl := hr1.unnil
    cases hp with
    | ptr _ _ _ i a hbi hvi haddr =>
      obtain ⟨o1, o2, o3, arr, ety, fr, o4, o5, o6, o7, o8⟩ := hr.own r 0 cs i hS hbi
      have hA := haddr o1.symm
      subst hA
      have hoff : off < cs.length := (List.getElem?_eq_some_iff.1 hcs).1
      have hao : i.base + off < arr.size := by omega
      have hcell := o7 off _ _ hcs (Array.getElem?_eq_getElem hao)
      obtain ⟨l, t, xs, hxe, hrec, hheap, he, hB⟩ := map_at hr hcell hSj
      have hm1 : w.cell? ⟨i.blk, i.base + off, none⟩ = some (.map (some l)) := by
        rw [← hxe]; simp [World.cell?, o4, Array.getElem?_eq_getElem hao]
      have hkl := (keysU_at hks).1
      obtain ⟨hF, hkx⟩ := fit_of (k := ρ'.t 26) L10.t26 he hB hks hnd (by simp [maxLen]; omega)
      obtain ⟨hperm, hsize⟩ := size_of hkx L10.t26 (by rw [hkl, he.1])
      have hown : w.ownsMap P (ρ'.t 26) R0 l xs.size (.map ((xs.toList.map (Go.WideElems.rg P (ρ'.t 26) R0)).foldr DataW.insert [])) := ⟨xs, clk, hheap, hF, Nat.le_refl _, rfl⟩
      have hblk : i.blk < w.heap.size := (Array.getElem?_eq_some_iff.1 o4).1
      refine (callsIn_wide (n := 5)).1 ?_
      have hseq := AnyZU.keys_gives (ρ := ρ') L10 Fence.wide 2 trivial rfl (by omega) i.blk (i.base + off) l xs.size _ w hblk hm1 hown
      rw [hsize] at hseq
      have e8 : ∀ args w, (callFunc (ρ.f 8) args).run P w = .ok (.enter (ρ.f 8) args) w := L.f8.enters rfl
      have mixed := L.mixed; have t0 := L.t0; have a0 := L.a0; have z0 := L.z0; have v0 := L.v0; have t24 := L.t24; have a24 := L.a24; have z24 := L.z24; have v24 := L.v24; have t26 := L.t26; have a26 := L.a26; have z26 := L.z26; have v26 := L.v26; have t28 := L.t28; have a28 := L.a28; have z28 := L.z28; have v28 := L.v28
      have u0 := run_underlying L.t0; have u24 := run_underlying L.t24; have u26 := run_underlying L.t26; have u28 := run_underlying L.t28
      have h6 : Fence.wide.fn (ρ.f 6) := trivial
      have h8 : Fence.wide.fn (ρ.f 8) := trivial
      have h9 : Fence.wide.fn (ρ.f 9) := trivial
      obtain ⟨_, _, FG⟩ := L.f6
      refine callsIn_of_wp FG rfl h6 ?_ rfl
      simp only [List.size_toArray, List.length_cons, List.length_nil, Nat.reduceAdd, Nat.reduceSub, Array.replicate_succ, Array.replicate_zero, List.push_toArray, List.append_toArray, List.nil_append, List.cons_append, SlBodyZ.n6_ntmps ρ]
      have cC := AnyZU.collect_in (ρ := ρ) { L with } Fence.wide 4 trivial trivial rfl (by omega) (ρ'.f 10) #[.pointer (some ⟨i.blk, i.base + off, none⟩)] trivial e10 _ ks.length (by simp [maxLen]; omega) (by omega) w hseq
      gi_wp2_with (gi_at_fn (ρ.f 8); refine cC.mono ?_; rintro e w1 ⟨x, ss, rfl, hS1, hrow, hnil, hb⟩)
      have hpp : ss.Perm ks := hS1.trans hperm
      have hss : ss.length = ks.length := hpp.length_eq
      by_cases hk0 : ks = []
      · have hsn : ss = [] := List.eq_nil_of_length_eq_zero (by rw [hss, hk0]; rfl)
        obtain rfl := hnil.2 hsn
        have cS : CallsIn Fence.wide 4 P (ρ.f 9) #[.slice none 0 0] w1 _ := callsIn_wide.2 (hsort.none S κ w1 [.slice none 0 0] (hr.more hb) (.cons .nils (.nil κ)))
        gi_wp2_with (gi_at_fn (ρ.f 9); refine cS.mono ?_; rintro e w2 ⟨u, u', S2, κ2, rfl, rfl, hu, hr2, hle⟩)
        go_ret
        refine ⟨v, .slice none 0 0, S2, κ2, rfl, ⟨rfl, ?_⟩, ?_, hr2, hle⟩
        · rw [hS']; simp [sortOut, hk0]
        · rw [hv]; simp only [sortOut, if_pos hk0]; exact .nils
      · have hsn : ss ≠ [] := fun e => hk0 (List.eq_nil_of_length_eq_zero (by rw [← hss, e]; rfl))
        rcases hrow.2 with ⟨_, hz⟩ | ⟨gb, cap, cur, rfl, hbase, hgb, q1, q2, q3, q4⟩
        · exact absurd (List.eq_nil_of_length_eq_zero hz) hsn
        · rw [Nat.mul_one] at q3 q4
          have hcur : ∀ (j : Nat) y, cur[j]? = some y → j < ss.length → ∃ n, ss[j]? = some n ∧ y = .int .u32 n := by
            intro j y hy hj
            have : (cur.toList.take ss.length)[j]? = (ss.map encU)[j]? := by rw [q4]
            rw [List.getElem?_take_of_lt hj, Array.getElem?_toList, hy, List.getElem?_map, List.getElem?_eq_getElem hj] at this
            exact ⟨_, List.getElem?_eq_getElem hj, by simpa using this⟩
          have hr1 := hr.newAt hb hbase hgb (u32s ss) (by simp [u32s]; omega)
            (fun j a y ha hy => by
              have hj : j < ss.length := by have := (List.getElem?_eq_some_iff.1 ha).1; simpa [u32s] using this
              obtain ⟨n, h1, rfl⟩ := hcur j y hy hj
              simp only [u32s, List.getElem?_map, h1, Option.map_some, Option.some.injEq] at ha
              subst ha; exact .int _ _)
            (fun j y hj hy => by
              obtain ⟨n, h1, rfl⟩ := hcur j y hy (by simpa [u32s] using hj)
              trivial)
          have hkap := Kap.le_add κ ⟨gb, 0, cur.size, 0⟩
          have hvs : VRel (κ.add ⟨gb, 0, cur.size, 0⟩) (.sl S.length 0 0 ss.length 1) (.slice (some ⟨gb, 0, none⟩) ss.length cap) :=
            .sl _ _ _ _ _ ⟨gb, 0, cur.size, 0⟩ _ _ (by show (κ.blocks ++ [_])[S.length]? = _; rw [← hr.len, List.getElem?_append_right (Nat.le_refl _)]; simp) (Nat.le_refl _) q1 (fun _ => ⟨by simp; omega, .inr rfl⟩)
          have cS : CallsIn Fence.wide 4 P (ρ.f 9) #[.slice (some ⟨gb, 0, none⟩) ss.length cap] w1 _ := callsIn_wide.2 (hsort.some S ss (hpp.nodup_iff.2 hnd) (by omega) hsn _ w1 [.slice (some ⟨gb, 0, none⟩) ss.length cap] hr1 (.cons hvs (.nil _)))
          gi_wp2_with (gi_at_fn (ρ.f 9); refine cS.mono ?_; rintro e w2 ⟨u, u', S2, κ2, rfl, rfl, hu, hr2, hle⟩)
          go_ret
          have hse : sortI ss = sortI ks := mergeSort_of_perm_i hpp
          refine ⟨v, _, _, κ2, rfl, ⟨rfl, ?_⟩, ?_, hr2, Kap.le_trans hkap hle⟩
          · rw [hS']; simp [sortOut, hk0, hse]
          · have h5 := hvs.mono hle
            have h6 : ss.length = es.length := by omega
            rw [hv]; simp only [sortOut, if_neg hk0]
            rw [h6] at h5
            rw [hkl]
            exact h5

end Am
