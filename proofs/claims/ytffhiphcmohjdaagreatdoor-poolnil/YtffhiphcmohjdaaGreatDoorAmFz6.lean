import Derived.Test.YtffhiphcmohjdaaGreatDoorAmFz1
import Derived.Test.YtffhiphcmohjdaaGreatDoorAmQ0
import Derived.Test.YtffhiphcmohjdaaGreatDoorProg
import Derived.KernelRfl
set_option linter.all false
/- A quick machine for the kernel: from a run over a program's table to a model. -/
section
set_option linter.all false
namespace Am.Fz
open Go

/-- A model of one's own, and how it is reckoned fast. -/
structure Ov where
  id : Nat
  fm : FM
  m : Model

noncomputable def rowE (P : Program) (s : Sp) : Nat × En := (s.id, .inl (s.cs, (compF P s.cs (hintF s.hs) s.fn).getD ⟨nat_lit 0, [], .skip, false⟩))
noncomputable def tabOf (P : Program) (rows : List Sp) (ov : List Ov) : List (Nat × En) := rows.map (rowE P) ++ ov.map fun o => (o.id, .inr o.fm)

def RowsIn (P : Program) : List Sp → Prop
  | [] => True
  | s :: r => P.funcs[s.id]? = some s.fn ∧ RowsIn P r
theorem RowsIn.at' {P : Program} : ∀ {l : List Sp}, RowsIn P l → ∀ s ∈ l, P.funcs[s.id]? = some s.fn
  | [], _, s, hs => by simp at hs
  | a :: l, h, s, hs => by
    rcases List.mem_cons.1 hs with rfl | hs
    · exact h.1
    · exact h.2.at' s hs
theorem RowsIn.append {P : Program} : ∀ {l m : List Sp}, RowsIn P l → RowsIn P m → RowsIn P (l ++ m)
  | [], _, _, h => h
  | _ :: _, _, h1, h2 => ⟨h1.1, h1.2.append h2⟩
def someAll (P : Program) (l : List Sp) : Bool := l.all fun s => (compF P s.cs (hintF s.hs) s.fn).isSome
theorem someAll.append {P : Program} {l m : List Sp} (h1 : someAll P l = true) (h2 : someAll P m = true) : someAll P (l ++ m) = true := by
  unfold someAll at *; rw [List.all_append, h1, h2]; rfl

def OvOk (P : Program) : List Ov → Prop
  | [] => True
  | o :: r => (FOk o.fm o.m ∧ Sound P o.id o.m) ∧ OvOk P r
theorem OvOk.at' {P : Program} : ∀ {l : List Ov}, OvOk P l → ∀ o ∈ l, FOk o.fm o.m ∧ Sound P o.id o.m
  | [], _, s, hs => by simp at hs
  | a :: l, h, s, hs => by
    rcases List.mem_cons.1 hs with rfl | hs
    · exact h.1
    · exact h.2.at' s hs

open Classical in
theorem run_told {P : Program} {rows : List Sp} {ov : List Ov} (hmix : P.follows .mixedOrders = true) (hr : RowsIn P rows) (hs : someAll P rows = true) (ho : OvOk P ov) {kf n : Nat} {g : FuncId}
    (h : tabK (tabOf P rows ov) .nil (fun T => runT T kf n g) = true) : ∃ M : Model, Sound P g M ∧ ∃ S, M [] [] = some (.bool true, S) := by
  obtain ⟨T, h1, h2⟩ := tabK_ok _ _ _ h
  have hmem : ∀ g e, T.get g = some e → (g, e) ∈ tabOf P rows ov := fun g e hg => by
    rcases h2 g e hg with h3 | h3
    · exact h3
    · simp [Tr.get] at h3
  let tbl : FuncId → Option Ent := fun g => match T.get g with
    | some (.inl p) => some ⟨p.1, p.2⟩
    | _ => none
  let ovr : FuncId → Option Model := fun g => if hx : ∃ o ∈ ov, T.get g = some (.inr o.fm) ∧ o.id = g then some (Classical.choose hx).m else none
  have hinl : ∀ g fs F, (g, (Sum.inl (fs, F) : En)) ∈ tabOf P rows ov → ∃ s ∈ rows, s.id = g ∧ s.cs = fs ∧ (compF P s.cs (hintF s.hs) s.fn).getD ⟨0, [], .skip, false⟩ = F := by
    intro g fs F hm
    rcases List.mem_append.1 hm with hm | hm
    · obtain ⟨s, h3, h4⟩ := List.mem_map.1 hm
      simp only [rowE, Prod.mk.injEq, Sum.inl.injEq] at h4
      exact ⟨s, h3, h4.1, h4.2.1, h4.2.2⟩
    · obtain ⟨o, _, h4⟩ := List.mem_map.1 hm
      cases h4
  have hinr : ∀ g fm, (g, (Sum.inr fm : En)) ∈ tabOf P rows ov → ∃ o ∈ ov, o.fm = fm ∧ o.id = g := by
    intro g fm hm
    rcases List.mem_append.1 hm with hm | hm
    · obtain ⟨s, _, h4⟩ := List.mem_map.1 hm
      simp [rowE] at h4
    · obtain ⟨o, h3, h4⟩ := List.mem_map.1 hm
      simp only [Prod.mk.injEq, Sum.inr.injEq] at h4
      exact ⟨o, h3, h4.2, h4.1⟩
  have hT : TblRel T tbl ovr := by
    refine ⟨fun g fs F hg => ⟨?_, ?_⟩, fun g fm hg => ?_⟩
    · refine dif_neg ?_
      rintro ⟨o, _, h3, _⟩
      rw [hg] at h3; cases h3
    · show (match T.get g with
        | some (.inl p) => some (⟨p.1, p.2⟩ : Ent)
        | _ => none) = _
      rw [hg]
    · obtain ⟨o, h3, h4, h5⟩ := hinr g fm (hmem g _ hg)
      have hx : ∃ o ∈ ov, T.get g = some (.inr o.fm) ∧ o.id = g := ⟨o, h3, by rw [hg, h4], h5⟩
      refine ⟨(Classical.choose hx).m, dif_pos hx, ?_⟩
      obtain ⟨h6, h7, _⟩ := Classical.choose_spec hx
      have : fm = (Classical.choose hx).fm := Sum.inr.inj (Option.some.inj (hg.symm.trans h7))
      rw [this]
      exact (ho.at' _ h6).1
  have hK : TblOk P tbl ovr := by
    refine ⟨fun g e hg => ?_, fun g m hg => ?_⟩
    · have hg : (match T.get g with
        | some (.inl p) => some (⟨p.1, p.2⟩ : Ent)
        | _ => none) = some e := hg
      split at hg
      · rename_i p hp
        cases hg
        obtain ⟨fs, F⟩ := p
        obtain ⟨s, h3, rfl, rfl, h6⟩ := hinl g fs F (hmem g _ hp)
        have h7 := List.all_eq_true.1 hs s h3
        refine ⟨s.fn, hintF s.hs, hr.at' s h3, ?_⟩
        cases hc : compF P s.cs (hintF s.hs) s.fn with
        | none => rw [hc] at h7; cases h7
        | some F' => rw [hc] at h6; exact congrArg some h6
      · cases hg
    · have hg : (if hx : ∃ o ∈ ov, T.get g = some (.inr o.fm) ∧ o.id = g then some (Classical.choose hx).m else none) = some m := hg
      split at hg
      · rename_i hx
        cases hg
        obtain ⟨h6, _, h8⟩ := Classical.choose_spec hx
        have := (ho.at' _ h6).2
        rw [h8] at this
        exact this
      · cases hg
  obtain ⟨S, h3⟩ := runT_ok hT h1
  exact ⟨_, (run_sound hmix hK n).1 g, S, h3⟩

end Am.Fz

namespace Am.Fz
open Go
def tblL (P : Program) (rows : List Sp) : FuncId → Option Ent := fun g => (rows.find? fun s => s.id == g).map fun s => ⟨s.cs, (compF P s.cs (hintF s.hs) s.fn).getD ⟨0, [], .skip, false⟩⟩
theorem tblL_ok {P : Program} {rows : List Sp} (hr : RowsIn P rows) (hs : someAll P rows = true) : TblOk P (tblL P rows) (fun _ => none) := by
  refine ⟨fun g e hg => ?_, fun g m h => by cases h⟩
  simp only [tblL, Option.map_eq_some_iff] at hg
  obtain ⟨s, h1, rfl⟩ := hg
  have h2 := List.mem_of_find?_eq_some h1
  have h3 := List.find?_some h1
  have h4 : s.id = g := by simpa using h3
  have h5 := List.all_eq_true.1 hs s h2
  refine ⟨s.fn, hintF s.hs, by rw [← h4]; exact hr.at' s h2, ?_⟩
  cases hc : compF P s.cs (hintF s.hs) s.fn with
  | none => rw [hc] at h5; cases h5
  | some F => simp [hc]
noncomputable def rm (P : Program) (rows : List Sp) (g : FuncId) : Model := runM (tblL P rows) (fun _ => none) 1000 12 g
theorem rm_sound {P : Program} {rows : List Sp} (hmix : P.follows .mixedOrders = true) (hr : RowsIn P rows) (hs : someAll P rows = true) (g : FuncId) : Sound P g (rm P rows g) := (run_sound hmix (tblL_ok hr hs) 12).1 g
end Am.Fz
end

/- Some functions: numbers, callees, code. Printed by a program of ours. -/
section
set_option linter.all false
namespace Go.Proofs.AlP
open Am Am.Fz Go Go.Proofs
set_option maxRecDepth 100000
noncomputable def rowsN : List Sp := [
  ⟨34, [56], [], Tryz.f34⟩,
  ⟨37, [97], [], Tryz.f37⟩,
  ⟨35, [97], [], Tryz.f35⟩,
  ⟨38, [97], [], Tryz.f38⟩,
  ⟨39, [97], [], Tryz.f39⟩,
  ⟨40, [115], [], Tryz.f40⟩,
  ⟨41, [115], [], Tryz.f41⟩,
  ⟨42, [115], [], Tryz.f42⟩,
  ⟨43, [115], [], Tryz.f43⟩,
  ⟨36, [12, 48, 100, 13, 101], [], Tryz.f36⟩,
  ⟨97, [56], [], Tryz.f97⟩,
  ⟨115, [97], [], Tryz.f115⟩,
  ⟨56, [23, 48, 15], [], Tryz.f56⟩,
  ⟨23, [12, 46, 45, 14], [], Tryz.f23⟩,
  ⟨12, [], [], Tryz.f12⟩,
  ⟨10, [], [], Tryz.f10⟩,
  ⟨11, [44], [], Tryz.f11⟩,
  ⟨13, [46, 45], [], Tryz.f13⟩,
  ⟨14, [47], [], Tryz.f14⟩,
  ⟨15, [12, 48, 49, 50, 51, 47, 52, 46, 25], [], Tryz.f15⟩,
  ⟨48, [], [], Tryz.f48⟩,
  ⟨9, [], [], Tryz.f9⟩]
theorem inN : Am.Fz.RowsIn Tryz.prog rowsN := ⟨Tryz.func34, Tryz.func37, Tryz.func35, Tryz.func38, Tryz.func39, Tryz.func40, Tryz.func41, Tryz.func42, Tryz.func43, Tryz.func36, Tryz.func97, Tryz.func115, Tryz.func56, Tryz.func23, Tryz.func12, Tryz.func10, Tryz.func11, Tryz.func13, Tryz.func14, Tryz.func15, Tryz.func48, Tryz.func9, trivial⟩
theorem someN : someAll Tryz.prog rowsN = true := by kernel_rfl
end Go.Proofs.AlP
end

