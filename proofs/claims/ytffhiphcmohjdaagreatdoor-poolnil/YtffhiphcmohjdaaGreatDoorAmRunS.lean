/- A whole program's run over a table tells the truth. -/
import Derived.Test.YtffhiphcmohjdaaGreatDoorAmRunT
set_option linter.all false
namespace Am
open Go
variable {P : Program}

/-- A table of a program's functions, and models of one's own. -/
structure TblOk (P : Program) (tbl : FuncId → Option Ent) (ovr : FuncId → Option Model) : Prop where
  ent : ∀ g e, tbl g = some e → ∃ fn h, P.funcs[g]? = some fn ∧ compF P e.fs h fn = some e.F
  ovr : ∀ g m, ovr g = some m → Sound P g m

theorem run_sound {tbl : FuncId → Option Ent} {ovr : FuncId → Option Model} {k : Nat} (hmix : P.follows .mixedOrders = true) (ht : TblOk P tbl ovr) :
    ∀ n, (∀ g, Sound P g (runM tbl ovr k n g)) ∧ (∀ g, SoundI P g (runI tbl ovr k n g))
  | 0 => ⟨fun g => by rw [runM]; exact Sound.none P g, fun g => by rw [runI]; intro W hW κ0 Y hY args S v S' h; cases h⟩
  | n + 1 => by
    obtain ⟨ih, ihI⟩ := run_sound hmix ht n
    have hloc : ∀ (fs : List FuncId) W, WOk P W → ∀ (i : Nat) g m, fs[i]? = some g → (fs.map (runM tbl ovr k n))[i]? = some m → SoundW P W g m := by
      intro fs W hW i g m h1 h2
      rw [List.getElem?_map, h1] at h2
      cases h2
      exact ih g W hW
    refine ⟨fun g => ?_, fun g => ?_⟩
    · rw [runM]
      cases ho : ovr g with
      | some m => exact ht.ovr g m ho
      | none =>
        cases he : tbl g with
        | none => exact Sound.none P g
        | some e =>
          obtain ⟨fn, h, h1, h2⟩ := ht.ent g e he
          exact Sound.of_ev (O := { loc := e.fs.map (runM tbl ovr k n), dyn := runM tbl ovr k n, itr := runI tbl ovr k n })
            (fun W hW => ⟨hloc e.fs W hW, fun g => ih g W hW⟩)
            (fun W hW => ⟨fun g κ0 Y hY args S v S' hm => ihI g W hW κ0 Y hY args S v S' hm⟩) rfl hmix h1 h2 (fun _ _ _ hr => ⟨k, hr⟩)
    · rw [runI]
      intro W hW κ0 Y hY args S v S' hv
      cases he : tbl g with
      | none => simp only [he] at hv; cases hv
      | some e =>
        simp only [he] at hv
        obtain ⟨fn, h, h1, h2⟩ := ht.ent g e he
        have hO : OrcOk P W e.fs { loc := e.fs.map (runM tbl ovr k n), dyn := fun _ _ _ => none, yld := Y } := ⟨hloc e.fs W hW, fun g => SoundW.none P W g⟩
        have hI : OrcIOk P W { loc := e.fs.map (runM tbl ovr k n), dyn := fun _ _ _ => none, yld := Y } := ⟨fun _ _ _ _ _ _ _ _ h => by simp at h⟩
        exact fun_okK hO hI hY hmix h1 h2 hv
end Am
