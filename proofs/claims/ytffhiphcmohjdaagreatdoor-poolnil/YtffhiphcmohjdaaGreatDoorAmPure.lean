/- A call whose arguments refer to no owned block may be run over an empty heap; and a function's own evaluator is its model. -/
import Derived.Test.YtffhiphcmohjdaaGreatDoorAmWk
set_option linter.all false
namespace Am
open Go Go.RowKit

variable {P : Program} {W : World} {κ κ1 : Kap} {S T : St} {w w' : World}

/-- The relation at a call of its own. -/
def Kap.own (κ : Kap) (w : World) : Kap := { blocks := [], fz := κ.fz, lo := w.heap.size }

theorem rel_own (h : Rel W κ S w) : Rel w (κ.own w) [] w where
  below := Below.refl _ _
  len := rfl
  own := by intro r v cells i h; simp at h
  disj := by intro r r' v v' cs cs' i i' h; simp at h
  fz := h.fz
  fzd := by intro b o y r v cs i _ h; simp at h
  lo := Nat.le_refl _
  loops := LoopsOk.nil _ _ _
  dom := by intro j p h; simp [Kap.own] at h
  held := ResOk.none _ _ _ _ rfl

theorem VRel.toOwn {c : AVal} {y : Value} (h : VRel κ c y) (hc : closedV 0 c = true) : VRel (κ.own w) c y := by
  induction h with
  | junk x => exact .junk x
  | bool b => exact .bool b
  | int k m => exact .int k m
  | str s b h => exact .str s b h
  | ptr r v off i a hr hv h => simp [closedV] at hc
  | nilp => exact .nilp
  | sl r v off len sz i a c hr hv hcc h => simp [closedV] at hc
  | slm r v off len mc sz i a c hr hv hm hcc h => simp [closedV] at hc
  | nils => exact .nils
  | fz full len cells a c ys hcc hfull hs hl hsc hk _ ih =>
    simp only [closedV, closedL_iff] at hc
    exact .fz full len cells a c ys hcc hfull hs hl hsc hk (fun j x y hx hy => ih j x y hx hy (hc x (List.mem_of_getElem? hx)))
  | fq cells a ys hs hl hsc hk _ ih =>
    simp only [closedV, closedL_iff] at hc
    exact .fq cells a ys hs hl hsc hk (fun j x y hx hy => ih j x y hx hy (hc x (List.mem_of_getElem? hx)))
  | fn f first captured first' captured' hl hl' _ _ ih ih' =>
    simp only [closedV, Bool.and_eq_true, closedL_iff] at hc
    exact .fn f first captured first' captured' hl hl' (fun j x y hx hy => ih j x y hx hy (hc.1 x (List.mem_of_getElem? hx))) (fun j x y hx hy => ih' j x y hx hy (hc.2 x (List.mem_of_getElem? hx)))
  | nilf => exact .nilf
  | iface t v x _ ih => exact .iface t v x (ih (by simpa [closedV] using hc))
  | nili => exact .nili
  | agg cells ys hl hsc _ ih =>
    simp only [closedV, closedL_iff] at hc
    exact .agg cells ys hl hsc (fun j x y hx hy => ih j x y hx hy (hc x (List.mem_of_getElem? hx)))
  | tup cells ys hl _ ih =>
    simp only [closedV, closedL_iff] at hc
    exact .tup cells ys hl (fun j x y hx hy => ih j x y hx hy (hc x (List.mem_of_getElem? hx)))
  | mapn => exact .mapn
  | yld j l t i h hi => simp [closedV] at hc
  | mpv j l t i h hi => simp [closedV] at hc

/-- Behind such a call: the old blocks, and what the call froze. -/
def Kap.back (κ κ1 : Kap) : Kap := { blocks := κ.blocks, fz := κ1.fz, lo := κ.lo, recs := κ.recs, res := κ.res }

theorem VRel.toBack {c : AVal} {y : Value} (hb : κ1.blocks = []) (h : VRel κ1 c y) : VRel (κ.back κ1) c y := by
  induction h with
  | junk x => exact .junk x
  | bool b => exact .bool b
  | int k m => exact .int k m
  | str s b h => exact .str s b h
  | ptr r v off i a hr hv h => simp [hb] at hr
  | nilp => exact .nilp
  | sl r v off len sz i a c hr hv hcc h => simp [hb] at hr
  | slm r v off len mc sz i a c hr hv hm hcc h => simp [hb] at hr
  | nils => exact .nils
  | fz full len cells a c ys hcc hfull hs hl hsc hk _ ih => exact .fz full len cells a c ys hcc hfull hs hl hsc hk ih
  | fq cells a ys hs hl hsc hk _ ih => exact .fq cells a ys hs hl hsc hk ih
  | fn f first captured first' captured' hl hl' _ _ ih ih' => exact .fn f first captured first' captured' hl hl' ih ih'
  | nilf => exact .nilf
  | iface t v x _ ih => exact .iface t v x ih
  | nili => exact .nili
  | agg cells ys hl hsc _ ih => exact .agg cells ys hl hsc ih
  | tup cells ys hl _ ih => exact .tup cells ys hl ih
  | mapn => exact .mapn
  | yld j l t i h hi => simp [hb] at hi
  | mpv j l t i h hi => simp [hb] at hi

theorem rel_back (h : Rel W κ S w) (h1 : Rel w κ1 [] w') (hle : (κ.own w).le κ1) : Rel W (κ.back κ1) S w' ∧ κ.le (κ.back κ1) := by
  have hlo : W.heap.size ≤ w.heap.size := h.below.size
  have hmono : κ.le (κ.back κ1) := ⟨fun r i hi => ⟨i, hi, .inl rfl⟩, fun b o y hy => hle.2.1 b o y hy, rfl, fun b o y hy => by
    rcases hle.2.2.2.1 b o y hy with h2 | h2
    · exact .inl h2
    · exact .inr (Nat.le_trans h.lo (Nat.le_trans hlo h2)), fun _ _ h => h, rfl⟩
  have hkeep : ∀ (b : Nat) o, w.heap[b]? = some o → isCel o = false → w'.heap[b]? = some o := fun b o hb _ => by
    rw [← hb]; exact h1.below.block _ (Array.getElem?_eq_some_iff.1 hb).1
  refine ⟨⟨?_, h.len, ?_, h.disj, ?_, ?_, h.lo, h.loops.step (fun _ _ h => h) (fun _ _ _ h => h) hkeep, h.dom, h.held.step h.loops rfl (fun b o _ hb => by rw [← hb]; exact h1.below.block _ (Array.getElem?_eq_some_iff.1 hb).1)
    (fun r v cs i hr hi => .inl ⟨r, v, cs, i, hr, hi, rfl⟩) (fun b x y hy => hle.2.2.2.1 b x y hy) (fun _ _ _ h => h) (fun _ _ h => h)⟩, hmono⟩
  · exact h.below.trans (h1.below.mono hlo)
  · intro r v cells i hS hi
    obtain ⟨a1, a2, a3, arr, e, fr, a4, a5, a6, a7, a8⟩ := h.own r v cells i hS hi
    refine ⟨a1, a2, a3, arr, e, fr, ?_, a5, a6, VRel.cell_mono hmono a7, a8⟩
    rw [← a4]; exact h1.below.block _ (h.blk_lt hS hi)
  · exact h1.fz
  · intro b o y r v cs i hy hS hi
    rcases hle.2.2.2.1 b o y hy with h2 | h2
    · exact h.fzd b o y r v cs i h2 hS hi
    · have := h.blk_lt hS hi
      simp only [Kap.own] at h2
      omega

/-- What a call does over an empty heap it does over any. -/
theorem var_later {W w : World} {n : String} {cs : Array Value} (hb : Below W.heap.size W w) (h : W.var? P n = some cs) : w.var? P n = some cs := by
  unfold World.var? at h ⊢
  cases hg : P.globalNamed n with
  | none => rw [hg] at h; exact h
  | some g =>
    rw [hg] at h
    simp only [Option.bind_some] at h ⊢
    have hlt : g < W.heap.size := by
      rcases Nat.lt_or_ge g W.heap.size with h0 | h0
      · exact h0
      · rw [Array.getElem?_eq_none h0] at h; simp at h
    rw [hb.block g hlt]; exact h

theorem WOk.later {W w : World} (h : WOk P W) (hb : Below W.heap.size W w) : WOk P w := by
  refine ⟨fun y hy => ?_, fun t ht hn => var_later hb (h.tab t ht hn), fun n hn hg => ?_⟩
  · have h1 := h.err y hy
    have hlt : 0 < W.heap.size := by
      rcases Nat.eq_zero_or_pos W.heap.size with h0 | h0
      · simp [World.cell?, h0] at h1
      · exact h0
    have h2 := hb.block 0 hlt
    rw [← h1]
    simp only [World.cell?, h2]
  · obtain ⟨t, p, h1⟩ := h.ers n hn hg
    exact ⟨t, p, var_later hb h1⟩

theorem ACalls.pure {g : FuncId} {args : List AVal} {v v' : AVal} {k : Nat} (hW : WOk P W) (hc : closedL 0 args = true) (h : ∀ W, WOk P W → ACalls P W g args [] fun u U => u = v ∧ U = T) (hd : deep T 0 k v = some v') :
    ACalls P W g args S fun u U => u = v' ∧ U = S := by
  intro κ w args' hr ha
  have h0 := ACalls.tell (S0 := []) (T := T) (k := k) (by simpa using h w (hW.later hr.below)) rfl (by intro r u cells h; simp at h) (by simpa using hd)
  have ha' : VRelL (κ.own w) args args' := ⟨ha.1, fun j x y hx hy => (ha.2 j x y hx hy).toOwn (closedL_iff.1 hc x (List.mem_of_getElem? hx))⟩
  refine (h0 (κ.own w) w args' (rel_own hr) ha').mono ?_
  rintro e w' ⟨u, x, S1, κ1, rfl, ⟨rfl, rfl⟩, hv, hr1, hle⟩
  have hb : κ1.blocks = [] := by have := hr1.len; simpa using this
  obtain ⟨p, q⟩ := rel_back hr hr1 hle
  exact ⟨u, x, S, κ.back κ1, rfl, ⟨rfl, rfl⟩, hv.toBack hb, p, q⟩

/-- A model that runs another one over an empty heap, and tells its result in place. -/
def pureM (k : Nat) (m : Model) : Model := fun args S =>
  if closedL 0 args = true then match m args [] with
    | some (v, T) => (deep T 0 k v).map fun u => (u, S)
    | none => none
  else none

theorem Sound.pure {g : FuncId} {m : Model} (k : Nat) (h : Sound P g m) : Sound P g (pureM k m) := by
  intro W hW args S v S' hv
  unfold pureM at hv
  split at hv
  · rename_i hc
    split at hv
    · rename_i u T hm
      simp only [Option.map_eq_some_iff] at hv
      obtain ⟨x, hx, he⟩ := hv
      cases he
      exact ⟨(h W hW args [] u T hm).1, ACalls.pure hW hc (fun W hW => (h W hW args [] u T hm).2) hx⟩
    · simp at hv
  · simp at hv

/-- Either model. -/
def orM (a b : Model) : Model := fun args S => match a args S with
  | some r => some r
  | none => b args S

theorem Sound.or {g : FuncId} {a b : Model} (ha : Sound P g a) (hb : Sound P g b) : Sound P g (orM a b) := by
  intro W hW args S v S' hv
  unfold orM at hv
  split at hv
  · rename_i r hr; cases hv; exact ha W hW _ _ _ _ hr
  · exact hb W hW _ _ _ _ hv

/-- The oracle of a list of models. -/
def orc (l : List Model) : Orc := { loc := l, dyn := fun _ _ _ => none }

def SoundAll (P : Program) : List FuncId → List Model → Prop
  | [], [] => True
  | g :: gs, m :: ms => Sound P g m ∧ SoundAll P gs ms
  | _, _ => False

theorem SoundAll.get : ∀ {gs : List FuncId} {ms : List Model}, SoundAll P gs ms → ∀ (i : Nat) g m, gs[i]? = some g → ms[i]? = some m → Sound P g m
  | [], [], _, i, g, m, h, _ => by simp at h
  | g :: gs, m :: ms, h, i, g', m', h1, h2 => by
    cases i with
    | zero => simp at h1 h2; subst h1; subst h2; exact h.1
    | succ i => exact h.2.get i g' m' (by simpa using h1) (by simpa using h2)
  | [], _ :: _, h, _, _, _, _, _ => h.elim
  | _ :: _, [], h, _, _, _, _, _ => h.elim

theorem orcOk {fs : List FuncId} {l : List Model} (h : SoundAll P fs l) (W : World) (hW : WOk P W) : OrcOk P W fs (orc l) :=
  ⟨fun i g m h1 h2 => h.get i g m h1 h2 W hW, fun g => SoundW.none P W g⟩

theorem orcIOk {l : List Model} (W : World) (_ : WOk P W) : OrcIOk P W (orc l) := ⟨fun _ _ _ _ _ _ _ _ h => by simp [orc] at h⟩

/-- A function's code at a given fuel. -/
def exM (O : Orc) (F : AFun) (k : Nat) : Model := fun args S => evF O k F args S

def pickD : List (FuncId × Model) → FuncId → Model
  | [], _ => fun _ _ => none
  | (k, m) :: r, g => if g = k then m else pickD r g
def pickI : List (FuncId × ((Nat → Model) → Model)) → FuncId → (Nat → Model) → Model
  | [], _ => fun _ _ _ => none
  | (k, m) :: r, g => if g = k then m else pickI r g

/-- The oracle with functions that are called by their values, and iterators. -/
def orcD (l : List Model) (ds : List (FuncId × Model)) (is : List (FuncId × ((Nat → Model) → Model))) : Orc := { loc := l, dyn := pickD ds, itr := pickI is }

def SoundD (P : Program) : List (FuncId × Model) → Prop
  | [] => True
  | (k, m) :: r => Sound P k m ∧ SoundD P r

/-- An iterator's model is true, whatever true thing is done with what comes. -/
def SoundI (P : Program) (k : FuncId) (m : (Nat → Model) → Model) : Prop :=
  ∀ W, WOk P W → ∀ κ0 Y, YOk P W κ0 Y → ∀ args S v S', m Y args S = some (v, S') → Callable P k ∧ ACallsK P W κ0 k args S fun u T => u = v ∧ T = S'

def SoundIs (P : Program) : List (FuncId × ((Nat → Model) → Model)) → Prop
  | [] => True
  | (k, m) :: r => SoundI P k m ∧ SoundIs P r

theorem SoundD.pick : ∀ {ds : List (FuncId × Model)}, SoundD P ds → ∀ g, Sound P g (pickD ds g)
  | [], _, g => Sound.none P g
  | (k, m) :: r, h, g => by
    unfold pickD
    split
    · rename_i e; subst e; exact h.1
    · exact h.2.pick g

theorem orcDOk {fs : List FuncId} {l : List Model} {ds : List (FuncId × Model)} {is : List (FuncId × ((Nat → Model) → Model))} (h : SoundAll P fs l) (hd : SoundD P ds) (W : World) (hW : WOk P W) : OrcOk P W fs (orcD l ds is) :=
  ⟨fun i g m h1 h2 => h.get i g m h1 h2 W hW, fun g => hd.pick g W hW⟩

theorem orcDIOk {l : List Model} {ds : List (FuncId × Model)} : ∀ {is : List (FuncId × ((Nat → Model) → Model))}, SoundIs P is → ∀ W, WOk P W → OrcIOk P W (orcD l ds is)
  | [], _, _, _ => ⟨fun _ _ _ _ _ _ _ _ h => by simp [orcD, pickI] at h⟩
  | (k, m) :: r, h, W, hW => ⟨fun g κ0 Y hY args S v S' hm => by
    simp only [orcD, pickI] at hm
    split at hm
    · rename_i e; subst e; exact h.1 W hW κ0 Y hY args S v S' hm
    · exact (orcDIOk (l := l) (ds := ds) (is := r) h.2 W hW).itr g κ0 Y hY args S v S' hm⟩

/-- A function's code, its callees told. -/
theorem Sound.ex {fs : List FuncId} {l : List Model} (hl : SoundAll P fs l) (hmix : P.follows .mixedOrders = true) {g : FuncId} {fn : Func} (hg : P.funcs[g]? = some fn) {h : Nat → Nat → Bool} {F : AFun}
    (hc : compF P fs h fn = some F) (k : Nat) : Sound P g (exM (orc l) F k) :=
  Sound.of_ev (orcOk hl) orcIOk rfl hmix hg hc fun _ _ _ h => ⟨k, h⟩

theorem Sound.exD {fs : List FuncId} {l : List Model} {ds : List (FuncId × Model)} {is : List (FuncId × ((Nat → Model) → Model))} (hl : SoundAll P fs l) (hd : SoundD P ds) (hi : SoundIs P is) (hmix : P.follows .mixedOrders = true)
    {g : FuncId} {fn : Func} (hg : P.funcs[g]? = some fn) {h : Nat → Nat → Bool} {F : AFun} (hc : compF P fs h fn = some F) (k : Nat) : Sound P g (exM (orcD l ds is) F k) :=
  Sound.of_ev (orcDOk hl hd) (orcDIOk hi) rfl hmix hg hc fun _ _ _ h => ⟨k, h⟩

/-- An iterator's code. -/
theorem SoundI.ex {fs : List FuncId} {l : List Model} (hl : SoundAll P fs l) (hmix : P.follows .mixedOrders = true) {g : FuncId} {fn : Func} (hg : P.funcs[g]? = some fn) {h : Nat → Nat → Bool} {F : AFun}
    (hc : compF P fs h fn = some F) (k : Nat) : SoundI P g (fun Y => exM { orc l with yld := Y } F k) := by
  intro W hW κ0 Y hY args S v S' hv
  have hO : OrcOk P W fs { orc l with yld := Y } := ⟨fun i g m h1 h2 => hl.get i g m h1 h2 W hW, fun g => SoundW.none P W g⟩
  have hI : OrcIOk P W { orc l with yld := Y } := ⟨fun _ _ _ _ _ _ _ _ h => by simp [orc] at h⟩
  exact fun_okK hO hI hY hmix hg hc hv

end Am
