/- From the machine's word at an empty heap to the row's statement: the arguments are read as values that are told in place. -/
import Derived.Test.YtffhiphcmohjdaaGreatDoorAmWk
import Derived.ProofKit
set_option linter.all false
namespace Am
open Go Go.RowKit Go.ChangeShapes Go.WideShapes

/-- What an argument's type looks like. -/
inductive DT where
  | bool | int (k : IntKind) | str
  | sl (e : DT)
  | st (fs : DT)
  | done
  | fld (a r : DT)
  | arr (n : Nat) (e : DT)

/-- The values of a type. -/
@[reducible] def DT.Val : DT → Type
  | .bool => Bool
  | .int _ => Int
  | .str => List UInt8
  | .sl e => Option (List e.Val)
  | .st fs => fs.Val
  | .done => Unit
  | .fld a r => a.Val × r.Val
  | .arr _ e => List e.Val

def DT.sz : DT → Nat
  | .bool | .int _ | .str | .sl _ => 1
  | .st fs => fs.sz
  | .done => 0
  | .fld a r => a.sz + r.sz
  | .arr n e => n * e.sz

/-- The cells of a value. -/
def DT.enc : (t : DT) → t.Val → List AVal
  | .bool, b => [.bool b]
  | .int k, n => [.int k n]
  | .str, s => [.str s]
  | .sl _, none => [.nils]
  | .sl e, some l => [.fz false l.length (l.flatMap e.enc)]
  | .st fs, x => fs.enc x
  | .done, _ => []
  | .fld a r, x => a.enc x.1 ++ r.enc x.2
  | .arr _ e, l => l.flatMap e.enc

/-- A value in one. -/
def DT.one : (t : DT) → t.Val → AVal
  | .bool, b => .bool b
  | .int k, n => .int k n
  | .str, s => .str s
  | .sl _, none => .nils
  | .sl e, some l => .fz false l.length (l.flatMap e.enc)
  | .st fs, x => .agg (fs.enc x)
  | .done, _ => .agg []
  | .fld a r, x => .agg (a.enc x.1 ++ r.enc x.2)
  | .arr _ e, l => .agg (l.flatMap e.enc)

def DT.Wf : (t : DT) → t.Val → Prop
  | .bool, _ => True
  | .int k, n => k.min ≤ n ∧ n ≤ k.max
  | .str, s => s.length ≤ maxLen
  | .sl _, none => True
  | .sl e, some l => l.length ≤ maxLen ∧ ∀ x ∈ l, e.Wf x
  | .st fs, x => fs.Wf x
  | .done, _ => True
  | .fld a r, x => a.Wf x.1 ∧ r.Wf x.2
  | .arr n e, l => l.length = n ∧ ∀ x ∈ l, e.Wf x

/-- A type of the program looks so. -/
def DT.fits (P : Program) : DT → TypeId ⊕ (List Field × Nat) → Bool
  | .bool, .inl t => match P.underlying t with
    | some .bool => true
    | _ => false
  | .int k, .inl t => match P.underlying t with
    | some (.int j) => decide (j = k)
    | _ => false
  | .str, .inl t => match P.underlying t with
    | some .string => true
    | _ => false
  | .sl e, .inl t => match P.underlying t with
    | some (.slice u) => P.cellsOf u == e.sz && e.fits P (.inl u)
    | _ => false
  | .st fs, .inl t => match P.underlying t with
    | some (.struct l) => P.cellsOf t == fs.sz && fs.fits P (.inr (l.toList, 0))
    | _ => false
  | .arr n e, .inl t => match P.underlying t with
    | some (.array m u) => m == n && P.cellsOf t == n * e.sz && P.cellsOf u == e.sz && e.fits P (.inl u)
    | _ => false
  | .done, .inr ([], _) => true
  | .fld a r, .inr (f :: fs, off) => f.offset == off && P.cellsOf f.type == a.sz && a.fits P (.inl f.type) && r.fits P (.inr (fs, off + a.sz))
  | _, _ => false

/-- The relation at the start: nothing is owned; whatever lies in memory stays. -/
def kap0 (W : World) : Kap := { blocks := [], fz := fun b o => W.cell? ⟨b, o, none⟩ }

theorem rel0 (W : World) : Rel W (kap0 W) [] W where
  below := Below.refl _ _
  len := rfl
  own := by intro r v cells i h; simp at h
  disj := by intro r r' v v' cs cs' i i' h; simp at h
  fz := fun b o y h => h
  fzd := by intro b o y r v cs i _ h; simp at h
  lo := Nat.zero_le _
  loops := LoopsOk.nil _ _ _
  dom := by intro j p h; simp [kap0] at h
  held := ResOk.none _ _ _ _ rfl

theorem At.append {w : World} {a : Addr} {ys zs : List Value} (h : At w a ys) (h' : At w (a.add ys.length) zs) : At w a (ys ++ zs) := by
  intro j z hz
  rw [List.getElem?_append] at hz
  split at hz
  · exact h j z hz
  · rename_i hj
    have := h' (j - ys.length) z hz
    rw [add_add] at this
    rwa [show ys.length + (j - ys.length) = j by omega] at this

theorem At.plain {w : World} {a : Addr} {ys : List Value} (h : At w a ys) : (ys ≠ [] → a.spot = none) ∧ ∀ (j : Nat) y, ys[j]? = some y → w.cell? ⟨a.block, a.off + j, none⟩ = some y := by
  have hs : ys ≠ [] → a.spot = none := by
    intro hne
    cases ys with
    | nil => exact absurd rfl hne
    | cons y ys => have := h 0 y rfl; exact World.cell?_spot (by simpa [Addr.add] using this)
  refine ⟨hs, fun j y hy => ?_⟩
  have h1 := h j y hy
  have hne : ys ≠ [] := by intro e; subst e; simp at hy
  obtain ⟨b, o, s⟩ := a
  have := hs hne
  simp only at this; subst this
  rwa [add_plain] at h1

theorem At.of_cells {w : World} {base : Nat} {a : Addr} {n : Nat} {cs : List Value} (h : w.cells? base a n = some cs) : At w a cs ∧ cs.length = n := by
  unfold World.cells? at h
  split at h
  · have hl : cs.length = n := by have := mapM_some_length h; simpa using this
    refine ⟨fun j y hy => ?_, hl⟩
    have hj : j < n := by rw [← hl]; exact (List.getElem?_eq_some_iff.1 hy).1
    have := mapM_some_get h j j (by simp [hj])
    rw [this, hy]
  · simp at h

section
variable {H : Type} {enc : TypeId × Value → H} {P : Program} {W : World} {base : Nat} {spare : Nat → Bool} {held : Bool}

def scal (cs : List Value) : Prop := ∀ y ∈ cs, scalar y

theorem scal.append {a b : List Value} (h : scal a) (h' : scal b) : scal (a ++ b) := fun y hy => by
  rcases List.mem_append.1 hy with h1 | h1
  · exact h y h1
  · exact h' y h1

/-- What a type's reading tells. -/
def Told (W : World) (t : DT) (cs : List Value) : Prop := ∃ x : t.Val, t.Wf x ∧ VRelL (kap0 W) (t.enc x) cs ∧ scal cs

theorem flatMap_len {α : Type} {g : α → List AVal} {n : Nat} : ∀ {l : List α}, (∀ x ∈ l, (g x).length = n) → (l.flatMap g).length = l.length * n
  | [], _ => by simp
  | a :: l, h => by
    have h1 := flatMap_len (l := l) (fun x hx => h x (List.mem_cons_of_mem _ hx))
    have h2 := h a (List.mem_cons_self ..)
    simp only [List.flatMap_cons, List.length_append, List.length_cons, h1, h2, Nat.add_mul, Nat.one_mul]; omega

theorem enc_len : ∀ (t : DT) (x : t.Val), t.Wf x → (t.enc x).length = t.sz
  | .bool, _, _ => rfl
  | .int _, _, _ => rfl
  | .str, _, _ => rfl
  | .sl _, none, _ => rfl
  | .sl _, some _, _ => rfl
  | .st fs, x, h => enc_len fs x h
  | .done, _, _ => rfl
  | .fld a r, x, h => by simp only [DT.enc, DT.sz, List.length_append, enc_len a x.1 h.1, enc_len r x.2 h.2]
  | .arr n e, l, h => by
    simp only [DT.enc, DT.sz]
    rw [flatMap_len (fun x hx => enc_len e x (h.2 x hx)), h.1]

/-- Elements one behind the other in memory. -/
theorem told_elems {e : DT} (rd : Nat → Option (DataW H × List MemPlace)) (get : Nat → Option (List Value)) (a : Addr)
    (hg : ∀ i cs, get i = some cs → At W (a.add (i * e.sz)) cs ∧ cs.length = e.sz)
    (hr : ∀ i x, rd i = some x → ∃ cs, get i = some cs ∧ Told W e cs) :
    ∀ n, (∀ i, i < n → ∃ x, rd i = some x) → ∃ (l : List e.Val) (ys : List Value), l.length = n ∧ ys.length = n * e.sz ∧ (∀ x ∈ l, e.Wf x) ∧ VRelL (kap0 W) (l.flatMap e.enc) ys ∧ scal ys ∧ At W a ys
  | 0, _ => ⟨[], [], rfl, by simp, by simp, .nil _, by simp [scal], by intro j y hy; simp at hy⟩
  | n + 1, h => by
    obtain ⟨l, ys, h1, h2, h3, h4, h5, h6⟩ := told_elems rd get a hg hr n (fun i hi => h i (by omega))
    obtain ⟨x, hx⟩ := h n (by omega)
    obtain ⟨cs, hcs, v, hv1, hv2, hv3⟩ := hr n x hx
    obtain ⟨ha, hal⟩ := hg n cs hcs
    refine ⟨l ++ [v], ys ++ cs, by simp [h1], by simp [h2, hal, Nat.add_mul], ?_, ?_, h5.append hv3, h6.append (by rw [h2]; exact ha)⟩
    · intro y hy
      rcases List.mem_append.1 hy with hy | hy
      · exact h3 y hy
      · simp at hy; subst hy; exact hv1
    · simp only [List.flatMap_append, List.flatMap_cons, List.flatMap_nil, List.append_nil]
      exact h4.append hv2

/-- Parts one behind the other in a value's cells. -/
theorem told_parts {e : DT} (cs : List Value) (ok : Nat → Prop) (hr : ∀ i, ok i → (cs.drop (i * e.sz)).length ≥ e.sz → Told W e ((cs.drop (i * e.sz)).take e.sz)) :
    ∀ n, (∀ i, i < n → ok i) → n * e.sz ≤ cs.length → ∃ l : List e.Val, l.length = n ∧ (∀ x ∈ l, e.Wf x) ∧ VRelL (kap0 W) (l.flatMap e.enc) (cs.take (n * e.sz)) ∧ scal (cs.take (n * e.sz))
  | 0, _, _ => ⟨[], rfl, by simp, by simp; exact .nil _, by simp [scal]⟩
  | n + 1, h, hl => by
    have hl' : n * e.sz + e.sz ≤ cs.length := by rw [Nat.add_mul, Nat.one_mul] at hl; exact hl
    obtain ⟨l, h1, h3, h4, h5⟩ := told_parts cs ok hr n (fun i hi => h i (by omega)) (by omega)
    obtain ⟨v, hv1, hv2, hv3⟩ := hr n (h n (by omega)) (by simp; omega)
    have hsplit : cs.take ((n + 1) * e.sz) = cs.take (n * e.sz) ++ (cs.drop (n * e.sz)).take e.sz := by
      rw [Nat.add_mul, Nat.one_mul, List.take_add]
    refine ⟨l ++ [v], by simp [h1], ?_, ?_, by rw [hsplit]; exact h5.append hv3⟩
    · intro y hy
      rcases List.mem_append.1 hy with hy | hy
      · exact h3 y hy
      · simp at hy; subst hy; exact hv1
    · rw [hsplit]
      simp only [List.flatMap_append, List.flatMap_cons, List.flatMap_nil, List.append_nil]
      exact h4.append hv2

theorem told : ∀ (t : DT),
    (∀ (u : TypeId) (fuel : Nat) (cs : List Value) x, t.fits P (.inl u) = true → DataW.trod enc P W base spare held fuel u cs = some x → Told W t cs) ∧
    (∀ (fs : List Field) (off fuel : Nat) (cs : List Value) xs, t.fits P (.inr (fs, off)) = true →
      (fs.mapM fun f => DataW.trod enc P W base spare held fuel f.type ((cs.drop f.offset).take (P.cellsOf f.type))) = some xs → cs.length = off + t.sz → Told W t (cs.drop off))
  | .bool => by
    refine ⟨fun u fuel cs x hf h => ?_, fun fs off fuel cs xs hf => by simp [DT.fits] at hf⟩
    simp only [DT.fits] at hf
    split at hf
    · rename_i hu
      obtain ⟨b, rfl⟩ : ∃ b, cs = [.bool b] := by
        cases fuel with
        | zero => simp [DataW.trod] at h
        | succ fuel =>
          unfold DataW.trod at h
          rw [hu] at h
          rcases cs with _ | ⟨c, _ | ⟨c2, cs⟩⟩ <;> try cases c
          all_goals first | (exact ⟨_, rfl⟩) | (simp at h; done)
      exact ⟨b, trivial, .cons (.bool b) (.nil _), by simp [scal, scalar]⟩
    · simp at hf
  | .int k => by
    refine ⟨fun u fuel cs x hf h => ?_, fun fs off fuel cs xs hf => by simp [DT.fits] at hf⟩
    simp only [DT.fits] at hf
    split at hf
    · rename_i j hu
      simp only [decide_eq_true_eq] at hf; subst hf
      obtain ⟨n, rfl, hn⟩ : ∃ n, cs = [.int j n] ∧ (Lit.int j n).wf = true := by
        cases fuel with
        | zero => simp [DataW.trod] at h
        | succ fuel =>
          unfold DataW.trod at h
          rw [hu] at h
          rcases cs with _ | ⟨c, _ | ⟨c2, cs⟩⟩ <;> try cases c
          all_goals first | (simp at h; done) | skip
          simp only at h
          split at h
          · rename_i hh; obtain ⟨rfl, hw⟩ := hh; exact ⟨_, rfl, hw⟩
          · simp at h
      simp only [Lit.wf, Bool.and_eq_true, decide_eq_true_eq] at hn
      exact ⟨n, hn, .cons (.int j n) (.nil _), by simp [scal, scalar]⟩
    · simp at hf
  | .str => by
    refine ⟨fun u fuel cs x hf h => ?_, fun fs off fuel cs xs hf => by simp [DT.fits] at hf⟩
    simp only [DT.fits] at hf
    split at hf
    · rename_i hu
      obtain ⟨s, rfl, hn⟩ : ∃ s : ByteArray, cs = [.string s] ∧ s.size ≤ maxLen := by
        cases fuel with
        | zero => simp [DataW.trod] at h
        | succ fuel =>
          unfold DataW.trod at h
          rw [hu] at h
          rcases cs with _ | ⟨c, _ | ⟨c2, cs⟩⟩ <;> try cases c
          all_goals first | (simp at h; done) | skip
          simp only at h
          split at h
          · rename_i hh; exact ⟨_, rfl, hh⟩
          · simp at h
      exact ⟨s.data.toList, (show s.data.toList.length ≤ maxLen by rw [Array.length_toList]; exact hn), .cons (.str _ s rfl) (.nil _), by simp [scal, scalar]⟩
    · simp at hf
  | .sl e => by
    refine ⟨fun u fuel cs x hf h => ?_, fun fs off fuel cs xs hf => by simp [DT.fits] at hf⟩
    simp only [DT.fits] at hf
    split at hf
    · rename_i v hu
      simp only [Bool.and_eq_true, beq_iff_eq] at hf
      cases fuel with
      | zero => simp [DataW.trod] at h
      | succ fuel =>
        unfold DataW.trod at h
        rw [hu] at h
        have key : cs = [.slice none 0 0] ∨ ∃ a len cap, cs = [.slice (some a) len cap] ∧ len ≤ cap ∧ cap ≤ maxLen ∧
            ∃ elems, (List.range len).mapM (fun i => (W.cells? base (a.add (i * P.cellsOf v)) (P.cellsOf v)).bind (DataW.trod enc P W base spare held fuel v)) = some elems := by
          rcases cs with _ | ⟨c, _ | ⟨c2, cs⟩⟩ <;> try cases c
          all_goals first | (simp at h; done) | skip
          rename_i a len cap
          rcases a with _ | a
          · rcases len with _ | len <;> rcases cap with _ | cap <;> first | exact .inl rfl | (simp at h; done)
          · right
            simp only at h
            split at h
            · rename_i hh
              simp only [Option.bind_eq_some_iff] at h
              obtain ⟨elems, he, _⟩ := h
              exact ⟨a, len, cap, rfl, hh.2.1, hh.2.2, elems, he⟩
            · simp at h
        rcases key with rfl | ⟨a, len, cap, rfl, hlc, hc, elems, he⟩
        · exact ⟨none, trivial, .cons .nils (.nil _), by simp [scal, scalar]⟩
        · rw [hf.1] at he
          obtain ⟨l, ys, h1, h2, h3, h4, h5, h6⟩ := told_elems (W := W) (e := e) (H := H)
            (fun i => (W.cells? base (a.add (i * e.sz)) e.sz).bind (DataW.trod enc P W base spare held fuel v))
            (fun i => W.cells? base (a.add (i * e.sz)) e.sz) a (fun i cs h => At.of_cells h)
            (fun i x hx => by
              simp only [Option.bind_eq_some_iff] at hx
              obtain ⟨cs, hcs, hx⟩ := hx
              exact ⟨cs, hcs, (told e).1 v fuel cs x hf.2 hx⟩) len (fun i hi => by
                have hel : elems.length = len := by have := mapM_some_length he; simpa using this
                have := mapM_some_get he i i (by simp [hi])
                exact ⟨elems[i], by rw [this]; simp⟩)
          obtain ⟨p1, p2⟩ := h6.plain
          refine ⟨some l, ⟨by omega, h3⟩, .cons ?_ (.nil _), by simp [scal, scalar]⟩
          rw [h1]
          exact .fz false len _ a cap ys hlc (by simp) p1 h4.1 h5 (fun j y hy => p2 j y hy) h4.2
    · simp at hf
  | .st e => by
    refine ⟨fun u fuel cs x hf h => ?_, fun fs off fuel cs xs hf => by simp [DT.fits] at hf⟩
    simp only [DT.fits] at hf
    split at hf
    · rename_i l hu
      simp only [Bool.and_eq_true, beq_iff_eq] at hf
      cases fuel with
      | zero => simp [DataW.trod] at h
      | succ fuel =>
        unfold DataW.trod at h
        rw [hu] at h
        simp only at h
        split at h
        · rename_i hlen
          simp only [Option.map_eq_some_iff] at h
          obtain ⟨xs, hxs, _⟩ := h
          have := (told e).2 l.toList 0 fuel cs xs hf.2 hxs (by rw [hlen, hf.1]; simp)
          rw [List.drop_zero] at this
          exact this
        · simp at h
    · simp at hf
  | .arr n e => by
    refine ⟨fun u fuel cs x hf h => ?_, fun fs off fuel cs xs hf => by simp [DT.fits] at hf⟩
    simp only [DT.fits] at hf
    split at hf
    · rename_i m v hu
      simp only [Bool.and_eq_true, beq_iff_eq] at hf
      obtain ⟨⟨⟨rfl, hf1⟩, hf2⟩, hf3⟩ := hf
      cases fuel with
      | zero => simp [DataW.trod] at h
      | succ fuel =>
        unfold DataW.trod at h
        rw [hu] at h
        simp only at h
        split at h
        · rename_i hlen
          simp only [Option.map_eq_some_iff] at h
          obtain ⟨xs, hxs, _⟩ := h
          rw [hf2] at hxs
          have hel : xs.length = m := by have := mapM_some_length hxs; simpa using this
          obtain ⟨l, h1, h3, h4, h5⟩ := told_parts (W := W) (e := e) cs (fun i => i < m) (fun i hi hl => by
            have := mapM_some_get hxs i i (by simp [hi])
            rw [List.getElem?_eq_getElem (by omega)] at this
            exact (told e).1 v fuel _ _ hf3 this) m (fun i hi => hi) (by rw [hlen, hf1]; exact Nat.le_refl _)
          rw [List.take_of_length_le (by rw [hlen, hf1]; exact Nat.le_refl _)] at h4 h5
          exact ⟨l, ⟨h1, h3⟩, h4, h5⟩
        · simp at h
    · simp at hf
  | .done => by
    refine ⟨fun u fuel cs x hf h => by simp [DT.fits] at hf, fun fs off fuel cs xs hf h hl => ?_⟩
    simp only [DT.sz, Nat.add_zero] at hl
    rw [List.drop_of_length_le (by omega)]
    exact ⟨(), trivial, .nil _, by simp [scal]⟩
  | .fld a r => by
    refine ⟨fun u fuel cs x hf h => by simp [DT.fits] at hf, fun fs off fuel cs xs hf h hl => ?_⟩
    cases fs with
    | nil => simp [DT.fits] at hf
    | cons f fs =>
      simp only [DT.fits, Bool.and_eq_true, beq_iff_eq] at hf
      obtain ⟨⟨⟨rfl, hf1⟩, hf2⟩, hf3⟩ := hf
      simp only [DT.sz] at hl
      rw [List.mapM_cons] at h
      simp only [Option.bind_eq_bind, Option.bind_eq_some_iff, Option.pure_def] at h
      obtain ⟨x0, hx0, xs', hxs', _⟩ := h
      rw [hf1] at hx0
      obtain ⟨v, hv1, hv2, hv3⟩ := (told a).1 f.type fuel _ _ hf2 hx0
      obtain ⟨v', hv1', hv2', hv3'⟩ := (told r).2 fs (f.offset + a.sz) fuel cs xs' hf3 hxs' (by omega)
      have hs : cs.drop f.offset = (cs.drop f.offset).take a.sz ++ cs.drop (f.offset + a.sz) := by
        rw [← List.drop_drop, List.take_append_drop]
      rw [hs]
      exact ⟨(v, v'), ⟨hv1, hv1'⟩, hv2.append hv2', hv3.append hv3'⟩

/-- The arguments' values. -/
@[reducible] def Vals : List DT → Type
  | [] => Unit
  | t :: ts => t.Val × Vals ts

def encs : (ts : List DT) → Vals ts → List AVal
  | [], _ => []
  | t :: ts, x => t.one x.1 :: encs ts x.2

def Wfs : (ts : List DT) → Vals ts → Prop
  | [], _ => True
  | t :: ts, x => t.Wf x.1 ∧ Wfs ts x.2

def DT.top : DT → Bool
  | .done => false
  | .fld _ _ => false
  | _ => true

def DT.isAgg : DT → Bool
  | .st _ | .arr _ _ => true
  | _ => false

theorem not_agg {P : Program} {b : Nat} {u : TypeId} {v : Value} (hok : Value.okWide P W .any b u v) (h1 : ∀ l, P.underlying u ≠ some (.struct l)) (h2 : ∀ n e, P.underlying u ≠ some (.array n e)) : v.cells.toList = [v] := by
  cases v with
  | agg cs =>
    exfalso
    unfold Value.okWide at hok
    split at hok
    · rename_i l hu; exact h1 _ hu
    · rename_i n e hu; exact h2 _ _ hu
    · unfold Cell.okWide at hok
      split at hok
      all_goals (try (rename_i heq; simp at heq; done))
      unfold Cell.ok at hok
      split at hok <;> simp_all
  | _ => rfl

theorem is_agg {P : Program} {b : Nat} {u : TypeId} {v : Value} (hok : Value.okWide P W .any b u v) (h1 : (∃ l, P.underlying u = some (.struct l)) ∨ ∃ n e, P.underlying u = some (.array n e)) : ∃ cs, v = .agg cs := by
  unfold Value.okWide at hok
  rcases h1 with ⟨l, hu⟩ | ⟨n, e, hu⟩ <;> rw [hu] at hok <;> obtain ⟨cs, h, _⟩ := hok <;> exact ⟨cs, h⟩

theorem told_one {b : Nat} {t : DT} {u : TypeId} {v : Value} {d : DataW H} {ps : List MemPlace} (ht : t.top = true) (hf : t.fits P (.inl u) = true)
    (hok : Value.okWide P W .any b u v) (h : DataW.Trod enc P W base spare held u v d ps) : ∃ x : t.Val, t.Wf x ∧ VRel (kap0 W) (t.one x) v := by
  obtain ⟨fuel, h⟩ := h
  obtain ⟨x, h1, h2, h3⟩ := (told t).1 u fuel _ _ hf h
  refine ⟨x, h1, ?_⟩
  have plain : (∀ l, P.underlying u ≠ some (.struct l)) → (∀ n e, P.underlying u ≠ some (.array n e)) → t.enc x = [t.one x] → VRel (kap0 W) (t.one x) v := by
    intro a1 a2 a3
    rw [not_agg hok a1 a2, a3] at h2
    exact h2.2 0 _ _ rfl rfl
  have aggr : ((∃ l, P.underlying u = some (.struct l)) ∨ ∃ n e, P.underlying u = some (.array n e)) → t.one x = .agg (t.enc x) → VRel (kap0 W) (t.one x) v := by
    intro a1 a2
    obtain ⟨cs, rfl⟩ := is_agg hok a1
    rw [a2]
    exact .agg (t.enc x) cs.toList h2.1 h3 h2.2
  cases t with
  | bool => simp only [DT.fits] at hf; split at hf <;> simp_all [DT.enc, DT.one]
  | int k => simp only [DT.fits] at hf; split at hf <;> simp_all [DT.enc, DT.one]
  | str => simp only [DT.fits] at hf; split at hf <;> simp_all [DT.enc, DT.one]
  | sl e =>
    simp only [DT.fits] at hf
    split at hf
    · rename_i hu
      cases x <;> exact plain (by simp [hu]) (by simp [hu]) rfl
    · simp at hf
  | st fs =>
    simp only [DT.fits] at hf
    split at hf
    · rename_i hu; exact aggr (.inl ⟨_, hu⟩) rfl
    · simp at hf
  | arr n e =>
    simp only [DT.fits] at hf
    split at hf
    · rename_i hu; exact aggr (.inr ⟨_, _, hu⟩) rfl
    · simp at hf
  | done => simp [DT.top] at ht
  | fld a r => simp [DT.top] at ht

theorem told_all {b : Nat} : ∀ (ts : List DT) (us : List TypeId) (vs : List Value) (ds : List (DataW H)) (ps : List MemPlace),
    (ts.length = us.length ∧ ∀ (j : Nat) t u, ts[j]? = some t → us[j]? = some u → t.top = true ∧ t.fits P (.inl u) = true) →
    (∀ (j : Nat) u v, us[j]? = some u → vs[j]? = some v → Value.okWide P W .any b u v) →
    DataW.TrodAll enc P W base spare held us vs ds ps → ∃ x : Vals ts, Wfs ts x ∧ VRelL (kap0 W) (encs ts x) vs
  | [], us, vs, ds, ps, hf, hok, h => by
    have : us = [] := by have := hf.1; simpa using this.symm
    subst this
    obtain ⟨rfl, _, _⟩ := trodAll_nil h
    exact ⟨(), trivial, .nil _⟩
  | t :: ts, [], vs, ds, ps, hf, hok, h => by have := hf.1; simp at this
  | t :: ts, u :: us, vs, ds, ps, hf, hok, h => by
    obtain ⟨v, vs1, d, ds1, p, q, rfl, rfl, rfl, h1, h2⟩ := trodAll_cons h
    obtain ⟨x, hx1, hx2⟩ := told_one (hf.2 0 t u rfl rfl).1 (hf.2 0 t u rfl rfl).2 (hok 0 u v rfl rfl) h1
    obtain ⟨y, hy1, hy2⟩ := told_all ts us vs1 ds1 q ⟨by have := hf.1; simpa using this, fun j t' u' a b => hf.2 (j + 1) t' u' (by simpa using a) (by simpa using b)⟩
      (fun j u' v' a b => hok (j + 1) u' v' (by simpa using a) (by simpa using b)) h2
    exact ⟨(x, y), ⟨hx1, hy1⟩, .cons hx2 hy2⟩

theorem trodAll_later {W' : World} (hl : laidOutB P = true) (hb : Below W.heap.size W W') {sp : Nat → Bool} : ∀ (us : List TypeId) (vs : List Value) (ds : List (DataW H)) (ps : List MemPlace),
    (∀ u ∈ us, P.readableRec u = true ∧ u < P.types.size) → DataW.TrodAll enc P W 0 (fun _ => true) true us vs ds ps → (∀ p ∈ ps, p.block < W.heap.size) → (∀ p ∈ ps, sp p.block = true) →
    DataW.TrodAll enc P W' 0 sp true us vs ds ps
  | [], vs, ds, ps, _, h, _, _ => by
    obtain ⟨rfl, rfl, rfl⟩ := trodAll_nil h
    exact rfl
  | u :: us, vs, ds, ps, hu, h, hlt, hsp => by
    obtain ⟨v, vs1, d, ds1, p, q, rfl, rfl, rfl, h1, h2⟩ := trodAll_cons h
    have hp : ∀ x ∈ p, x.block < W.heap.size := fun x hx => hlt x (by simp [hx])
    have := trodAll_later hl hb (sp := sp) us vs1 ds1 q (fun u' hu' => hu u' (by simp [hu'])) h2 (fun x hx => hlt x (by simp [hx])) (fun x hx => hsp x (by simp [hx]))
    refine ⟨p, q, ?_, this, rfl⟩
    exact WideElems.Trod_stays hl (hu u (by simp)).1 (hu u (by simp)).2 h1 (fun x hx => hb.same (hp x hx)) (fun x hx => hsp x (by simp [hx]))

/-- The post of a law that answers true and leaves all as it was. -/
theorem post_true {fresh handsOn again : Bool} {f : Func} {s : ChangeSpec} {W' : World} {args : Array Value} {ds gs : List (DataW H)} {before : List MemPlace} {tb : TypeId}
    (hW : DataW.Whole enc P f.params.toList s.vars false W args.toList ds gs before) (hv : s.vars = [])
    (hl : laidOutB P = true) (hu : ∀ u ∈ f.params.toList, P.readableRec u = true ∧ u < P.types.size)
    (hr : f.resultTypes = #[tb]) (ht : P.underlying tb = some .bool)
    (hs : ∀ ds : List (DataW H), ds.length = f.params.toList.length → s.fn H ds = { results := [.lit (.bool true)], args := ds })
    (hb : Below W.heap.size W W') :
    s.post enc P f false fresh handsOn again W args (.bool true) W' := by
  have hlt : ∀ p ∈ before, p.block < W.heap.size := fun p hp => hW.lt p hp
  have hW0 := hW
  obtain ⟨p, q, hA, hV, rfl, hfz, hnd⟩ := hW
  rw [hv] at hV
  obtain ⟨rfl, rfl⟩ := trodVars_none hV
  have hlen : ds.length = f.params.toList.length := by
    have : ∀ (us : List TypeId) (vs : List Value) (ds : List (DataW H)) (ps : List MemPlace), DataW.TrodAll enc P W 0 (fun _ => true) true us vs ds ps → ds.length = us.length := by
      intro us
      induction us with
      | nil => intro vs ds ps h; obtain ⟨_, rfl, _⟩ := trodAll_nil h; rfl
      | cons u us ih => intro vs ds ps h; obtain ⟨v, vs1, d, ds1, p, q, rfl, rfl, rfl, h1, h2⟩ := trodAll_cons h; simp [ih _ _ _ h2]
    exact this _ _ _ _ hA
  have hfn := hs ds hlen
  simp only [List.append_nil] at hlt hfz hW0 ⊢
  have hA' : ∀ sp : Nat → Bool, (∀ x ∈ p, sp x.block = true) → DataW.TrodAll enc P W' 0 sp true f.params.toList args.toList ds p :=
    fun sp hsp => trodAll_later hl hb _ _ _ _ hu hA hlt hsp
  have hR : ∀ (b : Nat) (sp : Nat → Bool) (hd : Bool), DataW.TrodAll enc P W' b sp hd f.resultTypes.toList ((Value.bool true).resultList f.resultTypes.size) [.lit (.bool true)] [] := by
    intro b sp hd
    rw [hr]
    exact trodAll_mk1 (shut_bool ht true)
  have hold : ∀ x ∈ p, (fun b => decide (b < W.heap.size)) x.block = true := fun x hx => by simpa using hlt x hx
  refine ⟨ds, [], p, [], p, [], hW0, ?_, ?_, ?_, hb.frame _, fun _ => ⟨?_, [.lit (.bool true)] ++ ds, [], [] ++ p, ⟨[] ++ p, [], ?_, ?_, by simp, ?_, by simp⟩, by simp; exact fun x hx _ => hx⟩⟩
  · rw [List.append_nil, hfn]; exact hR _ _ _
  · rw [List.append_nil, hfn]; exact hA' _ hold
  · rw [List.append_nil, hfn, hv]; exact rfl
  · have hokb : Value.okWide P W' .any 0 tb (.bool true) := by simp [Value.okWide, ht, Cell.okWide, Cell.ok]
    exact ok_one hr rfl hokb
  · exact trodAll_append (hA' _ (fun _ _ => rfl)) (hR _ _ _)
  · rw [hv]; exact rfl
  · intro b off hp
    have hp' : MemPlace.cell b off ∈ p := by simpa using hp
    have := hb.frozen (p := ⟨b, off, none⟩) (hlt _ hp')
    rw [this]
    exact hfz b off hp'

def fitAll (P : Program) : List DT → List TypeId → Bool
  | [], [] => true
  | t :: ts, u :: us => t.top && t.fits P (.inl u) && P.readableRec u && decide (u < P.types.size) && fitAll P ts us
  | _, _ => false

theorem fitAll_ok {P : Program} : ∀ {ts : List DT} {us : List TypeId}, fitAll P ts us = true →
    (ts.length = us.length ∧ ∀ (j : Nat) t u, ts[j]? = some t → us[j]? = some u → t.top = true ∧ t.fits P (.inl u) = true) ∧ ∀ u ∈ us, P.readableRec u = true ∧ u < P.types.size
  | [], [], _ => ⟨⟨rfl, by simp⟩, by simp⟩
  | [], _ :: _, h => by simp [fitAll] at h
  | _ :: _, [], h => by simp [fitAll] at h
  | t :: ts, u :: us, h => by
    simp only [fitAll, Bool.and_eq_true, decide_eq_true_eq] at h
    obtain ⟨⟨⟨⟨h1, h2⟩, h3⟩, h4⟩, h5⟩ := h
    obtain ⟨⟨a, b⟩, c⟩ := fitAll_ok h5
    refine ⟨⟨by simp [a], fun j t' u' ht hu => ?_⟩, fun u' hu => ?_⟩
    · cases j with
      | zero => simp at ht hu; subst ht; subst hu; exact ⟨h1, h2⟩
      | succ j => exact b j t' u' (by simpa using ht) (by simpa using hu)
    · rcases List.mem_cons.1 hu with rfl | hu
      · exact ⟨h3, h4⟩
      · exact c u' hu

theorem lifted {C : Checked} {os : Os} {f : FuncId} {fn : Func} {s : ChangeSpec} {conds : List PathCond} {fresh handsOn again : Bool} {tb : TypeId}
    (own : ownKnob C.prog.godebug = none) (started : os.Started) (noInit : C.prog.inits.idxOf? f = none) (hfn : C.prog.funcs[f]? = some fn)
    (witness : ∃ (w : World) (tape : Tape) (i : Input), w.os = os ∧ (w.forCall tape i).Shaped C.prog ∧ i.vars = [] ∧ Input.okWide C.prog (w.forCall tape i) .any w.heap.size f i ∧
      s.pre6 enc C.prog fn conds false (w.forCall tape i).memory i.args ∧ ({} : Assume).holds C.prog (lone (Frame.enter C.prog f i.args .normal) [] (w.forCall tape i)))
    (hv : s.vars = []) (hl : laidOutB C.prog = true) (ts : List DT) (hf : fitAll C.prog ts fn.params.toList = true)
    (hr : fn.resultTypes = #[tb]) (ht : (C.prog.underlying tb matches some .bool) = true)
    (hs : ∀ ds : List (DataW H), ds.length = fn.params.toList.length → s.fn H ds = { results := [.lit (.bool true)], args := ds })
    (h0 : wNone C.prog = true) (law : ∀ x : Vals ts, Wfs ts x → ∀ W, WOk C.prog W → ACalls C.prog W f (encs ts x) [] fun v _ => v = .bool true) :
    ReturnsInHanded {} C os f .any (s.pre6 enc C.prog fn conds false) (s.post enc C.prog fn false fresh handsOn again) := by
  have ht' : C.prog.underlying tb = some .bool := by split at ht <;> simp_all
  refine returnsInHanded_of_change own started noInit hfn witness ?_
  intro W base args ds gs before hval hW _ _
  have hW0 := hW
  obtain ⟨p, q, hA, hV, hpq, hfz, hnd⟩ := hW
  obtain ⟨h1, h2⟩ := fitAll_ok hf
  obtain ⟨x, hx1, hx2⟩ := told_all (b := base) ts fn.params.toList args.toList ds p h1
    (fun j u v hu hv => hval j u v (by simpa using hu) (by simpa using hv)) hA
  have := law x hx1 W (WOk.none h0 W) (kap0 W) W args.toList (rel0 W) hx2
  simp only [Array.toArray_toList] at this
  refine this.mono fun e W' ⟨v, v', S', κ', he, hv', hrel, hR, _⟩ => ?_
  subst hv'
  cases hrel
  exact ⟨_, he, post_true hW0 hv hl h2 hr ht' hs hR.below⟩
end
end Am
