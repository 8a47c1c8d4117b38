/- A region that draws its order. -/
import Derived.Test.YtgbifohffmdgeaaDoorAmRun
set_option linter.all false
namespace Am
open Go Go.RowKit

def AOp.args : AOp → List Arg
  | .mv x | .box x | .load _ x | .nilchk x | .un _ x | .convI _ x | .convBS x | .convSS x | .convSB x | .convSL x | .faddr _ x | .fld _ _ x | .mkif _ x | .ext _ x | .len _ x => [x]
  | .pick c a b => [c, a, b]
  | .alloc _ => []
  | .build _ ps => ps.map (·.2.2)
  | .bslice _ _ _ _ ps => ps.map (·.2.2)
  | .store _ x y | .bin _ x y | .eq _ _ x y | .eqA _ _ x y | .iaddrS _ x y | .iaddrA _ _ x y | .idxA _ _ _ x y | .idxStr x y | .append _ _ x y | .copy _ x y | .mnmx _ x y => [x, y]
  | .slcStr x lo hi => x :: (lo.toList ++ hi.toList)
  | .slcS _ x lo hi => x :: (lo.toList ++ hi.toList)
  | .slcA _ _ x lo hi => x :: (lo.toList ++ hi.toList)
  | .mkslice _ _ _ l c => [l, c]
  | .mkfn _ x y => x ++ y
  | .stop => []
  | .asrt _ _ _ _ _ x | .slc0 x | .arrP _ _ x => [x]
  | .eqI _ x y => [x, y]
  | .mkmap => []
  | .appn _ _ _ x n => [x, n]
  | .slcM _ x lo hi => x :: (lo.toList ++ hi.toList)
  | .appR _ x y => [x, y]
  | .mkmslice _ _ _ l c => [l, c]
  | .fgt x | .clr _ _ x => [x]
  | .slc3 x lo hi mx => [x, lo, hi, mx]
  | .mlen x => [x]
  | .mget _ _ x k | .mdel _ x k => [x, k]
  | .mset _ x k y => [x, k, y]

def ACallee.args : ACallee → List Arg
  | .k _ l => l
  | .v f l => f :: l
  | .inv _ r l => r :: l

def tmpsOf (l : List Arg) : List Nat := l.filterMap fun | .t n => some n | .c _ => none

/-- The slots that an operation reads. -/
def AOper.reads (o : AOper) : List Nat :=
  tmpsOf (match o.op with | .inl op => op.args | .inr c => c.args) ++ (match o.guard with | some (t, _) => [t] | none => [])

inductive OpKind where
  | pure | read | eff
  deriving DecidableEq

def AOp.kind : AOp → OpKind
  | .load .. | .convBS _ | .slcA .. | .mget .. | .mlen _ => .read
  | .stop | .store .. | .alloc _ | .box _ | .convSB _ | .convSL _ | .mkslice .. | .append .. | .copy .. | .mkmap | .mset .. | .mdel .. | .appn .. | .appR .. | .mkmslice .. | .clr .. => .eff
  | .bslice fz .. => if fz = true then .pure else .eff
  | _ => .pure

def AOper.kind (o : AOper) : OpKind := match o.op with | .inl op => op.kind | .inr _ => .eff

theorem ev_congr {f g : Fr} {l : List Arg} (h : ∀ t ∈ tmpsOf l, f.get t = g.get t) : ∀ x ∈ l, f.ev x = g.ev x := by
  intro x hx
  cases x with
  | c v => rfl
  | t n => exact h n (List.mem_filterMap.2 ⟨.t n, hx, rfl⟩)

theorem map_congr_parts {ρ σ : Arg → AVal} (ps : List (Nat × Nat × Arg)) (h : ∀ x ∈ ps.map (·.2.2), ρ x = σ x) : (ps.map fun (o, z, a) => (o, z, ρ a)) = ps.map fun (o, z, a) => (o, z, σ a) := by
  apply List.map_congr_left
  rintro ⟨o, z, a⟩ hp
  have := h a (List.mem_map.2 ⟨_, hp, rfl⟩)
  simp [this]

theorem evOp_congr {ρ σ : Arg → AVal} {S : St} {op : AOp} (h : ∀ x ∈ op.args, ρ x = σ x) : evOp ρ S op = evOp σ S op := by
  cases op with
  | build z ps => simp only [evOp]; rw [map_congr_parts ps h]
  | bslice fz sz len z ps => simp only [evOp]; rw [map_congr_parts ps h]
  | mkfn f x y =>
    simp only [AOp.args] at h
    simp only [evOp]
    rw [List.map_congr_left (fun a ha => h a (List.mem_append.2 (.inl ha))), List.map_congr_left (fun a ha => h a (List.mem_append.2 (.inr ha)))]
  | slcStr x lo hi =>
    simp only [AOp.args, List.mem_cons, List.mem_append, Option.mem_toList] at h
    have h1 := h x (.inl rfl)
    have h2 : lo.map ρ = lo.map σ := by cases lo <;> simp; exact h _ (.inr (.inl rfl))
    have h3 : hi.map ρ = hi.map σ := by cases hi <;> simp; exact h _ (.inr (.inr rfl))
    simp only [evOp, h1, h2, h3]
  | slcS sz x lo hi =>
    simp only [AOp.args, List.mem_cons, List.mem_append, Option.mem_toList] at h
    have h1 := h x (.inl rfl)
    have h2 : lo.map ρ = lo.map σ := by cases lo <;> simp; exact h _ (.inr (.inl rfl))
    have h3 : hi.map ρ = hi.map σ := by cases hi <;> simp; exact h _ (.inr (.inr rfl))
    simp only [evOp, h1, h2, h3]
  | slcM sz x lo hi =>
    simp only [AOp.args, List.mem_cons, List.mem_append, Option.mem_toList] at h
    have h1 := h x (.inl rfl)
    have h2 : lo.map ρ = lo.map σ := by cases lo <;> simp; exact h _ (.inr (.inl rfl))
    have h3 : hi.map ρ = hi.map σ := by cases hi <;> simp; exact h _ (.inr (.inr rfl))
    simp only [evOp, h1, h2, h3]
  | slcA sz n x lo hi =>
    simp only [AOp.args, List.mem_cons, List.mem_append, Option.mem_toList] at h
    have h1 := h x (.inl rfl)
    have h2 : lo.map ρ = lo.map σ := by cases lo <;> simp; exact h _ (.inr (.inl rfl))
    have h3 : hi.map ρ = hi.map σ := by cases hi <;> simp; exact h _ (.inr (.inr rfl))
    simp only [evOp, h1, h2, h3]
  | alloc z => rfl
  | _ => simp only [AOp.args, List.mem_cons, List.not_mem_nil, or_false, forall_eq_or_imp, forall_eq] at h; simp only [evOp, h]

theorem evCall_congr {O : Orc} {ρ σ : Arg → AVal} {S : St} {c : ACallee} (h : ∀ x ∈ c.args, ρ x = σ x) : evCall O ρ S c = evCall O σ S c := by
  cases c with
  | k i l => simp only [ACallee.args] at h; simp only [evCall]; rw [List.map_congr_left h]
  | v f l =>
    simp only [ACallee.args, List.mem_cons, forall_eq_or_imp] at h
    simp only [evCall]; rw [h.1, List.map_congr_left h.2]
  | inv t r l =>
    simp only [ACallee.args, List.mem_cons, forall_eq_or_imp] at h
    simp only [evCall]; rw [h.1, List.map_congr_left h.2]

theorem same_iff {S S' : St} {x : Option AVal} {v : AVal} : same S x = some (v, S') ↔ x = some v ∧ S' = S := by
  constructor
  · exact same_some
  · rintro ⟨rfl, rfl⟩; rfl

theorem map_same (S T : St) (x : Option AVal) : (same S x).map (fun p => (p.1, T)) = same T x := by cases x <;> rfl

theorem evOp_pure_eq {ρ : Arg → AVal} {op : AOp} (hk : op.kind = .pure) (S T : St) : evOp ρ T op = (evOp ρ S op).map fun p => (p.1, T) := by
  cases op with
  | bslice fz sz len z ps =>
    simp only [AOp.kind] at hk
    have hfz : fz = true := by cases fz <;> simp at hk ⊢
    subst hfz
    simp only [evOp, if_true]
    split <;> rfl
  | mv x => rfl
  | mkif t x => rfl
  | mkfn f x y => rfl
  | pick c a b => simp only [evOp]; split <;> rfl
  | nilchk x => simp only [evOp]; split <;> rfl
  | convI k x => simp only [evOp]; split <;> rfl
  | convSS x => simp only [evOp]; split <;> rfl
  | eqA neg ks x y => simp only [evOp]; split <;> first | rfl | exact (map_same S T _).symm
  | fld n off x => simp only [evOp]; split <;> first | rfl | exact (map_same S T _).symm
  | ext i x => simp only [evOp]; split <;> first | rfl | exact (map_same S T _).symm
  | idxA n sz len x i => simp only [evOp]; (repeat' split) <;> first | rfl | exact (map_same S T _).symm
  | idxStr x i => simp only [evOp]; (repeat' split) <;> rfl
  | mnmx m x y => simp only [evOp]; (repeat' split) <;> rfl
  | asrt i y n t z x => simp only [evOp]; (repeat' split) <;> rfl
  | eqI n x y => simp only [evOp]; (repeat' split) <;> rfl
  | slc0 x => simp only [evOp]; (repeat' split) <;> rfl
  | arrP n sz x => simp only [evOp]; (repeat' split) <;> rfl
  | build z ps => simp only [evOp]; exact (map_same S T _).symm
  | bin op x y => simp only [evOp]; exact (map_same S T _).symm
  | eq n t x y => simp only [evOp]; exact (map_same S T _).symm
  | un op x => simp only [evOp]; exact (map_same S T _).symm
  | faddr o x => simp only [evOp]; exact (map_same S T _).symm
  | iaddrS sz x i => simp only [evOp]; exact (map_same S T _).symm
  | iaddrA sz l x i => simp only [evOp]; exact (map_same S T _).symm
  | slcStr x lo hi => simp only [evOp]; exact (map_same S T _).symm
  | slcS sz x lo hi => simp only [evOp]; exact (map_same S T _).symm
  | slcM sz x lo hi => simp only [evOp]; exact (map_same S T _).symm
  | fgt x => simp only [evOp]; (repeat' split) <;> rfl
  | slc3 x lo hi mx => simp only [evOp]; (repeat' split) <;> rfl
  | len t x => simp only [evOp]; exact (map_same S T _).symm
  | _ => simp [AOp.kind] at hk

theorem evOp_pure {ρ : Arg → AVal} {S S' : St} {v : AVal} {op : AOp} (hk : op.kind = .pure) (h : evOp ρ S op = some (v, S')) : S' = S ∧ ∀ T, evOp ρ T op = some (v, T) := by
  refine ⟨?_, fun T => by rw [evOp_pure_eq hk S T, h]; rfl⟩
  have := evOp_pure_eq hk S S (ρ := ρ)
  rw [h] at this
  simp at this
  exact this

theorem evOp_read {ρ : Arg → AVal} {S S' : St} {v : AVal} {op : AOp} (hk : op.kind = .read) (h : evOp ρ S op = some (v, S')) : S' = S := by
  cases op with
  | load n x => simp only [evOp, same_iff] at h; exact h.2
  | slcA sz l x lo hi => simp only [evOp, same_iff] at h; exact h.2
  | convBS x =>
    simp only [evOp] at h
    split at h
    · simp only [Option.some.injEq, Prod.mk.injEq] at h; exact h.2.symm
    · simp at h
  | bslice fz _ _ _ _ => simp only [AOp.kind] at hk; split at hk <;> simp at hk
  | mget s z x k =>
    simp only [evOp] at h
    repeat' split at h
    all_goals first | (simp only [Option.some.injEq, Prod.mk.injEq] at h; exact h.2.symm) | simp at h
  | mlen x =>
    simp only [evOp] at h
    repeat' split at h
    all_goals first | (simp only [Option.some.injEq, Prod.mk.injEq] at h; exact h.2.symm) | simp at h
  | _ => simp [AOp.kind] at hk

end Am
