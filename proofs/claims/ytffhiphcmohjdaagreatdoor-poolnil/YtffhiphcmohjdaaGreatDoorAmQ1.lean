/- Stepping through code: what simp does by itself; frames' slots; pointers to blocks and nodes as values. -/
import Derived.Test.YtffhiphcmohjdaaGreatDoorAmAr
import Derived.Test.YtffhiphcmohjdaaGreatDoorAmLoopM
import Derived.Test.YtffhiphcmohjdaaGreatDoorAmQ0
set_option linter.all false
namespace Am
open Go

attribute [simp] exM orc orcD pickD pickI evC_skip evC_region evC_cond evC_exit evC_ret evOps evOper evAny evCall putR putA Fr.ev Fr.of Fr.get Fr.get_set stable junkA junkL resultsA resA same Post_seq Post_some
attribute [simp] trL sameRead sameVal beqV_refl faddrA eq2 List.lookup
attribute [simp] evOp.eq_1 evOp.eq_2 evOp.eq_3 evOp.eq_4 evOp.eq_5 evOp.eq_6 evOp.eq_7 evOp.eq_8 evOp.eq_9 evOp.eq_10 evOp.eq_11 evOp.eq_12 evOp.eq_13 evOp.eq_15 evOp.eq_16 evOp.eq_17 evOp.eq_18 evOp.eq_19 evOp.eq_20 evOp.eq_21 evOp.eq_22 evOp.eq_23 evOp.eq_24 evOp.eq_25 evOp.eq_26 evOp.eq_27 evOp.eq_28 evOp.eq_29 evOp.eq_30 evOp.eq_31 evOp.eq_32 evOp.eq_33 evOp.eq_34 evOp.eq_35 evOp.eq_36 evOp.eq_37 evOp.eq_38 evOp.eq_39  evOp.eq_41 evOp.eq_42 evOp.eq_43 evOp.eq_44 evOp.eq_45 evOp.eq_46 evOp.eq_47 evOp.eq_48 evOp.eq_49 evOp.eq_50 evOp.eq_51 evOp.eq_52
attribute [congr] Post_cg

@[simp] theorem Post_bseq {O : Orc} {k id : Nat} {a b : ACode} {f : Fr} {S : St} {Q : Ex → Fr → St → Prop} :
    Post (evC O k (.block id (.seq a b)) f S) Q = Post (evC O k (.seq a b) f S) (fun e f' S' => Q (if e = .exit id then .normal else e) f' S') := Post_block
@[simp] theorem Post_breg {O : Orc} {k id : Nat} {d : Option (List (Nat × List Nat))} {o : List AOper} {f : Fr} {S : St} {Q : Ex → Fr → St → Prop} :
    Post (evC O k (.block id (.region d o)) f S) Q = Post (evC O k (.region d o) f S) (fun e f' S' => Q (if e = .exit id then .normal else e) f' S') := Post_block
@[simp] theorem Post_bcond {O : Orc} {k id : Nat} {c : Arg} {a b : ACode} {f : Fr} {S : St} {Q : Ex → Fr → St → Prop} :
    Post (evC O k (.block id (.cond c a b)) f S) Q = Post (evC O k (.cond c a b) f S) (fun e f' S' => Q (if e = .exit id then .normal else e) f' S') := Post_block
@[simp] theorem Post_bskip {O : Orc} {k id : Nat} {f : Fr} {S : St} {Q : Ex → Fr → St → Prop} : Post (evC O k (.block id .skip) f S) Q = Q .normal f S := by
  rw [Post_block]; simp [Post_some]

/-- What some slots of a frame hold. -/
def Sl (f : Fr) : List (Nat × AVal) → Prop
  | [] => True
  | (t, v) :: r => f.get t = v ∧ Sl f r
@[simp] theorem Sl_nil (f : Fr) : Sl f [] = True := rfl
@[simp] theorem Sl_cons (f : Fr) (t : Nat) (v : AVal) (r : List (Nat × AVal)) : Sl f ((t, v) :: r) = (f.get t = v ∧ Sl f r) := rfl

@[simp] theorem b_lss (k : IntKind) (a b : Int) : binA .lss (.int k a) (.int k b) = some (.bool (decide (a < b))) := by simp [binA, intBin]
@[simp] theorem b_leq (k : IntKind) (a b : Int) : binA .leq (.int k a) (.int k b) = some (.bool (decide (a ≤ b))) := by simp [binA, intBin]
@[simp] theorem b_gtr (k : IntKind) (a b : Int) : binA .gtr (.int k a) (.int k b) = some (.bool (decide (b < a))) := by simp [binA, intBin]
@[simp] theorem b_geq (k : IntKind) (a b : Int) : binA .geq (.int k a) (.int k b) = some (.bool (decide (b ≤ a))) := by simp [binA, intBin]
@[simp] theorem b_eql (k : IntKind) (a b : Int) : binA .eql (.int k a) (.int k b) = some (.bool (decide (a = b))) := by simp [binA, intBin]; rfl
@[simp] theorem b_neq (k : IntKind) (a b : Int) : binA .neq (.int k a) (.int k b) = some (.bool (decide (a ≠ b))) := by
  simp only [binA, intBin]; by_cases h : a = b <;> simp [h]
@[simp] theorem s_eql (a b : List UInt8) : binA .eql (.str a) (.str b) = some (.bool (a == b)) := rfl
@[simp] theorem s_neq (a b : List UInt8) : binA .neq (.str a) (.str b) = some (.bool !(a == b)) := rfl

@[simp] theorem un_not (b : Bool) : unA .not (.bool b) = some (.bool !b) := rfl
/-- A number of another kind. -/
def convA (k : IntKind) (v : AVal) : Option AVal :=
  match v with
  | .int _ n => some (.int k (k.wrap n))
  | _ => none
@[simp] theorem evOp_convI (ρ : Arg → AVal) (S : St) (k : IntKind) (x : Arg) : evOp ρ S (.convI k x) = same S (convA k (ρ x)) := by
  simp only [evOp, convA, same]
  cases ρ x <;> rfl
@[simp] theorem conv_int (k j : IntKind) (n : Int) : convA k (.int j n) = some (.int k (k.wrap n)) := rfl
/-- A slice as a pointer to an array. -/
def arrA (n sz : Nat) (x : AVal) : Option AVal :=
  match x with
  | .sl r v off len sz' => if sz' = sz ∧ 1 ≤ n ∧ n ≤ len then some (.ptr r v off) else none
  | .fz _ len cells => if 1 ≤ n ∧ n ≤ len then some (.fq cells) else none
  | _ => none
@[simp] theorem evOp_arrP (ρ : Arg → AVal) (S : St) (n sz : Nat) (x : Arg) : evOp ρ S (.arrP n sz x) = same S (arrA n sz (ρ x)) := by
  simp only [evOp, arrA, same]
  cases ρ x <;> try rfl
  · simp only []; split <;> rfl
  · simp only []; split <;> rfl
def b8 (b : UInt8) : AVal := .int .u8 (b.toNat : Int)
theorem bcells_b8 (u : List UInt8) : bcells u = u.map b8 := rfl
@[simp] theorem cells_b8 (b : UInt8) : cells? (b8 b) = some [b8 b] := rfl
@[simp] theorem cells_u32 (b : UInt32) : cells? (u32 b) = some [u32 b] := rfl
@[simp] theorem conv_8_32 (n : UInt32) : convA .u8 (u32 n) = some (b8 n.toUInt8) := by
  have : IntKind.u8.wrap (n.toNat : Int) = (n.toUInt8.toNat : Int) := by simp [IntKind.wrap, IntKind.bits, IntKind.signed]
  simp only [convA, u32, this]; rfl
@[simp] theorem conv_64_32 (n : UInt32) : convA .i64 (u32 n) = some (.int .i64 (n.toNat : Int)) := by
  have := n.toNat_lt
  simp only [convA, u32, wrap64 (n := (n.toNat : Int)) (by omega) (by omega)]
@[simp] theorem conv_32_8 (n : UInt8) : convA .u32 (b8 n) = some (u32 n.toUInt32) := by
  have := n.toNat_lt
  simp only [convA, b8, wrapU32 (n := n.toNat) (by omega)]
  rw [u32]; simp
theorem natL {a b : Int} (h : a = b) (k : IntKind) : AVal.int k a = .int k b := by rw [h]

/-- A cell of a block. -/
@[simp] theorem load_live {r v o : Nat} {S : St} {cs : List AVal} (n : Option Nat) (h : S[r]? = some (.live v cs)) : loadA n (.ptr r v o) S = partA n o cs := by simp [loadA, h]
@[simp] theorem load_fqn (n : Option Nat) (cs : List AVal) (S : St) : loadA n (.fq cs) S = partA n 0 cs := rfl
@[simp] theorem part_none (o : Nat) (cs : List AVal) : partA none o cs = cs[o]? := rfl

theorem splice_one {l : List AVal} {o : Nat} (v : AVal) (h : o < l.length) : splice l o [v] = l.set o v := by
  rw [List.set_eq_take_append_cons_drop, if_pos h]; simp [splice]

/-- A store into a block. -/
theorem store_live {r v o sz : Nat} {S : St} {cs ds : List AVal} {y : AVal} (h : S[r]? = some (.live v cs)) (hy : cells? y = some ds) (hl : ds.length = sz) (ho : o + sz ≤ cs.length) :
    storeA sz (.ptr r v o) y S = some (S.set r (.live v (splice cs o ds))) := by
  simp [storeA, h, hy, hl, ho]
theorem store_int {r v o : Nat} {S : St} {cs : List AVal} {k : IntKind} {x : Int} (h : S[r]? = some (.live v cs)) (ho : o < cs.length) :
    storeA 1 (.ptr r v o) (.int k x) S = some (S.set r (.live v (cs.set o (.int k x)))) := by
  rw [store_live (sz := 1) h (ds := [.int k x]) rfl rfl (by omega), splice_one _ ho]

/-- Cells of equal size, one behind the other. -/
theorem flat_len {α : Type} {g : α → List AVal} {n : Nat} (hg : ∀ x, (g x).length = n) (l : List α) : (l.flatMap g).length = l.length * n := by
  induction l with
  | nil => simp
  | cons a l ih => simp [ih, hg, Nat.succ_mul]; omega
theorem flat_at {α : Type} {g : α → List AVal} {n : Nat} (hg : ∀ x, (g x).length = n) {l : List α} {i : Nat} {x : α} (h : l[i]? = some x) : ((l.flatMap g).drop (i * n)).take n = g x := by
  induction l generalizing i with
  | nil => simp at h
  | cons a l ih =>
    cases i with
    | zero =>
      simp at h; subst h
      simp [List.flatMap_cons]
      rw [List.take_append_of_le_length (by rw [hg]; exact Nat.le_refl _), List.take_of_length_le (by rw [hg]; exact Nat.le_refl _)]
    | succ i =>
      simp at h
      rw [List.flatMap_cons, List.drop_append, hg, show (i + 1) * n - n = i * n by rw [Nat.succ_mul]; omega, List.drop_eq_nil_of_le (by rw [hg, Nat.succ_mul]; omega), List.nil_append]
      exact ih h
theorem part_flat {α : Type} {g : α → List AVal} {n : Nat} (hg : ∀ x, (g x).length = n) {l : List α} {i : Nat} {x : α} (h : l[i]? = some x) : partA (some n) (i * n) (l.flatMap g) = some (.agg (g x)) := by
  have hi := (List.getElem?_eq_some_iff.1 h).1
  have h1 : (i + 1) * n ≤ l.length * n := Nat.mul_le_mul_right n hi
  have h2 : i * n + n ≤ (l.flatMap g).length := by rw [flat_len hg]; rw [Nat.succ_mul] at h1; omega
  simp only [partA, if_pos h2, flat_at hg h]

/-- A loop's rounds, one by one. -/
theorem Post_loop1 {O : Orc} {k id : Nat} {b : ACode} {f : Fr} {S : St} {Q : Ex → Fr → St → Prop} : Post (evC O k (.block id (.loop b)) f S) Q = Post (iter (evC O k b) k f S) (fun e f' S' => Q (if e = .exit id then .normal else e) f' S') := by
  rw [Post_block]; simp only [evC]
theorem Post_iter {step : Fr → St → Option Out} {n : Nat} {f : Fr} {S : St} {Q : Ex → Fr → St → Prop} : Post (iter step (n + 1) f S) Q = Post (step f S) (fun e f' S' => if e = .normal then Post (iter step n f' S') Q else Q e f' S') := by
  simp only [iter]
  cases h : step f S with
  | none => simp [Post_none]
  | some r =>
    obtain ⟨e, f', S'⟩ := r
    cases e <;> simp [Post_some]
/-- A loop that counts up. -/
theorem loopP {O : Orc} {k id : Nat} {b : ACode} {Q : Ex → Fr → St → Prop} {f : Fr} {S : St} (I : Nat → Fr → St → Prop) (n : Nat) (hk : n < k) (hI : I 0 f S)
    (hs : ∀ j, j < n → ∀ f S, I j f S → Post (evC O k b f S) fun e f' S' => e = .normal ∧ I (j + 1) f' S')
    (he : ∀ f S, I n f S → Post (evC O k b f S) fun e f' S' => e = .exit id ∧ I n f' S')
    (hq : ∀ f' S', I n f' S' → Q .normal f' S') : Post (evC O k (.block id (.loop b)) f S) Q := by
  obtain ⟨f', S', h1, h2⟩ := loop_post (Q := I n) n hk hs he hI
  exact Post.of h1 (hq _ _ h2)
/-- A loop that counts up, which may be left ahead of its end. -/
theorem loopR {O : Orc} {k id : Nat} {b : ACode} {Q : Ex → Fr → St → Prop} {f : Fr} {S : St} (I : Nat → Fr → St → Prop) (R : Ex → Fr → St → Prop) (n : Nat) (hk : n < k) (hI : I 0 f S)
    (hs : ∀ j, j < n → ∀ f S, I j f S → Post (evC O k b f S) fun e f' S' => (e = .normal ∧ I (j + 1) f' S') ∨ (e ≠ .normal ∧ R e f' S'))
    (he : ∀ f S, I n f S → Post (evC O k b f S) fun e f' S' => e ≠ .normal ∧ R e f' S')
    (hq : ∀ e f' S', R e f' S' → Q (if e = .exit id then .normal else e) f' S') : Post (evC O k (.block id (.loop b)) f S) Q := by
  obtain ⟨e, f', S', h1, h2, h3⟩ := iter_post (step := evC O k b) n hs he hk hI
  refine Post.block ?_
  simp only [evC]
  exact Post.of h1 (hq _ _ _ h3)
/-- A loop whose rounds make a measure less. -/
theorem loopM {O : Orc} {k id : Nat} {b : ACode} {Q : Ex → Fr → St → Prop} {f : Fr} {S : St} (I : Nat → Fr → St → Prop) (R : Ex → Fr → St → Prop) (m : Nat) (hk : m < k) (hI : I m f S)
    (hs : ∀ m f S, I m f S → Post (evC O k b f S) fun e f' S' => (e = .normal ∧ ∃ m', m' < m ∧ I m' f' S') ∨ (e ≠ .normal ∧ R e f' S'))
    (hq : ∀ e f' S', R e f' S' → Q (if e = .exit id then .normal else e) f' S') : Post (evC O k (.block id (.loop b)) f S) Q := by
  obtain ⟨e, f', S', h1, h2, h3⟩ := iter_meas (step := evC O k b) hs k m hk f S hI
  refine Post.block ?_
  simp only [evC]
  exact Post.of h1 (hq _ _ _ h3)

/-- So many noughts. -/
def zs (n : Nat) : List UInt8 := List.replicate n 0
@[simp] theorem zs_len (n : Nat) : (zs n).length = n := List.length_replicate
@[simp] theorem zs_0 : zs 0 = [] := rfl

/-- 32 bytes. -/
abbrev H32 := {l : List UInt8 // l.length = 32}
def H32.zero : H32 := ⟨List.replicate 32 0, by simp⟩

/-- Where a block is, and its hash. -/
structure Ptr where
  hash : H32
  birth : UInt32
  a0 : UInt32
  a1 : UInt32
  deriving DecidableEq

def Ptr.hole : Ptr := ⟨H32.zero, 0, 0, 0⟩
def Ptr.cells (p : Ptr) : List AVal := bcells p.hash.1 ++ [u32 p.birth, u32 p.a0, u32 p.a1]
@[reducible] def Ptr.val (p : Ptr) : AVal := .agg p.cells
@[simp] theorem Ptr.cells_len (p : Ptr) : p.cells.length = 35 := by simp [Ptr.cells, bcells_len, p.hash.2]
theorem zP_hole : zP = Ptr.hole.cells := by rw [zP_eq]; rfl
@[simp] theorem cells_agg' (cs : List AVal) : cells? (.agg cs) = some cs := rfl
@[simp] theorem cells_int (k : IntKind) (n : Int) : cells? (.int k n) = some [.int k n] := rfl
@[simp] theorem cells_bool (b : Bool) : cells? (.bool b) = some [.bool b] := rfl
@[simp] theorem Ptr.cells_val (p : Ptr) : cells? p.val = some p.cells := rfl

theorem Ptr.part_hash (p : Ptr) : partA (some 32) 0 p.cells = some (.agg (bcells p.hash.1)) := by
  have h : (bcells p.hash.1).length = 32 := by rw [bcells_len, p.hash.2]
  simp [partA, Ptr.cells, h]
theorem Ptr.get_tail (p : Ptr) (j : Nat) : p.cells[32 + j]? = [u32 p.birth, u32 p.a0, u32 p.a1][j]? := by
  have h : (bcells p.hash.1).length = 32 := by rw [bcells_len, p.hash.2]
  rw [Ptr.cells, List.getElem?_append_right (by omega), h, Nat.add_sub_cancel_left]
@[simp] theorem Ptr.get32 (p : Ptr) : p.cells[32]? = some (u32 p.birth) := p.get_tail 0
@[simp] theorem Ptr.get33 (p : Ptr) : p.cells[33]? = some (u32 p.a0) := p.get_tail 1
@[simp] theorem Ptr.get34 (p : Ptr) : p.cells[34]? = some (u32 p.a1) := p.get_tail 2
theorem getE {l : List AVal} {i : Nat} {v : AVal} (h : l[i]? = some v) (hi : i < l.length) : l[i] = v := by
  rw [List.getElem?_eq_getElem hi] at h; exact Option.some.inj h
@[simp] theorem Ptr.g32 (p : Ptr) (h : 32 < p.cells.length) : p.cells[32] = u32 p.birth := getE p.get32 h
@[simp] theorem Ptr.g33 (p : Ptr) (h : 33 < p.cells.length) : p.cells[33] = u32 p.a0 := getE p.get33 h
@[simp] theorem Ptr.g34 (p : Ptr) (h : 34 < p.cells.length) : p.cells[34] = u32 p.a1 := getE p.get34 h
theorem Ptr.part_at (p : Ptr) : partA (some 2) 33 p.cells = some (.agg [u32 p.a0, u32 p.a1]) := by
  have h : (bcells p.hash.1).length = 32 := by rw [bcells_len, p.hash.2]
  have h1 : p.cells.drop 33 = [u32 p.a0, u32 p.a1] := by
    rw [Ptr.cells, List.drop_append, List.drop_eq_nil_of_le (by omega), h]; rfl
  simp [partA, h1]
theorem store_u32 {r v o : Nat} {S : St} {cs : List AVal} {x : UInt32} (h : S[r]? = some (.live v cs)) (ho : o < cs.length) : storeA 1 (.ptr r v o) (u32 x) S = some (S.set r (.live v (cs.set o (u32 x)))) := by
  rw [store_live (sz := 1) h (ds := [u32 x]) rfl rfl (by omega), splice_one _ ho]
theorem Ptr.set_tail (p : Ptr) (j : Nat) (v : AVal) : p.cells.set (32 + j) v = bcells p.hash.1 ++ [u32 p.birth, u32 p.a0, u32 p.a1].set j v := by
  have h : (bcells p.hash.1).length = 32 := by rw [bcells_len, p.hash.2]
  rw [Ptr.cells, List.set_append_right _ _ (by omega), h, Nat.add_sub_cancel_left]
theorem Ptr.set32 (p : Ptr) (x : UInt32) : p.cells.set 32 (u32 x) = (⟨p.hash, x, p.a0, p.a1⟩ : Ptr).cells := p.set_tail 0 _
theorem Ptr.set33 (p : Ptr) (x : UInt32) : p.cells.set 33 (u32 x) = (⟨p.hash, p.birth, x, p.a1⟩ : Ptr).cells := p.set_tail 1 _
theorem Ptr.set34 (p : Ptr) (x : UInt32) : p.cells.set 34 (u32 x) = (⟨p.hash, p.birth, p.a0, x⟩ : Ptr).cells := p.set_tail 2 _
theorem Ptr.fill (h : H32) : fillA zP [(0, 32, .agg (bcells h.1))] = some (⟨h, 0, 0, 0⟩ : Ptr).cells := by
  have hl : (bcells h.1).length = 32 := by rw [bcells_len, h.2]
  have hz : zP.length = 35 := by rw [zP_hole]; simp
  simp only [fillA, cells?]
  rw [if_pos ⟨hl, by omega⟩]
  congr 1
  simp only [splice, List.take_zero, List.nil_append, hl, Ptr.cells]
  congr 1
  rw [zP_eq]; rfl
theorem Ptr.part_all (p : Ptr) : partA (some 35) 0 p.cells = some p.val := by
  simp [partA, Ptr.val]
  rw [List.take_of_length_le (by simp)]

theorem bcells_eq (u v : List UInt8) : (bcells u = bcells v) = (u = v) := propext ⟨bcells_inj, fun h => by rw [h]⟩
theorem u32_inj {a b : UInt32} (h : u32 a = u32 b) : a = b := by
  simp only [u32, AVal.int.injEq, true_and] at h
  exact UInt32.toNat.inj (by omega)
theorem Ptr.cells_inj {p q : Ptr} (h : p.cells = q.cells) : p = q := by
  have e : (bcells p.hash.1).length = (bcells q.hash.1).length := by rw [bcells_len, bcells_len, p.hash.2, q.hash.2]
  obtain ⟨h1, h2⟩ := List.append_inj h e
  simp only [List.cons.injEq, and_true] at h2
  obtain ⟨h3, h4, h5⟩ := h2
  cases p; cases q
  simp only [Ptr.mk.injEq]
  exact ⟨Subtype.ext (bcells_inj h1), u32_inj h3, u32_inj h4, u32_inj h5⟩

/-- Whole numbers held against each other cell by cell. -/
def isI : AVal → Bool
  | .int .. => true
  | _ => false
def likeK : List AVal → List AVal → Prop
  | [], [] => True
  | .int k _ :: a, .int j _ :: b => k = j ∧ likeK a b
  | _, _ => False
theorem eqI_ok : ∀ (a b : List AVal) (n : Nat), a.length = n → likeK a b → eqFlats (List.replicate n .i) a b = some (beqL a b)
  | [], [], n, h, _ => by subst h; rfl
  | .int k x :: a, .int j y :: b, n, h, hk => by
    obtain ⟨rfl, hk⟩ := hk
    obtain ⟨n, rfl⟩ : ∃ m, n = m + 1 := ⟨a.length, by simpa using h.symm⟩
    simp only [List.replicate_succ, eqFlats, eqFlat, if_true, eqI_ok a b n (by simpa using h) hk]
    simp [beqL, beqV]
theorem likeK_append : ∀ {a b c d : List AVal}, likeK a b → likeK c d → likeK (a ++ c) (b ++ d)
  | [], [], _, _, _, h => h
  | .int k _ :: a, .int j _ :: b, c, d, h, h' => ⟨h.1, likeK_append h.2 h'⟩
theorem likeK_b : ∀ (u v : List UInt8), u.length = v.length → likeK (bcells u) (bcells v)
  | [], [], _ => trivial
  | a :: u, b :: v, h => ⟨rfl, likeK_b u v (by simpa using h)⟩
theorem likeK_ptr (p q : Ptr) : likeK p.cells q.cells := likeK_append (likeK_b _ _ (by rw [p.hash.2, q.hash.2])) ⟨rfl, rfl, rfl, trivial⟩
theorem eqPtr (p q : Ptr) : eqFlats (ckI 35) p.cells q.cells = some (decide (p = q)) := by
  rw [ckI_eq]
  rw [eqI_ok _ _ 35 (by simp) (likeK_ptr p q)]
  congr 1
  by_cases h : p = q
  · simp [h, beqL_refl]
  · rw [decide_eq_false h]
    exact Bool.eq_false_iff.2 fun e => h (Ptr.cells_inj (eq_of_beqL _ _ e))
theorem likeK_flat : ∀ (l m : List Ptr), l.length = m.length → likeK (l.flatMap Ptr.cells) (m.flatMap Ptr.cells)
  | [], [], _ => trivial
  | p :: l, q :: m, h => by
    rw [List.flatMap_cons, List.flatMap_cons]
    exact likeK_append (likeK_ptr p q) (likeK_flat l m (by simpa using h))
theorem flat_inj : ∀ {l m : List Ptr}, l.length = m.length → l.flatMap Ptr.cells = m.flatMap Ptr.cells → l = m
  | [], [], _, _ => rfl
  | p :: l, q :: m, h, e => by
    rw [List.flatMap_cons, List.flatMap_cons] at e
    obtain ⟨h1, h2⟩ := List.append_inj e (by simp)
    rw [Ptr.cells_inj h1, flat_inj (by simpa using h) h2]

/-- Four pointers. -/
abbrev Node := {l : List Ptr // l.length = 4}
def Node.empty : Node := ⟨List.replicate 4 .hole, rfl⟩
def Node.cells (l : Node) : List AVal := l.1.flatMap Ptr.cells
@[reducible] def Node.val (l : Node) : AVal := .agg l.cells
@[simp] theorem Node.cells_len (l : Node) : l.cells.length = 140 := by rw [Node.cells, flat_len (n := 35) (by simp), l.2]
theorem zN_empty : zN = Node.empty.cells := by rw [zN_eq]; rfl
theorem eqNode (p q : Node) : eqFlats (ckI 140) p.cells q.cells = some (decide (p = q)) := by
  rw [ckI_eq]
  rw [eqI_ok _ _ 140 (by simp) (by rw [Node.cells, Node.cells]; exact likeK_flat _ _ (by rw [p.2, q.2]))]
  congr 1
  by_cases h : p = q
  · simp [h, beqL_refl]
  · rw [decide_eq_false h]
    exact Bool.eq_false_iff.2 fun e => h (Subtype.ext (flat_inj (by rw [p.2, q.2]) (eq_of_beqL _ _ e)))
def Node.at (l : Node) (i : Nat) : Ptr := l.1.getD i .hole
def Node.set (l : Node) (i : Nat) (p : Ptr) : Node := ⟨l.1.set i p, by rw [List.length_set, l.2]⟩
theorem Node.at_eq (l : Node) {i : Nat} (h : i < 4) : l.1[i]? = some (l.at i) := by
  rw [Node.at, List.getD_eq_getElem?_getD, List.getElem?_eq_getElem (by rw [l.2]; exact h)]; rfl
theorem Node.part (l : Node) {i : Nat} (h : i < 4) : partA (some 35) (i * 35) l.cells = some (l.at i).val := part_flat (by simp) (l.at_eq h)
end Am
