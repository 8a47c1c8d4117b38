import Derived.Test.YtgbifohffmdgeaaDoorAmPq8
import Derived.Lib.Bytealg
import Derived.Lib.AtoiAll
import Derived.Test.YtgbifohffmdgeaaDoorAmPure
set_option linter.all false
/- Texts: the models of Parse and of what it calls. -/
section
namespace Am.Pol
open Am Go Am.Ir
set_option maxRecDepth 100000

def noM : Model := fun _ _ => none
/-- internal/stringslite.IndexByte. -/
def mIxB : Model := fun args S => match args with
  | [.str s, .int .u8 c] => some (.int .i64 (Lib.indexByte s c.toNat.toUInt8), S)
  | _ => none
/-- strconv.Atoi; what an error is, nobody asks. -/
def mAtoi : Model := fun args S => match args with
  | [.str s] => if s.length ≤ 1000 then (match Lib.atoiAll s with
    | .ok v => some (.tup [.int .i64 v, .nili], S)
    | .range => none
    | _ => some (.tup [.int .i64 0, .junk], S)) else none
  | _ => none

def xIndexL : Model := exM (orc [mIxB, noM, noM, noM]) stringslite_Index 10
def xIndex : Model := exM (orc [xIndexL]) strings_Index 10
def xCutL : Model := exM (orc [xIndexL]) stringslite_Cut 10
def xCut : Model := exM (orc [xCutL]) strings_Cut 10
/-- The closure that splitSeq hands back, as an iterator. -/
def itSplit : (Nat → Model) → Model := fun Y => exM { orc [noM, xIndex] with yld := Y } strings_splitSeq_1 1000
def splitSeqF (k : Nat) : AFun := ⟨3, [.inl 6], (.seq (.region none [ox 3 (.box (.t 0)), ox 4 (.box (.t 1)), ox 5 (.box (.t 2)),
    ox 6 (.mv (.c .nilf))]) (.seq (.region none [ox 7 (.mkfn (Fn.func k) [] [.t 4, .t 3, .t 5]),
    mo 6 7]) .ret)), false⟩
theorem splitSeqD : strings_splitSeq = splitSeqF 36 := rfl
def xSpl0 (k : Nat) : Model := exM (orc []) (splitSeqF k) 10
def xSpl (k : Nat) : Model := exM (orc [xSpl0 k]) strings_SplitSeq 10
def xParts : Model := exM (orc []) policy_Policy_parts 10
def xP1 : Model := exM (orc []) policy_Parse_1 10
def xIdxF (p1 : Nat) : Model := exM (orcD [] [(p1, xP1)] []) slices_IndexFunc 1000
def mMkSet : Model := pureM 3 (exM (orc []) strings_makeASCIISet 1000)
def xHas : Model := exM (orc []) strings_asciiSet_contains 10
def xTrR : Model := exM (orc [xHas]) strings_trimRightASCII 1000
def xTrL : Model := exM (orc [xHas]) strings_trimLeftASCII 1000
def xTrim : Model := exM (orc [noM, noM, mMkSet, xTrR, xTrL, noM, noM]) strings_Trim 10
def xHasPL : Model := exM (orc []) stringslite_HasPrefix 10
def xHasP : Model := exM (orc [xHasPL]) strings_HasPrefix 10
def mCount : Model := pureM 2 (exM (orc [xTrim, xHasP, mAtoi]) policy_count 10)
/-- Parse, whose closures have numbers of the program's. -/
def parseR (p1 : Nat) : ACode := .block 1 (.seq (.region none [mo 20 6, kx 21 (.k 2 [.t 20, .c (.str [61])]),
    mo 19 21, ox 22 (.ext 0 (.t 19)), ox 23 (.ext 1 (.t 19)),
    ox 24 (.ext 2 (.t 19)), ox 7 (.alloc [.str []]), oz (.store 1 (.t 7) (.t 22)),
    mo 8 23, mo 9 24]) (.seq (.region none [ox 25 (.load none (.t 5)),
    ox 26 (.mkfn (Fn.func p1) [] [.t 7]), kx 27 (.k 3 [.t 25, .t 26]), mo 10 27])
    (.seq (.region none [mo 28 8, kx 29 (.k 4 [.t 28]), mo 11 29])
    (.seq (.seq (.region none [mo 30 10, ox 31 (.bin .lss (.t 30) (ai 0)),
    mo 32 31, og 32 false 33 (.mv (.t 11)), og 32 false 34 (.bin .eql (.t 33) (ai 0)),
    ox 35 (.pick (.t 32) (.c (.bool true)) (.t 34))]) (.cond (.t 35) (.seq (.region none [ox 36 (.build [.int .i64 0, .int .i64 0, .int .i64 0, .int .i64 0, .int .i64 0] []),
    oz (.store 5 (.t 2) (.t 36)), oz (.store 1 (.t 3) (ai 3))])
    .ret) .skip)) (.seq (.region none [ox 37 (.load none (.t 5)), mo 38 10,
    ox 39 (.iaddrS 2 (.t 37) (.t 38)), ox 40 (.faddr 1 (.t 39)), ox 41 (.load none (.t 40)),
    mo 42 11, ox 43 (.nilchk (.t 41)), oz (.store 1 (.t 43) (.t 42))])
    (.region none [ox 44 (.load none (.t 5)), mo 45 10, ox 46 (.bin .add (.t 45) (ai 1)),
    ox 47 (.slcS 2 (.t 44) (some (.t 46)) none), oz (.store 1 (.t 5) (.t 47))]))))))
def parseF (p1 : Nat) : AFun :=
  ⟨1, [.inr (2, some 5), .inr (3, none)], (.seq (.region none [ox 2 (.alloc [.int .i64 0, .int .i64 0, .int .i64 0, .int .i64 0, .int .i64 0]),
    ox 3 (.alloc [.int .i64 0])]) (.seq (.region none [ox 4 (.alloc [.int .i64 0, .int .i64 0, .int .i64 0, .int .i64 0, .int .i64 0])])
    (.seq (.seq (.region none [mo 12 0, ox 13 (.bin .eql (.t 12) (.c (.str [110, 111, 110, 101])))])
    (.cond (.t 13) (.seq (.region none [ox 14 (.load (some 5) (.t 4)), oz (.store 5 (.t 2) (.t 14)),
    oz (.store 1 (.t 3) (ai 0))]) .ret) .skip)) (.seq (.region none [kx 15 (.k 0 [.t 4]),
    ox 5 (.alloc [.nils]), oz (.store 1 (.t 5) (.t 15))]) (.seq (.seq (.region none [mo 16 0, kx 17 (.k 1 [.t 16, .c (.str [32])])])
    (.block 0 (.range (.t 17) [18] policy_Parse_a0 (parseR p1)))) (.seq (.region none [ox 48 (.load (some 5) (.t 4)), oz (.store 5 (.t 2) (.t 48)),
    oz (.store 1 (.t 3) (ai 0))]) .ret)))))), true⟩
theorem parseD : policy_Parse = parseF 17 := rfl
def xParse (sp p1 : Nat) : Model := exM (orcD [xParts, xSpl sp, xCut, xIdxF p1, mCount] [] [(sp, itSplit)]) (parseF p1) 1000
def xAlive (k g sp p1 : Nat) : Model := exM (orc [xKeep k g, xParse sp p1]) l30_alive 10
def mAlive (k g sp p1 : Nat) : Model := pureM 1 (xAlive k g sp p1)
end Am.Pol
end

/- A greater policy keeps more; the greatest time; what stays of those that stay: the plain law. -/
section
namespace Am.Pol
set_option maxRecDepth 100000

/-- A policy no number of which is less. -/
structure Pc.le (p q : Pc) : Prop where
  last : p.last ≤ q.last
  many : ∀ k, p.many k ≤ q.many k

theorem stay_iff {l : List Nat} {p : Pc} {i : Nat} : stayB l p i = true ↔ (rankN l i : Int) < p.last ∨ ∃ k, k < 4 ∧ headB l k i = true ∧ (behN l k i : Int) < p.many k := by
  simp only [stayB, Bool.or_eq_true, decide_eq_true_eq, List.any_eq_true, List.mem_range, Bool.and_eq_true]

theorem stay_more {l : List Nat} {p q : Pc} (h : p.le q) {i : Nat} (hs : stayB l p i = true) : stayB l q i = true := by
  rw [stay_iff] at hs ⊢
  rcases hs with hs | ⟨k, hk, h1, h2⟩
  · exact .inl (by have := h.last; omega)
  · exact .inr ⟨k, hk, h1, by have := h.many k; omega⟩

/-- Whether any number of a policy is above nought. -/
def Pc.any (p : Pc) : Bool := decide (0 < p.last) || (decide (0 < p.hours) || (decide (0 < p.days) || (decide (0 < p.weeks) || decide (0 < p.months))))

/-- The greatest one stands ahead of all. -/
theorem stay_top {l : List Nat} {p : Pc} {i : Nat} (hi : i < l.length) (ht : ∀ j, j < l.length → ¬ bf (L0 l) j i) : stayB l p i = p.any := by
  have hr : rankN l i = 0 := by
    rw [rankN, List.length_eq_zero_iff, List.filter_eq_nil_iff]
    intro j hj; simpa using ht j (by simpa using hj)
  have hh : ∀ k, headB l k i = true := fun k => headB_iff.2 fun j hj hb => (ht j hj hb).elim
  have hb : ∀ k, k < 4 → behN l k i = 0 := by
    intro k hk
    rw [behN, List.length_eq_zero_iff, List.filter_eq_nil_iff]
    intro j hj
    have hj' : j < l.length := by simpa using hj
    have : slK l k j ≤ slK l k i := by
      refine slK_mono hk ?_
      by_cases e : j = i
      · subst e; exact Nat.le_refl _
      · rcases bf.tot (L := L0 l) e with h | h
        · exact (ht j hj' h).elim
        · exact h.le
    simp; omega
  have key : stayB l p i = true ↔ p.any = true := by
    rw [stay_iff, hr]
    simp only [Pc.any, Bool.or_eq_true, decide_eq_true_eq]
    constructor
    · rintro (h | ⟨k, hk, _, h⟩)
      · exact .inl (by omega)
      · rw [hb k hk] at h
        obtain rfl | rfl | rfl | rfl : k = 0 ∨ k = 1 ∨ k = 2 ∨ k = 3 := by omega
        all_goals simp only [Pc.many] at h; omega
    · rintro (h | h | h | h | h)
      · exact .inl (by omega)
      · exact .inr ⟨0, by omega, hh 0, by rw [hb 0 (by omega)]; exact h⟩
      · exact .inr ⟨1, by omega, hh 1, by rw [hb 1 (by omega)]; exact h⟩
      · exact .inr ⟨2, by omega, hh 2, by rw [hb 2 (by omega)]; exact h⟩
      · exact .inr ⟨3, by omega, hh 3, by rw [hb 3 (by omega)]; exact h⟩
  by_cases h : p.any = true
  · rw [h]; exact key.2 h
  · have h1 : p.any = false := by simpa using h
    have h2 : ¬ stayB l p i = true := fun h' => h (key.1 h')
    rw [h1]; simpa using h2

theorem nodup_le : ∀ {xs ys : List Nat}, xs.Nodup → (∀ x ∈ xs, x ∈ ys) → xs.length ≤ ys.length
  | [], _, _, _ => Nat.zero_le _
  | a :: xs, ys, hn, hs => by
    have hn' := List.nodup_cons.1 hn
    have ha : a ∈ ys := hs a (by simp)
    have h1 : xs.length ≤ (ys.erase a).length := nodup_le hn'.2 fun x hx => by
      refine (List.mem_erase_of_ne ?_).2 (hs x (by simp [hx]))
      rintro rfl; exact hn'.1 hx
    rw [List.length_erase_of_mem ha] at h1
    have : 0 < ys.length := List.length_pos_of_mem ha
    simp; omega

/-- The slots behind which a place stands. -/
theorem beh_list (l : List Nat) (k i : Nat) : ∃ zs : List Nat, zs.Nodup ∧ zs.length = behN l k i ∧ ∀ s, s ∈ zs ↔ ∃ j, j < l.length ∧ slK l k j = s ∧ slK l k i < s := by
  refine ⟨((List.range l.length).filter fun j => firstB l k j && decide (slK l k i < slK l k j)).map (slK l k), ?_, by rw [List.length_map]; rfl, fun s => ?_⟩
  · unfold List.Nodup
    rw [List.pairwise_map]
    refine List.Pairwise.imp_of_mem ?_ (List.Pairwise.sublist (List.filter_sublist ..) (@List.pairwise_lt_range l.length))
    intro a b ha hb hab
    have hb' := (List.mem_filter.1 hb).2
    simp only [Bool.and_eq_true] at hb'
    exact firstB_iff.1 hb'.1 a hab
  · simp only [List.mem_map, List.mem_filter, decide_eq_true_eq, Bool.and_eq_true, List.mem_range]
    constructor
    · rintro ⟨j, ⟨h1, h2, h3⟩, rfl⟩; exact ⟨j, h1, rfl, h3⟩
    · rintro ⟨j, h1, rfl, h3⟩
      obtain ⟨x, x1, x2, x3⟩ := hasFirst (k := k) h1
      exact ⟨x, ⟨x1, x2, by omega⟩, x3⟩

/-- Those that stay, of those that are told. -/
def left (l : List Nat) (p : Pc) (m : Nat) : List Nat := ((List.range m).filter (stayB l p)).map (L0 l)

theorem left_at {e l : List Nat} {j : Nat} (hj : j < e.length) : L0 (e.map (L0 l)) j = L0 l (e.getD j 0) := by
  simp [L0, List.getD_eq_getElem?_getD, hj]

/-- A part of a list, in order. -/
theorem stay_part {l e : List Nat} {p : Pc} (he : e.Pairwise (· < ·)) (hl : ∀ x ∈ e, x < l.length) {i : Nat} (hi : i < e.length) (hs : stayB l p (e.getD i 0) = true) : stayB (e.map (L0 l)) p i = true := by
  have hget : ∀ j, j < e.length → e.getD j 0 ∈ e := fun j hj => by
    rw [List.getD_eq_getElem?_getD, List.getElem?_eq_getElem hj]; exact List.getElem_mem hj
  have hlt : ∀ a b, a < b → b < e.length → e.getD a 0 < e.getD b 0 := fun a b hab hb => by
    have := List.pairwise_iff_getElem.1 he a b (by omega) hb hab
    simpa [List.getD_eq_getElem?_getD, List.getElem?_eq_getElem hb, List.getElem?_eq_getElem (show a < e.length by omega)] using this
  have hinj : ∀ a b, a < e.length → b < e.length → e.getD a 0 = e.getD b 0 → a = b := fun a b ha hb h => by
    rcases Nat.lt_trichotomy a b with h1 | h1 | h1
    · have := hlt a b h1 hb; omega
    · exact h1
    · have := hlt b a h1 ha; omega
  have hbf : ∀ j, j < e.length → bf (L0 (e.map (L0 l))) j i → bf (L0 l) (e.getD j 0) (e.getD i 0) := by
    intro j hj h
    unfold bf at h ⊢
    rw [left_at hj, left_at hi] at h
    rcases h with h | ⟨h1, h2⟩
    · exact .inl h
    · exact .inr ⟨h1, hlt j i h2 hi⟩
  have hsl : ∀ k j, j < e.length → slK (e.map (L0 l)) k j = slK l k (e.getD j 0) := by
    intro k j hj; unfold slK; rw [left_at hj]
  have hlen : (e.map (L0 l)).length = e.length := by simp
  rw [stay_iff] at hs ⊢
  rcases hs with hs | ⟨k, hk, h1, h2⟩
  · left
    have : rankN (e.map (L0 l)) i ≤ rankN l (e.getD i 0) := by
      have hn : (((List.range (e.map (L0 l)).length).filter fun j => decide (bf (L0 (e.map (L0 l))) j i)).map fun j => e.getD j 0).Nodup := by
        unfold List.Nodup
        rw [List.pairwise_map]
        refine List.Pairwise.imp_of_mem ?_ (List.Pairwise.sublist (List.filter_sublist ..) (@List.pairwise_lt_range _))
        intro a b ha hb hab h
        have ha' := (List.mem_filter.1 ha).1
        have hb' := (List.mem_filter.1 hb).1
        rw [hlen] at ha' hb'
        have := hinj a b (by simpa using ha') (by simpa using hb') h
        omega
      have := nodup_le (ys := (List.range l.length).filter fun j => decide (bf (L0 l) j (e.getD i 0))) hn (by
        intro x hx
        obtain ⟨j, hj, rfl⟩ := List.mem_map.1 hx
        obtain ⟨h1, h2⟩ := List.mem_filter.1 hj
        rw [hlen] at h1
        have h1 : j < e.length := by simpa using h1
        rw [List.mem_filter]
        exact ⟨by simpa using hl _ (hget j h1), by simpa using hbf j h1 (by simpa using h2)⟩)
      rw [List.length_map] at this
      exact this
    omega
  · right
    refine ⟨k, hk, headB_iff.2 fun j hj hb => ?_, ?_⟩
    · rw [hlen] at hj
      rw [hsl k j hj, hsl k i hi]
      exact headB_iff.1 h1 _ (hl _ (hget j hj)) (hbf j hj hb)
    · obtain ⟨xs, x1, x2, x3⟩ := beh_list (e.map (L0 l)) k i
      obtain ⟨ys, y1, y2, y3⟩ := beh_list l k (e.getD i 0)
      have := nodup_le x1 (ys := ys) (by
        intro s hs
        obtain ⟨j, j1, j2, j3⟩ := (x3 s).1 hs
        rw [hlen] at j1
        rw [hsl k j j1] at j2
        rw [hsl k i hi] at j3
        exact (y3 s).2 ⟨_, hl _ (hget j j1), j2, j3⟩)
      omega

/-- What stays of those that stay is all of them. -/
theorem gone_left (l : List Nat) (p : Pc) : gone (left l p l.length) p = [] := by
  rw [gone, List.filter_eq_nil_iff]
  intro i hi
  have hi' : i < ((List.range l.length).filter (stayB l p)).length := by simpa [left] using hi
  have hm : ((List.range l.length).filter (stayB l p)).getD i 0 ∈ (List.range l.length).filter (stayB l p) := by
    rw [List.getD_eq_getElem?_getD, List.getElem?_eq_getElem hi']; exact List.getElem_mem hi'
  have := stay_part (l := l) (p := p) (e := (List.range l.length).filter (stayB l p)) (List.Pairwise.sublist (List.filter_sublist ..) List.pairwise_lt_range)
    (fun x hx => by simpa using (List.mem_filter.1 hx).1) hi' (List.mem_filter.1 hm).2
  unfold left
  simp [this]
end Am.Pol
end

/- The law that a greater policy keeps more: the rounds. -/
section
namespace Am.Pol
open Am Go Am.Ir
set_option maxRecDepth 100000
attribute [local congr] Post_cg
attribute [local simp] ox oz kx kz og ogz kg kgz mo ai

def oMore (al : Model) (k g : Nat) : Orc := orc [al, xKeep k g, xDrop k g]

structure MoF (f : Fr) (x a b out : AVal) (top i : Nat) : Prop where
  s0 : f.get 0 = x
  s4 : f.get 4 = .ptr 0 0 0
  s8 : f.get 8 = a
  s9 : f.get 9 = b
  s10 : f.get 10 = .int .i64 (top : Int)
  s11 : f.get 11 = out
  s12 : f.get 12 = .int .i64 (i : Int)

theorem bc_at {ks : List Bool} {i : Nat} (h : i < ks.length) : (bc ks)[i]? = some (.bool (ks.getD i false)) := by
  rw [bc_get, List.getElem?_eq_getElem h]; simp [List.getD_eq_getElem?_getD, List.getElem?_eq_getElem h]

theorem left_up (l : List Nat) (p : Pc) (i : Nat) : left l p (i + 1) = left l p i ++ if stayB l p i = true then [L0 l i] else [] := by
  unfold left
  rw [filter_up, List.map_append]
  by_cases h : stayB l p i = true
  · simp [h]
  · simp [h]
theorem left_len (l : List Nat) (p : Pc) (i : Nat) : (left l p i).length ≤ i := by
  unfold left; rw [List.length_map]; exact filter_len _ _

/-- The greatest one so far. -/
def Top (l : List Nat) (top i : Nat) : Prop := top < l.length ∧ top ≤ i ∧ ∀ j, j < i → ¬ bf (L0 l) j top

theorem more_round {al : Model} {k g B : Nat} {S T : St} {x a b out : AVal} {l : List Nat} {p q : Pc} {top i : Nat} (hx : Times 0 S x l) (hn : l.length ≤ 30) (hpq : p.le q)
    (ha : ∀ U, Old B S U → Out 0 U a (bc (stays l p))) (hb : ∀ U, Old B S U → Out 0 U b (bc (stays l q))) (hS : Old B S T) (hBT : B ≤ T.length) (ho : Out B T out (uc (left l p i))) (htop : Top l top i) (hi : i < l.length) {f : Fr} (hf : MoF f x a b out top i) :
    Post (evC (oMore al k g) 1000 l30_PolicyMore_l0 f T) fun e f' U => e = .normal ∧ ∃ out' top', MoF f' x a b out' top' (i + 1) ∧ Out B U out' (uc (left l p (i + 1))) ∧ Old B S U ∧ B ≤ U.length ∧ Top l top' (i + 1) := by
  have hlen := hx.len
  obtain ⟨a1, p1, p2⟩ := (ha T hS).get (bc_at (ks := stays l p) (i := i) (by simp [stays]; exact hi))
  obtain ⟨a2, p3, p4⟩ := (hb T hS).get (bc_at (ks := stays l q) (i := i) (by simp [stays]; exact hi))
  rw [stays_getD l p hi] at p2
  rw [stays_getD l q hi] at p4
  obtain ⟨a3, p5, p6⟩ := hx.get T (fun _ h => by omega) i hi
  obtain ⟨a4, p7, p8⟩ := hx.get T (fun _ h => by omega) top htop.1
  have c1 : binA .lss (.int .i64 (i : Int)) (.int .i64 (l.length : Int)) = some (.bool true) := lss_t (by omega)
  have c2 : binA .add (.int .i64 (i : Int)) (.int .i64 1) = some (.int .i64 ((i + 1 : Nat) : Int)) := add_is (by omega) (by omega) (by omega)
  have c3 := fill_one (.int .u64 0) (.int .u64 (L0 l i : Int)) rfl
  have hmore : stayB l p i = true → stayB l q i = true := stay_more hpq
  have hup := left_up l p i
  have hll := left_len l p i
  -- the greatest one
  obtain ⟨top', gt, hgt, htop', hte⟩ : ∃ top' gt, binA .gtr (.int .u64 (L0 l i : Int)) (.int .u64 (L0 l top : Int)) = some (.bool gt) ∧ Top l top' (i + 1) ∧ top' = if gt = true then i else top := by
    by_cases h : L0 l top < L0 l i
    · refine ⟨i, true, gtr_t (by omega), ⟨hi, by omega, fun j hj hbf => ?_⟩, by simp⟩
      by_cases e : j = i
      · subst e; exact hbf.irr
      · have h1 := htop.2.2 j (by omega)
        unfold bf at h1 hbf; omega
    · refine ⟨top, false, gtr_f (by omega), ⟨htop.1, by have := htop.2.1; omega, fun j hj hbf => ?_⟩, by simp⟩
      by_cases e : j = i
      · subst e
        have h1 := htop.2.1
        unfold bf at hbf; omega
      · exact htop.2.2 j (by omega) hbf
  obtain ⟨out', U, av, hav, c5, c6, c7, c8⟩ : ∃ out' U, ∃ av : Bool, stayB l p i = av ∧ (if av = true then appendA 1 8 out (.sl T.length 0 0 1 1) (T ++ [.live 0 [.int .u64 (L0 l i : Int)]]) = some (out', U) else out' = out ∧ U = T) ∧ Out B U out' (uc (left l p (i + 1))) ∧ Old B S U ∧ B ≤ U.length := by
    by_cases h : stayB l p i = true
    · obtain ⟨out', U, q1, q2, q3, q4⟩ := ho.app (bt := 8) (S := S) hS (by rw [uc_len]; omega) (.int .u64 (L0 l i : Int))
      refine ⟨out', U, true, h, by rw [if_pos rfl]; exact q1, ?_, q3, by omega⟩
      rw [hup, if_pos h]; simpa [uc] using q2
    · refine ⟨out, T, false, by simpa using h, by simp, ?_, hS, hBT⟩
      rw [hup, if_neg h]; simpa using ho
  obtain ⟨s0, s4, s8, s9, s10, s11, s12⟩ := hf
  suffices hmid : Post (evC (oMore al k g) 1000 l30_PolicyMore_l0 f T) (fun e f' V => e = .normal ∧ V = U ∧ f'.get 0 = x ∧ f'.get 4 = .ptr 0 0 0 ∧ f'.get 8 = a ∧ f'.get 9 = b ∧ f'.get 10 = .int .i64 (top' : Int) ∧ f'.get 11 = out' ∧ f'.get 12 = .int .i64 ((i + 1 : Nat) : Int)) by
    refine hmid.mono ?_
    rintro e f' V ⟨k1, rfl, k2, k3, k4, k5, k6, k7, k8⟩
    exact ⟨k1, out', top', ⟨k2, k3, k4, k5, k6, k7, k8⟩, c6, c7, c8, htop'⟩
  generalize ((i + 1 : Nat) : Int) = z1 at *
  rw [hav] at p2 hmore
  generalize stayB l q i = bv at *
  subst hte
  clear htop' htop hx ha hb
  unfold oMore
  cases av
  · rw [if_neg (by simp)] at c5
    obtain ⟨rfl, rfl⟩ := c5
    cases gt
    · simp [l30_PolicyMore_l0, exM, orc, orcD, evF, evC_skip, evC_region, evC_cond, evC_exit, evC_ret, evOps, evOper, evAny, evOp, evCall, putR, putA, Fr.ev, Fr.of, Fr.get, Fr.set, stable, junkA, junkL, resultsA, resA, same, Post_seq, Post_block, Post_some, unA, Fr.get_set, s0, s4, s8, s9, s10, s11, s12, hlen, c1, c2, p1, p2, p5, p6, p7, p8, hgt]
    · simp [l30_PolicyMore_l0, exM, orc, orcD, evF, evC_skip, evC_region, evC_cond, evC_exit, evC_ret, evOps, evOper, evAny, evOp, evCall, putR, putA, Fr.ev, Fr.of, Fr.get, Fr.set, stable, junkA, junkL, resultsA, resA, same, Post_seq, Post_block, Post_some, unA, Fr.get_set, s0, s4, s8, s9, s10, s11, s12, hlen, c1, c2, p1, p2, p5, p6, p7, p8, hgt]
  · rw [if_pos rfl] at c5
    have hbv : bv = true := hmore rfl
    subst hbv
    cases gt
    · simp [l30_PolicyMore_l0, exM, orc, orcD, evF, evC_skip, evC_region, evC_cond, evC_exit, evC_ret, evOps, evOper, evAny, evOp, evCall, putR, putA, Fr.ev, Fr.of, Fr.get, Fr.set, stable, junkA, junkL, resultsA, resA, same, Post_seq, Post_block, Post_some, unA, Fr.get_set, s0, s4, s8, s9, s10, s11, s12, hlen, c1, c2, c3, c5, p1, p2, p3, p4, p5, p6, p7, p8, hgt]
    · simp [l30_PolicyMore_l0, exM, orc, orcD, evF, evC_skip, evC_region, evC_cond, evC_exit, evC_ret, evOps, evOper, evAny, evOp, evCall, putR, putA, Fr.ev, Fr.of, Fr.get, Fr.set, stable, junkA, junkL, resultsA, resA, same, Post_seq, Post_block, Post_some, unA, Fr.get_set, s0, s4, s8, s9, s10, s11, s12, hlen, c1, c2, c3, c5, p1, p2, p3, p4, p5, p6, p7, p8, hgt]

theorem more_loop {al : Model} {k g B : Nat} {S : St} {x a b out : AVal} {l : List Nat} {p q : Pc} (hx : Times 0 S x l) (hn : l.length ≤ 30) (h0 : 0 < l.length) (hpq : p.le q)
    (ha : ∀ U, Old B S U → Out 0 U a (bc (stays l p))) (hb : ∀ U, Old B S U → Out 0 U b (bc (stays l q))) {T : St} (hS : Old B S T) (hBT : B ≤ T.length) (ho : Out B T out []) {f : Fr} (hf : MoF f x a b out 0 0) :
    ∃ f' U, evC (oMore al k g) 1000 l30_PolicyMore_s1 f T = some (.normal, f', U) ∧ ∃ out' top, MoF f' x a b out' top l.length ∧ Out B U out' (uc (left l p l.length)) ∧ Old B S U ∧ B ≤ U.length ∧ Top l top l.length := by
  have hlen := hx.len
  refine loop_post (O := oMore al k g) (k := 1000) (id := 0) (b := l30_PolicyMore_l0)
    (I := fun i f U => ∃ out' top, MoF f x a b out' top i ∧ Out B U out' (uc (left l p i)) ∧ Old B S U ∧ B ≤ U.length ∧ Top l top i)
    (Q := fun f U => ∃ out' top, MoF f x a b out' top l.length ∧ Out B U out' (uc (left l p l.length)) ∧ Old B S U ∧ B ≤ U.length ∧ Top l top l.length) l.length (by omega) ?_ ?_
    ⟨out, 0, hf, by simpa [left, uc] using ho, hS, hBT, h0, Nat.le_refl _, fun j hj => by omega⟩
  · rintro i hi f U ⟨out', top, h1, h2, h3, h4, h5⟩
    exact more_round hx hn hpq ha hb h3 h4 h2 h5 hi h1
  · rintro f U ⟨out', top, ⟨s0, s4, s8, s9, s10, s11, s12⟩, h2, h3, h4, h5⟩
    have c1 : binA .lss (.int .i64 (l.length : Int)) (.int .i64 (l.length : Int)) = some (.bool false) := lss_f (by omega)
    suffices hmid : Post (evC (oMore al k g) 1000 l30_PolicyMore_l0 f U) (fun e f' V => e = .exit 0 ∧ V = U ∧ f'.get 0 = x ∧ f'.get 4 = .ptr 0 0 0 ∧ f'.get 8 = a ∧ f'.get 9 = b ∧ f'.get 10 = .int .i64 (top : Int) ∧ f'.get 11 = out' ∧ f'.get 12 = .int .i64 (l.length : Int)) by
      refine hmid.mono ?_
      rintro e f' V ⟨k1, rfl, k2, k3, k4, k5, k6, k7, k8⟩
      exact ⟨k1, out', top, ⟨k2, k3, k4, k5, k6, k7, k8⟩, h2, h3, h4, h5⟩
    simp [l30_PolicyMore_l0, exM, orc, orcD, evF, evC_skip, evC_region, evC_cond, evC_exit, evC_ret, evOps, evOper, evAny, evOp, evCall, putR, putA, Fr.ev, Fr.of, Fr.get, Fr.set, stable, junkA, junkL, resultsA, resA, same, Post_seq, Post_block, Post_some, Fr.get_set, s0, s4, s8, s9, s10, s11, s12, hlen, c1]
end Am.Pol
end

/- The law that a greater policy keeps more, walked. -/
section
namespace Am.Pol
open Am Go Am.Ir
set_option maxRecDepth 100000
attribute [local congr] Post_cg
attribute [local simp] ox oz kx kz og ogz kg kgz mo ai

def moreC (m0 m1 m2 m3 m4 : Int) : List AVal := [.int .u8 m0, .int .u8 m1, .int .u8 m2, .int .u8 m3, .int .u8 m4]

/-- The code that tells whether any number is above nought. -/
def anyC : ACode := .region none [ox 136 (.faddr 0 (.t 4)),
    ox 137 (.load none (.t 136)), ox 138 (.bin .gtr (.t 137) (ai 0)),
    mo 139 138, og 139 false 140 (.faddr 1 (.t 4)), og 139 false 141 (.load none (.t 140)),
    og 139 false 142 (.bin .gtr (.t 141) (ai 0)), ox 143 (.pick (.t 139) (.c (.bool true)) (.t 142)),
    mo 144 143, og 144 false 145 (.faddr 2 (.t 4)), og 144 false 146 (.load none (.t 145)),
    og 144 false 147 (.bin .gtr (.t 146) (ai 0)), ox 148 (.pick (.t 144) (.c (.bool true)) (.t 147)),
    mo 149 148, og 149 false 150 (.faddr 3 (.t 4)), og 149 false 151 (.load none (.t 150)),
    og 149 false 152 (.bin .gtr (.t 151) (ai 0)), ox 153 (.pick (.t 149) (.c (.bool true)) (.t 152)),
    mo 154 153, og 154 false 155 (.faddr 4 (.t 4)), og 154 false 156 (.load none (.t 155)),
    og 154 false 157 (.bin .gtr (.t 156) (ai 0)), ox 158 (.pick (.t 154) (.c (.bool true)) (.t 157)),
    mo 13 158]

theorem gt0 (n : Int) : binA .gtr (.int .i64 n) (.int .i64 0) = some (.bool (decide (0 < n))) := by
  by_cases h : 0 < n
  · rw [gtr_t h]; simp [h]
  · rw [gtr_f (by omega)]; simp [h]

theorem any_ok {O : Orc} {T : St} {p : Pc} (hp : T[0]? = some (.live 0 p.cells)) {f : Fr} {x a b out : AVal} {top i : Nat} (hf : MoF f x a b out top i) :
    Post (evC O 1000 anyC f T) fun e f' U => e = .normal ∧ U = T ∧ MoF f' x a b out top i ∧ f'.get 13 = .bool p.any := by
  obtain ⟨s0, s4, s8, s9, s10, s11, s12⟩ := hf
  have m0 : loadA none (.ptr 0 0 0) T = some (.int .i64 p.last) := by rw [load_c hp]; rfl
  have m1 : loadA none (.ptr 0 0 1) T = some (.int .i64 p.hours) := by rw [load_c hp]; rfl
  have m2 : loadA none (.ptr 0 0 2) T = some (.int .i64 p.days) := by rw [load_c hp]; rfl
  have m3 : loadA none (.ptr 0 0 3) T = some (.int .i64 p.weeks) := by rw [load_c hp]; rfl
  have m4 : loadA none (.ptr 0 0 4) T = some (.int .i64 p.months) := by rw [load_c hp]; rfl
  have g0 := gt0 p.last
  have g1 := gt0 p.hours
  have g2 := gt0 p.days
  have g3 := gt0 p.weeks
  have g4 := gt0 p.months
  suffices hmid : Post (evC O 1000 anyC f T) (fun e f' U => e = .normal ∧ U = T ∧ (f'.get 0 = x ∧ f'.get 4 = .ptr 0 0 0 ∧ f'.get 8 = a ∧ f'.get 9 = b ∧ f'.get 10 = .int .i64 (top : Int) ∧ f'.get 11 = out ∧ f'.get 12 = .int .i64 (i : Int)) ∧ f'.get 13 = .bool p.any) by
    refine hmid.mono ?_
    rintro e f' U ⟨k1, k2, ⟨q0, q4, q8, q9, q10, q11, q12⟩, k3⟩
    exact ⟨k1, k2, ⟨q0, q4, q8, q9, q10, q11, q12⟩, k3⟩
  unfold Pc.any
  generalize decide (0 < p.last) = b0 at *
  generalize decide (0 < p.hours) = b1 at *
  generalize decide (0 < p.days) = b2 at *
  generalize decide (0 < p.weeks) = b3 at *
  generalize decide (0 < p.months) = b4 at *
  cases b0
  rotate_left
  · simp [anyC, exM, orc, orcD, evF, evC_skip, evC_region, evC_cond, evC_exit, evC_ret, evOps, evOper, evAny, evOp, evCall, putR, putA, Fr.ev, Fr.of, Fr.get, Fr.set, stable, junkA, junkL, resultsA, resA, same, Post_seq, Post_block, Post_some, faddrA, Fr.get_set, s0, s4, s8, s9, s10, s11, s12, m0, g0]
  cases b1
  rotate_left
  · simp [anyC, exM, orc, orcD, evF, evC_skip, evC_region, evC_cond, evC_exit, evC_ret, evOps, evOper, evAny, evOp, evCall, putR, putA, Fr.ev, Fr.of, Fr.get, Fr.set, stable, junkA, junkL, resultsA, resA, same, Post_seq, Post_block, Post_some, faddrA, Fr.get_set, s0, s4, s8, s9, s10, s11, s12, m0, g0, m1, g1]
  cases b2
  rotate_left
  · simp [anyC, exM, orc, orcD, evF, evC_skip, evC_region, evC_cond, evC_exit, evC_ret, evOps, evOper, evAny, evOp, evCall, putR, putA, Fr.ev, Fr.of, Fr.get, Fr.set, stable, junkA, junkL, resultsA, resA, same, Post_seq, Post_block, Post_some, faddrA, Fr.get_set, s0, s4, s8, s9, s10, s11, s12, m0, g0, m1, g1, m2, g2]
  cases b3
  rotate_left
  · simp [anyC, exM, orc, orcD, evF, evC_skip, evC_region, evC_cond, evC_exit, evC_ret, evOps, evOper, evAny, evOp, evCall, putR, putA, Fr.ev, Fr.of, Fr.get, Fr.set, stable, junkA, junkL, resultsA, resA, same, Post_seq, Post_block, Post_some, faddrA, Fr.get_set, s0, s4, s8, s9, s10, s11, s12, m0, g0, m1, g1, m2, g2, m3, g3]
  cases b4 <;> simp [anyC, exM, orc, orcD, evF, evC_skip, evC_region, evC_cond, evC_exit, evC_ret, evOps, evOper, evAny, evOp, evCall, putR, putA, Fr.ev, Fr.of, Fr.get, Fr.set, stable, junkA, junkL, resultsA, resA, same, Post_seq, Post_block, Post_some, faddrA, Fr.get_set, s0, s4, s8, s9, s10, s11, s12, m0, g0, m1, g1, m2, g2, m3, g3, m4, g4]

def moreTail : ACode := .seq anyC (.seq (.region none [kx 159 (.k 0 []), mo 160 159,
    og 160 true 161 (.mv (.t 8)), og 160 true 162 (.mv (.t 10)), og 160 true 163 (.iaddrS 1 (.t 161) (.t 162)),
    og 160 true 164 (.load none (.t 163)), og 160 true 165 (.mv (.t 13)), og 160 true 166 (.eq false .bool (.t 164) (.t 165)),
    ox 167 (.pick (.t 160) (.t 166) (.c (.bool false))), mo 168 167,
    og 168 true 169 (.mv (.t 11)), og 168 true 170 (.load (some 5) (.t 4)), kg 168 true 171 (.k 2 [.t 169, .t 170]),
    og 168 true 172 (.len .sl (.t 171)), og 168 true 173 (.bin .eql (.t 172) (ai 0)),
    ox 174 (.pick (.t 168) (.t 173) (.c (.bool false))), mo 6 174]) .ret)

def xLawMore (al : Model) (k g : Nat) : Model := exM (oMore al k g) l30_PolicyMore 1000

/-- The end of the law. -/
theorem more_end {al : Model} (hal : ∀ S, al [] S = some (.bool true, S)) {k g : Nat} {T : St} {x a b out : AVal} {l : List Nat} {p : Pc} {top B : Nat} (hl : U64 l) (hn : l.length ≤ 30) (hok : p.Ok) (hp : T[0]? = some (.live 0 p.cells))
    (ha : Out 0 T a (bc (stays l p))) (ho : Out B T out (uc (left l p l.length))) (htop : Top l top l.length) {f : Fr} (hf : MoF f x a b out top l.length) :
    Post (evC (oMore al k g) 1000 moreTail f T) fun e f' _ => (e = .normal ∨ e = .ret) ∧ f'.get 6 = .bool true := by
  unfold moreTail
  simp only [Post_seq]
  refine (any_ok hp hf).mono ?_
  rintro _ f1 U ⟨rfl, rfl, ⟨s0, s4, s8, s9, s10, s11, s12⟩, s13⟩
  rw [if_pos rfl]
  have htp := stay_top (p := p) htop.1 htop.2.2
  obtain ⟨a1, p1, p2⟩ := ha.get (bc_at (ks := stays l p) (i := top) (by simp [stays]; exact htop.1))
  rw [stays_getD l p htop.1, htp] at p2
  have ho2 : Times U.length U out (left l p l.length) := by
    obtain ⟨r, v, h1, rfl, h2⟩ := ho
    rw [uc_len]
    exact own_times h2 (live_lt h2)
  have hlu : U64 (left l p l.length) := by
    intro y hy
    unfold left at hy
    obtain ⟨j, hj, rfl⟩ := List.mem_map.1 hy
    exact hl.get j
  obtain ⟨o1, T3, u1, u2, u3⟩ := drop_ok ho2 hlu (Nat.le_refl _) (by have := left_len l p l.length; omega) k g hok
  rw [gone_left] at u3
  have l1 := load_pol hp
  have l2 := u3.lenA
  have c1 : binA .eql (.int .i64 0) (.int .i64 0) = some (.bool true) := rfl
  have l2' : lenA .sl o1 = some (.int .i64 0) := l2
  unfold oMore
  generalize p.any = b0 at *
  simp [exM, orc, orcD, evF, evC_skip, evC_region, evC_cond, evC_exit, evC_ret, evOps, evOper, evAny, evOp, evCall, putR, putA, Fr.ev, Fr.of, Fr.get, Fr.set, stable, junkA, junkL, resultsA, resA, same, Post_seq, Post_block, Post_some, eq2, Fr.get_set, s0, s4, s8, s9, s10, s11, s12, s13, hal, p1, p2, l1, l2', c1, u1]

theorem more_t2 : l30_PolicyMore_t2 = .seq (.seq (.region none [ox 12 (.mv (ai 0))]) l30_PolicyMore_s1) moreTail := rfl
end Am.Pol
end

/- The law that a greater policy keeps more. -/
section
namespace Am.Pol
open Am Go Am.Ir
set_option maxRecDepth 100000
attribute [local congr] Post_cg
attribute [local simp] ox oz kx kz og ogz kg kgz mo ai

theorem conv8 {n : Int} (h : 0 ≤ n) (h' : n ≤ 255) : IntKind.i64.wrap n = n := conv_i64 (by omega) (by omega)

set_option maxHeartbeats 2000000 in
theorem lawMore_ok {al : Model} (hal : ∀ S, al [] S = some (.bool true, S)) (k g : Nat) {x : AVal} {l : List Nat} (hx : ArgU x l) (hl : U64 l) (hlen : l.length ≤ 9223372036854775807) (p : Pc) (hok : p.Ok)
    (hlo : -9223372036854775808 ≤ p.last ∧ -9223372036854775808 ≤ p.hours ∧ -9223372036854775808 ≤ p.days ∧ -9223372036854775808 ≤ p.weeks ∧ -9223372036854775808 ≤ p.months)
    {m0 m1 m2 m3 m4 : Int} (hm : (0 ≤ m0 ∧ m0 ≤ 255) ∧ (0 ≤ m1 ∧ m1 ≤ 255) ∧ (0 ≤ m2 ∧ m2 ≤ 255) ∧ (0 ≤ m3 ∧ m3 ≤ 255) ∧ (0 ≤ m4 ∧ m4 ≤ 255)) :
    ∃ T, xLawMore al k g [x, .agg p.cells, .agg (moreC m0 m1 m2 m3 m4)] [] = some (.bool true, T) := by
  have c0 : cells? (.agg p.cells) = some p.cells := rfl
  have c0' : cells? (.agg (moreC m0 m1 m2 m3 m4)) = some (moreC m0 m1 m2 m3 m4) := rfl
  have l0 := (hx.times []).len
  suffices h : ∃ T, evF (oMore al k g) 1000 l30_PolicyMore [x, .agg p.cells, .agg (moreC m0 m1 m2 m3 m4)] [] = some (.bool true, T) ∧ True by
    obtain ⟨T, h, _⟩ := h; exact ⟨T, h⟩
  refine evF_postX (F := l30_PolicyMore) (R := fun _ => True) rfl rfl ?_
  obtain ⟨S2, hS2⟩ : ∃ S2 : St, S2 = [ABlock.live 0 p.cells, .live 0 (moreC m0 m1 m2 m3 m4)] := ⟨_, rfl⟩
  have e0 : S2[0]? = some (.live 0 p.cells) := by rw [hS2]; rfl
  have e1 : S2[1]? = some (.live 0 (moreC m0 m1 m2 m3 m4)) := by rw [hS2]; rfl
  have k0 : loadA none (.ptr 0 0 0) S2 = some (.int .i64 p.last) := by rw [load_c e0]; rfl
  have k1 : loadA none (.ptr 0 0 1) S2 = some (.int .i64 p.hours) := by rw [load_c e0]; rfl
  have k2 : loadA none (.ptr 0 0 2) S2 = some (.int .i64 p.days) := by rw [load_c e0]; rfl
  have k3 : loadA none (.ptr 0 0 3) S2 = some (.int .i64 p.weeks) := by rw [load_c e0]; rfl
  have k4 : loadA none (.ptr 0 0 4) S2 = some (.int .i64 p.months) := by rw [load_c e0]; rfl
  -- what the law does not speak of
  by_cases q0 : 30 < l.length
  · have c1 : binA .gtr (.int .i64 (l.length : Int)) (.int .i64 30) = some (.bool true) := gtr_t (by omega)
    unfold oMore
    simp [l30_PolicyMore, exM, orc, orcD, evF, evC_skip, evC_region, evC_cond, evC_exit, evC_ret, evOps, evOper, evAny, evOp, evCall, putR, putA, Fr.ev, Fr.of, Fr.get, Fr.set, stable, junkA, junkL, resultsA, resA, same, Post_seq, Post_block, Post_some, faddrA, c0, c0', ← hS2, l0, c1, hal]
  have c1 : binA .gtr (.int .i64 (l.length : Int)) (.int .i64 30) = some (.bool false) := gtr_f (by omega)
  by_cases q1 : l.length = 0
  · have c2 : binA .eql (.int .i64 (l.length : Int)) (.int .i64 0) = some (.bool true) := eql_t (by omega)
    unfold oMore
    simp [l30_PolicyMore, exM, orc, orcD, evF, evC_skip, evC_region, evC_cond, evC_exit, evC_ret, evOps, evOper, evAny, evOp, evCall, putR, putA, Fr.ev, Fr.of, Fr.get, Fr.set, stable, junkA, junkL, resultsA, resA, same, Post_seq, Post_block, Post_some, faddrA, c0, c0', ← hS2, l0, c1, c2, hal]
  have c2 : binA .eql (.int .i64 (l.length : Int)) (.int .i64 0) = some (.bool false) := eql_f (by omega)
  by_cases q2 : 1099511627776 < p.last
  · have c3 : binA .gtr (.int .i64 p.last) (.int .i64 1099511627776) = some (.bool true) := gtr_t q2
    unfold oMore
    simp [l30_PolicyMore, exM, orc, orcD, evF, evC_skip, evC_region, evC_cond, evC_exit, evC_ret, evOps, evOper, evAny, evOp, evCall, putR, putA, Fr.ev, Fr.of, Fr.get, Fr.set, stable, junkA, junkL, resultsA, resA, same, Post_seq, Post_block, Post_some, faddrA, c0, c0', ← hS2, l0, c1, c2, c3, k0, hal]
  have c3 : binA .gtr (.int .i64 p.last) (.int .i64 1099511627776) = some (.bool false) := gtr_f (by omega)
  by_cases q3 : 1099511627776 < p.hours
  · have c4 : binA .gtr (.int .i64 p.hours) (.int .i64 1099511627776) = some (.bool true) := gtr_t q3
    unfold oMore
    simp [l30_PolicyMore, exM, orc, orcD, evF, evC_skip, evC_region, evC_cond, evC_exit, evC_ret, evOps, evOper, evAny, evOp, evCall, putR, putA, Fr.ev, Fr.of, Fr.get, Fr.set, stable, junkA, junkL, resultsA, resA, same, Post_seq, Post_block, Post_some, faddrA, c0, c0', ← hS2, l0, c1, c2, c3, c4, k0, k1, hal]
  have c4 : binA .gtr (.int .i64 p.hours) (.int .i64 1099511627776) = some (.bool false) := gtr_f (by omega)
  by_cases q4 : 1099511627776 < p.days
  · have c5 : binA .gtr (.int .i64 p.days) (.int .i64 1099511627776) = some (.bool true) := gtr_t q4
    unfold oMore
    simp [l30_PolicyMore, exM, orc, orcD, evF, evC_skip, evC_region, evC_cond, evC_exit, evC_ret, evOps, evOper, evAny, evOp, evCall, putR, putA, Fr.ev, Fr.of, Fr.get, Fr.set, stable, junkA, junkL, resultsA, resA, same, Post_seq, Post_block, Post_some, faddrA, c0, c0', ← hS2, l0, c1, c2, c3, c4, c5, k0, k1, k2, hal]
  have c5 : binA .gtr (.int .i64 p.days) (.int .i64 1099511627776) = some (.bool false) := gtr_f (by omega)
  by_cases q5 : 1099511627776 < p.weeks
  · have c6 : binA .gtr (.int .i64 p.weeks) (.int .i64 1099511627776) = some (.bool true) := gtr_t q5
    unfold oMore
    simp [l30_PolicyMore, exM, orc, orcD, evF, evC_skip, evC_region, evC_cond, evC_exit, evC_ret, evOps, evOper, evAny, evOp, evCall, putR, putA, Fr.ev, Fr.of, Fr.get, Fr.set, stable, junkA, junkL, resultsA, resA, same, Post_seq, Post_block, Post_some, faddrA, c0, c0', ← hS2, l0, c1, c2, c3, c4, c5, c6, k0, k1, k2, k3, hal]
  have c6 : binA .gtr (.int .i64 p.weeks) (.int .i64 1099511627776) = some (.bool false) := gtr_f (by omega)
  by_cases q6 : 1099511627776 < p.months
  · have c7 : binA .gtr (.int .i64 p.months) (.int .i64 1099511627776) = some (.bool true) := gtr_t q6
    unfold oMore
    simp [l30_PolicyMore, exM, orc, orcD, evF, evC_skip, evC_region, evC_cond, evC_exit, evC_ret, evOps, evOper, evAny, evOp, evCall, putR, putA, Fr.ev, Fr.of, Fr.get, Fr.set, stable, junkA, junkL, resultsA, resA, same, Post_seq, Post_block, Post_some, faddrA, c0, c0', ← hS2, l0, c1, c2, c3, c4, c5, c6, c7, k0, k1, k2, k3, k4, hal]
  have c7 : binA .gtr (.int .i64 p.months) (.int .i64 1099511627776) = some (.bool false) := gtr_f (by omega)
  -- the greater policy
  obtain ⟨⟨a0, b0⟩, ⟨a1, b1⟩, ⟨a2, b2⟩, ⟨a3, b3⟩, ⟨a4, b4⟩⟩ := hm
  obtain ⟨o0, o1, o2, o3, o4⟩ := hlo
  obtain ⟨q, hq⟩ : ∃ q : Pc, q = ⟨p.last + m0, p.hours + m1, p.days + m2, p.weeks + m3, p.months + m4⟩ := ⟨_, rfl⟩
  have hpq : p.le q := by
    rw [hq]
    refine ⟨by show p.last ≤ p.last + m0; omega, fun j => ?_⟩
    unfold Pc.many
    split <;> simp only [] <;> omega
  have hokq : q.Ok := by rw [hq]; exact ⟨by show p.last + m0 ≤ _; omega, by show p.hours + m1 ≤ _; omega, by show p.days + m2 ≤ _; omega, by show p.weeks + m3 ≤ _; omega, by show p.months + m4 ≤ _; omega⟩
  have n0 : loadA none (.ptr 1 0 0) S2 = some (.int .u8 m0) := by rw [load_c e1]; rfl
  have n1 : loadA none (.ptr 1 0 1) S2 = some (.int .u8 m1) := by rw [load_c e1]; rfl
  have n2 : loadA none (.ptr 1 0 2) S2 = some (.int .u8 m2) := by rw [load_c e1]; rfl
  have n3 : loadA none (.ptr 1 0 3) S2 = some (.int .u8 m3) := by rw [load_c e1]; rfl
  have n4 : loadA none (.ptr 1 0 4) S2 = some (.int .u8 m4) := by rw [load_c e1]; rfl
  have i0 : iaddrAA 1 5 (.ptr 1 0 0) (.int .i64 0) = some (.ptr 1 0 0) := rfl
  have i1 : iaddrAA 1 5 (.ptr 1 0 0) (.int .i64 1) = some (.ptr 1 0 1) := rfl
  have i2 : iaddrAA 1 5 (.ptr 1 0 0) (.int .i64 2) = some (.ptr 1 0 2) := rfl
  have i3 : iaddrAA 1 5 (.ptr 1 0 0) (.int .i64 3) = some (.ptr 1 0 3) := rfl
  have i4 : iaddrAA 1 5 (.ptr 1 0 0) (.int .i64 4) = some (.ptr 1 0 4) := rfl
  have w0 := conv8 a0 b0
  have w1 := conv8 a1 b1
  have w2 := conv8 a2 b2
  have w3 := conv8 a3 b3
  have w4 := conv8 a4 b4
  have d0 : binA .add (.int .i64 p.last) (.int .i64 m0) = some (.int .i64 q.last) := add_is (by rw [hq]) (by rw [hq]; show _ ≤ p.last + m0; omega) (by rw [hq]; show p.last + m0 ≤ _; omega)
  have d1 : binA .add (.int .i64 p.hours) (.int .i64 m1) = some (.int .i64 q.hours) := add_is (by rw [hq]) (by rw [hq]; show _ ≤ p.hours + m1; omega) (by rw [hq]; show p.hours + m1 ≤ _; omega)
  have d2 : binA .add (.int .i64 p.days) (.int .i64 m2) = some (.int .i64 q.days) := add_is (by rw [hq]) (by rw [hq]; show _ ≤ p.days + m2; omega) (by rw [hq]; show p.days + m2 ≤ _; omega)
  have d3 : binA .add (.int .i64 p.weeks) (.int .i64 m3) = some (.int .i64 q.weeks) := add_is (by rw [hq]) (by rw [hq]; show _ ≤ p.weeks + m3; omega) (by rw [hq]; show p.weeks + m3 ≤ _; omega)
  have d4 : binA .add (.int .i64 p.months) (.int .i64 m4) = some (.int .i64 q.months) := add_is (by rw [hq]) (by rw [hq]; show _ ≤ p.months + m4; omega) (by rw [hq]; show p.months + m4 ≤ _; omega)
  have f0 : fillA [.int .i64 0, .int .i64 0, .int .i64 0, .int .i64 0, .int .i64 0] [(0, 1, .int .i64 q.last), (1, 1, .int .i64 q.hours), (2, 1, .int .i64 q.days), (3, 1, .int .i64 q.weeks), (4, 1, .int .i64 q.months)] = some q.cells := by simp [fillA, cells?, splice, Pc.cells]
  obtain ⟨S3, hS3⟩ : ∃ S3 : St, S3 = S2 ++ [.live 0 q.cells] := ⟨_, rfl⟩
  have hS2l : S2.length = 2 := by rw [hS2]; rfl
  have f1 : storeA 5 (.ptr 2 0 0) (.agg q.cells) (S2 ++ [.live 0 [.int .i64 0, .int .i64 0, .int .i64 0, .int .i64 0, .int .i64 0]]) = some S3 := by
    rw [hS3]
    have : (S2 ++ [ABlock.live 0 [.int .i64 0, .int .i64 0, .int .i64 0, .int .i64 0, .int .i64 0]])[2]? = some (.live 0 [.int .i64 0, .int .i64 0, .int .i64 0, .int .i64 0, .int .i64 0]) := by
      rw [List.getElem?_append_right (by omega), hS2l]; rfl
    simp [storeA, cells?, this, splice, Pc.cells]
    rw [List.set_append_right _ _ (by omega), hS2l]; rfl
  have g0 : S3[0]? = some (.live 0 p.cells) := by rw [hS3, List.getElem?_append_left (by omega)]; exact e0
  have g2 : S3[2]? = some (.live 0 q.cells) := by rw [hS3, List.getElem?_append_right (by omega), hS2l]; rfl
  have hS3l : S3.length = 3 := by rw [hS3]; simp [hS2l]
  -- twice Keep
  obtain ⟨T1, r1, r2, r3, r4, r5, r6⟩ := keep_ok ((hx.times S3).more (Nat.zero_le 3)) hl hS3l (by omega) k g hok
  rw [keepL_eq r5] at r3
  obtain ⟨T2, t1, t2, t3, t4, t5, t6⟩ := keep_ok ((hx.times T1).more (Nat.zero_le T1.length)) hl rfl (by omega) k g hokq
  rw [keepL_eq t5] at t3
  have v0 := load_pol g0
  have v2 := load_pol g2
  have v3 : loadA (some 5) (.ptr 0 0 0) T1 = some (.agg p.cells) := load_pol (by rw [r4 0 (by omega)]; exact g0)
  have v4 : loadA (some 5) (.ptr 2 0 0) T1 = some (.agg q.cells) := load_pol (by rw [r4 2 (by omega)]; exact g2)
  have ha : ∀ U, Old T2.length T2 U → Out 0 U (.sl 4 0 0 l.length 1) (bc (stays l p)) := fun U hU => ⟨4, 0, Nat.zero_le _, by simp [bc, stays], by rw [hU 4 (by omega), t4 4 (by omega)]; exact r3⟩
  have hb : ∀ U, Old T2.length T2 U → Out 0 U (.sl (T1.length + 1) 0 0 l.length 1) (bc (stays l q)) := fun U hU => ⟨T1.length + 1, 0, Nat.zero_le _, by simp [bc, stays], by rw [hU _ (by omega)]; exact t3⟩
  have la : lenA .sl (.sl 4 0 0 l.length 1) = some (.int .i64 (l.length : Int)) := rfl
  have lb : lenA .sl (.sl (T1.length + 1) 0 0 l.length 1) = some (.int .i64 (l.length : Int)) := rfl
  have c8 : binA .neq (.int .i64 (l.length : Int)) (.int .i64 (l.length : Int)) = some (.bool false) := neq_f rfl
  have f2 : fillA [] [] = some [] := rfl
  have key := fun f hf => more_loop (al := al) (k := k) (g := g) (T := T2 ++ [.live 0 []]) (out := .sl T2.length 0 0 0 1) (f := f) (hx.times T2) (by omega) (by omega) hpq ha hb (Old.app T2 _) (by simp) ⟨T2.length, 0, Nat.le_refl _, rfl, by simp⟩ hf
  have hT2 : T2[0]? = some (.live 0 p.cells) := by rw [t4 0 (by omega), r4 0 (by omega)]; exact g0
  have htail := fun f U out' top (h1 : MoF f x (.sl 4 0 0 l.length 1) (.sl (T1.length + 1) 0 0 l.length 1) out' top l.length) (h2 : Out T2.length U out' (uc (left l p l.length))) (h3 : Old T2.length T2 U) (h4 : Top l top l.length) =>
    more_end (al := al) (k := k) (g := g) hal hl (by omega) hok (by rw [h3 0 (by omega)]; exact hT2) (ha U h3) h2 h4 h1
  unfold oMore at *
  generalize xKeep k g = mk at *
  generalize xDrop k g = md at *
  simp [l30_PolicyMore, exM, orc, orcD, evF, evC_skip, evC_region, evC_cond, evC_exit, evC_ret, evOps, evOper, evAny, evOp, evCall, putR, putA, Fr.ev, Fr.of, Fr.get, Fr.set, stable, junkA, junkL, resultsA, resA, same, Post_seq, Post_block, Post_some, faddrA, c0, c0', ← hS2, l0, c1, c2, c3, c4, c5, c6, c7, k0, k1, k2, k3, k4, n0, n1, n2, n3, n4, i0, i1, i2, i3, i4, w0, w1, w2, w3, w4, d0, d1, d2, d3, d4, f0, hS2l, f1, v0, v2, v3, v4, r2, t2, la, lb, c8, f2, trL, sameRead, sameVal, beqV, beqL_refl]
  rw [more_t2, Post_seq, Post_seq]
  simp only [ox, ai]
  simp [exM, orc, orcD, evF, evC_skip, evC_region, evC_cond, evC_exit, evC_ret, evOps, evOper, evAny, evOp, evCall, putR, putA, Fr.ev, Fr.of, Fr.get, Fr.set, stable, junkA, junkL, resultsA, resA, same, Post_seq, Post_block, Post_some]
  refine (Post.ran (key _ ?_)).mono ?_
  · exact ⟨by simp [Fr.get], by simp [Fr.get], by simp [Fr.get], by simp [Fr.get], by simp [Fr.get], by simp [Fr.get], by simp [Fr.get]⟩
  rintro _ f U ⟨rfl, out', top, h1, h2, h3, h4, h5⟩
  rw [if_pos rfl]
  refine (htail f U out' top h1 h2 h3 h5).mono ?_
  rintro e f' V ⟨h6, h7⟩
  exact ⟨h6, by simp [resultsA, resA, h7]⟩
end Am.Pol
end

/- From a contract of the library to a model of the machine. -/
section
namespace Am
open Go Go.RowKit
variable {P : Program} {W : World} {κ : Kap} {S : St} {w w' : World}

/-- What was there stays, and more lies behind. -/
theorem Rel.more (h : Rel W κ S w) (hb : Below w.heap.size w w') : Rel W κ S w' := by
  have hk : ∀ (b : Nat) o, w.heap[b]? = some o → w'.heap[b]? = some o := fun b o ho => by
    rw [hb.block b (Array.getElem?_eq_some_iff.1 ho).1]; exact ho
  refine ⟨h.below.trans (hb.mono h.below.size), h.len, ?_, h.disj, ?_, h.fzd, h.lo, h.loops.step (fun _ _ h => h) (fun _ _ _ h => h) (fun b o hb _ => hk b o hb), h.dom,
    h.held.step h.loops rfl (fun b o _ hb => hk b o hb) (fun r v cs i hr hi => .inl ⟨r, v, cs, i, hr, hi, rfl⟩) (fun b x y hy => .inl hy) (fun _ _ _ h => h) (fun _ _ h => h)⟩
  · intro r v cells i hS hi
    obtain ⟨a1, a2, a3, arr', e', fr, a4, a5, a6, a7, a8⟩ := h.own r v cells i hS hi
    exact ⟨a1, a2, a3, arr', e', fr, hk _ _ a4, a5, a6, a7, a8⟩
  · intro b o' y hy
    have := h.fz b o' y hy
    rw [hb.cell (World.block_lt_of_cell? _ _ this)]; exact this

theorem Rel.wok (h : Rel W κ S w) (hW : WOk P W) : WOk P w := hW.later h.below

/-- A function's contract, where its result is told in place. -/
theorem SoundW.of {g : FuncId} {m : Model} (hc : Callable P g)
    (h : ∀ args S v S', m args S = some (v, S') → S' = S ∧ ∀ (κ : Kap) (w : World) (args' : List Value), WOk P w → Rel W κ S w → VRelL κ args args' →
      Calls P g args'.toArray w fun e w' => ∃ x, e = .returned x ∧ VRel κ v x ∧ Below w.heap.size w w') (hW : WOk P W) : SoundW P W g m := by
  intro args S v S' hm
  refine ⟨hc, fun κ w args' hr ha => ?_⟩
  obtain ⟨rfl, h1⟩ := h args S v S' hm
  refine (h1 κ w args' (hr.wok hW) hr ha).mono ?_
  rintro e w' ⟨x, rfl, hx, hb⟩
  exact ⟨v, x, S', κ, rfl, ⟨rfl, rfl⟩, hx, hr.more hb, Kap.le_refl κ⟩

theorem below_refl (w : World) : Below w.heap.size w w := Below.refl _ _

/-- A text of the machine and the program's. -/
theorem str_inv {s : List UInt8} {y : Value} (h : VRel κ (.str s) y) : ∃ b : ByteArray, y = .string b ∧ b.data.toList = s := by
  cases h with
  | str _ b h => exact ⟨b, rfl, h⟩
theorem int_inv {k : IntKind} {n : Int} {y : Value} (h : VRel κ (.int k n) y) : y = .int k n := by
  cases h; rfl
theorem str_of (l : List UInt8) : VRel κ (.str l) (.string ⟨l.toArray⟩) := .str _ _ (by simp)
end Am
end

