/- Bytes in cells; what stays of a heap; loops. -/
import Derived.Test.YtffhiphcmohjdaaGreatDoorAmTop
import Derived.Test.YtffhiphcmohjdaaGreatDoorAmPure
set_option linter.all false
namespace Am
open Go

def bcells (u : List UInt8) : List AVal := u.map fun b => .int .u8 (b.toNat : Int)

theorem bcells_len (u : List UInt8) : (bcells u).length = u.length := by simp [bcells]

theorem asBytes_bcells : ∀ u : List UInt8, asBytes (bcells u) = some u
  | [] => rfl
  | b :: u => by
    have := asBytes_bcells u
    simp only [bcells] at this ⊢
    simp [asBytes, asByte, this]

theorem bcells_append (u v : List UInt8) : bcells (u ++ v) = bcells u ++ bcells v := by simp [bcells]

theorem bcells_inj {u v : List UInt8} (h : bcells u = bcells v) : u = v := by
  have h1 := asBytes_bcells u
  rw [h, asBytes_bcells] at h1
  simpa using h1.symm

/-- An argument of bytes. -/
theorem bytes_arg : ∀ (l : List Int), (∀ n ∈ l, IntKind.u8.min ≤ n ∧ n ≤ IntKind.u8.max) → ∃ u : List UInt8, u.length = l.length ∧ l.flatMap (DT.int .u8).enc = bcells u
  | [], _ => ⟨[], rfl, rfl⟩
  | n :: l, h => by
    obtain ⟨u, h1, h2⟩ := bytes_arg l (fun m hm => h m (List.mem_cons_of_mem _ hm))
    obtain ⟨a, b⟩ := h n (List.mem_cons_self ..)
    have a' : 0 ≤ n := a
    have b' : n ≤ 255 := b
    refine ⟨UInt8.ofNat n.toNat :: u, by simp [h1], ?_⟩
    rw [List.flatMap_cons, h2]
    have : ((UInt8.ofNat n.toNat).toNat : Int) = n := by
      rw [UInt8.toNat_ofNat']; omega
    simp only [DT.enc, bcells, List.map_cons, List.cons_append, List.nil_append, this]

/-- A value that holds bytes. -/
def isSl : AVal → Bool
  | .sl .. | .fz .. => true
  | _ => false

theorem eq2_sl {x : AVal} (h : isSl x = true) : eq2 .sl x .nils = some false := by
  cases x <;> simp [isSl, eq2] at h ⊢

/-- What lies outside some blocks stays. -/
def Keeps (S S' : St) (fp : List Nat) : Prop := S.length ≤ S'.length ∧ ∀ r, r < S.length → r ∉ fp → S'[r]? = S[r]?

theorem Keeps.refl (S : St) (fp : List Nat) : Keeps S S fp := ⟨Nat.le_refl _, fun _ _ _ => rfl⟩

theorem Keeps.trans {S S' S'' : St} {fp fp' : List Nat} (h : Keeps S S' fp) (h' : Keeps S' S'' fp') (hf : ∀ r ∈ fp', r ∈ fp ∨ S.length ≤ r) : Keeps S S'' fp :=
  ⟨Nat.le_trans h.1 h'.1, fun r hr hn => (h'.2 r (Nat.lt_of_lt_of_le hr h.1) (fun hm => by rcases hf r hm with h1 | h1; exact hn h1; omega)).trans (h.2 r hr hn)⟩

theorem live_lt {S : St} {r v : Nat} {cs : List AVal} (h : S[r]? = some (.live v cs)) : r < S.length := (List.getElem?_eq_some_iff.1 h).1

theorem Keeps.get {S S' : St} {fp : List Nat} (h : Keeps S S' fp) {r v : Nat} {cs : List AVal} (hS : S[r]? = some (.live v cs)) (hn : r ∉ fp) : S'[r]? = some (.live v cs) := by
  rw [h.2 r (live_lt hS) hn]; exact hS

theorem get_old {S T : St} {r : Nat} (h : r < S.length) : (S ++ T)[r]? = S[r]? := List.getElem?_append_left h

theorem Keeps.append (S T : St) : Keeps S (S ++ T) [] := ⟨by simp, fun r hr _ => get_old hr⟩

theorem Keeps.set (S : St) (r : Nat) (b : ABlock) : Keeps S (S.set r b) [r] := ⟨by simp, fun q _ hn => by
  rw [List.getElem?_set]; rw [if_neg (by simpa [eq_comm] using hn)]⟩

/-- A slice of bytes in a block of its own. -/
def MsgI (S : St) (m : AVal) (x : List UInt8) (r : Nat) : Prop := ∃ v, m = .sl r v 0 x.length 1 ∧ S[r]? = some (.live v (bcells x))

theorem MsgI.keep {S S' : St} {fp : List Nat} {m : AVal} {x : List UInt8} {r : Nat} (h : MsgI S m x r) (hk : Keeps S S' fp) (hn : r ∉ fp) : MsgI S' m x r := by
  obtain ⟨v, h1, h2⟩ := h
  exact ⟨v, h1, hk.get h2 hn⟩

theorem MsgI.lt {S : St} {m : AVal} {x : List UInt8} {r : Nat} (h : MsgI S m x r) : r < S.length := by
  obtain ⟨v, _, h2⟩ := h; exact live_lt h2

theorem MsgI.cells {S : St} {m : AVal} {x : List UInt8} {r : Nat} (h : MsgI S m x r) : cellsOf 1 m S = some (x.length, bcells x) := by
  obtain ⟨v, rfl, h2⟩ := h
  simp [cellsOf, h2, bcells_len]
  rw [List.take_of_length_le (by simp [bcells_len])]

theorem MsgI.bytes {S : St} {m : AVal} {x : List UInt8} {r : Nat} (h : MsgI S m x r) : bytesA m S = some x := by
  have := h.cells
  obtain ⟨v, rfl, h2⟩ := h
  simp only [bytesA, this, asBytes_bcells]

theorem MsgI.isSl {S : St} {m : AVal} {x : List UInt8} {r : Nat} (h : MsgI S m x r) : isSl m = true := by
  obtain ⟨v, rfl, h2⟩ := h; rfl

theorem MsgI.lenA {S : St} {m : AVal} {x : List UInt8} {r : Nat} (h : MsgI S m x r) : lenA .sl m = some (.int .i64 x.length) := by
  obtain ⟨v, rfl, h2⟩ := h; rfl

theorem iter_ok {step : Fr → St → Option Out} {I : Nat → Fr → St → Prop} {Q : Ex → Fr → St → Prop} (n : Nat)
    (hs : ∀ j, j < n → ∀ f S, I j f S → (∃ f' S', step f S = some (.normal, f', S') ∧ I (j + 1) f' S') ∨ ∃ e f' S', step f S = some (e, f', S') ∧ e ≠ .normal ∧ Q e f' S')
    (he : ∀ f S, I n f S → ∃ e f' S', step f S = some (e, f', S') ∧ e ≠ .normal ∧ Q e f' S') :
    ∀ (fuel j : Nat), j ≤ n → n - j < fuel → ∀ f S, I j f S → ∃ e f' S', iter step fuel f S = some (e, f', S') ∧ e ≠ .normal ∧ Q e f' S'
  | 0, j, _, h, _, _, _ => by omega
  | fuel + 1, j, hj, hf, f, S, hI => by
    have fin : ∀ e f' S', step f S = some (e, f', S') → e ≠ .normal → Q e f' S' → ∃ e f' S', iter step (fuel + 1) f S = some (e, f', S') ∧ e ≠ .normal ∧ Q e f' S' := by
      intro e f' S' h1 h2 h3
      refine ⟨e, f', S', ?_, h2, h3⟩
      simp only [iter, h1]
      cases e with
      | normal => exact absurd rfl h2
      | _ => rfl
    by_cases e : j = n
    · subst e
      obtain ⟨e, f', S', h1, h2, h3⟩ := he f S hI
      exact fin e f' S' h1 h2 h3
    · rcases hs j (by omega) f S hI with ⟨f', S', h1, h2⟩ | ⟨e, f', S', h1, h2, h3⟩
      · obtain ⟨e, f2, S2, a, b, c⟩ := iter_ok n hs he fuel (j + 1) (by omega) (by omega) f' S' h2
        refine ⟨e, f2, S2, ?_, b, c⟩
        simp only [iter, h1, a]
      · exact fin e f' S' h1 h2 h3

/-- What an evaluation ends in. -/
structure Post (o : Option Out) (Q : Ex → Fr → St → Prop) : Prop where
  ex : ∃ e f S, o = some (e, f, S) ∧ Q e f S

theorem Post.of {o : Option Out} {e : Ex} {f : Fr} {S : St} {Q : Ex → Fr → St → Prop} (h : o = some (e, f, S)) (hq : Q e f S) : Post o Q := ⟨e, f, S, h, hq⟩

theorem Post_some (e : Ex) (f : Fr) (S : St) (Q : Ex → Fr → St → Prop) : Post (some (e, f, S)) Q = Q e f S :=
  propext ⟨fun h => by obtain ⟨e', f', S', h1, h2⟩ := h.ex; cases h1; exact h2, fun h => Post.of rfl h⟩

theorem Post_none (Q : Ex → Fr → St → Prop) : Post none Q = False :=
  by
  apply propext
  constructor
  · intro h; obtain ⟨e', f', S', h1, h2⟩ := h.ex; cases h1
  · intro h; exact h.elim

theorem Post.mono {o : Option Out} {Q Q' : Ex → Fr → St → Prop} (h : Post o Q) (hq : ∀ e f S, Q e f S → Q' e f S) : Post o Q' := by
  obtain ⟨e, f, S, rfl, a⟩ := h.ex
  rw [Post_some]; exact hq _ _ _ a

theorem Post.seq {O : Orc} {k : Nat} {a b : ACode} {f : Fr} {S : St} {Q : Ex → Fr → St → Prop}
    (h : Post (evC O k a f S) fun e f' S' => (e = .normal → Post (evC O k b f' S') Q) ∧ (e ≠ .normal → Q e f' S')) : Post (evC O k (.seq a b) f S) Q := by
  obtain ⟨e, f', S', h1, h2, h3⟩ := h.ex
  simp only [evC, h1]
  cases e with
  | normal => exact h2 rfl
  | _ => exact Post.of rfl (h3 (by simp))

theorem Post.block {O : Orc} {k id : Nat} {b : ACode} {f : Fr} {S : St} {Q : Ex → Fr → St → Prop}
    (h : Post (evC O k b f S) fun e f' S' => Q (if e = .exit id then .normal else e) f' S') : Post (evC O k (.block id b) f S) Q := by
  obtain ⟨e, f', S', h1, h2⟩ := h.ex
  simp only [evC, h1]
  cases e with
  | exit i =>
    by_cases e : i = id
    · subst e; simpa [Post_some] using h2
    · simpa [Post_some, e] using h2
  | _ => simpa [Post_some] using h2

/-- Rounds, each of which may be the last one. -/
theorem iter_post {step : Fr → St → Option Out} {I : Nat → Fr → St → Prop} {Q : Ex → Fr → St → Prop} (n : Nat)
    (hs : ∀ j, j < n → ∀ f S, I j f S → Post (step f S) fun e f' S' => (e = .normal ∧ I (j + 1) f' S') ∨ (e ≠ .normal ∧ Q e f' S'))
    (he : ∀ f S, I n f S → Post (step f S) fun e f' S' => e ≠ .normal ∧ Q e f' S') {fuel : Nat} (hf : n < fuel) {f : Fr} {S : St} (hI : I 0 f S) :
    ∃ e f' S', iter step fuel f S = some (e, f', S') ∧ e ≠ .normal ∧ Q e f' S' :=
  iter_ok n (fun j hj f S h => by
    obtain ⟨e, f', S', a, b | b⟩ := (hs j hj f S h).ex
    · obtain ⟨rfl, b⟩ := b; exact .inl ⟨f', S', a, b⟩
    · exact .inr ⟨e, f', S', a, b.1, b.2⟩)
    (fun f S h => by obtain ⟨e, f', S', a, b⟩ := (he f S h).ex; exact ⟨e, f', S', a, b.1, b.2⟩) fuel 0 (by omega) (by omega) f S hI

theorem Post_seq {O : Orc} {k : Nat} {a b : ACode} {f : Fr} {S : St} {Q : Ex → Fr → St → Prop} :
    Post (evC O k (.seq a b) f S) Q = Post (evC O k a f S) (fun e f' S' => if e = .normal then Post (evC O k b f' S') Q else Q e f' S') := by
  simp only [evC]
  cases h : evC O k a f S with
  | none => simp [Post_none]
  | some r =>
    obtain ⟨e, f', S'⟩ := r
    cases e <;> simp [Post_some]

/-- A function's end. -/
theorem evF_post {O : Orc} {k : Nat} {F : AFun} {args : List AVal} {S : St} {v : AVal} {S' : St} (hl : args.length = F.params) (hr : F.rng = false)
    (h : Post (evC O k F.body (Fr.of args) S) fun e f S1 => (e = .normal ∨ e = .ret) ∧ resultsA f S1 F.results = some v ∧ S1 = S') : evF O k F args S = some (v, S') := by
  obtain ⟨e, f, S1, h1, h2, h3, rfl⟩ := h.ex
  unfold evF
  rw [if_pos hl, h1]
  rcases h2 with rfl | rfl <;> simp [h3, hr]

/-- A function's end: some heap behind it. -/
theorem evF_postX {O : Orc} {k : Nat} {F : AFun} {args : List AVal} {S : St} {v : AVal} {R : St → Prop} (hl : args.length = F.params) (hr : F.rng = false)
    (h : Post (evC O k F.body (Fr.of args) S) fun e f S1 => (e = .normal ∨ e = .ret) ∧ resultsA f S1 F.results = some v ∧ R S1) : ∃ S', evF O k F args S = some (v, S') ∧ R S' := by
  obtain ⟨e, f, S1, h1, h2, h3, h4⟩ := h.ex
  exact ⟨S1, evF_post hl hr (Post.of h1 ⟨h2, h3, rfl⟩), h4⟩

/-- A function's end, where it has gone over a function. -/
theorem evF_postR {O : Orc} {k : Nat} {F : AFun} {args : List AVal} {S : St} {v : AVal} {S' : St} (hl : args.length = F.params) (hr : F.rng = true)
    (h : Post (evC O k F.body (Fr.of args) S) fun e f S1 => (e = .normal ∨ e = .ret) ∧ shut (marks f) S1 = some S' ∧ resultsA f S' F.results = some v) : evF O k F args S = some (v, S') := by
  obtain ⟨e, f, S1, h1, h2, h3, h4⟩ := h.ex
  unfold evF
  rw [if_pos hl, h1]
  rcases h2 with rfl | rfl <;> simp [h3, h4, hr]

/-- A loop in its block, round by round. -/
theorem loop_post {O : Orc} {k id : Nat} {b : ACode} {I : Nat → Fr → St → Prop} {Q : Fr → St → Prop} (n : Nat) (hk : n < k)
    (hs : ∀ j, j < n → ∀ f S, I j f S → Post (evC O k b f S) fun e f' S' => e = .normal ∧ I (j + 1) f' S')
    (he : ∀ f S, I n f S → Post (evC O k b f S) fun e f' S' => e = .exit id ∧ Q f' S') {f : Fr} {S : St} (hI : I 0 f S) :
    ∃ f' S', evC O k (.block id (.loop b)) f S = some (.normal, f', S') ∧ Q f' S' := by
  obtain ⟨e, f', S', h1, _, rfl, h3⟩ := iter_ok (step := evC O k b) (I := I) (Q := fun e f S => e = .exit id ∧ Q f S) n
    (fun j hj f S h => .inl (by obtain ⟨e, f', S', a, rfl, b⟩ := (hs j hj f S h).ex; exact ⟨f', S', a, b⟩)) (fun f S h => by obtain ⟨e, f', S', a, rfl, b⟩ := (he f S h).ex; exact ⟨_, f', S', a, by simp, rfl, b⟩) k 0 (by omega) (by omega) f S hI
  exact ⟨f', S', by simp [evC, h1], h3⟩

/-- A loop in its block: rounds, and then the end. -/
theorem loop_ok {O : Orc} {k id : Nat} {b : ACode} {I : Nat → Fr → St → Prop} {Q : Fr → St → Prop} (n : Nat) (hk : n < k)
    (hs : ∀ j, j < n → ∀ f S, I j f S → ∃ f' S', evC O k b f S = some (.normal, f', S') ∧ I (j + 1) f' S')
    (he : ∀ f S, I n f S → ∃ f' S', evC O k b f S = some (.exit id, f', S') ∧ Q f' S') {f : Fr} {S : St} (hI : I 0 f S) :
    ∃ f' S', evC O k (.block id (.loop b)) f S = some (.normal, f', S') ∧ Q f' S' := by
  obtain ⟨e, f', S', h1, _, rfl, h3⟩ := iter_ok (step := evC O k b) (I := I) (Q := fun e f S => e = .exit id ∧ Q f S) n
    (fun j hj f S h => .inl (hs j hj f S h)) (fun f S h => by obtain ⟨f', S', a, b⟩ := he f S h; exact ⟨_, f', S', a, by simp, rfl, b⟩) k 0 (by omega) (by omega) f S hI
  exact ⟨f', S', by simp [evC, h1], h3⟩

theorem ix_fz {u : List UInt8} {fl : Bool} {n j : Nat} (hn : u.length = n) (hj : j < n) (S : St) :
    iaddrSA 1 (.fz fl n (bcells u)) (.int .i64 (j : Int)) = some (.fq [.int .u8 ((u.getD j 0).toNat : Int)]) := by
  subst hn
  have h1 : ((bcells u).drop j).take 1 = [.int .u8 ((u.getD j 0).toNat : Int)] := by
    rw [List.drop_eq_getElem_cons (by rw [bcells_len]; exact hj)]
    simp [bcells, hj]
  have h2 : (j : Int) < u.length := by omega
  simp [iaddrSA, bcells_len, h2, h1]

theorem ix_sl {S : St} {x : List UInt8} {r v n j : Nat} (hS : S[r]? = some (.live v (bcells x))) (hn : x.length = n) (hj : j < n) :
    iaddrSA 1 (.sl r v 0 n 1) (.int .i64 (j : Int)) = some (.ptr r v j) ∧ loadA none (.ptr r v j) S = some (.int .u8 ((x.getD j 0).toNat : Int)) := by
  subst hn
  have h2 : (j : Int) < x.length := by omega
  refine ⟨by simp [iaddrSA, h2], ?_⟩
  simp [loadA, hS, partA, bcells, hj]

theorem load_fq (v : AVal) (r : List AVal) (S : St) : loadA none (.fq (v :: r)) S = some v := rfl

theorem wrap_nat {n : Nat} (h : n < 9223372036854775808) : IntKind.i64.wrap (n : Int) = n := by
  simp [IntKind.wrap, IntKind.bits, IntKind.signed]
  omega

theorem and_low (f : Int) (m : Nat) (hm : m < 1000000) : ∃ w : Nat, binA .and (.int .i64 f) (.int .i64 (m : Int)) = some (.int .i64 (w : Int)) ∧ w ≤ m := by
  have h1 : (BitVec.ofInt 64 f &&& BitVec.ofInt 64 (m : Int)).toNat ≤ m := by
    rw [BitVec.toNat_and]
    refine Nat.le_trans Nat.and_le_right ?_
    simp; omega
  refine ⟨(BitVec.ofInt 64 f &&& BitVec.ofInt 64 (m : Int)).toNat, ?_, h1⟩
  simp only [binA, intBin]
  rw [if_neg (by simp), if_pos trivial]
  rw [show IntKind.i64.bits = 64 from rfl, wrap_nat (by omega)]

/-- An argument of bytes. -/
theorem arg_bytes {x : Option (List Int)} (h : (DT.sl (.int .u8)).Wf x) : ∃ u : List UInt8, ((DT.sl (.int .u8)).one x = .nils ∧ u = []) ∨ (DT.sl (.int .u8)).one x = .fz false u.length (bcells u) := by
  cases x with
  | none => exact ⟨[], .inl ⟨rfl, rfl⟩⟩
  | some l =>
    obtain ⟨u, h1, h2⟩ := bytes_arg l (fun n hn => h.2 n hn)
    refine ⟨u, .inr ?_⟩
    simp only [DT.one, h2, h1]

theorem wrap64 {n : Int} (h : -9223372036854775808 ≤ n) (h' : n ≤ 9223372036854775807) : IntKind.i64.wrap n = n := by
  simp [IntKind.wrap, IntKind.bits, IntKind.signed]
  omega

/-- What a call made and hands back is told in place, and the rest of what it made is forgotten. -/
def Tellable (S U : St) : Prop := S.length ≤ U.length ∧ ∀ (r u : Nat) cells, r < S.length → U[r]? = some (.live u cells) → S[r]? = some (.live u cells) ∨ closedL S.length cells = true

noncomputable def tellM (k : Nat) (m : Model) : Model := fun args S => match m args S with
  | some (v, U) => open Classical in if Tellable S U then (deep U S.length k v).map fun u => (u, U.take S.length) else none
  | none => none

theorem Sound.tell {P : Program} {g : FuncId} {m : Model} (k : Nat) (h : Sound P g m) : Sound P g (tellM k m) := by
  intro W hW args S v S' hv
  unfold tellM at hv
  split at hv
  · rename_i u U hm
    split at hv
    · rename_i ht
      simp only [Option.map_eq_some_iff] at hv
      obtain ⟨x, hx, he⟩ := hv
      cases he
      obtain ⟨h1, h2⟩ := h W hW args S u U hm
      refine ⟨h1, ACalls.tell (S0 := U.take S.length) (T := U.drop S.length) (k := k) (v := u) ?_ (by simp [ht.1]) ?_ ?_⟩
      · simpa using h2
      · intro r w cells hr
        rw [List.getElem?_take] at hr
        split at hr
        · rename_i hlt; exact ht.2 r w cells hlt hr
        · simp at hr
      · simpa using hx
    · simp at hv
  · simp at hv

theorem tellM_of {k : Nat} {m : Model} {args : List AVal} {S S0 T : St} {v u : AVal} (h : m args S = some (v, S0 ++ T)) (hl : S0.length = S.length)
    (hh : ∀ (r w : Nat) cells, r < S.length → S0[r]? = some (.live w cells) → S[r]? = some (.live w cells) ∨ closedL S.length cells = true) (hd : deep (S0 ++ T) S.length k v = some u) : tellM k m args S = some (u, S0) := by
  unfold tellM
  rw [h]
  have ht : Tellable S (S0 ++ T) := ⟨by simp [hl], fun r w cells hr hS => hh r w cells hr (by rwa [List.getElem?_append_left (by omega)] at hS)⟩
  simp only [if_pos ht, hd, Option.map_some]
  rw [← hl]; simp

/-- Where nothing that was there has turned. -/
theorem tellM_new {k : Nat} {m : Model} {args : List AVal} {S T : St} {v u : AVal} (h : m args S = some (v, S ++ T)) (hd : deep (S ++ T) S.length k v = some u) : tellM k m args S = some (u, S) :=
  tellM_of h rfl (fun _ _ _ _ h => .inl h) hd

theorem deep_bcells {S : St} {n k : Nat} (u : List UInt8) : (bcells u).mapM (deep S n (k + 1)) = some (bcells u) := by
  induction u with
  | nil => rfl
  | cons b u ih =>
    have h1 : deep S n (k + 1) (.int .u8 (b.toNat : Int)) = some (.int .u8 (b.toNat : Int)) := rfl
    simp only [bcells, List.map_cons] at ih ⊢
    rw [List.mapM_cons, h1, ih]; rfl

theorem deep_sl {S : St} {n k r v off len sz : Nat} {cells cs : List AVal} (hr : n ≤ r) (hS : S[r]? = some (.live v cells)) (hl : off + len * sz ≤ cells.length)
    (hm : ((cells.drop off).take (len * sz)).mapM (deep S n k) = some cs) : deep S n (k + 1) (.sl r v off len sz) = some (.fz false len cs) := by
  simp only [deep]
  rw [if_neg (by omega), hS]
  simp only [true_and, if_pos hl, hm, Option.map_some]

theorem closed_bcells (n : Nat) (u : List UInt8) : closedL n (bcells u) = true := by
  rw [closedL_iff]; intro c hc
  simp only [bcells, List.mem_map] at hc
  obtain ⟨b, _, rfl⟩ := hc; rfl
end Am
