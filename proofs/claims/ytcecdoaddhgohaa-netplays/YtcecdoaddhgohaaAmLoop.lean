/- Loops of the machine; arguments of bytes. -/
import Derived.Test.YtcecdoaddhgohaaAmHeap
set_option linter.all false
namespace Am
open Go

theorem iter_ok {step : Fr → St → Option Out} {I : Nat → Fr → St → Prop} {Q : Ex → Fr → St → Prop} (n : Nat)
    (hs : ∀ j, j < n → ∀ f S, I j f S → (∃ f' S', step f S = some (.normal, f', S') ∧ I (j + 1) f' S') ∨ ∃ e f' S', step f S = some (e, f', S') ∧ e ≠ .normal ∧ Q e f' S')
    (he : ∀ f S, I n f S → ∃ e f' S', step f S = some (e, f', S') ∧ e ≠ .normal ∧ Q e f' S') :
    ∀ (fuel j : Nat), j ≤ n → n - j < fuel → ∀ f S, I j f S → ∃ e f' S', iter step fuel f S = some (e, f', S') ∧ e ≠ .normal ∧ Q e f' S'
  | 0, j, _, h, _, _, _ => by omega
  | fuel + 1, j, hj, hf, f, S, hI => by
    have fin : ∀ e f' S', step f S = some (e, f', S') → e ≠ .normal → Q e f' S' → ∃ e f' S', iter step (fuel + 1) f S = some (e, f', S') ∧ e ≠ .normal ∧ Q e f' S' := by
      intro e f' S' h1 h2 h3
      refine ⟨e, f', S', ?_, h2, h3⟩
      simp only [iter, h1]
      cases e with
      | normal => exact absurd rfl h2
      | _ => rfl
    by_cases e : j = n
    · subst e
      obtain ⟨e, f', S', h1, h2, h3⟩ := he f S hI
      exact fin e f' S' h1 h2 h3
    · rcases hs j (by omega) f S hI with ⟨f', S', h1, h2⟩ | ⟨e, f', S', h1, h2, h3⟩
      · obtain ⟨e, f2, S2, a, b, c⟩ := iter_ok n hs he fuel (j + 1) (by omega) (by omega) f' S' h2
        refine ⟨e, f2, S2, ?_, b, c⟩
        simp only [iter, h1, a]
      · exact fin e f' S' h1 h2 h3

/-- What an evaluation ends in. -/
def Post (o : Option Out) (Q : Ex → Fr → St → Prop) : Prop :=
  match o with
  | some (e, f, S) => Q e f S
  | none => False

theorem Post.ex {o : Option Out} {Q : Ex → Fr → St → Prop} (h : Post o Q) : ∃ e f S, o = some (e, f, S) ∧ Q e f S := by
  unfold Post at h
  split at h
  · exact ⟨_, _, _, rfl, h⟩
  · exact h.elim

theorem Post.mono {o : Option Out} {Q Q' : Ex → Fr → St → Prop} (h : Post o Q) (hq : ∀ e f S, Q e f S → Q' e f S) : Post o Q' := by
  obtain ⟨e, f, S, rfl, a⟩ := h.ex
  exact hq _ _ _ a

theorem Post.seq {O : Orc} {k : Nat} {a b : ACode} {f : Fr} {S : St} {Q : Ex → Fr → St → Prop}
    (h : Post (evC O k a f S) fun e f' S' => (e = .normal → Post (evC O k b f' S') Q) ∧ (e ≠ .normal → Q e f' S')) : Post (evC O k (.seq a b) f S) Q := by
  obtain ⟨e, f', S', h1, h2, h3⟩ := h.ex
  simp only [evC, h1]
  cases e with
  | normal => exact h2 rfl
  | _ => exact h3 (by simp)

theorem Post.block {O : Orc} {k id : Nat} {b : ACode} {f : Fr} {S : St} {Q : Ex → Fr → St → Prop}
    (h : Post (evC O k b f S) fun e f' S' => Q (if e = .exit id then .normal else e) f' S') : Post (evC O k (.block id b) f S) Q := by
  obtain ⟨e, f', S', h1, h2⟩ := h.ex
  simp only [evC, h1]
  cases e with
  | exit i =>
    by_cases e : i = id
    · subst e; simpa [Post] using h2
    · simpa [Post, e] using h2
  | _ => simpa [Post] using h2

theorem Post.of {o : Option Out} {e : Ex} {f : Fr} {S : St} {Q : Ex → Fr → St → Prop} (h : o = some (e, f, S)) (hq : Q e f S) : Post o Q := by
  subst h; exact hq

/-- A function's end. -/
theorem evF_post {O : Orc} {k : Nat} {F : AFun} {args : List AVal} {S : St} {v : AVal} {S' : St} (hl : args.length = F.params)
    (h : Post (evC O k F.body (Fr.of args) S) fun e f S1 => (e = .normal ∨ e = .ret) ∧ resultsA f S1 F.results = some v ∧ S1 = S') : evF O k F args S = some (v, S') := by
  obtain ⟨e, f, S1, h1, h2, h3, rfl⟩ := h.ex
  unfold evF
  rw [if_pos hl, h1]
  rcases h2 with rfl | rfl <;> simp [h3]

/-- A loop in its block, round by round. -/
theorem loop_post {O : Orc} {k id : Nat} {b : ACode} {I : Nat → Fr → St → Prop} {Q : Fr → St → Prop} (n : Nat) (hk : n < k)
    (hs : ∀ j, j < n → ∀ f S, I j f S → Post (evC O k b f S) fun e f' S' => e = .normal ∧ I (j + 1) f' S')
    (he : ∀ f S, I n f S → Post (evC O k b f S) fun e f' S' => e = .exit id ∧ Q f' S') {f : Fr} {S : St} (hI : I 0 f S) :
    ∃ f' S', evC O k (.block id (.loop b)) f S = some (.normal, f', S') ∧ Q f' S' := by
  obtain ⟨e, f', S', h1, _, rfl, h3⟩ := iter_ok (step := evC O k b) (I := I) (Q := fun e f S => e = .exit id ∧ Q f S) n
    (fun j hj f S h => .inl (by obtain ⟨e, f', S', a, rfl, b⟩ := (hs j hj f S h).ex; exact ⟨f', S', a, b⟩)) (fun f S h => by obtain ⟨e, f', S', a, rfl, b⟩ := (he f S h).ex; exact ⟨_, f', S', a, by simp, rfl, b⟩) k 0 (by omega) (by omega) f S hI
  exact ⟨f', S', by simp [evC, h1], h3⟩

/-- A loop in its block: rounds, and then the end. -/
theorem loop_ok {O : Orc} {k id : Nat} {b : ACode} {I : Nat → Fr → St → Prop} {Q : Fr → St → Prop} (n : Nat) (hk : n < k)
    (hs : ∀ j, j < n → ∀ f S, I j f S → ∃ f' S', evC O k b f S = some (.normal, f', S') ∧ I (j + 1) f' S')
    (he : ∀ f S, I n f S → ∃ f' S', evC O k b f S = some (.exit id, f', S') ∧ Q f' S') {f : Fr} {S : St} (hI : I 0 f S) :
    ∃ f' S', evC O k (.block id (.loop b)) f S = some (.normal, f', S') ∧ Q f' S' := by
  obtain ⟨e, f', S', h1, _, rfl, h3⟩ := iter_ok (step := evC O k b) (I := I) (Q := fun e f S => e = .exit id ∧ Q f S) n
    (fun j hj f S h => .inl (hs j hj f S h)) (fun f S h => by obtain ⟨f', S', a, b⟩ := he f S h; exact ⟨_, f', S', a, by simp, rfl, b⟩) k 0 (by omega) (by omega) f S hI
  exact ⟨f', S', by simp [evC, h1], h3⟩

theorem ix_fz {u : List UInt8} {fl : Bool} {n j : Nat} (hn : u.length = n) (hj : j < n) (S : St) :
    iaddrSA 1 (.fz fl n (bcells u)) (.int .i64 (j : Int)) = some (.fq [.int .u8 ((u.getD j 0).toNat : Int)]) := by
  subst hn
  have h1 : ((bcells u).drop j).take 1 = [.int .u8 ((u.getD j 0).toNat : Int)] := by
    rw [List.drop_eq_getElem_cons (by rw [bcells_len]; exact hj)]
    simp [bcells, hj]
  have h2 : (j : Int) < u.length := by omega
  simp [iaddrSA, bcells_len, h2, h1]

theorem ix_sl {S : St} {x : List UInt8} {r v n j : Nat} (hS : S[r]? = some (.live v (bcells x))) (hn : x.length = n) (hj : j < n) :
    iaddrSA 1 (.sl r v 0 n 1) (.int .i64 (j : Int)) = some (.ptr r v j) ∧ loadA none (.ptr r v j) S = some (.int .u8 ((x.getD j 0).toNat : Int)) := by
  subst hn
  have h2 : (j : Int) < x.length := by omega
  refine ⟨by simp [iaddrSA, h2], ?_⟩
  simp [loadA, hS, partA, bcells, hj]

theorem load_fq (v : AVal) (r : List AVal) (S : St) : loadA none (.fq (v :: r)) S = some v := rfl

theorem wrap_nat {n : Nat} (h : n < 9223372036854775808) : IntKind.i64.wrap (n : Int) = n := by
  simp [IntKind.wrap, IntKind.bits, IntKind.signed]
  omega

theorem and_low (f : Int) (m : Nat) (hm : m < 1000000) : ∃ w : Nat, binA .and (.int .i64 f) (.int .i64 (m : Int)) = some (.int .i64 (w : Int)) ∧ w ≤ m := by
  have h1 : (BitVec.ofInt 64 f &&& BitVec.ofInt 64 (m : Int)).toNat ≤ m := by
    rw [BitVec.toNat_and]
    refine Nat.le_trans Nat.and_le_right ?_
    simp; omega
  refine ⟨(BitVec.ofInt 64 f &&& BitVec.ofInt 64 (m : Int)).toNat, ?_, h1⟩
  simp only [binA, intBin]
  rw [if_neg (by simp), if_pos trivial]
  rw [show IntKind.i64.bits = 64 from rfl, wrap_nat (by omega)]

/-- An argument of bytes. -/
theorem arg_bytes {x : Option (List Int)} (h : (DT.sl (.int .u8)).Wf x) : ∃ u : List UInt8, ((DT.sl (.int .u8)).one x = .nils ∧ u = []) ∨ (DT.sl (.int .u8)).one x = .fz false u.length (bcells u) := by
  cases x with
  | none => exact ⟨[], .inl ⟨rfl, rfl⟩⟩
  | some l =>
    obtain ⟨u, h1, h2⟩ := bytes_arg l (fun n hn => h.2 n hn)
    refine ⟨u, .inr ?_⟩
    simp only [DT.one, h2, h1]
end Am
