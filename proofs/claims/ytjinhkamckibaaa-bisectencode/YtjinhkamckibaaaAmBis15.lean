import Derived.Test.YtjinhkamckibaaaAmBis9
set_option linter.all false
/- Messages: whether one may be. -/
section
namespace Am.Bis
open Am Go Am.Ir Am.Sha
set_option maxRecDepth 100000

theorem eqFlats_bytes : ∀ (u w : List UInt8), u.length = w.length → eqFlats (List.replicate u.length CK.i) (bcells u) (bcells w) = some (u == w)
  | [], [], _ => rfl
  | a :: u, b :: w, h => by
    have ih := eqFlats_bytes u w (by simpa using h)
    have hab : ((a.toNat : Int) == (b.toNat : Int)) = (a == b) := by
      rw [Bool.eq_iff_iff]; simp only [beq_iff_eq]
      constructor
      · intro e; exact UInt8.toNat_inj.1 (by omega)
      · intro e; rw [e]
    show eqFlats (CK.i :: List.replicate u.length CK.i) (AVal.int .u8 (a.toNat : Int) :: bcells u) (AVal.int .u8 (b.toNat : Int) :: bcells w) = _
    simp only [eqFlats, eqFlat, if_pos, ih, hab]
    rfl
  | [], _ :: _, h => by simp at h
  | _ :: _, [], h => by simp at h

theorem eq32 {u w : List UInt8} (hu : u.length = 32) (hw : w.length = 32) : eqFlats [CK.i, CK.i, CK.i, CK.i, CK.i, CK.i, CK.i, CK.i, CK.i, CK.i, CK.i, CK.i, CK.i, CK.i, CK.i, CK.i, CK.i, CK.i, CK.i, CK.i, CK.i, CK.i, CK.i, CK.i, CK.i, CK.i, CK.i, CK.i, CK.i, CK.i, CK.i, CK.i] (bcells u) (bcells w) = some (u == w) := by
  have := eqFlats_bytes u w (by omega)
  rw [hu] at this
  exact this

/-- A message, but for its bytes. -/
structure Msg where
  k : Int
  s : List UInt8
  n : List UInt8
  lo : Int
  hi : Int
  h : List UInt8

/-- A message's cells. -/
def Msg.c (m : Msg) (b : AVal) : List AVal := [.int .i64 m.k, .str m.s, .str m.n, .int .i64 m.lo, .int .i64 m.hi] ++ bcells m.h ++ [b]

/-- A message such as may be asked about. -/
structure Msg.Ok (m : Msg) : Prop where
  h : m.h.length = 32
  s : m.s.length ≤ 1000
  n : m.n.length ≤ 1000
  k : -9223372036854775808 ≤ m.k ∧ m.k ≤ 9223372036854775807
  lo : -9223372036854775808 ≤ m.lo ∧ m.lo ≤ 9223372036854775807
  hi : -9223372036854775808 ≤ m.hi ∧ m.hi ≤ 9223372036854775807

def mayL (m : Msg) (w : List UInt8) : Bool :=
  nameB m.s && nameB m.n && decide (0 ≤ m.lo) && decide (m.lo < m.hi) && decide (m.hi ≤ 16) &&
    (decide (m.k = 1 ∧ w = []) || decide (m.k = 2 ∧ m.hi = m.lo + 1 ∧ w.length = 256 ∧ sha w = m.h))

/-- A message lies in a block. -/
structure MsgAt (S : St) (q : Nat) (m : Msg) (b : AVal) : Prop where
  at' : S[q]? = some (.live 0 (m.c b))
  h : m.h.length = 32

theorem MsgAt.ld {S : St} {q : Nat} {m : Msg} {b : AVal} (h : MsgAt S q m b) :
    loadA none (.ptr q 0 0) S = some (.int .i64 m.k) ∧ loadA none (.ptr q 0 1) S = some (.str m.s) ∧ loadA none (.ptr q 0 2) S = some (.str m.n) ∧
    loadA none (.ptr q 0 3) S = some (.int .i64 m.lo) ∧ loadA none (.ptr q 0 4) S = some (.int .i64 m.hi) ∧ loadA (some 32) (.ptr q 0 5) S = some (.agg (bcells m.h)) ∧
    loadA none (.ptr q 0 37) S = some b ∧ loadA (some 38) (.ptr q 0 0) S = some (.agg (m.c b)) := by
  have hl : (m.c b).length = 38 := by simp [Msg.c, bcells_len, h.h]
  have hb : (bcells m.h).length = 32 := by rw [bcells_len, h.h]
  have e5 : (m.c b).drop 5 = bcells m.h ++ [b] := rfl
  refine ⟨?_, ?_, ?_, ?_, ?_, ?_, ?_, ?_⟩ <;> simp only [loadA, h.at', partA, if_pos]
  · rfl
  · rfl
  · rfl
  · rfl
  · rfl
  · rw [if_pos (by omega), e5, List.take_left' hb]
  · have : (m.c b)[37]? = ((m.c b).drop 5)[32]? := by rw [List.getElem?_drop]
    rw [this, e5, List.getElem?_append_right (by omega), hb]; rfl
  · rw [if_pos (by omega), List.drop_zero, List.take_of_length_le (by omega)]

noncomputable def xMay : Model := exM (orc [mIsName, mSumP]) bisect_May 10

theorem isNameP (l : List UInt8) (S : St) : mIsName [.str l] S = some (.bool (nameB l), S) := rfl

theorem may_ok {S : St} {m : Msg} {b : AVal} {w : List UInt8} (hm : m.Ok) (hb : Rd S b w) (hw : w.length ≤ 10000) :
    ∃ X, xMay [.agg (m.c b)] S = some (.bool (mayL m w), S ++ X) := by
  refine ⟨[.live 0 (m.c b)], ?_⟩
  obtain ⟨S1, hS1⟩ : ∃ S1 : St, S ++ [.live 0 (m.c b)] = S1 := ⟨_, rfl⟩
  have hk1 : Keeps S S1 [] := by rw [← hS1]; exact Keeps.append ..
  have hA : MsgAt S1 S.length m b := ⟨by rw [← hS1]; simp, hm.h⟩
  obtain ⟨l0, l1, l2, l3, l4, l5, l37, _⟩ := hA.ld
  rw [hS1]
  have hb1 := hb.keep hk1
  have hlen := hb1.len
  have hcell : cells? (.agg (m.c b)) = some (m.c b) := rfl
  have hlo := hm.lo
  have hhi := hm.hi
  by_cases hs : nameB m.s = true
  rotate_left
  · have hs' : nameB m.s = false := by simpa using hs
    have hn1 := isNameP m.s S1
    rw [hs'] at hn1
    have e : mayL m w = false := by simp [mayL, hs']
    rw [e]
    simp [xMay, exM, bisect_May, exM, orc, orcD, evF, evC, evOps, evOper, evAny, evOp, evCall, putR, putA, Fr.ev, Fr.of, Fr.get, Fr.set, stable, junkA, junkL, resultsA, resA, same, hcell, hS1, faddrA, l1, hn1, unA, Fr.get_set]
  have hn1 := isNameP m.s S1
  rw [hs] at hn1
  by_cases hn : nameB m.n = true
  rotate_left
  · have hn' : nameB m.n = false := by simpa using hn
    have hn2 := isNameP m.n S1
    rw [hn'] at hn2
    have e : mayL m w = false := by simp [mayL, hn']
    rw [e]
    simp [xMay, exM, bisect_May, exM, orc, orcD, evF, evC, evOps, evOper, evAny, evOp, evCall, putR, putA, Fr.ev, Fr.of, Fr.get, Fr.set, stable, junkA, junkL, resultsA, resA, same, hcell, hS1, faddrA, l1, l2, hn1, hn2, unA, Fr.get_set]
  have hn2 := isNameP m.n S1
  rw [hn] at hn2
  by_cases h0 : 0 ≤ m.lo
  rotate_left
  · have c1 : binA .lss (.int .i64 m.lo) (.int .i64 0) = some (.bool true) := lss_t (by omega)
    have e : mayL m w = false := by simp [mayL, h0]
    rw [e]
    simp [xMay, exM, bisect_May, exM, orc, orcD, evF, evC, evOps, evOper, evAny, evOp, evCall, putR, putA, Fr.ev, Fr.of, Fr.get, Fr.set, stable, junkA, junkL, resultsA, resA, same, hcell, hS1, faddrA, l1, l2, l3, hn1, hn2, c1, unA, Fr.get_set]
  have c1 : binA .lss (.int .i64 m.lo) (.int .i64 0) = some (.bool false) := lss_f (by omega)
  by_cases h1 : m.lo < m.hi
  rotate_left
  · have c2 : binA .geq (.int .i64 m.lo) (.int .i64 m.hi) = some (.bool true) := geq_t (by omega)
    have e : mayL m w = false := by simp [mayL, h1]
    rw [e]
    simp [xMay, exM, bisect_May, exM, orc, orcD, evF, evC, evOps, evOper, evAny, evOp, evCall, putR, putA, Fr.ev, Fr.of, Fr.get, Fr.set, stable, junkA, junkL, resultsA, resA, same, hcell, hS1, faddrA, l1, l2, l3, l4, hn1, hn2, c1, c2, unA, Fr.get_set]
  have c2 : binA .geq (.int .i64 m.lo) (.int .i64 m.hi) = some (.bool false) := geq_f (by omega)
  by_cases h2 : m.hi ≤ 16
  rotate_left
  · have c3 : binA .gtr (.int .i64 m.hi) (.int .i64 16) = some (.bool true) := gtr_t (by omega)
    have e : mayL m w = false := by simp [mayL, h2]
    rw [e]
    simp [xMay, exM, bisect_May, exM, orc, orcD, evF, evC, evOps, evOper, evAny, evOp, evCall, putR, putA, Fr.ev, Fr.of, Fr.get, Fr.set, stable, junkA, junkL, resultsA, resA, same, hcell, hS1, faddrA, l1, l2, l3, l4, hn1, hn2, c1, c2, c3, unA, Fr.get_set]
  have c3 : binA .gtr (.int .i64 m.hi) (.int .i64 16) = some (.bool false) := gtr_f (by omega)
  have e : mayL m w = (decide (m.k = 1 ∧ w = []) || decide (m.k = 2 ∧ m.hi = m.lo + 1 ∧ w.length = 256 ∧ sha w = m.h)) := by simp [mayL, hs, hn, h0, h1, h2]
  rw [e]
  by_cases k1 : m.k = 1
  · have d1 : binA .eql (.int .i64 m.k) (.int .i64 1) = some (.bool true) := eql_t k1
    have d2 : binA .eql (.int .i64 (w.length : Int)) (.int .i64 0) = some (.bool (decide (w = []))) := by
      by_cases hw0 : w = []
      · subst hw0; rfl
      · have : w.length ≠ 0 := fun h => hw0 (List.length_eq_zero_iff.1 h)
        rw [eql_f (by omega)]; simp [hw0]
    have e2 : (decide (m.k = 1 ∧ w = []) || decide (m.k = 2 ∧ m.hi = m.lo + 1 ∧ w.length = 256 ∧ sha w = m.h)) = decide (w = []) := by
      have : m.k ≠ 2 := by omega
      simp [k1]
    rw [e2]
    generalize decide (w = []) = dd at *
    generalize (w.length : Int) = zw at *
    simp [xMay, exM, bisect_May, exM, orc, orcD, evF, evC, evOps, evOper, evAny, evOp, evCall, putR, putA, Fr.ev, Fr.of, Fr.get, Fr.set, stable, junkA, junkL, resultsA, resA, same, hcell, hS1, faddrA, l0, l1, l2, l3, l4, l37, hlen, hn1, hn2, c1, c2, c3, d1, d2, unA, Fr.get_set]
  have d1 : binA .eql (.int .i64 m.k) (.int .i64 1) = some (.bool false) := eql_f k1
  by_cases k2 : m.k = 2
  rotate_left
  · have d2 : binA .eql (.int .i64 m.k) (.int .i64 2) = some (.bool false) := eql_f k2
    have e2 : (decide (m.k = 1 ∧ w = []) || decide (m.k = 2 ∧ m.hi = m.lo + 1 ∧ w.length = 256 ∧ sha w = m.h)) = false := by simp [k1, k2]
    rw [e2]
    simp [xMay, exM, bisect_May, exM, orc, orcD, evF, evC, evOps, evOper, evAny, evOp, evCall, putR, putA, Fr.ev, Fr.of, Fr.get, Fr.set, stable, junkA, junkL, resultsA, resA, same, hcell, hS1, faddrA, l0, l1, l2, l3, l4, hn1, hn2, c1, c2, c3, d1, d2, unA, Fr.get_set]
  have d2 : binA .eql (.int .i64 m.k) (.int .i64 2) = some (.bool true) := eql_t k2
  have d3 : binA .sub (.int .i64 m.hi) (.int .i64 m.lo) = some (.int .i64 (m.hi - m.lo)) := sub_i (by omega) (by omega)
  by_cases k3 : m.hi = m.lo + 1
  rotate_left
  · have d4 : binA .eql (.int .i64 (m.hi - m.lo)) (.int .i64 1) = some (.bool false) := eql_f (by omega)
    have e2 : (decide (m.k = 1 ∧ w = []) || decide (m.k = 2 ∧ m.hi = m.lo + 1 ∧ w.length = 256 ∧ sha w = m.h)) = false := by simp [k1, k3]
    rw [e2]
    generalize m.hi - m.lo = zd at *
    simp [xMay, exM, bisect_May, exM, orc, orcD, evF, evC, evOps, evOper, evAny, evOp, evCall, putR, putA, Fr.ev, Fr.of, Fr.get, Fr.set, stable, junkA, junkL, resultsA, resA, same, hcell, hS1, faddrA, l0, l1, l2, l3, l4, hn1, hn2, c1, c2, c3, d1, d2, d3, d4, unA, Fr.get_set, trL, sameRead, sameVal, beqV_refl]
  have d4 : binA .eql (.int .i64 (m.hi - m.lo)) (.int .i64 1) = some (.bool true) := eql_t (by omega)
  by_cases k4 : w.length = 256
  rotate_left
  · have d5 : binA .eql (.int .i64 (w.length : Int)) (.int .i64 256) = some (.bool false) := eql_f (by omega)
    have e2 : (decide (m.k = 1 ∧ w = []) || decide (m.k = 2 ∧ m.hi = m.lo + 1 ∧ w.length = 256 ∧ sha w = m.h)) = false := by simp [k1, k4]
    rw [e2]
    generalize m.hi - m.lo = zd at *
    generalize (w.length : Int) = zw at *
    simp [xMay, exM, bisect_May, exM, orc, orcD, evF, evC, evOps, evOper, evAny, evOp, evCall, putR, putA, Fr.ev, Fr.of, Fr.get, Fr.set, stable, junkA, junkL, resultsA, resA, same, hcell, hS1, faddrA, l0, l1, l2, l3, l4, l37, hlen, hn1, hn2, c1, c2, c3, d1, d2, d3, d4, d5, unA, Fr.get_set, trL, sameRead, sameVal, beqV_refl]
  have d5 : binA .eql (.int .i64 (w.length : Int)) (.int .i64 256) = some (.bool true) := eql_t (by omega)
  have d6 := sumP_ok hb1 (by omega)
  have d7 := eq32 (sha_len w) hm.h
  have e2 : (decide (m.k = 1 ∧ w = []) || decide (m.k = 2 ∧ m.hi = m.lo + 1 ∧ w.length = 256 ∧ sha w = m.h)) = (sha w == m.h) := by
    rw [Bool.eq_iff_iff]; simp [k1, k2, k3, k4]
  rw [e2]
  generalize (sha w == m.h) = dd at *
  generalize m.hi - m.lo = zd at *
  generalize (w.length : Int) = zw at *
  simp [xMay, exM, bisect_May, exM, orc, orcD, evF, evC, evOps, evOper, evAny, evOp, evCall, putR, putA, Fr.ev, Fr.of, Fr.get, Fr.set, stable, junkA, junkL, resultsA, resA, same, hcell, hS1, faddrA, l0, l1, l2, l3, l4, l5, l37, hlen, hn1, hn2, c1, c2, c3, d1, d2, d3, d4, d5, d6, d7, unA, Fr.get_set, trL, sameRead, sameVal, beqV_refl]
end Am.Bis
end

/- Messages as they are written: pieces; the program's Encode. -/
section
namespace Am.Bis
open Am Go Am.Ir Am.Sha
set_option maxRecDepth 100000

noncomputable def mMay : Model := tellM 1 xMay

theorem mMay_ok {S : St} {m : Msg} {b : AVal} {w : List UInt8} (hm : m.Ok) (hb : Rd S b w) (hw : w.length ≤ 10000) :
    mMay [.agg (m.c b)] S = some (.bool (mayL m w), S) := by
  obtain ⟨X, h⟩ := may_ok hm hb hw
  exact tellM_new h rfl

def u8i (n : Int) : UInt8 := UInt8.ofNat (n % 256).toNat
theorem u8i_wrap (n : Int) : IntKind.u8.wrap n = ((u8i n).toNat : Int) := by
  have h : (n % 256).toNat < 256 := by omega
  have e : (u8i n).toNat = (n % 256).toNat := by
    simp only [u8i]; rw [UInt8.toNat_ofNat']; exact Nat.mod_eq_of_lt h
  rw [e]
  simp [IntKind.wrap, IntKind.bits, IntKind.signed]; omega

/-- All of a message but the sum. -/
def aheadL (m : Msg) (w : List UInt8) : List UInt8 := [u8i m.k] ++ putStr m.s ++ putStr m.n ++ [u8i m.lo, u8i m.hi] ++ m.h ++ putStr w
def encL (m : Msg) (w : List UInt8) : List UInt8 := aheadL m w ++ (sha (aheadL m w)).take 4
def encV (m : Msg) (w : List UInt8) : AVal := if mayL m w = true then .fz false (encL m w).length (bcells (encL m w)) else .nils
def encE (m : Msg) (w : List UInt8) : Int := if mayL m w = true then 0 else 1

theorem newMsg (T : St) (w : List UInt8) : MsgI (T ++ [.live 0 (bcells w)]) (.sl T.length 0 0 w.length 1) w T.length := ⟨0, rfl, by simp⟩

theorem MsgAt.keep {S T : St} {q : Nat} {m : Msg} {b : AVal} (h : MsgAt S q m b) (hk : Keeps S T []) : MsgAt T q m b := ⟨hk.get h.at' (by simp), h.h⟩

/-- A message's hash, as a slice. -/
theorem MsgAt.hash {S : St} {q : Nat} {m : Msg} {b : AVal} (h : MsgAt S q m b) : slcAA 1 32 (.ptr q 0 5) none none S = some (.sl q 0 5 32 1) ∧ Rd S (.sl q 0 5 32 1) m.h := by
  have hl : (m.c b).length = 38 := by simp [Msg.c, bcells_len, h.h]
  have hb : (bcells m.h).length = 32 := by rw [bcells_len, h.h]
  have e5 : (m.c b).drop 5 = bcells m.h ++ [b] := rfl
  constructor
  · simp [slcAA, bounds, h.at', hl]
  · refine ⟨.inl ⟨_, _, _, _, rfl⟩, ?_⟩
    simp only [cellsOf, h.at', e5]
    rw [if_pos ⟨trivial, trivial, by omega⟩, h.h, List.take_left' (by omega)]

theorem first4 {S : St} {q : Nat} {u : List UInt8} (hu : u.length = 32) (hq : S[q]? = some (.live 0 (bcells u))) :
    slcAA 1 32 (.ptr q 0 0) none (some (.int .i64 4)) S = some (.sl q 0 0 4 1) ∧ Rd S (.sl q 0 0 4 1) (u.take 4) := by
  have hl : (bcells u).length = 32 := by rw [bcells_len, hu]
  constructor
  · simp [slcAA, bounds, hq, hl]
  · refine ⟨.inl ⟨_, _, _, _, rfl⟩, ?_⟩
    simp only [cellsOf, hq]
    rw [if_pos ⟨trivial, trivial, by omega⟩, List.drop_zero, List.length_take, hu, bcells_take']
    rfl

theorem putStr_len {w : List UInt8} : (putStr w).length ≤ w.length + 10 := by
  have := putF_len 10 w.length
  simp [putStr]; omega

noncomputable def xEncode : Model := exM (orc [mMay, xPutString, mSumP]) bisect_Encode 10

theorem encode_raw {S : St} {m : Msg} {b : AVal} {w : List UInt8} (hm : m.Ok) (hb : Rd S b w) (hw : w.length ≤ 10000) (hy : mayL m w = true) :
    ∃ y T r, xEncode [.agg (m.c b)] S = some (.tup [y, .int .i64 0], T) ∧ Keeps S T [] ∧ S.length ≤ r ∧ MsgI T y (encL m w) r := by
  obtain ⟨S1, hS1⟩ : ∃ S1 : St, S ++ [.live 0 (m.c b)] = S1 := ⟨_, rfl⟩
  have k1 : Keeps S S1 [] := by rw [← hS1]; exact Keeps.append ..
  have hA : MsgAt S1 S.length m b := ⟨by rw [← hS1]; simp, hm.h⟩
  have hb1 := hb.keep k1
  have hcell : cells? (.agg (m.c b)) = some (m.c b) := rfl
  have hmay := mMay_ok hm hb1 hw
  rw [hy] at hmay
  have hsl := hm.s
  have hnl := hm.n
  have cvk := u8i_wrap m.k
  have cvl := u8i_wrap m.lo
  have cvh := u8i_wrap m.hi
  obtain ⟨l0, l1, -, -, -, -, -, l38⟩ := hA.ld
  -- the kind
  obtain ⟨S2, hS2⟩ : ∃ S2 : St, S1 ++ [.live 0 [.int .u8 ((u8i m.k).toNat : Int)]] = S2 := ⟨_, rfl⟩
  have k2 : Keeps S1 S2 [] := by rw [← hS2]; exact Keeps.append ..
  have m2 : MsgI S2 (.sl S1.length 0 0 1 1) [u8i m.k] S1.length := by rw [← hS2]; exact newMsg S1 [u8i m.k]
  obtain ⟨-, l1, -⟩ := (hA.keep k2).ld
  -- the set
  obtain ⟨S3, hS3⟩ : ∃ S3 : St, S2 ++ [.live 0 (List.map (fun b => AVal.int IntKind.u8 (b.toNat : Int)) m.s)] = S3 := ⟨_, rfl⟩
  have k3 : Keeps S2 S3 [] := by rw [← hS3]; exact Keeps.append ..
  have m3 : MsgI S3 (.sl S2.length 0 0 m.s.length 1) m.s S2.length := by rw [← hS3]; exact newMsg S2 m.s
  obtain ⟨y4, S4, r4, p4, k4, q4, m4⟩ := putString_ok (m2.keep k3 (by simp)).rd m3.rd (by simp) (by omega)
  have k14 : Keeps S1 S4 [] := (k2.after0 k3).after0 k4
  obtain ⟨-, -, l2, -⟩ := (hA.keep k14).ld
  have b4 := putStr_len (w := m.s)
  -- the snapshot
  obtain ⟨S5, hS5⟩ : ∃ S5 : St, S4 ++ [.live 0 (List.map (fun b => AVal.int IntKind.u8 (b.toNat : Int)) m.n)] = S5 := ⟨_, rfl⟩
  have k5 : Keeps S4 S5 [] := by rw [← hS5]; exact Keeps.append ..
  have m5 : MsgI S5 (.sl S4.length 0 0 m.n.length 1) m.n S4.length := by rw [← hS5]; exact newMsg S4 m.n
  obtain ⟨y6, S6, r6, p6, k6, q6, m6⟩ := putString_ok (m4.keep k5 (by simp)).rd m5.rd (by simp; omega) (by omega)
  have k16 : Keeps S1 S6 [] := (k14.after0 k5).after0 k6
  obtain ⟨-, -, -, l3, l4, -⟩ := (hA.keep k16).ld
  obtain ⟨sl6, -⟩ := (hA.keep k16).hash
  have b6 := putStr_len (w := m.n)
  -- the range
  obtain ⟨S7, hS7⟩ : ∃ S7 : St, S6 ++ [.live 0 [.int .u8 ((u8i m.lo).toNat : Int), .int .u8 ((u8i m.hi).toNat : Int)]] = S7 := ⟨_, rfl⟩
  have k7 : Keeps S6 S7 [] := by rw [← hS7]; exact Keeps.append ..
  have m7 : MsgI S7 (.sl S6.length 0 0 2 1) [u8i m.lo, u8i m.hi] S6.length := by rw [← hS7]; exact newMsg S6 [u8i m.lo, u8i m.hi]
  obtain ⟨sl7, -⟩ := (hA.keep (k16.after0 k7)).hash
  obtain ⟨y8, S8, p8, m8, k8⟩ := (m6.keep k7 (by simp)).app m7.cells (by simp; omega)
  have h1l : S1.length ≤ S6.length := k16.1
  have q1 : S1.length ≤ r6 := Nat.le_trans k14.1 (Nat.le_trans k5.1 q6)
  have k18 : Keeps S1 S8 [] := (k16.after0 k7).after k8 q1
  obtain ⟨sl8, rd8⟩ := (hA.keep k18).hash
  -- the hash
  have rc8 := rd8.cells
  rw [hm.h] at rc8
  obtain ⟨y9, S9, p9, m9, k9⟩ := m8.app rd8.cells (by simp [hm.h]; omega)
  have k19 : Keeps S1 S9 [] := k18.after k9 q1
  obtain ⟨-, -, -, -, -, -, l37, -⟩ := (hA.keep k19).ld
  have b9 := putStr_len (w := w)
  -- the block
  obtain ⟨y10, S10, r10, p10, k10, q10, m10⟩ := putString_ok m9.rd (hb1.keep k19) (by simp [hm.h]; omega) (by omega)
  have hahead : ([u8i m.k] ++ putStr m.s ++ putStr m.n ++ [u8i m.lo, u8i m.hi] ++ m.h ++ putStr w) = aheadL m w := rfl
  rw [hahead] at m10
  have hal : (aheadL m w).length ≤ 13000 := by simp [aheadL, hm.h]; omega
  -- the sum
  have hsum := sumP_ok m10.rd (by omega)
  obtain ⟨Z, hZ⟩ : ∃ Z : List AVal, List.replicate 32 (AVal.int .u8 0) = Z := ⟨_, rfl⟩
  have hZl : Z.length = 32 := by rw [← hZ]; simp
  have hZ' : [AVal.int .u8 0, .int .u8 0, .int .u8 0, .int .u8 0, .int .u8 0, .int .u8 0, .int .u8 0, .int .u8 0, .int .u8 0, .int .u8 0, .int .u8 0, .int .u8 0, .int .u8 0, .int .u8 0, .int .u8 0, .int .u8 0, .int .u8 0, .int .u8 0, .int .u8 0, .int .u8 0, .int .u8 0, .int .u8 0, .int .u8 0, .int .u8 0, .int .u8 0, .int .u8 0, .int .u8 0, .int .u8 0, .int .u8 0, .int .u8 0, .int .u8 0, .int .u8 0] = Z := hZ
  obtain ⟨S11, hS11⟩ : ∃ S11 : St, S10 ++ [.live 0 Z] = S11 := ⟨_, rfl⟩
  have k11 : Keeps S10 S11 [] := by rw [← hS11]; exact Keeps.append ..
  have hz : S11[S10.length]? = some (.live 0 Z) := by rw [← hS11]; simp
  have hst := store32 hZl (sha_len (aheadL m w)) hz
  obtain ⟨S12, hS12⟩ : ∃ S12 : St, S11.set S10.length (.live 0 (bcells (sha (aheadL m w)))) = S12 := ⟨_, rfl⟩
  rw [hS12] at hst
  have k12 : Keeps S11 S12 [S10.length] := by rw [← hS12]; exact Keeps.set ..
  have hq12 : S12[S10.length]? = some (.live 0 (bcells (sha (aheadL m w)))) := by rw [← hS12]; simp [live_lt hz]
  have hr10 : r10 < S10.length := m10.lt
  obtain ⟨f4, rf4⟩ := first4 (sha_len (aheadL m w)) hq12
  have hn12 : r10 ∉ [S10.length] := by simp; omega
  obtain ⟨y13, S13, p13, m13, k13⟩ := ((m10.keep k11 (by simp)).keep k12 hn12).app rf4.cells (by simp [sha_len]; omega)
  have hq13 : S.length ≤ r10 := Nat.le_trans k1.1 (Nat.le_trans k19.1 q10)
  have kk : Keeps S S10 [] := (k1.after0 k19).after0 k10
  refine ⟨y13, S13, r10, ?_, (((kk.after0 k11).after k12 kk.1).after k13 hq13), hq13, m13⟩
  clear hahead m13 m10 m9 m8 m7 m6 m5 m4 m3 m2
  unfold xEncode exM
  refine evF_post rfl rfl ?_
  simp only [bisect_Encode, Post_seq]
  generalize bcells (sha (aheadL m w)) = H at *
  generalize ((u8i m.k).toNat : Int) = zk at *
  generalize ((u8i m.lo).toNat : Int) = zlo at *
  generalize ((u8i m.hi).toNat : Int) = zhi at *
  generalize m.c b = M at *
  simp [exM, orc, orcD, evF, evC, evOps, evOper, evAny, evOp, evCall, putR, putA, Fr.ev, Fr.of, Fr.get, Fr.set, stable, junkA, junkL, resultsA, resA, same, hcell, hS1, faddrA, l38, hmay, unA, l0, cvk, fillA, cells?, splice, hS2, l1, hS3, p4, l2, hS5, p6, l3, l4, cvl, cvh, hS7, sl6, sl7, sl8, p8, p9, l37, p10, hsum, hZ', hS11, hst, f4, p13, Fr.get_set, trL, sameRead, sameVal, beqV_refl, resultsA, resA, Post_some]

noncomputable def mEncode : Model := tellM 3 xEncode

theorem encode_ok {S : St} {m : Msg} {b : AVal} {w : List UInt8} (hm : m.Ok) (hb : Rd S b w) (hw : w.length ≤ 10000) :
    mEncode [.agg (m.c b)] S = some (.tup [encV m w, .int .i64 (encE m w)], S) := by
  by_cases hy : mayL m w = true
  · obtain ⟨y, T, r, h1, h2, h3, h4⟩ := encode_raw hm hb hw hy
    obtain ⟨X, rfl⟩ := h2.split
    obtain ⟨v, rfl, hv⟩ := h4
    refine tellM_new h1 ?_
    have hd := deep_sl (S := S ++ X) (n := S.length) (k := 1) (off := 0) (len := (encL m w).length) (sz := 1) h3 hv (by rw [bcells_len]; omega) (cs := bcells (encL m w))
      (by rw [List.drop_zero, List.take_of_length_le (by rw [bcells_len]; omega)]; exact deep_bcells ..)
    simp only [encV, encE, if_pos hy]
    show (([_, _] : List AVal).mapM (deep (S ++ X) S.length 2)).map AVal.tup = _
    rw [List.mapM_cons, hd]; rfl
  · have hy' : mayL m w = false := by simpa using hy
    obtain ⟨S1, hS1⟩ : ∃ S1 : St, S ++ [.live 0 (m.c b)] = S1 := ⟨_, rfl⟩
    have k1 : Keeps S S1 [] := by rw [← hS1]; exact Keeps.append ..
    have hA : MsgAt S1 S.length m b := ⟨by rw [← hS1]; simp, hm.h⟩
    have hmay := mMay_ok hm (hb.keep k1) hw
    rw [hy'] at hmay
    obtain ⟨-, -, -, -, -, -, -, l38⟩ := hA.ld
    have hcell : cells? (.agg (m.c b)) = some (m.c b) := rfl
    have h1 : xEncode [.agg (m.c b)] S = some (.tup [.nils, .int .i64 1], S ++ [.live 0 (m.c b)]) := by
      rw [hS1]
      generalize m.c b = M at *
      simp [xEncode, exM, bisect_Encode, exM, orc, orcD, evF, evC, evOps, evOper, evAny, evOp, evCall, putR, putA, Fr.ev, Fr.of, Fr.get, Fr.set, stable, junkA, junkL, resultsA, resA, same, hcell, hS1, l38, hmay, unA, Fr.get_set]
    refine tellM_new h1 ?_
    simp only [encV, encE, hy']
    rfl
end Am.Bis
end

/- Messages, as the document has them: whether one may be; as they are written. -/
section
namespace Am.Bis
open Am Go Am.Ir Am.Sha
set_option maxRecDepth 100000

noncomputable def xMay2 : Model := exM (orc [xIsName2, mSum2]) r21_May 10

theorem isName2P {l : List UInt8} (h : l.length ≤ 1000) (S : St) : xIsName2 [.str l] S = some (.bool (nameB l), S) := isName2_ok h S

set_option maxHeartbeats 2000000 in
theorem may2_ok {S : St} {m : Msg} {b : AVal} {w : List UInt8} (hm : m.Ok) (hb : Rd S b w) (hw : w.length ≤ 10000) :
    ∃ X, xMay2 [.agg (m.c b)] S = some (.bool (mayL m w), S ++ X) := by
  refine ⟨[.live 0 (m.c b)], ?_⟩
  obtain ⟨S1, hS1⟩ : ∃ S1 : St, S ++ [.live 0 (m.c b)] = S1 := ⟨_, rfl⟩
  have hk1 : Keeps S S1 [] := by rw [← hS1]; exact Keeps.append ..
  have hA : MsgAt S1 S.length m b := ⟨by rw [← hS1]; simp, hm.h⟩
  obtain ⟨l0, l1, l2, l3, l4, l5, l37, _⟩ := hA.ld
  rw [hS1]
  have hb1 := hb.keep hk1
  have hlen := hb1.len
  have hcell : cells? (.agg (m.c b)) = some (m.c b) := rfl
  have hlo := hm.lo
  have hhi := hm.hi
  by_cases hs : nameB m.s = true
  rotate_left
  · have hs' : nameB m.s = false := by simpa using hs
    have hn1 := isName2P hm.s S1
    rw [hs'] at hn1
    have e : mayL m w = false := by simp [mayL, hs']
    rw [e]
    simp [xMay2, exM, r21_May, exM, orc, orcD, evF, evC, evOps, evOper, evAny, evOp, evCall, putR, putA, Fr.ev, Fr.of, Fr.get, Fr.set, stable, junkA, junkL, resultsA, resA, same, hcell, hS1, faddrA, l1, hn1, unA, Fr.get_set]
  have hn1 := isName2P hm.s S1
  rw [hs] at hn1
  by_cases hn : nameB m.n = true
  rotate_left
  · have hn' : nameB m.n = false := by simpa using hn
    have hn2 := isName2P hm.n S1
    rw [hn'] at hn2
    have e : mayL m w = false := by simp [mayL, hn']
    rw [e]
    simp [xMay2, exM, r21_May, exM, orc, orcD, evF, evC, evOps, evOper, evAny, evOp, evCall, putR, putA, Fr.ev, Fr.of, Fr.get, Fr.set, stable, junkA, junkL, resultsA, resA, same, hcell, hS1, faddrA, l1, l2, hn1, hn2, unA, Fr.get_set]
  have hn2 := isName2P hm.n S1
  rw [hn] at hn2
  by_cases h0 : 0 ≤ m.lo
  rotate_left
  · have c1 : binA .lss (.int .i64 m.lo) (.int .i64 0) = some (.bool true) := lss_t (by omega)
    have e : mayL m w = false := by simp [mayL, h0]
    rw [e]
    simp [xMay2, exM, r21_May, exM, orc, orcD, evF, evC, evOps, evOper, evAny, evOp, evCall, putR, putA, Fr.ev, Fr.of, Fr.get, Fr.set, stable, junkA, junkL, resultsA, resA, same, hcell, hS1, faddrA, l1, l2, l3, hn1, hn2, c1, unA, Fr.get_set]
  have c1 : binA .lss (.int .i64 m.lo) (.int .i64 0) = some (.bool false) := lss_f (by omega)
  by_cases h1 : m.lo < m.hi
  rotate_left
  · have c2 : binA .geq (.int .i64 m.lo) (.int .i64 m.hi) = some (.bool true) := geq_t (by omega)
    have e : mayL m w = false := by simp [mayL, h1]
    rw [e]
    simp [xMay2, exM, r21_May, exM, orc, orcD, evF, evC, evOps, evOper, evAny, evOp, evCall, putR, putA, Fr.ev, Fr.of, Fr.get, Fr.set, stable, junkA, junkL, resultsA, resA, same, hcell, hS1, faddrA, l1, l2, l3, l4, hn1, hn2, c1, c2, unA, Fr.get_set]
  have c2 : binA .geq (.int .i64 m.lo) (.int .i64 m.hi) = some (.bool false) := geq_f (by omega)
  by_cases h2 : m.hi ≤ 16
  rotate_left
  · have c3 : binA .gtr (.int .i64 m.hi) (.int .i64 16) = some (.bool true) := gtr_t (by omega)
    have e : mayL m w = false := by simp [mayL, h2]
    rw [e]
    simp [xMay2, exM, r21_May, exM, orc, orcD, evF, evC, evOps, evOper, evAny, evOp, evCall, putR, putA, Fr.ev, Fr.of, Fr.get, Fr.set, stable, junkA, junkL, resultsA, resA, same, hcell, hS1, faddrA, l1, l2, l3, l4, hn1, hn2, c1, c2, c3, unA, Fr.get_set]
  have c3 : binA .gtr (.int .i64 m.hi) (.int .i64 16) = some (.bool false) := gtr_f (by omega)
  have e : mayL m w = (decide (m.k = 1 ∧ w = []) || decide (m.k = 2 ∧ m.hi = m.lo + 1 ∧ w.length = 256 ∧ sha w = m.h)) := by simp [mayL, hs, hn, h0, h1, h2]
  rw [e]
  by_cases k1 : m.k = 1
  · have d1 : binA .eql (.int .i64 m.k) (.int .i64 1) = some (.bool true) := eql_t k1
    have d2 : binA .eql (.int .i64 (w.length : Int)) (.int .i64 0) = some (.bool (decide (w = []))) := by
      by_cases hw0 : w = []
      · subst hw0; rfl
      · have : w.length ≠ 0 := fun h => hw0 (List.length_eq_zero_iff.1 h)
        rw [eql_f (by omega)]; simp [hw0]
    have e2 : (decide (m.k = 1 ∧ w = []) || decide (m.k = 2 ∧ m.hi = m.lo + 1 ∧ w.length = 256 ∧ sha w = m.h)) = decide (w = []) := by
      have : m.k ≠ 2 := by omega
      simp [k1]
    rw [e2]
    generalize decide (w = []) = dd at *
    generalize (w.length : Int) = zw at *
    simp [xMay2, exM, r21_May, exM, orc, orcD, evF, evC, evOps, evOper, evAny, evOp, evCall, putR, putA, Fr.ev, Fr.of, Fr.get, Fr.set, stable, junkA, junkL, resultsA, resA, same, hcell, hS1, faddrA, l0, l1, l2, l3, l4, l37, hlen, hn1, hn2, c1, c2, c3, d1, d2, unA, Fr.get_set]
  have d1 : binA .eql (.int .i64 m.k) (.int .i64 1) = some (.bool false) := eql_f k1
  by_cases k2 : m.k = 2
  rotate_left
  · have d2 : binA .eql (.int .i64 m.k) (.int .i64 2) = some (.bool false) := eql_f k2
    have e2 : (decide (m.k = 1 ∧ w = []) || decide (m.k = 2 ∧ m.hi = m.lo + 1 ∧ w.length = 256 ∧ sha w = m.h)) = false := by simp [k1, k2]
    rw [e2]
    simp [xMay2, exM, r21_May, exM, orc, orcD, evF, evC, evOps, evOper, evAny, evOp, evCall, putR, putA, Fr.ev, Fr.of, Fr.get, Fr.set, stable, junkA, junkL, resultsA, resA, same, hcell, hS1, faddrA, l0, l1, l2, l3, l4, hn1, hn2, c1, c2, c3, d1, d2, unA, Fr.get_set, trL, sameRead, sameVal, beqV_refl]
  have d2 : binA .eql (.int .i64 m.k) (.int .i64 2) = some (.bool true) := eql_t k2
  have d3 : binA .add (.int .i64 m.lo) (.int .i64 1) = some (.int .i64 (m.lo + 1)) := add_i (by omega) (by omega)
  by_cases k3 : m.hi = m.lo + 1
  rotate_left
  · have d4 : binA .eql (.int .i64 m.hi) (.int .i64 (m.lo + 1)) = some (.bool false) := eql_f (by omega)
    have e2 : (decide (m.k = 1 ∧ w = []) || decide (m.k = 2 ∧ m.hi = m.lo + 1 ∧ w.length = 256 ∧ sha w = m.h)) = false := by simp [k1, k3]
    rw [e2]
    generalize m.lo + 1 = zd at *
    simp [xMay2, exM, r21_May, exM, orc, orcD, evF, evC, evOps, evOper, evAny, evOp, evCall, putR, putA, Fr.ev, Fr.of, Fr.get, Fr.set, stable, junkA, junkL, resultsA, resA, same, hcell, hS1, faddrA, l0, l1, l2, l3, l4, hn1, hn2, c1, c2, c3, d1, d2, d3, d4, unA, Fr.get_set, trL, sameRead, sameVal, beqV_refl]
  have d4 : binA .eql (.int .i64 m.hi) (.int .i64 (m.lo + 1)) = some (.bool true) := eql_t (by omega)
  by_cases k4 : w.length = 256
  rotate_left
  · have d5 : binA .eql (.int .i64 (w.length : Int)) (.int .i64 256) = some (.bool false) := eql_f (by omega)
    have e2 : (decide (m.k = 1 ∧ w = []) || decide (m.k = 2 ∧ m.hi = m.lo + 1 ∧ w.length = 256 ∧ sha w = m.h)) = false := by simp [k1, k4]
    rw [e2]
    generalize m.lo + 1 = zd at *
    generalize (w.length : Int) = zw at *
    simp [xMay2, exM, r21_May, exM, orc, orcD, evF, evC, evOps, evOper, evAny, evOp, evCall, putR, putA, Fr.ev, Fr.of, Fr.get, Fr.set, stable, junkA, junkL, resultsA, resA, same, hcell, hS1, faddrA, l0, l1, l2, l3, l4, l37, hlen, hn1, hn2, c1, c2, c3, d1, d2, d3, d4, d5, unA, Fr.get_set, trL, sameRead, sameVal, beqV_refl]
  have d5 : binA .eql (.int .i64 (w.length : Int)) (.int .i64 256) = some (.bool true) := eql_t (by omega)
  have d6 := sum2_ok hb1 (by omega)
  have d7 := eq32 (sha_len w) hm.h
  have e2 : (decide (m.k = 1 ∧ w = []) || decide (m.k = 2 ∧ m.hi = m.lo + 1 ∧ w.length = 256 ∧ sha w = m.h)) = (sha w == m.h) := by
    rw [Bool.eq_iff_iff]; simp [k1, k2, k3, k4]
  rw [e2]
  generalize (sha w == m.h) = dd at *
  generalize m.lo + 1 = zd at *
  generalize (w.length : Int) = zw at *
  simp [xMay2, exM, r21_May, exM, orc, orcD, evF, evC, evOps, evOper, evAny, evOp, evCall, putR, putA, Fr.ev, Fr.of, Fr.get, Fr.set, stable, junkA, junkL, resultsA, resA, same, hcell, hS1, faddrA, l0, l1, l2, l3, l4, l5, l37, hlen, hn1, hn2, c1, c2, c3, d1, d2, d3, d4, d5, d6, d7, unA, Fr.get_set, trL, sameRead, sameVal, beqV_refl]

noncomputable def mMay2 : Model := tellM 1 xMay2

theorem mMay2_ok {S : St} {m : Msg} {b : AVal} {w : List UInt8} (hm : m.Ok) (hb : Rd S b w) (hw : w.length ≤ 10000) :
    mMay2 [.agg (m.c b)] S = some (.bool (mayL m w), S) := by
  obtain ⟨X, h⟩ := may2_ok hm hb hw
  exact tellM_new h rfl

noncomputable def xAhead2 : Model := exM (orc [xPutString2]) r21_ahead 10

theorem ahead2_ok {S : St} {m : Msg} {b : AVal} {w : List UInt8} (hm : m.Ok) (hb : Rd S b w) (hw : w.length ≤ 10000) :
    ∃ y T r, xAhead2 [.agg (m.c b)] S = some (y, T) ∧ Keeps S T [] ∧ S.length ≤ r ∧ MsgI T y (aheadL m w) r := by
  obtain ⟨S1, hS1⟩ : ∃ S1 : St, S ++ [.live 0 (m.c b)] = S1 := ⟨_, rfl⟩
  have k1 : Keeps S S1 [] := by rw [← hS1]; exact Keeps.append ..
  have hA : MsgAt S1 S.length m b := ⟨by rw [← hS1]; simp, hm.h⟩
  have hb1 := hb.keep k1
  have hcell : cells? (.agg (m.c b)) = some (m.c b) := rfl
  have hsl := hm.s
  have hnl := hm.n
  have cvk := u8i_wrap m.k
  have cvl := u8i_wrap m.lo
  have cvh := u8i_wrap m.hi
  obtain ⟨l0, l1, -, -, -, -, -, l38⟩ := hA.ld
  -- the kind
  obtain ⟨S2, hS2⟩ : ∃ S2 : St, S1 ++ [.live 0 [.int .u8 ((u8i m.k).toNat : Int)]] = S2 := ⟨_, rfl⟩
  have k2 : Keeps S1 S2 [] := by rw [← hS2]; exact Keeps.append ..
  have m2 : MsgI S2 (.sl S1.length 0 0 1 1) [u8i m.k] S1.length := by rw [← hS2]; exact newMsg S1 [u8i m.k]
  obtain ⟨-, l1, -⟩ := (hA.keep k2).ld
  -- the set
  obtain ⟨S3, hS3⟩ : ∃ S3 : St, S2 ++ [.live 0 (List.map (fun b => AVal.int IntKind.u8 (b.toNat : Int)) m.s)] = S3 := ⟨_, rfl⟩
  have k3 : Keeps S2 S3 [] := by rw [← hS3]; exact Keeps.append ..
  have m3 : MsgI S3 (.sl S2.length 0 0 m.s.length 1) m.s S2.length := by rw [← hS3]; exact newMsg S2 m.s
  obtain ⟨y4, S4, r4, p4, k4, q4, m4⟩ := putString2_ok (m2.keep k3 (by simp)).rd m3.rd (by simp) (by omega)
  have k14 : Keeps S1 S4 [] := (k2.after0 k3).after0 k4
  obtain ⟨-, -, l2, -⟩ := (hA.keep k14).ld
  have b4 := putStr_len (w := m.s)
  -- the snapshot
  obtain ⟨S5, hS5⟩ : ∃ S5 : St, S4 ++ [.live 0 (List.map (fun b => AVal.int IntKind.u8 (b.toNat : Int)) m.n)] = S5 := ⟨_, rfl⟩
  have k5 : Keeps S4 S5 [] := by rw [← hS5]; exact Keeps.append ..
  have m5 : MsgI S5 (.sl S4.length 0 0 m.n.length 1) m.n S4.length := by rw [← hS5]; exact newMsg S4 m.n
  obtain ⟨y6, S6, r6, p6, k6, q6, m6⟩ := putString2_ok (m4.keep k5 (by simp)).rd m5.rd (by simp; omega) (by omega)
  have k16 : Keeps S1 S6 [] := (k14.after0 k5).after0 k6
  obtain ⟨-, -, -, l3, l4, -⟩ := (hA.keep k16).ld
  obtain ⟨sl6, -⟩ := (hA.keep k16).hash
  have b6 := putStr_len (w := m.n)
  -- the range
  obtain ⟨S7, hS7⟩ : ∃ S7 : St, S6 ++ [.live 0 [.int .u8 ((u8i m.lo).toNat : Int), .int .u8 ((u8i m.hi).toNat : Int)]] = S7 := ⟨_, rfl⟩
  have k7 : Keeps S6 S7 [] := by rw [← hS7]; exact Keeps.append ..
  have m7 : MsgI S7 (.sl S6.length 0 0 2 1) [u8i m.lo, u8i m.hi] S6.length := by rw [← hS7]; exact newMsg S6 [u8i m.lo, u8i m.hi]
  obtain ⟨sl7, -⟩ := (hA.keep (k16.after0 k7)).hash
  obtain ⟨y8, S8, p8, m8, k8⟩ := (m6.keep k7 (by simp)).app m7.cells (by simp; omega)
  have h1l : S1.length ≤ S6.length := k16.1
  have q1 : S1.length ≤ r6 := Nat.le_trans k14.1 (Nat.le_trans k5.1 q6)
  have k18 : Keeps S1 S8 [] := (k16.after0 k7).after k8 q1
  obtain ⟨sl8, rd8⟩ := (hA.keep k18).hash
  -- the hash
  have rc8 := rd8.cells
  rw [hm.h] at rc8
  obtain ⟨y9, S9, p9, m9, k9⟩ := m8.app rd8.cells (by simp [hm.h]; omega)
  have k19 : Keeps S1 S9 [] := k18.after k9 q1
  obtain ⟨-, -, -, -, -, -, l37, -⟩ := (hA.keep k19).ld
  have b9 := putStr_len (w := w)
  -- the block
  obtain ⟨y10, S10, r10, p10, k10, q10, m10⟩ := putString2_ok m9.rd (hb1.keep k19) (by simp [hm.h]; omega) (by omega)
  have hahead : ([u8i m.k] ++ putStr m.s ++ putStr m.n ++ [u8i m.lo, u8i m.hi] ++ m.h ++ putStr w) = aheadL m w := rfl
  rw [hahead] at m10
  have hal : (aheadL m w).length ≤ 13000 := by simp [aheadL, hm.h]; omega
  refine ⟨y10, S10, r10, ?_, (k1.after0 k19).after0 k10, Nat.le_trans k1.1 (Nat.le_trans k19.1 q10), m10⟩
  clear hahead m10 m9 m8 m7 m6 m5 m4 m3 m2
  unfold xAhead2 exM
  refine evF_post rfl rfl ?_
  simp only [r21_ahead, Post_seq]
  generalize ((u8i m.k).toNat : Int) = zk at *
  generalize ((u8i m.lo).toNat : Int) = zlo at *
  generalize ((u8i m.hi).toNat : Int) = zhi at *
  generalize m.c b = M at *
  simp [exM, orc, orcD, evF, evC, evOps, evOper, evAny, evOp, evCall, putR, putA, Fr.ev, Fr.of, Fr.get, Fr.set, stable, junkA, junkL, resultsA, resA, same, hcell, hS1, faddrA, l0, cvk, fillA, cells?, splice, hS2, l1, hS3, p4, l2, hS5, p6, l3, l4, cvl, cvh, hS7, sl8, p8, p9, l37, p10, Fr.get_set, trL, sameRead, sameVal, beqV_refl, resultsA, resA, Post_some]

noncomputable def xEncode2 : Model := exM (orc [mMay2, xAhead2, mSum2]) r21_Encode 10

theorem encode2_raw {S : St} {m : Msg} {b : AVal} {w : List UInt8} (hm : m.Ok) (hb : Rd S b w) (hw : w.length ≤ 10000) (hy : mayL m w = true) :
    ∃ y T r, xEncode2 [.agg (m.c b)] S = some (.tup [y, .int .i64 0], T) ∧ Keeps S T [] ∧ S.length ≤ r ∧ MsgI T y (encL m w) r := by
  obtain ⟨S1, hS1⟩ : ∃ S1 : St, S ++ [.live 0 (m.c b)] = S1 := ⟨_, rfl⟩
  have k1 : Keeps S S1 [] := by rw [← hS1]; exact Keeps.append ..
  have hA : MsgAt S1 S.length m b := ⟨by rw [← hS1]; simp, hm.h⟩
  have hb1 := hb.keep k1
  have hcell : cells? (.agg (m.c b)) = some (m.c b) := rfl
  have hmay := mMay2_ok hm hb1 hw
  rw [hy] at hmay
  have hsl := hm.s
  have hnl := hm.n
  obtain ⟨-, -, -, -, -, -, -, l38⟩ := hA.ld
  obtain ⟨y10, S10, r10, p10, k10, q10, m10⟩ := ahead2_ok hm hb1 hw
  have b4 := putStr_len (w := m.s)
  have b6 := putStr_len (w := m.n)
  have b9 := putStr_len (w := w)
  have hal : (aheadL m w).length ≤ 13000 := by simp [aheadL, hm.h]; omega
  have hsum := sum2_ok m10.rd (by omega)
  obtain ⟨Z, hZ⟩ : ∃ Z : List AVal, List.replicate 32 (AVal.int .u8 0) = Z := ⟨_, rfl⟩
  have hZl : Z.length = 32 := by rw [← hZ]; simp
  have hZ' : [AVal.int .u8 0, .int .u8 0, .int .u8 0, .int .u8 0, .int .u8 0, .int .u8 0, .int .u8 0, .int .u8 0, .int .u8 0, .int .u8 0, .int .u8 0, .int .u8 0, .int .u8 0, .int .u8 0, .int .u8 0, .int .u8 0, .int .u8 0, .int .u8 0, .int .u8 0, .int .u8 0, .int .u8 0, .int .u8 0, .int .u8 0, .int .u8 0, .int .u8 0, .int .u8 0, .int .u8 0, .int .u8 0, .int .u8 0, .int .u8 0, .int .u8 0, .int .u8 0] = Z := hZ
  obtain ⟨S11, hS11⟩ : ∃ S11 : St, S10 ++ [.live 0 Z] = S11 := ⟨_, rfl⟩
  have k11 : Keeps S10 S11 [] := by rw [← hS11]; exact Keeps.append ..
  have hz : S11[S10.length]? = some (.live 0 Z) := by rw [← hS11]; simp
  have hst := store32 hZl (sha_len (aheadL m w)) hz
  obtain ⟨S12, hS12⟩ : ∃ S12 : St, S11.set S10.length (.live 0 (bcells (sha (aheadL m w)))) = S12 := ⟨_, rfl⟩
  rw [hS12] at hst
  have k12 : Keeps S11 S12 [S10.length] := by rw [← hS12]; exact Keeps.set ..
  have hq12 : S12[S10.length]? = some (.live 0 (bcells (sha (aheadL m w)))) := by rw [← hS12]; simp [live_lt hz]
  have hr10 : r10 < S10.length := m10.lt
  obtain ⟨f4, rf4⟩ := first4 (sha_len (aheadL m w)) hq12
  have hn12 : r10 ∉ [S10.length] := by simp; omega
  obtain ⟨y13, S13, p13, m13, k13⟩ := ((m10.keep k11 (by simp)).keep k12 hn12).app rf4.cells (by simp [sha_len]; omega)
  have hq13 : S.length ≤ r10 := Nat.le_trans k1.1 q10
  have kk : Keeps S S10 [] := k1.after0 k10
  refine ⟨y13, S13, r10, ?_, (((kk.after0 k11).after k12 kk.1).after k13 hq13), hq13, m13⟩
  clear m13 m10
  unfold xEncode2 exM
  refine evF_post rfl rfl ?_
  simp only [r21_Encode, Post_seq]
  generalize bcells (sha (aheadL m w)) = H at *
  generalize m.c b = M at *
  simp [exM, orc, orcD, evF, evC, evOps, evOper, evAny, evOp, evCall, putR, putA, Fr.ev, Fr.of, Fr.get, Fr.set, stable, junkA, junkL, resultsA, resA, same, hcell, hS1, faddrA, l38, hmay, unA, p10, hsum, hZ', hS11, hst, f4, p13, fillA, cells?, splice, Fr.get_set, trL, sameRead, sameVal, beqV_refl, resultsA, resA, Post_some]

noncomputable def mEncode2 : Model := tellM 3 xEncode2

theorem encode2_ok {S : St} {m : Msg} {b : AVal} {w : List UInt8} (hm : m.Ok) (hb : Rd S b w) (hw : w.length ≤ 10000) :
    mEncode2 [.agg (m.c b)] S = some (.tup [encV m w, .int .i64 (encE m w)], S) := by
  by_cases hy : mayL m w = true
  · obtain ⟨y, T, r, h1, h2, h3, h4⟩ := encode2_raw hm hb hw hy
    obtain ⟨X, rfl⟩ := h2.split
    obtain ⟨v, rfl, hv⟩ := h4
    refine tellM_new h1 ?_
    have hd := deep_sl (S := S ++ X) (n := S.length) (k := 1) (off := 0) (len := (encL m w).length) (sz := 1) h3 hv (by rw [bcells_len]; omega) (cs := bcells (encL m w))
      (by rw [List.drop_zero, List.take_of_length_le (by rw [bcells_len]; omega)]; exact deep_bcells ..)
    simp only [encV, encE, if_pos hy]
    show (([_, _] : List AVal).mapM (deep (S ++ X) S.length 2)).map AVal.tup = _
    rw [List.mapM_cons, hd]; rfl
  · have hy' : mayL m w = false := by simpa using hy
    obtain ⟨S1, hS1⟩ : ∃ S1 : St, S ++ [.live 0 (m.c b)] = S1 := ⟨_, rfl⟩
    have k1 : Keeps S S1 [] := by rw [← hS1]; exact Keeps.append ..
    have hA : MsgAt S1 S.length m b := ⟨by rw [← hS1]; simp, hm.h⟩
    have hmay := mMay2_ok hm (hb.keep k1) hw
    rw [hy'] at hmay
    obtain ⟨-, -, -, -, -, -, -, l38⟩ := hA.ld
    have hcell : cells? (.agg (m.c b)) = some (m.c b) := rfl
    have h1 : xEncode2 [.agg (m.c b)] S = some (.tup [.nils, .int .i64 1], S ++ [.live 0 (m.c b)]) := by
      rw [hS1]
      generalize m.c b = M at *
      simp [xEncode2, exM, r21_Encode, exM, orc, orcD, evF, evC, evOps, evOper, evAny, evOp, evCall, putR, putA, Fr.ev, Fr.of, Fr.get, Fr.set, stable, junkA, junkL, resultsA, resA, same, hcell, hS1, l38, hmay, unA, Fr.get_set]
    refine tellM_new h1 ?_
    simp only [encV, encE, hy']
    rfl
end Am.Bis
end

/- Messages read: the plain law, and a message's cells written. -/
section
namespace Am.Bis
open Am Go Am.Ir Am.Sha
set_option maxRecDepth 100000

/-- The message of bytes without the sum. -/
def parseF : List UInt8 → Option (Msg × List UInt8)
  | [] => none
  | k :: u =>
    if (takeStr 12 u).2.2 ≠ 0 then none else
    if (takeStr 12 (takeStr 12 u).2.1).2.2 ≠ 0 ∨ (takeStr 12 (takeStr 12 u).2.1).2.1.length < 34 then none else
    let s := (takeStr 12 u).1
    let n := (takeStr 12 (takeStr 12 u).2.1).1
    let r := (takeStr 12 (takeStr 12 u).2.1).2.1
    let m : Msg := ⟨(k.toNat : Int), s, n, ((r.getD 0 0).toNat : Int), ((r.getD 1 0).toNat : Int), (r.drop 2).take 32⟩
    let t := takeStr 256 (r.drop 34)
    if t.2.2 = 0 ∧ t.2.1 = [] ∧ mayL m t.1 = true then some (m, t.1) else none

def zM : Msg := ⟨0, [], [], 0, 0, List.replicate 32 0⟩

def decF (u : List UInt8) : Option (Msg × List UInt8) × Int :=
  if 600 < u.length then (none, 4) else if u.length < 4 then (none, 14) else
  if (sha (u.take (u.length - 4))).take 4 ≠ u.drop (u.length - 4) then (none, 14) else
  match parseF (u.take (u.length - 4)) with
  | none => (none, 3)
  | some p => (some p, 0)
def decM (u : List UInt8) : Msg × List UInt8 := (decF u).1.getD (zM, [])

theorem NewB.keepQ {S T U : St} {y : AVal} {u : List UInt8} {q : Nat} (h : NewB S T y u) (hk : Keeps T U [q]) (hq : q < S.length) : NewB S U y u := by
  rcases h with h | ⟨r, h1, h2⟩
  · exact .inl h
  · exact .inr ⟨r, h1, h2.keep hk (by simp; omega)⟩

theorem NewB.up {S0 S T : St} {y : AVal} {u : List UInt8} (h : NewB S T y u) (hk : S0.length ≤ S.length) : NewB S0 T y u := by
  rcases h with h | ⟨r, h1, h2⟩
  · exact .inl h
  · exact .inr ⟨r, Nat.le_trans hk h1, h2⟩

theorem c_len {m : Msg} (h : m.h.length = 32) (b : AVal) : (m.c b).length = 38 := by simp [Msg.c, bcells_len, h]

theorem zM_h : zM.h.length = 32 := by simp [zM]

/-- A message is written over 38 cells. -/
theorem put38 {S : St} {q : Nat} {cs ds : List AVal} (hq : S[q]? = some (.live 0 cs)) (hc : cs.length = 38) (hd : ds.length = 38) :
    ∃ S', storeA 38 (.ptr q 0 0) (.agg ds) S = some S' ∧ S'[q]? = some (.live 0 ds) ∧ Keeps S S' [q] := by
  have hlt := live_lt hq
  refine ⟨S.set q (.live 0 ds), ?_, by simp [hlt], Keeps.set ..⟩
  have hsp : splice cs 0 ds = ds := by simp [splice, hc, hd]
  have hcc : cells? (.agg ds) = some ds := rfl
  simp only [storeA, hcc, hq, hsp]
  rw [if_pos ⟨trivial, hd, by omega⟩]

theorem store1 {S : St} {q o : Nat} {cs : List AVal} {v : AVal} (hq : S[q]? = some (.live 0 cs)) (hv : cells? v = some [v]) (ho : o < cs.length) :
    storeA 1 (.ptr q 0 o) v S = some (S.set q (.live 0 (splice cs o [v]))) := by
  simp only [storeA, hv, hq]
  rw [if_pos ⟨trivial, rfl, by omega⟩]

theorem MsgAt.p1 {S : St} {q : Nat} {m : Msg} {b : AVal} (h : MsgAt S q m b) (s : List UInt8) :
    ∃ S', storeA 1 (.ptr q 0 1) (.str s) S = some S' ∧ MsgAt S' q { m with s := s } b ∧ Keeps S S' [q] :=
  ⟨_, store1 h.at' rfl (by rw [c_len h.h]; omega), ⟨by simp [live_lt h.at']; rfl, h.h⟩, Keeps.set ..⟩
theorem MsgAt.p2 {S : St} {q : Nat} {m : Msg} {b : AVal} (h : MsgAt S q m b) (s : List UInt8) :
    ∃ S', storeA 1 (.ptr q 0 2) (.str s) S = some S' ∧ MsgAt S' q { m with n := s } b ∧ Keeps S S' [q] :=
  ⟨_, store1 h.at' rfl (by rw [c_len h.h]; omega), ⟨by simp [live_lt h.at']; rfl, h.h⟩, Keeps.set ..⟩
theorem MsgAt.p3 {S : St} {q : Nat} {m : Msg} {b : AVal} (h : MsgAt S q m b) (n : Int) :
    ∃ S', storeA 1 (.ptr q 0 3) (.int .i64 n) S = some S' ∧ MsgAt S' q { m with lo := n } b ∧ Keeps S S' [q] :=
  ⟨_, store1 h.at' rfl (by rw [c_len h.h]; omega), ⟨by simp [live_lt h.at']; rfl, h.h⟩, Keeps.set ..⟩
theorem MsgAt.p4 {S : St} {q : Nat} {m : Msg} {b : AVal} (h : MsgAt S q m b) (n : Int) :
    ∃ S', storeA 1 (.ptr q 0 4) (.int .i64 n) S = some S' ∧ MsgAt S' q { m with hi := n } b ∧ Keeps S S' [q] :=
  ⟨_, store1 h.at' rfl (by rw [c_len h.h]; omega), ⟨by simp [live_lt h.at']; rfl, h.h⟩, Keeps.set ..⟩
theorem c_split (m : Msg) (b : AVal) : m.c b = [.int .i64 m.k, .str m.s, .str m.n, .int .i64 m.lo, .int .i64 m.hi] ++ (bcells m.h ++ [b]) := by simp [Msg.c]
theorem MsgAt.p5 {S : St} {q : Nat} {m : Msg} {b : AVal} (h : MsgAt S q m b) {u : List UInt8} (hu : u.length = 32) :
    ∃ S', storeA 32 (.ptr q 0 5) (.agg (bcells u)) S = some S' ∧ MsgAt S' q { m with h := u } b ∧ Keeps S S' [q] := by
  have hsp : splice (m.c b) 5 (bcells u) = ({ m with h := u } : Msg).c b := by
    have hb : (bcells m.h).length = 32 := by rw [bcells_len, h.h]
    simp only [splice, c_split, bcells_len, hu]
    rw [List.take_left' (by rfl), List.drop_append, List.drop_of_length_le (by simp)]
    rw [show 5 + 32 - [AVal.int .i64 m.k, .str m.s, .str m.n, .int .i64 m.lo, .int .i64 m.hi].length = 32 from rfl, List.drop_left' hb]
    simp
  refine ⟨S.set q (.live 0 (({ m with h := u } : Msg).c b)), ?_, ⟨by simp [live_lt h.at'], hu⟩, Keeps.set ..⟩
  simp only [storeA, cells_agg, h.at', hsp]
  rw [if_pos ⟨trivial, by rw [bcells_len]; omega, by rw [c_len h.h]; omega⟩]
theorem MsgAt.p37 {S : St} {q : Nat} {m : Msg} {b : AVal} (h : MsgAt S q m b) {v : AVal} (hv : cells? v = some [v]) :
    ∃ S', storeA 1 (.ptr q 0 37) v S = some S' ∧ MsgAt S' q m v ∧ Keeps S S' [q] := by
  have hb : (bcells m.h).length = 32 := by rw [bcells_len, h.h]
  have hsp : splice (m.c b) 37 [v] = m.c v := by
    have e : m.c b = ([AVal.int .i64 m.k, .str m.s, .str m.n, .int .i64 m.lo, .int .i64 m.hi] ++ bcells m.h) ++ [b] := rfl
    simp only [splice]
    rw [e, List.take_left' (by simp [hb]), List.drop_of_length_le (by simp [hb])]
    simp [Msg.c]
  refine ⟨_, store1 h.at' hv (by rw [c_len h.h]; omega), ⟨by rw [hsp]; simp [live_lt h.at'], h.h⟩, Keeps.set ..⟩

theorem Rd.cell {S : St} {x : AVal} {u : List UInt8} (h : Rd S x u) : cells? x = some [x] := by
  rcases h.sl with ⟨r, v, o, l, rfl⟩ | ⟨b, l, c, rfl⟩ | rfl <;> rfl

/-- 32 bytes of one's own. -/
theorem NewB.arr {S T : St} {y : AVal} {u : List UInt8} (h : NewB S T y u) (hl : 34 ≤ u.length) :
    ∃ r v, y = .sl r v 0 u.length 1 ∧ slcSA 1 y (some (.int .i64 2)) none = some (.sl r v 2 (u.length - 2) 1) ∧ loadA (some 32) (.ptr r v 2) T = some (.agg (bcells ((u.drop 2).take 32))) := by
  rcases h with ⟨_, rfl⟩ | ⟨r, _, v, rfl, h2⟩
  · simp at hl
  · refine ⟨r, v, rfl, ?_, ?_⟩
    · have hb : bounds u.length (some (.int .i64 2)) none = some (2, u.length) := bounds_ln (by omega) (by omega)
      simp [slcSA, hb]
    · simp only [loadA, h2, if_pos, partA]
      rw [if_pos (by rw [bcells_len]; omega), bcells_drop, bcells_take']
end Am.Bis
end

/- Messages read, by the program. -/
section
namespace Am.Bis
open Am Go Am.Ir Am.Sha
set_option maxRecDepth 100000

noncomputable def xParse : Model := exM (orc [xTakeString, mMay]) bisect_parse 10

/-- What a parse gives. -/
def ParseR (S : St) (u : List UInt8) (v : AVal) (T : St) : Prop :=
  ∃ (cs : List AVal) (y : AVal), v = .tup [.agg cs, .bool (parseF u).isSome] ∧ cs.length = 38 ∧ Keeps S T [] ∧ ∀ m w, parseF u = some (m, w) → cs = m.c y ∧ NewB S T y w

theorem zlit : [AVal.int .i64 0, .str [], .str [], .int .i64 0, .int .i64 0, .int .u8 0, .int .u8 0, .int .u8 0, .int .u8 0, .int .u8 0, .int .u8 0, .int .u8 0, .int .u8 0, .int .u8 0, .int .u8 0, .int .u8 0, .int .u8 0, .int .u8 0, .int .u8 0, .int .u8 0, .int .u8 0, .int .u8 0, .int .u8 0, .int .u8 0, .int .u8 0, .int .u8 0, .int .u8 0, .int .u8 0, .int .u8 0, .int .u8 0, .int .u8 0, .int .u8 0, .int .u8 0, .int .u8 0, .int .u8 0, .int .u8 0, .int .u8 0, .nils] = zM.c .nils := rfl

theorem fill_k (k : Int) : fillA (zM.c .nils) [(0, 1, .int .i64 k)] = some (({ zM with k := k } : Msg).c .nils) := rfl
theorem fill_0 : fillA (zM.c .nils) [] = some (zM.c .nils) := rfl

theorem at0 {u : List UInt8} (h : 0 < u.length) {S : St} {x : AVal} (hx : Rd S x u) : ∃ p, iaddrSA 1 x (.int .i64 0) = some p ∧ ∀ {T : St}, Rd T x u → loadA none p T = some (.int .u8 ((u.getD 0 0).toNat : Int)) := hx.ix (i := 0) h
theorem at1 {u : List UInt8} (h : 1 < u.length) {S : St} {x : AVal} (hx : Rd S x u) : ∃ p, iaddrSA 1 x (.int .i64 1) = some p ∧ ∀ {T : St}, Rd T x u → loadA none p T = some (.int .u8 ((u.getD 1 0).toNat : Int)) := hx.ix (i := 1) h
theorem from1 {u : List UInt8} (h : 1 ≤ u.length) {S : St} {x : AVal} (hx : Rd S x u) : ∃ x', slcSA 1 x (some (.int .i64 1)) none = some x' ∧ Rd S x' (u.drop 1) := hx.from h
theorem from34 {u : List UInt8} (h : 34 ≤ u.length) {S : St} {x : AVal} (hx : Rd S x u) : ∃ x', slcSA 1 x (some (.int .i64 34)) none = some x' ∧ Rd S x' (u.drop 34) := hx.from h

theorem takeStr_fst {most : Nat} {u : List UInt8} : (takeStr most u).1.length ≤ most ∧ (takeStr most u).1.length ≤ u.length ∧ (takeStr most u).2.1.length ≤ u.length ∧ (takeStr most u).2.2 ≤ 4 := by
  have hle := takeF_le 10 0 u
  have h1 : (takeN u).2.1.length ≤ u.length := hle.1
  have h2 : (takeN u).2.2 ≤ 3 := hle.2
  unfold takeStr
  split
  · simp; omega
  · split
    · simp
    · split
      · simp
      · simp; omega

set_option maxHeartbeats 4000000 in
theorem parse_ok {S : St} {x : AVal} {u : List UInt8} (hx : Rd S x u) (hul : u.length ≤ 10000) :
    ∃ v T, xParse [x] S = some (v, T) ∧ ParseR S u v T := by
  have hlen := hx.len
  have zl : (zM.c .nils).length = 38 := c_len zM_h _
  obtain ⟨S1, hS1⟩ : ∃ S1 : St, S ++ [.live 0 (zM.c .nils)] = S1 := ⟨_, rfl⟩
  have k1 : Keeps S S1 [] := by rw [← hS1]; exact Keeps.append ..
  have q1 : S1[S.length]? = some (.live 0 (zM.c .nils)) := by rw [← hS1]; simp
  have hS1l : S1.length = S.length + 1 := by rw [← hS1]; simp
  cases u with
  | nil =>
    have e0 : binA .eql (.int .i64 (([] : List UInt8).length : Int)) (.int .i64 0) = some (.bool true) := rfl
    obtain ⟨S2, p2, a2, k2⟩ := put38 q1 zl zl
    have ld : loadA (some 38) (.ptr S.length 0 0) S2 = some (.agg (zM.c .nils)) := (MsgAt.ld ⟨a2, zM_h⟩).2.2.2.2.2.2.2
    refine ⟨.tup [.agg (zM.c .nils), .bool false], S2, ?_, zM.c .nils, .nils, rfl, zl, k1.after k2 (Nat.le_refl _), by simp [parseF]⟩
    generalize (([] : List UInt8).length : Int) = zz at *
    simp [xParse, exM, bisect_parse, exM, orc, orcD, evF, evC, evOps, evOper, evAny, evOp, evCall, putR, putA, Fr.ev, Fr.of, Fr.get, Fr.set, stable, junkA, junkL, resultsA, resA, same, zlit, hS1, hlen, e0, fill_0, p2, ld, resultsA, resA, Fr.get_set]
  | cons c u =>
    have e0 : binA .eql (.int .i64 ((c :: u).length : Int)) (.int .i64 0) = some (.bool false) := eql_f (by simp; omega)
    obtain ⟨p0, i0, d0⟩ := at0 (by simp) hx
    have l0 := d0 (hx.keep k1)
    rw [show (c :: u).getD 0 0 = c from rfl] at l0
    have cl := UInt8.toNat_lt c
    have cv : IntKind.i64.wrap (c.toNat : Int) = (c.toNat : Int) := conv_i64 (by omega) (by omega)
    have fk := fill_k (c.toNat : Int)
    obtain ⟨S2, hS2⟩ : ∃ S2 : St, S1 ++ [.live 0 (zM.c .nils)] = S2 := ⟨_, rfl⟩
    have k2 : Keeps S1 S2 [] := by rw [← hS2]; exact Keeps.append ..
    have q2 : S2[S1.length]? = some (.live 0 (zM.c .nils)) := by rw [← hS2]; simp
    have hS2l : S2.length = S1.length + 1 := by rw [← hS2]; simp
    obtain ⟨mk, hmk⟩ : ∃ mk : Msg, mk = { zM with k := (c.toNat : Int) } := ⟨_, rfl⟩
    rw [← hmk] at fk
    have mkh : mk.h.length = 32 := by rw [hmk]; exact zM_h
    obtain ⟨S3, p3, a3, k3⟩ := put38 q2 zl (c_len mkh .nils)
    have A3 : MsgAt S3 S1.length mk .nils := ⟨a3, mkh⟩
    have k03 : Keeps S S3 [] := (k1.after0 k2).after k3 k1.1
    have h3l : S2.length ≤ S3.length := k3.1
    obtain ⟨x1, i1, r1⟩ := from1 (by simp) hx
    rw [show (c :: u).drop 1 = u from rfl] at r1
    simp only [List.length_cons] at hul
    obtain ⟨y5, z5, S4, p4, k4, n5, r5⟩ := takeString_ok (r1.keep k03) (by omega) 12 (by omega)
    have p4 : xTakeString [x1, .int .i64 12] S3 = _ := p4
    have t1 := @takeStr_fst 12 u
    have A4 := A3.keep k4
    obtain ⟨t, ht⟩ : ∃ t, takeStr 12 u = t := ⟨_, rfl⟩
    rw [ht] at p4 n5 r5 t1
    have q24 : S4[S.length]? = some (.live 0 (zM.c .nils)) := by
      have := k3.get (k2.get q1 (by simp)) (by simp; omega)
      exact k4.get this (by simp)
    by_cases e1 : t.2.2 = 0
    rotate_left
    · have b1 : binA .neq (.int .i64 (t.2.2 : Int)) (.int .i64 0) = some (.bool true) := neq_t (by omega)
      obtain ⟨S5, p5, a5, k5⟩ := put38 q24 zl zl
      have ld : loadA (some 38) (.ptr S.length 0 0) S5 = some (.agg (zM.c .nils)) := (MsgAt.ld ⟨a5, zM_h⟩).2.2.2.2.2.2.2
      refine ⟨.tup [.agg (zM.c .nils), .bool false], S5, ?_, zM.c .nils, .nils, ?_, zl, (k03.after0 k4).after k5 (Nat.le_refl _), ?_⟩
      · generalize (t.2.2 : Int) = ze at *
        generalize ((c :: u).length : Int) = zz at *
        generalize (c.toNat : Int) = zc at *
        simp [xParse, exM, bisect_parse, exM, orc, orcD, evF, evC, evOps, evOper, evAny, evOp, evCall, putR, putA, Fr.ev, Fr.of, Fr.get, Fr.set, stable, junkA, junkL, resultsA, resA, same, zlit, hS1, hS2, hlen, e0, i0, l0, cv, fk, p3, i1, p4, b1, fill_0, p5, ld, resultsA, resA, Fr.get_set]
      · simp [parseF, ht, e1]
      · simp [parseF, ht, e1]
    have b1 : binA .neq (.int .i64 (t.2.2 : Int)) (.int .i64 0) = some (.bool false) := neq_f (by omega)
    obtain ⟨y8, z8, S5, p5, k5, n8, r8⟩ := takeString_ok r5.rd (by omega) 12 (by omega)
    have p5 : xTakeString [z5, .int .i64 12] S4 = _ := p5
    have t2 := @takeStr_fst 12 t.2.1
    have A5 := A4.keep k5
    have q25 := k5.get q24 (by simp)
    have n5' := n5.keep k5
    obtain ⟨t', ht'⟩ : ∃ t', takeStr 12 t.2.1 = t' := ⟨_, rfl⟩
    rw [ht'] at p5 n8 r8 t2
    have hlen8 := r8.rd.len
    by_cases e2 : t'.2.2 = 0
    rotate_left
    · have b2 : binA .neq (.int .i64 (t'.2.2 : Int)) (.int .i64 0) = some (.bool true) := neq_t (by omega)
      obtain ⟨S6, p6, a6, k6⟩ := put38 q25 zl zl
      have ld : loadA (some 38) (.ptr S.length 0 0) S6 = some (.agg (zM.c .nils)) := (MsgAt.ld ⟨a6, zM_h⟩).2.2.2.2.2.2.2
      refine ⟨.tup [.agg (zM.c .nils), .bool false], S6, ?_, zM.c .nils, .nils, ?_, zl, ((k03.after0 k4).after0 k5).after k6 (Nat.le_refl _), ?_⟩
      · generalize (t.2.2 : Int) = ze at *
        generalize (t'.2.2 : Int) = ze' at *
        generalize ((c :: u).length : Int) = zz at *
        generalize (c.toNat : Int) = zc at *
        simp [xParse, exM, bisect_parse, exM, orc, orcD, evF, evC, evOps, evOper, evAny, evOp, evCall, putR, putA, Fr.ev, Fr.of, Fr.get, Fr.set, stable, junkA, junkL, resultsA, resA, same, zlit, hS1, hS2, hlen, e0, i0, l0, cv, fk, p3, i1, p4, b1, p5, b2, fill_0, p6, ld, resultsA, resA, Fr.get_set]
      · simp [parseF, ht, e1, ht', e2]
      · simp [parseF, ht, e1, ht', e2]
    have b2 : binA .neq (.int .i64 (t'.2.2 : Int)) (.int .i64 0) = some (.bool false) := neq_f (by omega)
    by_cases e3 : t'.2.1.length < 34
    · have b3 : binA .lss (.int .i64 (t'.2.1.length : Int)) (.int .i64 34) = some (.bool true) := lss_t (by omega)
      obtain ⟨S6, p6, a6, k6⟩ := put38 q25 zl zl
      have ld : loadA (some 38) (.ptr S.length 0 0) S6 = some (.agg (zM.c .nils)) := (MsgAt.ld ⟨a6, zM_h⟩).2.2.2.2.2.2.2
      refine ⟨.tup [.agg (zM.c .nils), .bool false], S6, ?_, zM.c .nils, .nils, ?_, zl, ((k03.after0 k4).after0 k5).after k6 (Nat.le_refl _), ?_⟩
      · generalize (t.2.2 : Int) = ze at *
        generalize (t'.2.2 : Int) = ze' at *
        generalize (t'.2.1.length : Int) = zl' at *
        generalize ((c :: u).length : Int) = zz at *
        generalize (c.toNat : Int) = zc at *
        simp [xParse, exM, bisect_parse, exM, orc, orcD, evF, evC, evOps, evOper, evAny, evOp, evCall, putR, putA, Fr.ev, Fr.of, Fr.get, Fr.set, stable, junkA, junkL, resultsA, resA, same, zlit, hS1, hS2, hlen, e0, i0, l0, cv, fk, p3, i1, p4, b1, p5, b2, hlen8, b3, fill_0, p6, ld, resultsA, resA, Fr.get_set]
      · simp [parseF, ht, e1, ht', e2, e3]
      · simp [parseF, ht, e1, ht', e2, e3]
    have b3 : binA .lss (.int .i64 (t'.2.1.length : Int)) (.int .i64 34) = some (.bool false) := lss_f (by omega)
    -- the names
    have by5 := Bis.Rd.bytes n5'.rd
    have by8 := Bis.Rd.bytes n8.rd
    obtain ⟨S6, p6, A6, k6⟩ := A5.p1 t.1
    have by8' := Bis.Rd.bytes (n8.keepQ k6 (by have := k4.1; omega)).rd
    obtain ⟨S7, p7, A7, k7⟩ := A6.p2 t'.1
    have k67 : Keeps S5 S7 [S1.length] := k6.trans k7 (fun q hq => .inl hq)
    have q4l : S1.length < S4.length := by have := k4.1; omega
    have r87 := r8.keepQ k67 q4l
    -- the range
    obtain ⟨a0p, a0i, a0d⟩ := at0 (by omega) r87.rd
    obtain ⟨a1p, a1i, a1d⟩ := at1 (by omega) r87.rd
    have la0 := a0d r87.rd
    have la1 := a1d r87.rd
    have cv0 : IntKind.i64.wrap ((t'.2.1.getD 0 0).toNat : Int) = ((t'.2.1.getD 0 0).toNat : Int) := by have := UInt8.toNat_lt (t'.2.1.getD 0 0); exact conv_i64 (by omega) (by omega)
    have cv1 : IntKind.i64.wrap ((t'.2.1.getD 1 0).toNat : Int) = ((t'.2.1.getD 1 0).toNat : Int) := by have := UInt8.toNat_lt (t'.2.1.getD 1 0); exact conv_i64 (by omega) (by omega)
    obtain ⟨S8, p8, A8, k8⟩ := A7.p3 ((t'.2.1.getD 0 0).toNat : Int)
    have k68 : Keeps S5 S8 [S1.length] := k67.trans k8 (fun q hq => .inl hq)
    have la1' := a1d (r8.keepQ k68 q4l).rd
    obtain ⟨S9, p9, A9, k9⟩ := A8.p4 ((t'.2.1.getD 1 0).toNat : Int)
    have k69 : Keeps S5 S9 [S1.length] := k68.trans k9 (fun q hq => .inl hq)
    -- the hash
    have r89 := r8.keepQ k69 q4l
    obtain ⟨rb, vb, hz8, sl8, ar8⟩ := r89.arr (by omega)
    have L2 : 32 ≤ t'.2.1.length - 2 := by omega
    obtain ⟨S10, p10, A10, k10⟩ := A9.p5 (u := (t'.2.1.drop 2).take 32) (by rw [List.length_take, List.length_drop]; omega)
    have k610 : Keeps S5 S10 [S1.length] := k69.trans k10 (fun q hq => .inl hq)
    have r810 := r8.keepQ k610 q4l
    obtain ⟨x3, i3, r3⟩ := from34 (by omega) r810.rd
    -- the block
    obtain ⟨y9, z9, S11, p11, k11, n9, r9⟩ := takeString_ok r3 (by simp; omega) 256 (by omega)
    have p11 : xTakeString [x3, .int .i64 256] S10 = _ := p11
    have t3 := @takeStr_fst 256 (t'.2.1.drop 34)
    obtain ⟨t'', ht''⟩ : ∃ t'', takeStr 256 (t'.2.1.drop 34) = t'' := ⟨_, rfl⟩
    rw [ht''] at p11 n9 r9 t3
    have A11 := A10.keep k11
    obtain ⟨S12, p12, A12, k12⟩ := A11.p37 (Rd.cell n9.rd)
    have h10 : S1.length < S10.length := by have := k610.1; have := k5.1; omega
    have n912 := n9.keepQ k12 h10
    have r912 := r9.keepQ k12 h10
    have hlen9 := r912.rd.len
    obtain ⟨m, hm⟩ : ∃ m : Msg, m = ⟨(c.toNat : Int), t.1, t'.1, ((t'.2.1.getD 0 0).toNat : Int), ((t'.2.1.getD 1 0).toNat : Int), (t'.2.1.drop 2).take 32⟩ := ⟨_, rfl⟩
    have hmm : ({ { { { { mk with s := t.1 } with n := t'.1 } with lo := ((t'.2.1.getD 0 0).toNat : Int) } with hi := ((t'.2.1.getD 1 0).toNat : Int) } with h := (t'.2.1.drop 2).take 32 } : Msg) = m := by rw [hm, hmk]
    rw [hmm] at A12
    have hmh := A12.h
    have ld12 : loadA (some 38) (.ptr S1.length 0 0) S12 = some (.agg (m.c y9)) := (MsgAt.ld A12).2.2.2.2.2.2.2
    have hOk : m.Ok := by
      have := UInt8.toNat_lt (t'.2.1.getD 0 0)
      have := UInt8.toNat_lt (t'.2.1.getD 1 0)
      refine ⟨hmh, ?_, ?_, ?_, ?_, ?_⟩ <;> rw [hm] <;> simp only <;> omega
    have hmay := mMay_ok hOk n912.rd (by omega)
    have q212 : S12[S.length]? = some (.live 0 (zM.c .nils)) := by
      have := k610.get q25 (by simp; omega)
      exact k12.get (k11.get this (by simp)) (by simp; omega)
    obtain ⟨S13, p13, a13, k13⟩ := put38 q212 zl (c_len hmh y9)
    have ld13 : loadA (some 38) (.ptr S.length 0 0) S13 = some (.agg (m.c y9)) := (MsgAt.ld ⟨a13, hmh⟩).2.2.2.2.2.2.2
    have kS5 : Keeps S S5 [] := (k03.after0 k4).after0 k5
    have kAll : Keeps S S13 [] := (((kS5.after k610 (by omega)).after0 k11).after k12 (by omega)).after k13 (Nat.le_refl _)
    have n913 : NewB S S13 y9 t''.1 := by
      have h1 : NewB S S12 y9 t''.1 := n912.up (by have := (kS5.after k610 (by omega : S.length ≤ S1.length)).1; exact this)
      rcases n912 with h | ⟨r, h2, h3⟩
      · exact .inl h
      · have := (kS5.after k610 (by omega : S.length ≤ S1.length)).1
        exact .inr ⟨r, by omega, h3.keep k13 (by simp; omega)⟩
    have hpF : parseF (c :: u) = if t''.2.2 = 0 ∧ t''.2.1 = [] ∧ mayL m t''.1 = true then some (m, t''.1) else none := by
      simp only [parseF, ht, ht', ht'', e1, e2, e3, hm]
      simp
    refine ⟨.tup [.agg (m.c y9), .bool (parseF (c :: u)).isSome], S13, ?_, m.c y9, y9, rfl, c_len hmh y9, kAll, ?_⟩
    rotate_left
    · intro m' w' h
      rw [hpF] at h
      split at h
      · simp only [Option.some.injEq, Prod.mk.injEq] at h
        obtain ⟨rfl, rfl⟩ := h
        exact ⟨rfl, n913⟩
      · simp at h
    rw [hpF]
    clear hpF hmm
    by_cases e4 : t''.2.2 = 0
    rotate_left
    · have b4 : binA .eql (.int .i64 (t''.2.2 : Int)) (.int .i64 0) = some (.bool false) := eql_f (by omega)
      rw [if_neg (by simp [e4])]
      generalize (t.2.2 : Int) = ze at *
      generalize (t'.2.2 : Int) = ze' at *
      generalize (t''.2.2 : Int) = ze'' at *
      generalize (t'.2.1.length : Int) = zl' at *
      generalize ((c :: u).length : Int) = zz at *
      generalize (c.toNat : Int) = zc at *
      generalize ((t'.2.1.getD 0 0).toNat : Int) = zlo at *
      generalize ((t'.2.1.getD 1 0).toNat : Int) = zhi at *
      simp [xParse, exM, bisect_parse, exM, orc, orcD, evF, evC, evOps, evOper, evAny, evOp, evCall, putR, putA, Fr.ev, Fr.of, Fr.get, Fr.set, stable, junkA, junkL, resultsA, resA, same, zlit, hS1, hS2, hlen, e0, i0, l0, cv, fk, p3, i1, p4, b1, p5, b2, hlen8, b3, by5, by8, by8', faddrA, p6, p7, a0i, la0, cv0, a1i, la1, la1', cv1, p8, p9, sl8, L2, ar8, p10, i3, p11, p12, ld12, b4, hlen9, hmay, p13, ld13, trL, sameRead, sameVal, beqV_refl, resultsA, resA, Fr.get_set]
    have b4 : binA .eql (.int .i64 (t''.2.2 : Int)) (.int .i64 0) = some (.bool true) := eql_t (by omega)
    by_cases e5 : t''.2.1 = []
    rotate_left
    · have : t''.2.1.length ≠ 0 := fun h => e5 (List.length_eq_zero_iff.1 h)
      have b5 : binA .eql (.int .i64 (t''.2.1.length : Int)) (.int .i64 0) = some (.bool false) := eql_f (by omega)
      rw [if_neg (by simp [e5])]
      generalize (t.2.2 : Int) = ze at *
      generalize (t'.2.2 : Int) = ze' at *
      generalize (t''.2.2 : Int) = ze'' at *
      generalize (t''.2.1.length : Int) = zl'' at *
      generalize (t'.2.1.length : Int) = zl' at *
      generalize ((c :: u).length : Int) = zz at *
      generalize (c.toNat : Int) = zc at *
      generalize ((t'.2.1.getD 0 0).toNat : Int) = zlo at *
      generalize ((t'.2.1.getD 1 0).toNat : Int) = zhi at *
      simp [xParse, exM, bisect_parse, exM, orc, orcD, evF, evC, evOps, evOper, evAny, evOp, evCall, putR, putA, Fr.ev, Fr.of, Fr.get, Fr.set, stable, junkA, junkL, resultsA, resA, same, zlit, hS1, hS2, hlen, e0, i0, l0, cv, fk, p3, i1, p4, b1, p5, b2, hlen8, b3, by5, by8, by8', faddrA, p6, p7, a0i, la0, cv0, a1i, la1, la1', cv1, p8, p9, sl8, L2, ar8, p10, i3, p11, p12, ld12, b4, hlen9, b5, hmay, p13, ld13, trL, sameRead, sameVal, beqV_refl, resultsA, resA, Fr.get_set]
    have b5 : binA .eql (.int .i64 (t''.2.1.length : Int)) (.int .i64 0) = some (.bool true) := eql_t (by simp [e5])
    have he : (if t''.2.2 = 0 ∧ t''.2.1 = [] ∧ mayL m t''.1 = true then some (m, t''.1) else none).isSome = mayL m t''.1 := by
      cases hmv : mayL m t''.1 <;> simp [e4, e5]
    rw [he]
    clear he
    generalize mayL m t''.1 = dd at *
    generalize (t.2.2 : Int) = ze at *
    generalize (t'.2.2 : Int) = ze' at *
    generalize (t''.2.2 : Int) = ze'' at *
    generalize (t''.2.1.length : Int) = zl'' at *
    generalize (t'.2.1.length : Int) = zl' at *
    generalize ((c :: u).length : Int) = zz at *
    generalize (c.toNat : Int) = zc at *
    generalize ((t'.2.1.getD 0 0).toNat : Int) = zlo at *
    generalize ((t'.2.1.getD 1 0).toNat : Int) = zhi at *
    simp [xParse, exM, bisect_parse, exM, orc, orcD, evF, evC, evOps, evOper, evAny, evOp, evCall, putR, putA, Fr.ev, Fr.of, Fr.get, Fr.set, stable, junkA, junkL, resultsA, resA, same, zlit, hS1, hS2, hlen, e0, i0, l0, cv, fk, p3, i1, p4, b1, p5, b2, hlen8, b3, by5, by8, by8', faddrA, p6, p7, a0i, la0, cv0, a1i, la1, la1', cv1, p8, p9, sl8, L2, ar8, p10, i3, p11, p12, ld12, b4, hlen9, b5, hmay, p13, ld13, trL, sameRead, sameVal, beqV_refl, resultsA, resA, Fr.get_set]
end Am.Bis
end

/- Messages read, by the program: Decode. -/
section
namespace Am.Bis
open Am Go Am.Ir Am.Sha
set_option maxRecDepth 100000

noncomputable def xDecode : Model := exM (orc [mSumP, xEqual, xParse]) bisect_Decode 10

theorem first4' {S : St} {q : Nat} {u : List UInt8} (hu : u.length = 32) (hq : S[q]? = some (.live 0 (bcells u))) :
    slcAA 1 32 (.ptr q 0 0) none (some (.int .i64 4)) S = some (.sl q 0 0 4 1) ∧ Rd S (.sl q 0 0 4 1) (u.take 4) := first4 hu hq

/-- 32 bytes are written over a new block. -/
theorem new32 (S : St) {u : List UInt8} (hu : u.length = 32) :
    ∃ S', storeA 32 (.ptr S.length 0 0) (.agg (bcells u)) (S ++ [.live 0 [AVal.int .u8 0, .int .u8 0, .int .u8 0, .int .u8 0, .int .u8 0, .int .u8 0, .int .u8 0, .int .u8 0, .int .u8 0, .int .u8 0, .int .u8 0, .int .u8 0, .int .u8 0, .int .u8 0, .int .u8 0, .int .u8 0, .int .u8 0, .int .u8 0, .int .u8 0, .int .u8 0, .int .u8 0, .int .u8 0, .int .u8 0, .int .u8 0, .int .u8 0, .int .u8 0, .int .u8 0, .int .u8 0, .int .u8 0, .int .u8 0, .int .u8 0, .int .u8 0]]) = some S' ∧ Keeps S S' [] ∧ S'[S.length]? = some (.live 0 (bcells u)) ∧ S'.length = S.length + 1 := by
  generalize hz : [AVal.int .u8 0, .int .u8 0, .int .u8 0, .int .u8 0, .int .u8 0, .int .u8 0, .int .u8 0, .int .u8 0, .int .u8 0, .int .u8 0, .int .u8 0, .int .u8 0, .int .u8 0, .int .u8 0, .int .u8 0, .int .u8 0, .int .u8 0, .int .u8 0, .int .u8 0, .int .u8 0, .int .u8 0, .int .u8 0, .int .u8 0, .int .u8 0, .int .u8 0, .int .u8 0, .int .u8 0, .int .u8 0, .int .u8 0, .int .u8 0, .int .u8 0, .int .u8 0] = Z
  have hZ : Z.length = 32 := by rw [← hz]; rfl
  have hg : (S ++ [ABlock.live 0 Z])[S.length]? = some (.live 0 Z) := by simp
  have hst := store32 hZ hu hg
  exact ⟨_, hst, (Keeps.append ..).after (Keeps.set ..) (Nat.le_refl _), by simp, by simp⟩

/-- A new message takes what was read. -/
theorem new38 (S : St) {ds : List AVal} (hd : ds.length = 38) :
    ∃ S', storeA 38 (.ptr S.length 0 0) (.agg ds) (S ++ [.live 0 (zM.c .nils)]) = some S' ∧ Keeps S S' [] ∧ S'[S.length]? = some (.live 0 ds) ∧ S'.length = S.length + 1 := by
  have hg : (S ++ [ABlock.live 0 (zM.c .nils)])[S.length]? = some (.live 0 (zM.c .nils)) := by simp
  obtain ⟨S', h1, h2, h3⟩ := put38 hg (c_len zM_h _) hd
  have : S'.length = S.length + 1 := by
    simp only [storeA] at h1
    split at h1
    · rename_i r v off cs e1 e2
      split at h1
      · split at h1
        · simp only [Option.some.injEq] at h1; rw [← h1]; simp
        · simp at h1
      · simp at h1
    · simp at h1
  exact ⟨S', h1, (Keeps.append ..).after h3 (Nat.le_refl _), h2, this⟩

theorem load38 {S : St} {q : Nat} {cs : List AVal} (hq : S[q]? = some (.live 0 cs)) (hc : cs.length = 38) : loadA (some 38) (.ptr q 0 0) S = some (.agg cs) := by
  simp only [loadA, hq, if_pos, partA]
  rw [if_pos (by omega), List.drop_zero, List.take_of_length_le (by omega)]

/-- The message that is read from what was read. -/
theorem parse_h {u : List UInt8} {m : Msg} {w : List UInt8} (h : parseF u = some (m, w)) : m.h.length = 32 ∧ mayL m w = true ∧ m.s.length ≤ 12 ∧ m.n.length ≤ 12 ∧ w.length ≤ 256 := by
  cases u with
  | nil => simp [parseF] at h
  | cons c u =>
    simp only [parseF] at h
    split at h
    · simp at h
    · split at h
      · simp at h
      · rename_i e1 e2
        split at h
        · rename_i e3
          simp only [Option.some.injEq, Prod.mk.injEq] at h
          obtain ⟨rfl, rfl⟩ := h
          refine ⟨?_, e3.2.2, takeStr_fst.1, takeStr_fst.1, takeStr_fst.1⟩
          simp only [List.length_take, List.length_drop]
          omega
        · simp at h

theorem may_ok' {m : Msg} {w : List UInt8} (h : m.h.length = 32) (hm : mayL m w = true) : m.Ok ∧ w.length ≤ 256 ∧ m.s.length ≤ 12 ∧ m.n.length ≤ 12 ∧ (m.k = 1 ∨ m.k = 2) ∧ 0 ≤ m.lo ∧ m.lo < 16 ∧ 0 < m.hi ∧ m.hi ≤ 16 := by
  simp only [mayL, Bool.and_eq_true, Bool.or_eq_true, decide_eq_true_eq, nameB] at hm
  obtain ⟨⟨⟨⟨⟨⟨⟨-, -⟩, h1⟩, ⟨⟨-, -⟩, h2⟩⟩, h3⟩, h4⟩, h5⟩, h6⟩ := hm
  have hw : w.length ≤ 256 := by
    rcases h6 with ⟨-, rfl⟩ | ⟨-, -, h, -⟩
    · simp
    · omega
  have hk : m.k = 1 ∨ m.k = 2 := by
    rcases h6 with ⟨h, -⟩ | ⟨h, -⟩
    · exact .inl h
    · exact .inr h
  exact ⟨⟨h, by omega, by omega, by omega, by omega, by omega⟩, hw, h1, h2, hk, h3, by omega, by omega, h5⟩

theorem dec_h {u : List UInt8} {p : Msg × List UInt8} (h : (decF u).1 = some p) : p.1.h.length = 32 ∧ mayL p.1 p.2 = true ∧ (decF u).2 = 0 := by
  unfold decF at h ⊢
  split at h
  · simp at h
  · rename_i h1
    rw [if_neg h1]
    split at h
    · simp at h
    · rename_i h2
      rw [if_neg h2]
      split at h
      · simp at h
      · rename_i h3
        rw [if_neg h3]
        split at h
        · simp at h
        · rename_i q hq
          simp only [Option.some.injEq] at h
          subst h
          obtain ⟨a, b, -⟩ := parse_h hq
          exact ⟨a, b, rfl⟩

theorem decM_h (u : List UInt8) : (decM u).1.h.length = 32 := by
  unfold decM
  cases h : (decF u).1 with
  | none => exact zM_h
  | some p => exact (dec_h h).1

theorem decode_ok {S : St} {x : AVal} {u : List UInt8} (hx : Rd S x u) (hul : u.length ≤ 10000) :
    ∃ y T, xDecode [x] S = some (.tup [.agg ((decM u).1.c y), .int .i64 (decF u).2], T) ∧ Keeps S T [] ∧ NewB S T y (decM u).2 := by
  have hlen := hx.len
  have zl : (zM.c .nils).length = 38 := c_len zM_h _
  obtain ⟨S1, hS1⟩ : ∃ S1 : St, S ++ [.live 0 (zM.c .nils)] = S1 := ⟨_, rfl⟩
  have k1 : Keeps S S1 [] := by rw [← hS1]; exact Keeps.append ..
  have q1 : S1[S.length]? = some (.live 0 (zM.c .nils)) := by rw [← hS1]; simp
  have e1 : binA .sub (.int .i64 (u.length : Int)) (.int .i64 4) = some (.int .i64 ((u.length : Int) - 4)) := sub_i (by omega) (by omega)
  by_cases h600 : 600 < u.length
  · have e2 : binA .gtr (.int .i64 (u.length : Int)) (.int .i64 600) = some (.bool true) := gtr_t (by omega)
    obtain ⟨S2, p2, a2, k2⟩ := put38 q1 zl zl
    have ld := load38 a2 zl
    have hd : decF u = (none, 4) := by simp [decF, h600]
    have hm : decM u = (zM, []) := by simp [decM, hd]
    rw [hd, hm]
    refine ⟨.nils, S2, ?_, k1.after k2 (Nat.le_refl _), .inl ⟨rfl, rfl⟩⟩
    generalize (u.length : Int) - 4 = zz at *
    generalize (u.length : Int) = zl at *
    simp [xDecode, exM, bisect_Decode, exM, orc, orcD, evF, evC, evOps, evOper, evAny, evOp, evCall, putR, putA, Fr.ev, Fr.of, Fr.get, Fr.set, stable, junkA, junkL, resultsA, resA, same, zlit, hS1, hlen, e1, e2, fill_0, p2, ld, resultsA, resA, Fr.get_set]
  have e2 : binA .gtr (.int .i64 (u.length : Int)) (.int .i64 600) = some (.bool false) := gtr_f (by omega)
  by_cases h4 : u.length < 4
  · have e3 : binA .lss (.int .i64 ((u.length : Int) - 4)) (.int .i64 0) = some (.bool true) := lss_t (by omega)
    obtain ⟨S2, p2, a2, k2⟩ := put38 q1 zl zl
    have ld := load38 a2 zl
    have hd : decF u = (none, 14) := by simp [decF, h600, h4]
    have hm : decM u = (zM, []) := by simp [decM, hd]
    rw [hd, hm]
    refine ⟨.nils, S2, ?_, k1.after k2 (Nat.le_refl _), .inl ⟨rfl, rfl⟩⟩
    generalize (u.length : Int) - 4 = zz at *
    generalize (u.length : Int) = zl at *
    simp [xDecode, exM, bisect_Decode, exM, orc, orcD, evF, evC, evOps, evOper, evAny, evOp, evCall, putR, putA, Fr.ev, Fr.of, Fr.get, Fr.set, stable, junkA, junkL, resultsA, resA, same, zlit, hS1, hlen, e1, e2, e3, fill_0, p2, ld, resultsA, resA, Fr.get_set]
  have e3 : binA .lss (.int .i64 ((u.length : Int) - 4)) (.int .i64 0) = some (.bool false) := lss_f (by omega)
  have hz : (u.length : Int) - 4 = ((u.length - 4 : Nat) : Int) := by omega
  obtain ⟨x1, i1, r1⟩ := Bis.Rd.upto hx (n := u.length - 4) (by omega)
  obtain ⟨x2, i2, r2⟩ := hx.from (n := u.length - 4) (by omega)
  rw [← hz] at i1 i2
  have hsum := sumP_ok (r1.keep k1) (by rw [List.length_take]; omega)
  have hsl := sha_len (u.take (u.length - 4))
  obtain ⟨S2, p2, k2, g2, l2⟩ := new32 S1 hsl
  have k02 := k1.after0 k2
  obtain ⟨f4, r4⟩ := first4 hsl g2
  have heq := equal_ok r4 (r2.keep k02)
  have q2 : S2[S.length]? = some (.live 0 (zM.c .nils)) := k2.get q1 (by simp)
  by_cases hs : (sha (u.take (u.length - 4))).take 4 = u.drop (u.length - 4)
  rotate_left
  · have hb : ((sha (u.take (u.length - 4))).take 4 == u.drop (u.length - 4)) = false := by simpa using hs
    rw [hb] at heq
    obtain ⟨S3, p3, a3, k3⟩ := put38 q2 zl zl
    have ld := load38 a3 zl
    have hd : decF u = (none, 14) := by simp [decF, h600, h4, hs]
    have hm : decM u = (zM, []) := by simp [decM, hd]
    rw [hd, hm]
    refine ⟨.nils, S3, ?_, k02.after k3 (Nat.le_refl _), .inl ⟨rfl, rfl⟩⟩
    generalize (u.length : Int) - 4 = zz at *
    generalize (u.length : Int) = zl at *
    generalize bcells (sha (u.take (u.length - 4))) = H at *
    simp [xDecode, exM, bisect_Decode, exM, orc, orcD, evF, evC, evOps, evOper, evAny, evOp, evCall, putR, putA, Fr.ev, Fr.of, Fr.get, Fr.set, stable, junkA, junkL, resultsA, resA, same, zlit, hS1, hlen, e1, e2, e3, i1, hsum, p2, f4, i2, heq, unA, fill_0, p3, ld, resultsA, resA, Fr.get_set]
  have hb : ((sha (u.take (u.length - 4))).take 4 == u.drop (u.length - 4)) = true := by simpa using hs
  rw [hb] at heq
  obtain ⟨v, S3, p3, cs, y, rfl, hcl, k3, hres⟩ := parse_ok (r1.keep k02) (by rw [List.length_take]; omega)
  obtain ⟨S4, p4, k4, g4, l4⟩ := new38 S3 hcl
  have k03 := k02.after0 k3
  have k04 := k03.after0 k4
  have q4 : S4[S.length]? = some (.live 0 (zM.c .nils)) := k4.get (k3.get q2 (by simp)) (by simp)
  have ld4 := load38 g4 hcl
  cases hp : parseF (u.take (u.length - 4)) with
  | none =>
    rw [hp] at p3
    simp only [Option.isSome_none] at p3
    obtain ⟨S5, p5, a5, k5⟩ := put38 q4 zl zl
    have ld := load38 a5 zl
    have hd : decF u = (none, 3) := by simp [decF, h600, h4, hs, hp]
    have hm : decM u = (zM, []) := by simp [decM, hd]
    rw [hd, hm]
    refine ⟨.nils, S5, ?_, k04.after k5 (Nat.le_refl _), .inl ⟨rfl, rfl⟩⟩
    generalize (u.length : Int) - 4 = zz at *
    generalize (u.length : Int) = zl at *
    generalize bcells (sha (u.take (u.length - 4))) = H at *
    simp [xDecode, exM, bisect_Decode, exM, orc, orcD, evF, evC, evOps, evOper, evAny, evOp, evCall, putR, putA, Fr.ev, Fr.of, Fr.get, Fr.set, stable, junkA, junkL, resultsA, resA, same, zlit, hS1, hlen, e1, e2, e3, i1, hsum, p2, f4, i2, heq, unA, p3, p4, fill_0, p5, ld, resultsA, resA, Fr.get_set]
  | some p =>
    rw [hp] at p3
    simp only [Option.isSome_some] at p3
    obtain ⟨m, w⟩ := p
    obtain ⟨rfl, hnb⟩ := hres m w hp
    obtain ⟨S5, p5, a5, k5⟩ := put38 q4 zl hcl
    have ld := load38 a5 hcl
    have hd : decF u = (some (m, w), 0) := by simp [decF, h600, h4, hs, hp]
    have hm : decM u = (m, w) := by simp [decM, hd]
    rw [hd, hm]
    have hS2l : S.length < S2.length := (List.getElem?_eq_some_iff.1 q2).1
    refine ⟨y, S5, ?_, k04.after k5 (Nat.le_refl _), ((hnb.keep k4).keepQ k5 hS2l).up k02.1⟩
    generalize (u.length : Int) - 4 = zz at *
    generalize (u.length : Int) = zl at *
    generalize bcells (sha (u.take (u.length - 4))) = H at *
    generalize m.c y = M at *
    simp [xDecode, exM, bisect_Decode, exM, orc, orcD, evF, evC, evOps, evOper, evAny, evOp, evCall, putR, putA, Fr.ev, Fr.of, Fr.get, Fr.set, stable, junkA, junkL, resultsA, resA, same, zlit, hS1, hlen, e1, e2, e3, i1, hsum, p2, f4, i2, heq, unA, p3, p4, ld4, p5, ld, resultsA, resA, Fr.get_set]
end Am.Bis
end

