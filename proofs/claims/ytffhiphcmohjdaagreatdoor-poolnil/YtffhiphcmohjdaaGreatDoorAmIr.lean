/- The abstract machine: frames, its small language, and its evaluator. -/
import Derived.Test.YtffhiphcmohjdaaGreatDoorAmVal
set_option linter.all false
namespace Am
open Go

mutual
def beqV : AVal → AVal → Bool
  | .junk, .junk => true
  | .bool a, .bool b => a == b
  | .int k a, .int j b => k == j && a == b
  | .str a, .str b => a == b
  | .ptr a b c, .ptr x y z => a == x && b == y && c == z
  | .nilp, .nilp => true
  | .sl a b c d e, .sl x y z u v => a == x && b == y && c == z && d == u && e == v
  | .nils, .nils => true
  | .fz a b c, .fz x y z => a == x && b == y && beqL c z
  | .fq a, .fq b => beqL a b
  | .fn f a b, .fn g x y => decide (f = g) && beqL a x && beqL b y
  | .nilf, .nilf => true
  | .iface t a, .iface u b => t == u && beqV a b
  | .nili, .nili => true
  | .agg a, .agg b => beqL a b
  | .tup a, .tup b => beqL a b
  | .mapn, .mapn => true
  | .yld a, .yld b => a == b
  | .mpv a, .mpv b => a == b
  | .slm a b c d e f, .slm x y z u v w => a == x && b == y && c == z && d == u && e == v && f == w
  | _, _ => false
def beqL : List AVal → List AVal → Bool
  | [], [] => true
  | a :: x, b :: y => beqV a b && beqL x y
  | _, _ => false
end

mutual
theorem beqV_refl : ∀ a : AVal, beqV a a = true
  | .junk | .nilp | .nils | .nilf | .nili | .mapn => by simp [beqV]
  | .bool _ | .int _ _ | .str _ | .ptr _ _ _ | .sl _ _ _ _ _ | .yld _ | .mpv _ | .slm _ _ _ _ _ _ => by simp [beqV]
  | .fz _ _ c => by simp [beqV, beqL_refl c]
  | .fq c => by simp [beqV, beqL_refl c]
  | .fn _ a b => by simp [beqV, beqL_refl a, beqL_refl b]
  | .iface _ v => by simp [beqV, beqV_refl v]
  | .agg c => by simp [beqV, beqL_refl c]
  | .tup c => by simp [beqV, beqL_refl c]
theorem beqL_refl : ∀ a : List AVal, beqL a a = true
  | [] => by simp [beqL]
  | a :: x => by simp [beqL, beqV_refl a, beqL_refl x]
end
mutual
theorem eq_of_beqV : ∀ a b : AVal, beqV a b = true → a = b := by
  intro a b h
  cases a <;> cases b <;> simp only [beqV, Bool.and_eq_true, beq_iff_eq, decide_eq_true_eq, Bool.false_eq_true] at h <;> try rfl
  all_goals first
    | (subst h; rfl)
    | (obtain ⟨rfl, rfl⟩ := h; rfl)
    | (obtain ⟨⟨rfl, rfl⟩, rfl⟩ := h; rfl)
    | (obtain ⟨⟨⟨⟨rfl, rfl⟩, rfl⟩, rfl⟩, rfl⟩ := h; rfl)
    | (obtain ⟨⟨⟨⟨⟨rfl, rfl⟩, rfl⟩, rfl⟩, rfl⟩, rfl⟩ := h; rfl)
    | (obtain ⟨⟨rfl, rfl⟩, h⟩ := h; rw [eq_of_beqL _ _ h])
    | (obtain ⟨⟨rfl, h⟩, h'⟩ := h; rw [eq_of_beqL _ _ h, eq_of_beqL _ _ h'])
    | (obtain ⟨rfl, h⟩ := h; rw [eq_of_beqV _ _ h])
    | (rw [eq_of_beqL _ _ h])
theorem eq_of_beqL : ∀ a b : List AVal, beqL a b = true → a = b
  | [], [], _ => rfl
  | a :: x, b :: y, h => by
    simp only [beqL, Bool.and_eq_true] at h
    rw [eq_of_beqV _ _ h.1, eq_of_beqL _ _ h.2]
  | [], _ :: _, h => by simp [beqL] at h
  | _ :: _, [], h => by simp [beqL] at h
end

/-- A frame: what its slots hold. -/
abbrev Fr := List (Nat × AVal)
def Fr.get : Fr → Nat → AVal
  | [], _ => .junk
  | (d, v) :: r, t => if t = d then v else Fr.get r t
def Fr.set : Fr → Nat → AVal → Fr
  | [], d, v => [(d, v)]
  | (e, u) :: r, d, v => if d = e then (d, v) :: r else (e, u) :: Fr.set r d v
theorem Fr.get_set (f : Fr) (d t : Nat) (v : AVal) : (f.set d v).get t = if t = d then v else f.get t := by
  induction f with
  | nil => simp [Fr.set, Fr.get]
  | cons p r ih =>
    obtain ⟨e, u⟩ := p
    simp only [Fr.set]
    by_cases h : d = e
    · subst h; simp only [if_true, Fr.get]; by_cases ht : t = d <;> simp [ht]
    · simp only [if_neg h, Fr.get, ih]
      by_cases ht : t = e
      · subst ht; rw [if_pos rfl, if_pos rfl]; rw [if_neg (fun e => h e.symm)]
      · rw [if_neg ht, if_neg ht]
def Fr.of (args : List AVal) : Fr := args.zipIdx.map fun (v, i) => (i, v)

inductive Arg where
  | t (n : Nat)
  | c (v : AVal)

def Fr.ev (f : Fr) : Arg → AVal
  | .t n => f.get n
  | .c v => v

/-- What kind of values are held against each other. -/
inductive EqT where
  | bool | ptr | sl | fn | ifc
  deriving DecidableEq

inductive LenT where
  | str | sl | map

/-- What a plain cell is. -/
inductive CK where
  | i | s | b
  deriving DecidableEq

inductive AOp where
  | mv (x : Arg)
  | pick (c a b : Arg)
  | alloc (zero : List AVal)
  | box (x : Arg)
  | build (zero : List AVal) (parts : List (Nat × Nat × Arg))
  | bslice (frozen : Bool) (sz len : Nat) (zero : List AVal) (parts : List (Nat × Nat × Arg))
  | load (n : Option Nat) (x : Arg)
  | store (sz : Nat) (x y : Arg)
  | nilchk (x : Arg)
  | bin (op : BinOp) (x y : Arg)
  | eq (neg : Bool) (t : EqT) (x y : Arg)
  | eqA (neg : Bool) (ks : List CK) (x y : Arg)
  | un (op : UnOp) (x : Arg)
  | convI (k : IntKind) (x : Arg)
  | convBS (x : Arg)
  | convSS (x : Arg)
  | convSB (x : Arg)
  | convSL (x : Arg)
  | faddr (off : Nat) (x : Arg)
  | fld (n : Option Nat) (off : Nat) (x : Arg)
  | iaddrS (sz : Nat) (x i : Arg)
  | iaddrA (sz len : Nat) (x i : Arg)
  | idxA (n : Option Nat) (sz len : Nat) (x i : Arg)
  | idxStr (x i : Arg)
  | slcStr (x : Arg) (lo hi : Option Arg)
  | slcS (sz : Nat) (x : Arg) (lo hi : Option Arg)
  | slcA (sz len : Nat) (x : Arg) (lo hi : Option Arg)
  | mkslice (sz bytes : Nat) (zero : List AVal) (l c : Arg)
  | mkfn (f : Fn) (first captured : List Arg)
  | mkif (t : TypeId) (x : Arg)
  | ext (i : Nat) (x : Arg)
  | len (t : LenT) (x : Arg)
  | append (sz bytes : Nat) (x y : Arg)
  | copy (sz : Nat) (x y : Arg)
  | mnmx (mx : Bool) (x y : Arg)
  | stop
  | asrt (ifc : Bool) (yes no : List TypeId) (t : TypeId) (zero : AVal) (x : Arg)
  | eqI (neg : Bool) (x y : Arg)
  | slc0 (x : Arg)
  | arrP (n sz : Nat) (x : Arg)
  | mkmap
  | mget (s : Bool) (zero : AVal) (x k : Arg)
  | mset (s : Bool) (x k y : Arg)
  | mdel (s : Bool) (x k : Arg)
  | mlen (x : Arg)
  | appn (sz bytes : Nat) (zero : List AVal) (x n : Arg)
  | slcM (sz : Nat) (x : Arg) (lo hi : Option Arg)
  | appR (sz : Nat) (x y : Arg)
  | mkmslice (sz bytes : Nat) (zero : List AVal) (l c : Arg)
  | fgt (x : Arg)
  | clr (sz : Nat) (zero : List AVal) (x : Arg)
  | slc3 (x lo hi mx : Arg)

inductive ACallee where
  | k (i : Nat) (args : List Arg)
  | v (f : Arg) (args : List Arg)
  | inv (tbl : List (TypeId × Nat)) (r : Arg) (args : List Arg)

structure AOper where
  dst : Option Nat
  op : AOp ⊕ ACallee
  guard : Option (Nat × Bool)

inductive ACode where
  | skip
  | region (draw : Option (List (Nat × List Nat))) (ops : List AOper)
  | seq (a b : ACode)
  | cond (c : Arg) (x y : ACode)
  | block (id : Nat) (b : ACode)
  | loop (b : ACode)
  | range (g : Arg) (ps : List Nat) (asn body : ACode)
  | exit (id : Nat)
  | ret

abbrev Model := List AVal → St → Option (AVal × St)

/-- Cells replaced from a place on. -/
def splice (l : List AVal) (off : Nat) (cs : List AVal) : List AVal := l.take off ++ cs ++ l.drop (off + cs.length)

def fillA (cells : List AVal) : List (Nat × Nat × AVal) → Option (List AVal)
  | [] => some cells
  | (off, size, v) :: rest =>
    match cells? v with
    | none => none
    | some cs => if cs.length = size ∧ off + size ≤ cells.length then fillA (splice cells off cs) rest else none

/-- A part of some cells: n cells as an aggregate, or one. -/
def partA (n : Option Nat) (off : Nat) (cs : List AVal) : Option AVal :=
  match n with
  | some n => if off + n ≤ cs.length then some (.agg ((cs.drop off).take n)) else none
  | none => cs[off]?

def loadA (n : Option Nat) (x : AVal) (S : St) : Option AVal :=
  match x with
  | .ptr r v off => match S[r]? with
    | some (.live v' cells) => if v' = v then partA n off cells else none
    | _ => none
  | .fq cells => partA n 0 cells
  | _ => none

def storeA (sz : Nat) (x y : AVal) (S : St) : Option St :=
  match x, cells? y with
  | .ptr r v off, some cs => match S[r]? with
    | some (.live v' cells) => if v' = v ∧ cs.length = sz ∧ off + sz ≤ cells.length then some (S.set r (.live v (splice cells off cs))) else none
    | _ => none
  | _, _ => none

def intBin (op : BinOp) (k : IntKind) (a b : Int) : Option AVal :=
  match op with
  | .add => some (.int k (k.wrap (a + b)))
  | .sub => some (.int k (k.wrap (a - b)))
  | .mul => some (.int k (k.wrap (a * b)))
  | .quo => if b = 0 then none else some (.int k (k.wrap (a.tdiv b)))
  | .rem => if b = 0 then none else some (.int k (a.tmod b))
  | .and => some (.int k (k.wrap (BitVec.ofInt k.bits a &&& BitVec.ofInt k.bits b).toNat))
  | .or => some (.int k (k.wrap (BitVec.ofInt k.bits a ||| BitVec.ofInt k.bits b).toNat))
  | .xor => some (.int k (k.wrap (BitVec.ofInt k.bits a ^^^ BitVec.ofInt k.bits b).toNat))
  | .andNot => some (.int k (k.wrap (BitVec.ofInt k.bits a &&& ~~~ BitVec.ofInt k.bits b).toNat))
  | .eql => some (.bool (a == b))
  | .neq => some (.bool (a != b))
  | .lss => some (.bool (decide (a < b)))
  | .leq => some (.bool (decide (a ≤ b)))
  | .gtr => some (.bool (decide (a > b)))
  | .geq => some (.bool (decide (a ≥ b)))
  | .shl => none
  | .shr => none

def shiftA (op : BinOp) (k : IntKind) (a b : Int) : Option AVal :=
  if b < 0 then none else
  match op with
  | .shl => some (.int k (k.wrap (a * 2 ^ (min b.toNat k.bits))))
  | .shr => some (.int k (a.fdiv (2 ^ (min b.toNat k.bits))))
  | _ => none

def strBin (op : BinOp) (a b : List UInt8) : Option AVal :=
  match op with
  | .add => if a.length + b.length ≤ 9223372036854775807 then some (.str (a ++ b)) else none
  | .eql => some (.bool (a == b))
  | .neq => some (.bool !(a == b))
  | .lss => some (.bool (Op.bytesLess a b))
  | .leq => some (.bool (Op.bytesLess a b || a == b))
  | .gtr => some (.bool !(Op.bytesLess a b || a == b))
  | .geq => some (.bool !(Op.bytesLess a b))
  | _ => none

def binA (op : BinOp) (x y : AVal) : Option AVal :=
  match x, y with
  | .int k a, .int k' b => if op = .shl ∨ op = .shr then shiftA op k a b else if k = k' then intBin op k a b else none
  | .str a, .str b => strBin op a b
  | _, _ => none

/-- '==' between two bools, or where one side is nil. -/
def eq2 (t : EqT) (x y : AVal) : Option Bool :=
  match t, x, y with
  | .bool, .bool a, .bool b => some (a == b)
  | .ptr, .nilp, .nilp => some true
  | .ptr, .nilp, .ptr .. => some false
  | .ptr, .ptr .., .nilp => some false
  | .ptr, .nilp, .fq _ => some false
  | .ptr, .fq _, .nilp => some false
  | .sl, .nils, .nils => some true
  | .sl, .nils, .fz .. => some false
  | .sl, .fz .., .nils => some false
  | .sl, .nils, .sl .. => some false
  | .sl, .sl .., .nils => some false
  | .fn, .nilf, .nilf => some true
  | .fn, .nilf, .fn .. => some false
  | .fn, .fn .., .nilf => some false
  | .ifc, .nili, .nili => some true
  | .ifc, .nili, .iface .. => some false
  | .ifc, .iface .., .nili => some false
  | _, _, _ => none

/-- '==' of a plain cell of a kind. -/
def eqFlat (k : CK) (x y : AVal) : Option Bool :=
  match k, x, y with
  | .i, .int k a, .int j b => if k = j then some (a == b) else none
  | .s, .str a, .str b => some (a == b)
  | .b, .bool a, .bool b => some (a == b)
  | _, _, _ => none

def eqFlats : List CK → List AVal → List AVal → Option Bool
  | [], [], [] => some true
  | k :: ks, a :: x, b :: y => match eqFlat k a b, eqFlats ks x y with
    | some p, some q => some (p && q)
    | _, _ => none
  | _, _, _ => none

def unA (op : UnOp) (x : AVal) : Option AVal :=
  match op, x with
  | .neg, .int k n => intBin .sub k 0 n
  | .xor, .int k n => intBin .xor k (if k.signed then -1 else k.max) n
  | .not, .bool b => some (.bool !b)
  | _, _ => none

/-- The cells of a slice's elements, and how many elements there are. -/
def cellsOf (sz : Nat) (x : AVal) (S : St) : Option (Nat × List AVal) :=
  match x with
  | .nils => some (0, [])
  | .fz _ len cells => if cells.length = len * sz then some (len, cells) else none
  | .sl r v off len sz' => match S[r]? with
    | some (.live v' cs) => if v' = v ∧ sz' = sz ∧ off + len * sz ≤ cs.length then some (len, (cs.drop off).take (len * sz)) else none
    | _ => none
  | .str s => if sz = 1 then some (s.length, s.map fun b => .int .u8 b.toNat) else none
  | _ => none

def asByte : AVal → Option UInt8
  | .int .u8 n => some (UInt8.ofNat n.toNat)
  | _ => none
def asBytes : List AVal → Option (List UInt8)
  | [] => some []
  | x :: r => match asByte x, asBytes r with
    | some a, some l => some (a :: l)
    | _, _ => none

/-- The bytes of a slice of bytes. -/
def bytesA (x : AVal) (S : St) : Option (List UInt8) :=
  match x with
  | .str _ => none
  | x => match cellsOf 1 x S with
    | some (_, cs) => asBytes cs
    | none => none

def appendA (sz bytes : Nat) (x y : AVal) (S : St) : Option (AVal × St) :=
  match cellsOf sz y S with
  | none => none
  | some (n, new) =>
    match x with
    | .nils => if n = 0 then some (.nils, S) else if n * bytes ≤ 140737488355328 then some (.sl S.length 0 0 n sz, S ++ [.live 0 new]) else none
    | .fz full len cells =>
      if n = 0 then some (.fz full len cells, S)
      else if full = true ∧ cells.length = len * sz ∧ (len + n) * bytes ≤ 140737488355328 then some (.sl S.length 0 0 (len + n) sz, S ++ [.live 0 (cells ++ new)]) else none
    | .sl r v off len sz' => match S[r]? with
      | some (.live v' cs) =>
        if v' = v ∧ sz' = sz ∧ off + len * sz ≤ cs.length ∧ (len + n) * bytes ≤ 140737488355328 then
          some (.sl r (v + 1) 0 (len + n) sz, S.set r (.live (v + 1) ((cs.drop off).take (len * sz) ++ new))) else none
      | _ => none
    | _ => none

/-- Cells are added. -/
def appendC (sz bytes : Nat) (x : AVal) (n : Nat) (new : List AVal) (S : St) : Option (AVal × St) :=
  match x with
  | .nils => if n = 0 then some (.nils, S) else if n * bytes ≤ 140737488355328 then some (.sl S.length 0 0 n sz, S ++ [.live 0 new]) else none
  | .fz full len cells =>
    if n = 0 then some (.fz full len cells, S)
    else if full = true ∧ cells.length = len * sz ∧ (len + n) * bytes ≤ 140737488355328 then some (.sl S.length 0 0 (len + n) sz, S ++ [.live 0 (cells ++ new)]) else none
  | .sl r v off len sz' => match S[r]? with
    | some (.live v' cs) =>
      if v' = v ∧ sz' = sz ∧ off + len * sz ≤ cs.length ∧ (len + n) * bytes ≤ 140737488355328 then
        some (.sl r (v + 1) 0 (len + n) sz, S.set r (.live (v + 1) ((cs.drop off).take (len * sz) ++ new))) else none
    | _ => none
  | _ => none

theorem appendA_eq (sz bytes : Nat) (x y : AVal) (S : St) : appendA sz bytes x y S = match cellsOf sz y S with
    | none => none
    | some (n, new) => appendC sz bytes x n new S := by
  unfold appendA appendC
  cases cellsOf sz y S <;> rfl

def copyA (sz : Nat) (x y : AVal) (S : St) : Option (AVal × St) :=
  match cellsOf sz y S with
  | none => none
  | some (n, new) =>
    match x with
    | .nils => some (.int .i64 0, S)
    | .sl r v off len sz' => match S[r]? with
      | some (.live v' cs) =>
        if v' = v ∧ sz' = sz ∧ off + len * sz ≤ cs.length then
          some (.int .i64 (min n len : Nat), S.set r (.live v (splice cs off (new.take (min n len * sz))))) else none
      | _ => none
    | _ => none

def mkA (sz bytes : Nat) (zero : List AVal) (l c : AVal) (S : St) : Option (AVal × St) :=
  match l, c with
  | .int _ l, .int _ c =>
    if 0 ≤ l ∧ l ≤ c ∧ c * bytes ≤ 281474976710656 ∧ c ≤ 9223372036854775807 ∧ zero.length = sz then
      some (.sl S.length 0 0 l.toNat sz, S ++ [.live 0 (List.replicate l.toNat zero).flatten]) else none
  | _, _ => none

def iaddrSA (sz : Nat) (x i : AVal) : Option AVal :=
  match x, i with
  | .sl r v off len sz', .int _ i => if sz' = sz ∧ 0 ≤ i ∧ i < len then some (.ptr r v (off + i.toNat * sz)) else none
  | .fz _ len cells, .int _ i => if cells.length = len * sz ∧ 0 ≤ i ∧ i < len then some (.fq ((cells.drop (i.toNat * sz)).take sz)) else none
  | _, _ => none

def iaddrAA (sz len : Nat) (x i : AVal) : Option AVal :=
  match x, i with
  | .ptr r v off, .int _ i => if 0 ≤ i ∧ i < len then some (.ptr r v (off + i.toNat * sz)) else none
  | .fq cells, .int _ i => if 0 ≤ i ∧ i < len then some (.fq ((cells.drop (i.toNat * sz)).take sz)) else none
  | _, _ => none

def bounds (n : Nat) (lo hi : Option AVal) : Option (Nat × Nat) :=
  match (match hi with | none => some (n : Int) | some (.int _ h) => some h | _ => none), (match lo with | none => some 0 | some (.int _ l) => some l | _ => none) with
  | some h, some l => if 0 ≤ l ∧ l ≤ h ∧ h ≤ n then some (l.toNat, h.toNat) else none
  | _, _ => none

def slcStrA (x : AVal) (lo hi : Option AVal) : Option AVal :=
  match x with
  | .str s => match bounds s.length lo hi with
    | some (l, h) => some (.str ((s.take h).drop l))
    | none => none
  | _ => none

def slcSA (sz : Nat) (x : AVal) (lo hi : Option AVal) : Option AVal :=
  match x with
  | .nils => match bounds 0 lo hi with
    | some _ => some .nils
    | none => none
  | .sl r v off len sz' => match bounds len lo hi with
    | some (l, h) => if sz' = sz then some (.sl r v (off + l * sz) (h - l) sz) else none
    | none => none
  | .fz full len cells => match bounds len lo hi with
    | some (l, h) => if cells.length = len * sz then some (.fz (full && decide (h = len)) (h - l) ((cells.drop (l * sz)).take ((h - l) * sz))) else none
    | none => none
  | _ => none

/-- A slice whose room is known; or a part of one, up to its room. -/
def slcMA (sz : Nat) (x : AVal) (lo hi : Option AVal) : Option AVal :=
  match x, hi with
  | .sl r v off len sz', _ => match bounds len lo hi with
    | some (l, h) => if sz' = sz then some (.slm r v (off + l * sz) (h - l) (len - l) sz) else none
    | none => none
  | .slm r v off _ mc sz', some _ => match bounds mc lo hi with
    | some (l, h) => if sz' = sz then some (.sl r v (off + l * sz) (h - l) sz) else none
    | none => none
  | _, _ => none

/-- Cells are added where there is room. -/
def appendR (x : AVal) (sz n : Nat) (new : List AVal) (S : St) : Option (AVal × St) :=
  match x with
  | .slm r v off len mc sz' => match S[r]? with
    | some (.live v' cs) => if v' = v ∧ sz' = sz ∧ len + n ≤ mc ∧ off + (len + n) * sz ≤ cs.length then some (.slm r v off (len + n) mc sz, S.set r (.live v (splice cs (off + len * sz) new))) else none
    | _ => none
  | _ => none

def mkM (sz bytes : Nat) (zero : List AVal) (l c : AVal) (S : St) : Option (AVal × St) :=
  match l, c with
  | .int _ l, .int _ c =>
    if 0 ≤ l ∧ l ≤ c ∧ c * bytes ≤ 281474976710656 ∧ c ≤ 9223372036854775807 ∧ zero.length = sz then
      some (.slm S.length 0 0 l.toNat c.toNat sz, S ++ [.live 0 (List.replicate c.toNat zero).flatten]) else none
  | _, _ => none

/-- A slice is set to nought. -/
def clearA (sz : Nat) (zero : List AVal) (x : AVal) (S : St) : Option St :=
  match x with
  | .nils => some S
  | .sl r v off len sz' => match S[r]? with
    | some (.live v' cs) => if v' = v ∧ sz' = sz ∧ zero.length = sz ∧ off + len * sz ≤ cs.length then some (S.set r (.live v (splice cs off (List.replicate len zero).flatten))) else none
    | _ => none
  | _ => none

def slcAA (sz len : Nat) (x : AVal) (lo hi : Option AVal) (S : St) : Option AVal :=
  match bounds len lo hi with
  | none => none
  | some (l, h) =>
    match x with
    | .ptr r v off => match S[r]? with
      | some (.live v' cs) => if v' = v ∧ off + len * sz ≤ cs.length then some (.sl r v (off + l * sz) (h - l) sz) else none
      | _ => none
    | .fq cells => if len * sz ≤ cells.length then some (.fz (decide (h = len)) (h - l) ((cells.drop (l * sz)).take ((h - l) * sz))) else none
    | _ => none

def faddrA (off : Nat) (x : AVal) : Option AVal :=
  match x with
  | .ptr r v o => some (.ptr r v (o + off))
  | .fq c => some (.fq (c.drop off))
  | _ => none

def lenA (t : LenT) (x : AVal) : Option AVal :=
  match t, x with
  | .str, .str s => some (.int .i64 s.length)
  | .sl, .sl _ _ _ len _ => some (.int .i64 len)
  | .sl, .slm _ _ _ len _ _ => some (.int .i64 len)
  | .sl, .fz _ len _ => some (.int .i64 len)
  | .sl, .nils => some (.int .i64 0)
  | .map, .mapn => some (.int .i64 0)
  | _, _ => none

/-- Are two keys alike? -/
def sameK : AVal → AVal → Option Bool
  | .int k a, .int j b => if k = j then some (a == b) else none
  | .str a, .str b => some (a == b)
  | _, _ => none

def flatA : AVal → Bool
  | .int .. | .str _ => true
  | _ => false

/-- A key: a text, or a number. -/
def keyA (s : Bool) : AVal → Bool
  | .int .. => !s
  | .str _ => s
  | _ => false

/-- Where a key stands in a map, and what stands at it. -/
def mfind (k : AVal) : List (AVal × AVal) → Nat → Option (Option (Nat × AVal))
  | [], _ => some none
  | e :: es, i => match sameK k e.1 with
    | some true => some (some (i, e.2))
    | some false => mfind k es (i + 1)
    | none => none

def same (S : St) (v : Option AVal) : Option (AVal × St) := v.map fun x => (x, S)

def evOp (ρ : Arg → AVal) (S : St) : AOp → Option (AVal × St)
  | .mv x => some (ρ x, S)
  | .pick c a b => match ρ c with
    | .bool t => some (if t = true then ρ a else ρ b, S)
    | _ => none
  | .alloc zero => some (.ptr S.length 0 0, S ++ [.live 0 zero])
  | .box x => match cells? (ρ x) with
    | some cs => some (.ptr S.length 0 0, S ++ [.live 0 cs])
    | none => none
  | .build zero parts => same S ((fillA zero (parts.map fun (o, z, a) => (o, z, ρ a))).map .agg)
  | .bslice frozen sz len zero parts => match fillA (List.replicate len zero).flatten (parts.map fun (o, z, a) => (o, z, ρ a)) with
    | some cs => if frozen = true then some (.fz true len cs, S) else some (.sl S.length 0 0 len sz, S ++ [.live 0 cs])
    | none => none
  | .load n x => same S (loadA n (ρ x) S)
  | .store sz x y => (storeA sz (ρ x) (ρ y) S).map fun S' => (.junk, S')
  | .nilchk x => match ρ x with
    | .ptr r v o => some (.ptr r v o, S)
    | .fq c => some (.fq c, S)
    | _ => none
  | .bin op x y => same S (binA op (ρ x) (ρ y))
  | .eq neg t x y => same S ((eq2 t (ρ x) (ρ y)).map fun b => .bool (neg ^^ b))
  | .eqA neg ks x y => match ρ x, ρ y with
    | .agg a, .agg b => same S ((eqFlats ks a b).map fun b => .bool (neg ^^ b))
    | _, _ => none
  | .un op x => same S (unA op (ρ x))
  | .convI k x => match ρ x with
    | .int _ n => some (.int k (k.wrap n), S)
    | _ => none
  | .convBS x => match bytesA (ρ x) S with
    | some s => some (.str s, S)
    | none => none
  | .convSS x => match ρ x with
    | .str s => some (.str s, S)
    | _ => none
  | .convSB x => match ρ x with
    | .str s => some (.sl S.length 0 0 s.length 1, S ++ [.live 0 (s.map fun b => .int .u8 b.toNat)])
    | _ => none
  | .convSL x => match ρ x with
    | .sl r v off len sz => match S[r]? with
      | some (.live v' _) => if v' = v ∧ 0 < len then some (.sl r v off len sz, S) else none
      | _ => none
    | _ => none
  | .faddr off x => same S (faddrA off (ρ x))
  | .fld n off x => match ρ x with
    | .agg cs => same S (partA n off cs)
    | _ => none
  | .iaddrS sz x i => same S (iaddrSA sz (ρ x) (ρ i))
  | .iaddrA sz len x i => same S (iaddrAA sz len (ρ x) (ρ i))
  | .idxA n sz len x i => match ρ x, ρ i with
    | .agg cs, .int _ i => if 0 ≤ i ∧ i < len then same S (partA n (i.toNat * sz) cs) else none
    | _, _ => none
  | .idxStr x i => match ρ x, ρ i with
    | .str s, .int _ i => if 0 ≤ i then (match s[i.toNat]? with | some b => some (.int .u8 b.toNat, S) | none => none) else none
    | _, _ => none
  | .slcStr x lo hi => same S (slcStrA (ρ x) (lo.map ρ) (hi.map ρ))
  | .slcS sz x lo hi => same S (slcSA sz (ρ x) (lo.map ρ) (hi.map ρ))
  | .slcA sz len x lo hi => same S (slcAA sz len (ρ x) (lo.map ρ) (hi.map ρ) S)
  | .mkslice sz bytes zero l c => mkA sz bytes zero (ρ l) (ρ c) S
  | .mkfn f first captured => some (.fn f (first.map ρ) (captured.map ρ), S)
  | .mkif t x => some (.iface t (ρ x), S)
  | .ext i x => match ρ x with
    | .tup vs => same S vs[i]?
    | _ => none
  | .len t x => same S (lenA t (ρ x))
  | .append sz bytes x y => appendA sz bytes (ρ x) (ρ y) S
  | .copy sz x y => copyA sz (ρ x) (ρ y) S
  | .mnmx mx x y => match ρ x, ρ y with
    | .int k a, .int j b => if k = j then some (.int k (if mx = true then max a b else min a b), S) else none
    | _, _ => none
  | .stop => none
  | .asrt ifc yes no t zero x => match ρ x with
    | .nili => some (.tup [zero, .bool false], S)
    | .iface d v =>
      if ifc = true then (if yes.contains d = true then some (.tup [.iface d v, .bool true], S) else if no.contains d = true then some (.tup [zero, .bool false], S) else none)
      else if d = t then some (.tup [v, .bool true], S) else some (.tup [zero, .bool false], S)
    | _ => none
  | .eqI neg x y => match ρ x, ρ y with
    | .iface t _, .iface u _ => if t = u then none else some (.bool neg, S)
    | .nili, .iface .. => some (.bool neg, S)
    | .iface .., .nili => some (.bool neg, S)
    | _, _ => none
  | .slc0 x => match ρ x with
    | .nils => some (.nils, S)
    | .sl .. => some (.fz true 0 [], S)
    | .fz .. => some (.fz true 0 [], S)
    | _ => none
  | .arrP n sz x => match ρ x with
    | .sl r v off len sz' => if sz' = sz ∧ 1 ≤ n ∧ n ≤ len then some (.ptr r v off, S) else none
    | .fz _ len cells => if 1 ≤ n ∧ n ≤ len then some (.fq cells, S) else none
    | _ => none
  | .appn sz bytes zero x n => match ρ n with
    | .int .i64 l => if 0 ≤ l ∧ l.toNat * bytes ≤ 140737488355328 ∧ l ≤ 9223372036854775807 then appendC sz bytes (ρ x) l.toNat (List.replicate l.toNat zero).flatten S else none
    | _ => none
  | .slcM sz x lo hi => same S (slcMA sz (ρ x) (lo.map ρ) (hi.map ρ))
  | .appR sz x y => match cellsOf sz (ρ y) S with
    | some (n, new) => appendR (ρ x) sz n new S
    | none => none
  | .mkmslice sz bytes zero l c => mkM sz bytes zero (ρ l) (ρ c) S
  | .fgt x => match ρ x with
    | .slm r v off len _ sz => some (.sl r v off len sz, S)
    | _ => none
  | .clr sz zero x => (clearA sz zero (ρ x) S).map fun S' => (.tup [], S')
  | .slc3 x lo hi mx => match ρ x, ρ lo, ρ hi, ρ mx with
    | .sl _ _ _ len _, .int _ l, .int _ h, .int _ m => if 0 ≤ l ∧ l ≤ h ∧ h ≤ m ∧ m ≤ (len : Int) then some (.junk, S) else none
    | _, _, _, _ => none
  | .mkmap => some (.mpv S.length, S ++ [.mp [] 0])
  | .mget s zero x k => match ρ x with
    | .mapn => if keyA s (ρ k) = true then some (zero, S) else none
    | .mpv j => match S[j]? with
      | some (.mp es _) => if keyA s (ρ k) = true then (match mfind (ρ k) es 0 with
        | some (some (_, v)) => some (v, S)
        | some none => some (zero, S)
        | none => none) else none
      | _ => none
    | _ => none
  | .mset s x k y => match ρ x with
    | .mpv j => match S[j]? with
      | some (.mp es clk) => if keyA s (ρ k) = true ∧ flatA (ρ y) = true then (match mfind (ρ k) es 0 with
        | some (some (i, _)) => some (.junk, S.set j (.mp (es.set i (ρ k, ρ y)) clk))
        | some none => some (.junk, S.set j (.mp (es ++ [(ρ k, ρ y)]) (clk + 1)))
        | none => none) else none
      | _ => none
    | _ => none
  | .mdel s x k => match ρ x with
    | .mpv j => match S[j]? with
      | some (.mp es clk) => if keyA s (ρ k) = true then (match mfind (ρ k) es 0 with
        | some (some (i, _)) => some (.tup [], S.set j (.mp (es.eraseIdx i) clk))
        | some none => some (.tup [], S.set j (.mp es clk))
        | none => none) else none
      | _ => none
    | _ => none
  | .mlen x => match ρ x with
    | .mapn => some (.int .i64 0, S)
    | .mpv j => match S[j]? with
      | some (.mp es _) => some (.int .i64 (es.length : Nat), S)
      | _ => none
    | _ => none

/-- The callees' models, by a function's own small numbers; 'dyn': by the program's number. -/
structure Orc where
  loc : List Model
  dyn : FuncId → Model
  itr : FuncId → (Nat → Model) → Model := fun _ _ _ _ => none
  yld : Nat → Model := fun _ _ _ => none

def evCall (O : Orc) (ρ : Arg → AVal) (S : St) : ACallee → Option (AVal × St)
  | .k i args => match O.loc[i]? with
    | some g => g (args.map ρ) S
    | none => none
  | .v f args => match ρ f with
    | .fn (.func k) first captured => O.dyn k (first ++ args.map ρ ++ captured) S
    | .yld j => O.yld j (args.map ρ) S
    | _ => none
  | .inv tbl r args => match ρ r with
    | .iface t v => match tbl.lookup t with
      | some i => match O.loc[i]? with
        | some g => g (v :: args.map ρ) S
        | none => none
      | none => none
    | _ => none

def putA (f : Fr) (dst : Option Nat) (v : AVal) : Fr :=
  match dst with
  | some d => f.set d v
  | none => f

def evAny (O : Orc) (ρ : Arg → AVal) (S : St) : AOp ⊕ ACallee → Option (AVal × St)
  | .inl op => evOp ρ S op
  | .inr c => evCall O ρ S c

def putR (f : Fr) (dst : Option Nat) : Option (AVal × St) → Option (Fr × St)
  | some (v, S') => some (putA f dst v, S')
  | none => none

def evOper (O : Orc) (o : AOper) (f : Fr) (S : St) : Option (Fr × St) :=
  match o.guard with
  | none => putR f o.dst (evAny O f.ev S o.op)
  | some (t, want) => match f.get t with
    | .bool b => if b = want then putR f o.dst (evAny O f.ev S o.op) else some (putA f o.dst (.tup []), S)
    | .tup vs => if vs.isEmpty = true then some (putA f o.dst (.tup []), S) else none
    | _ => none

def evOps (O : Orc) : List AOper → Fr → St → Option (Fr × St)
  | [], f, S => some (f, S)
  | o :: r, f, S => match evOper O o f S with
    | some (f', S') => evOps O r f' S'
    | none => none

/-- What lies ahead of each operation, and behind the last one. -/
def trL (O : Orc) : List AOper → Fr → St → List (Fr × St)
  | [], f, S => [(f, S)]
  | o :: r, f, S => (f, S) :: match evOper O o f S with
    | some (f', S') => trL O r f' S'
    | none => []

/-- A reading operation reads the same over another heap. -/
def sameVal : Option (AVal × St) → Option (AVal × St) → Bool
  | some (v, _), some (u, _) => beqV v u
  | _, _ => false

def sameRead (O : Orc) (o : AOper) (f : Fr) (S T : St) : Bool :=
  match o.guard with
  | none => sameVal (evAny O f.ev S o.op) (evAny O f.ev T o.op)
  | some (t, want) => match f.get t with
    | .bool b => if b = want then sameVal (evAny O f.ev S o.op) (evAny O f.ev T o.op) else true
    | .tup _ => true
    | _ => false

/-- A region that draws its order: what may float past effects reads the same on either side. -/
def stable (O : Orc) (d : Option (List (Nat × List Nat))) (ops : List AOper) (f : Fr) (S : St) : Bool :=
  match d with
  | none => true
  | some [] => true
  | some info =>
    let tr := trL O ops f S
    info.all fun (i, es) => es.all fun e => match ops[i]?, tr[i]?, tr[if i < e then e + 1 else e]? with
      | some o, some (fi, Si), some (_, Sj) => sameRead O o fi Si Sj
      | _, _, _ => false

/-- The slots of what is allocated out of the text's order hold nothing yet. -/
def junkL : List (Nat × List Nat) → List AOper → Fr → Fr
  | [], _, f => f
  | (j, []) :: r, ops, f => junkL r ops (match (ops[j]?).bind (·.dst) with | some t => f.set t .junk | none => f)
  | (_, _ :: _) :: r, ops, f => junkL r ops f

def junkA (d : Option (List (Nat × List Nat))) (ops : List AOper) (f : Fr) : Fr :=
  match d with
  | none => f
  | some l => junkL l ops f

abbrev Out := Ex × Fr × St

def iter (step : Fr → St → Option Out) : Nat → Fr → St → Option Out
  | 0, _, _ => none
  | n + 1, f, S => match step f S with
    | some (.normal, f', S') => iter step n f' S'
    | r => r

/-- From here on a frame's slots tell which loops over functions it has run. -/
def markBase : Nat := 1000000

def marks (f : Fr) : List Nat := f.filterMap fun p => if markBase ≤ p.1 then some (p.1 - markBase) else none

/-- A round of a loop over a function. -/
def rnd (asn body : Fr → St → Option Out) (ps : List Nat) (f : Fr) (j : Nat) : Model := fun args S =>
  if args.length = ps.length then
    match S[j]? with
    | some (.loop .ready none) => match asn ((ps.zip args).foldl (fun f (t, v) => f.set t v) f) S with
      | some (.normal, f1, S1) => match S1[j]? with
        | some (.loop .ready none) => match body f1 (S1.set j (.loop .busy none)) with
          | some (e, _, S2) => match S2[j]? with
            | some (.loop .busy none) => some (.bool (decide (e = .normal)), S2.set j (if e = .normal then .loop .ready none else .loop .done (some e)))
            | _ => none
          | none => none
        | _ => none
      | _ => none
    | _ => none
  else none

/-- Behind a loop over a function. -/
def rngEnd (f : Fr) (j : Nat) : Option (AVal × St) → Option Out
  | some (_, S) => match S[j]? with
    | some (.loop .ready none) => some (.normal, (markBase + j, .junk) :: f, S.set j (.loop .exhausted none))
    | some (.loop .done (some .ret)) => some (.ret, (markBase + j, .junk) :: f, S.set j (.loop .exhausted (some .ret)))
    | some (.loop .done (some (.exit id))) => some (.exit id, (markBase + j, .junk) :: f, S.set j (.loop .exhausted (some (.exit id))))
    | _ => none
  | none => none

def evC (O : Orc) (n : Nat) : ACode → Fr → St → Option Out
  | .skip, f, S => some (.normal, f, S)
  | .region d ops, f, S => match evOps O ops (junkA d ops f) S with
    | some (f', S') => if stable O d ops (junkA d ops f) S = true then some (.normal, f', S') else none
    | none => none
  | .seq a b, f, S => match evC O n a f S with
    | some (.normal, f', S') => evC O n b f' S'
    | r => r
  | .cond c x y, f, S => match f.ev c with
    | .bool b => if b = true then evC O n x f S else evC O n y f S
    | _ => none
  | .block id b, f, S => match evC O n b f S with
    | some (.exit id', f', S') => some (if id' = id then .normal else .exit id', f', S')
    | r => r
  | .loop b, f, S => iter (evC O n b) n f S
  | .range g ps asn body, f, S => match f.ev g, marks f with
    | .fn (.func k) first captured, [] =>
      rngEnd f S.length (O.itr k (fun j args S' => if j = S.length then rnd (evC O n asn) (evC O n body) ps f j args S' else none)
        (first ++ [.yld S.length] ++ captured) (S ++ [.loop .ready none]))
    | _, _ => none
  | .exit id, f, S => some (.exit id, f, S)
  | .ret, f, S => some (.ret, f, S)

structure AFun where
  params : Nat
  results : List (Nat ⊕ (Nat × Option Nat))   -- a slot; or the slot of a pointer to it, and its cells
  body : ACode
  rng : Bool

/-- No loop over a function. -/
def ACode.plain : ACode → Bool
  | .seq a b => a.plain && b.plain
  | .cond _ a b => a.plain && b.plain
  | .block _ b => b.plain
  | .loop b => b.plain
  | .range .. => false
  | _ => true

/-- The loops over functions that a frame has run are done with. -/
def shut : List Nat → St → Option St
  | [], S => some S
  | j :: r, S => match S[j]? with
    | some (.loop _ _) => shut r (S.set j .dead)
    | _ => none

def resA (f : Fr) (S : St) : Nat ⊕ (Nat × Option Nat) → Option AVal
  | .inl t => some (f.get t)
  | .inr (t, n) => loadA n (f.get t) S

def resultsA (f : Fr) (S : St) (l : List (Nat ⊕ (Nat × Option Nat))) : Option AVal :=
  match l with
  | [r] => resA f S r
  | l => (l.mapM (resA f S)).map .tup

def evF (O : Orc) (n : Nat) (F : AFun) (args : List AVal) (S : St) : Option (AVal × St) :=
  if args.length = F.params then
    match evC O n F.body (Fr.of args) S with
    | some (.exit _, _, _) => none
    | some (_, f, S') => if F.rng = true then (match shut (marks f) S' with
        | some S'' => (resultsA f S'' F.results).map fun v => (v, S'')
        | none => none) else (resultsA f S' F.results).map fun v => (v, S')
    | none => none
  else none

end Am
