/- From the model's code to the machine's language. -/
import Derived.Test.YtffhiphcmohjdaaGreatDoorAmMem
import Derived.Laws.StructEq
import Derived.Stop.Asserts
set_option linter.all false
namespace Am
open Go

def scalA : Value → Option AVal
  | .bool b => some (.bool b)
  | .int k n => some (.int k n)
  | .string s => some (.str s.data.toList)
  | .pointer none => some .nilp
  | .slice none 0 0 => some .nils
  | .nilFunc => some .nilf
  | .nilIface => some .nili
  | .map none => some .mapn
  | _ => none

def valA : Value → Option AVal
  | .agg cs => (cs.toList.mapM scalA).map .agg
  | v => scalA v

def argA : Operand → Option Arg
  | .tmp t => some (.t t)
  | .const v => (valA v).map .c
  | .func f => some (.c (.fn (.func f) [] []))
  | .global _ => none

def zeroA (P : Program) (t : TypeId) : Option (List AVal) :=
  match (P.info? t).bind (·.zero) with
  | some z => z.cells.toList.mapM scalA
  | none => none

def sizeP (P : Program) (t : TypeId) : Option Nat := (P.info? t).map (·.size)
def bytesP (P : Program) (t : TypeId) : Option Nat := (P.info? t).map (·.bytes)

def optM {α β : Type} (f : α → Option β) : Option α → Option (Option β)
  | none => some none
  | some a => (f a).map some

def isConst : Operand → Bool
  | .const _ => true
  | _ => false

/-- A type whose values are held against each other cell by cell: numbers, texts and bools, arrays and structs of them: its cells' kinds. -/
def flatK (P : Program) : Nat → TypeId → Option (List CK)
  | 0, _ => none
  | d + 1, t => match P.underlying t with
    | some (.int _) => if sizeP P t = some 1 then some [.i] else none
    | some .string => if sizeP P t = some 1 then some [.s] else none
    | some .bool => if sizeP P t = some 1 then some [.b] else none
    | some (.array n e) => match flatK P d e with
      | some ks => if sizeP P e = some ks.length ∧ ks ≠ [] then some (List.replicate n ks).flatten else none
      | none => none
    | some (.struct fs) =>
      if P.stoodInHeld t = true then none else
      flatF (flatK P d) P fs.toList 0
    | _ => none
where flatF (g : TypeId → Option (List CK)) (P : Program) : List Field → Nat → Option (List CK)
  | [], _ => some []
  | f :: fs, off => match g f.type with
    | some ks => if f.offset = off ∧ f.name ≠ "_" ∧ sizeP P f.type = some ks.length ∧ ks ≠ [] then (flatF g P fs (off + ks.length)).map (ks ++ ·) else none
    | none => none

def notInt (d : TypeDesc) : Bool := match d with | .int _ => false | _ => true

/-- The methods of an interface that a type has not. -/
def lacks (want : Array (String × TypeId)) (got : Array Method) : List String := lacking want got

/-- The types that have methods. -/
def mtypes (P : Program) : List TypeId := (List.range P.types.size).filter fun t => (P.info? t).any fun i => !i.methods.isEmpty

/-- The function that a type's method is, if its receiver is the value itself. -/
def methA (P : Program) (name : String) (t : TypeId) : Option FuncId := do
  let i ← P.info? t
  let m ← i.methods.find? (·.name == name)
  let (f, p) ← m.func
  if m.path.isEmpty = true then
    match ← P.underlying t with
    | .pointer _ => if p = true then some f else none
    | _ => if p = false then some f else none
  else none

def methTbl (P : Program) (fs : List FuncId) (name : String) : List (TypeId × Nat) :=
  (mtypes P).filterMap fun t => do
    let f ← methA P name t
    let i ← fs.idxOf? f
    some (t, i)

def compCall (P : Program) (fs : List FuncId) (c : Call) : Option (AOp ⊕ ACallee) :=
  match c.callee, c.args.toList, c.argTypes.toList with
  | .builtin .append, [s, x], [ts, tx] => do
    let .slice e ← P.underlying ts | none
    let d ← P.underlying tx
    let sz ← sizeP P e
    let zero ← zeroA P e
    let bytes ← bytesP P e
    let as ← argA s
    let ax ← argA x
    if notInt d = true ∧ zero.length = sz ∧ bytes ≠ 0 then pure (.inl (.append sz bytes as ax))
    else if notInt d = false ∧ zero.length = sz ∧ bytes ≠ 0 ∧ sz ≠ 0 then pure (.inl (.appn sz bytes zero as ax)) else none
  | .builtin .copy, [s, x], ts :: _ => do
    let .slice e ← P.underlying ts | none
    pure (.inl (.copy (← sizeP P e) (← argA s) (← argA x)))
  | .builtin .len, [x], [t] => do
    match ← P.underlying t with
    | .string => pure (.inl (.len .str (← argA x)))
    | .slice _ => pure (.inl (.len .sl (← argA x)))
    | .map _ _ => pure (.inl (.mlen (← argA x)))
    | .array n _ => pure (.inl (.mv (.c (.int .i64 n))))
    | .pointer arr => match ← P.underlying arr with
      | .array n _ => pure (.inl (.mv (.c (.int .i64 n))))
      | _ => none
    | _ => none
  | .builtin .min, [x, y], _ => do pure (.inl (.mnmx false (← argA x) (← argA y)))
  | .builtin .max, [x, y], _ => do pure (.inl (.mnmx true (← argA x) (← argA y)))
  | .builtin .delete, [m, k], [t, _] => do
    let .map kt _ ← P.underlying t | none
    match ← P.underlying kt with
    | .int _ => pure (.inl (.mdel false (← argA m) (← argA k)))
    | .string => pure (.inl (.mdel true (← argA m) (← argA k)))
    | _ => none
  | .builtin .clear, [x], [t] => do
    let .slice e ← P.underlying t | none
    let sz ← sizeP P e
    let zero ← zeroA P e
    pure (.inl (.clr sz zero (← argA x)))
  | .value (.func f), l, _ => do
    let i ← fs.idxOf? f
    pure (.inr (.k i (← l.mapM argA)))
  | .value (.tmp t), l, _ => do pure (.inr (.v (.t t) (← l.mapM argA)))
  | .invoke r name, l, _ => do pure (.inr (.inv (methTbl P fs name) (← argA r) (← l.mapM argA)))
  | _, _, _ => none

/-- Cells are added where there is room. -/
def compAppR (P : Program) (c : Call) : Option (AOp ⊕ ACallee) :=
  match c.callee, c.args.toList, c.argTypes.toList with
  | .builtin .append, [s, x], [ts, tx] => do
    let .slice e ← P.underlying ts | none
    let d ← P.underlying tx
    let sz ← sizeP P e
    let as ← argA s
    let ax ← argA x
    if notInt d = true then pure (.inl (.appR sz as ax)) else none
  | _, _, _ => none

def compParts (place : Nat → Option (Nat × Nat)) (parts : List (Nat × Operand)) : Option (List (Nat × Nat × Arg)) :=
  parts.mapM fun (i, x) => do
    let (o, z) ← place i
    pure (o, z, ← argA x)

/-- A nought in the code. -/
def zeroC : Operand → Option IntKind
  | .const (.int k n) => if n = 0 then some k else none
  | _ => none

theorem zeroC_eq {x : Operand} {k : IntKind} (h : zeroC x = some k) : x = .const (.int k 0) := by
  unfold zeroC at h
  split at h
  · split at h
    · rename_i hn; subst hn; cases h; rfl
    · simp at h
  · simp at h

def compOp1 (P : Program) (fs : List FuncId) (frozen : Bool) (o : Op) : Option (AOp ⊕ ACallee) := do
  match o with
  | .move x | .assign x =>
    let ax ← argA x
    pure (.inl (if frozen = true then .fgt ax else .mv ax))
  | .pick c a b => pure (.inl (.pick (← argA c) (← argA a) (← argA b)))
  | .alloc e => pure (.inl (.alloc (← zeroA P e)))
  | .box _ x => pure (.inl (.box (← argA x)))
  | .build t parts =>
    let zero ← zeroA P t
    match ← P.underlying t with
    | .struct fields =>
      let sizes ← fields.toList.mapM fun f => do pure (f.offset, ← sizeP P f.type)
      pure (.inl (.build zero (← compParts (sizes[·]?) parts.toList)))
    | .array _ e =>
      let sz ← sizeP P e
      pure (.inl (.build zero (← compParts (fun i => some (i * sz, sz)) parts.toList)))
    | _ => none
  | .buildSlice t len parts =>
    let .slice e ← P.underlying t | none
    let sz ← sizeP P e
    let zero ← zeroA P e
    if zero.length ≠ sz then none
    if len * sz > 16777216 then none
    pure (.inl (.bslice frozen sz len zero (← compParts (fun i => some (i * sz, sz)) parts.toList)))
  | .load t a => pure (.inl (.load (← nOf P t) (← argA a)))
  | .store t a x => pure (.inl (.store (← sizeP P t) (← argA a) (← argA x)))
  | .nilCheck x => pure (.inl (.nilchk (← argA x)))
  | .binOp op t x y _ =>
    let ax ← argA x
    let ay ← argA y
    if op = .eql ∨ op = .neq then
      match ← P.underlying t with
      | .int _ | .string => pure (.inl (.bin op ax ay))
      | .bool => pure (.inl (.eq (op = .neq) .bool ax ay))
      | .pointer _ => pure (.inl (.eq (op = .neq) .ptr ax ay))
      | .slice _ => pure (.inl (.eq (op = .neq) .sl ax ay))
      | .func .. => pure (.inl (.eq (op = .neq) .fn ax ay))
      | .interface _ => if isConst x || isConst y then pure (.inl (.eq (op = .neq) .ifc ax ay)) else pure (.inl (.eqI (op = .neq) ax ay))
      | .struct _ | .array _ _ =>
        if P.eqGuardType P.depth t = true then none else pure (.inl (.eqA (op = .neq) (← flatK P 20 t) ax ay))
      | _ => none
    else pure (.inl (.bin op ax ay))
  | .unOp op _ x => pure (.inl (.un op (← argA x)))
  | .convert src dst x =>
    let ax ← argA x
    match ← P.underlying src, ← P.underlying dst with
    | .int _, .int k => pure (.inl (.convI k ax))
    | .string, .string => pure (.inl (.convSS ax))
    | .slice e, .string => match ← P.underlying e with
      | .int .u8 => pure (.inl (.convBS ax))
      | _ => none
    | .string, .slice e => match ← P.underlying e with
      | .int .u8 => pure (.inl (.convSB ax))
      | _ => none
    | .slice _, .slice e => match ← P.underlying e with
      | .int .u8 => if src = dst then pure (.inl (.convSL ax)) else none
      | _ => none
    | _, _ => none
  | .makeInterface t x => match ← P.underlying t with
    | .interface _ => none
    | _ => pure (.inl (.mkif t (← argA x)))
  | .makeFunc f first captured => pure (.inl (.mkfn f (← first.toList.mapM argA) (← captured.toList.mapM argA)))
  | .slice t x lo hi none =>
    let ax ← argA x
    let alo ← optM argA lo
    let ahi ← optM argA hi
    match ← P.underlying t with
    | .array n e => pure (.inl (.slcA (← sizeP P e) n ax alo ahi))
    | .string => pure (.inl (.slcStr ax alo ahi))
    | .slice e =>
      let sz ← sizeP P e
      pure (.inl (if frozen = true then .slcM sz ax alo ahi else .slcS sz ax alo ahi))
    | .pointer arr => match ← P.underlying arr with
      | .array n e => pure (.inl (.slcA (← sizeP P e) n ax alo ahi))
      | _ => none
    | _ => none
  | .fieldAddr s x f =>
    let .struct fields ← P.underlying s | none
    let fd ← fields[f]?
    if (← sizeP P fd.type) = 0 then none
    pure (.inl (.faddr fd.offset (← argA x)))
  | .field t x f =>
    let .struct fields ← P.underlying t | none
    let fd ← fields[f]?
    pure (.inl (.fld (← nOf P fd.type) fd.offset (← argA x)))
  | .indexAddr t x i => match ← P.underlying t with
    | .array n e => pure (.inl (.iaddrA (← sizeP P e) n (← argA x) (← argA i)))
    | .slice e => pure (.inl (.iaddrS (← sizeP P e) (← argA x) (← argA i)))
    | _ => none
  | .index t x i => match ← P.underlying t with
    | .array n e => pure (.inl (.idxA (← nOf P e) (← sizeP P e) n (← argA x) (← argA i)))
    | .string => pure (.inl (.idxStr (← argA x) (← argA i)))
    | _ => none
  | .makeSlice t l c =>
    let .slice e ← P.underlying t | none
    let sz ← sizeP P e
    let zero ← zeroA P e
    if zero.length ≠ sz then none
    let bytes ← bytesP P e
    let al ← argA l
    let ac ← argA c
    pure (.inl (if frozen = true then .mkmslice sz bytes zero al ac else .mkslice sz bytes zero al ac))
  | .extract x i => pure (.inl (.ext i (← argA x)))
  | .typeAssert x _ t true =>
    let ax ← argA x
    let z ← (P.info? t).bind (·.zero)
    let az ← valA z
    match ← P.underlying t with
    | .interface want => pure (.inl (.asrt true ((mtypes P).filter fun d => (P.info? d).any fun i => (lacking want i.methods).isEmpty) ((mtypes P).filter fun d => (P.info? d).any fun i => !(lacking want i.methods).isEmpty) t az ax))
    | _ => pure (.inl (.asrt false [] [] t az ax))
  | .slice t x lo hi (some m) =>
    match lo, hi.bind zeroC, zeroC m with
    | none, some _, some _ =>
      let ax ← argA x
      let .slice e ← P.underlying t | none
      let _ ← sizeP P e
      pure (.inl (.slc0 ax))
    | some l, _, _ =>
      let ax ← argA x
      let .slice e ← P.underlying t | none
      let _ ← sizeP P e
      match hi with
      | some h => pure (.inl (.slc3 ax (← argA l) (← argA h) (← argA m)))
      | none => none
    | _, _, _ => none
  | .sliceToArrayPointer t x =>
    let .array n e ← P.underlying t | none
    pure (.inl (.arrP n (← sizeP P e) (← argA x)))
  | .makeMap _ none => pure (.inl .mkmap)
  | .lookup t x k false =>
    let .map kt e ← P.underlying t | none
    let z ← (P.info? e).bind (·.zero)
    let az ← valA z
    match ← P.underlying kt with
    | .int _ => pure (.inl (.mget false az (← argA x) (← argA k)))
    | .string => pure (.inl (.mget true az (← argA x) (← argA k)))
    | _ => none
  | .mapUpdate t m k x =>
    let .map kt _ ← P.underlying t | none
    match ← P.underlying kt with
    | .int _ => pure (.inl (.mset false (← argA m) (← argA k) (← argA x)))
    | .string => pure (.inl (.mset true (← argA m) (← argA k) (← argA x)))
    | _ => none
  | .call c => if frozen = true then compAppR P c else compCall P fs c
  | _ => none
def compOp (P : Program) (fs : List FuncId) (frozen : Bool) (o : Op) : Option (AOp ⊕ ACallee) :=
  match o with
  | .call c => match (if frozen = true then compAppR P c else compCall P fs c) with
    | some x => some x
    | none => some (.inl .stop)
  | .alloc e => compOp1 P fs frozen (.alloc e)
  | o => match compOp1 P fs frozen o with
    | some (.inl x) => some (.inl x)
    | _ => some (.inl .stop)

end Am
