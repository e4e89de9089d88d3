/- A small language of steps, laid off the loaded code by a function; and what a step does to the abstract state. -/
import Derived.Test.YtmnhoglkahmlaaaAb1
set_option linter.unusedSimpArgs false
set_option linter.unusedVariables false
set_option linter.unnecessarySimpa false
set_option linter.constructorNameAsVariable false
namespace Go.Proofs.Ytmnhoglkahmlaaa.Ab
open Go

abbrev D.v (x : Value) : D := .e (.v x)
abbrev D.int (n : Int) : D := .e (.v (.int .i64 n))
abbrev D.bool (b : Bool) : D := .e (.v (.bool b))
abbrev D.str (l : List UInt8) : D := .e (.v (.string ⟨⟨l⟩⟩))
abbrev E.int (n : Int) : E := .v (.int .i64 n)
abbrev E.bool (b : Bool) : E := .v (.bool b)
abbrev E.str (l : List UInt8) : E := .v (.string ⟨⟨l⟩⟩)

inductive X where
  | s (t : Nat)
  | c (d : D)
  deriving Inhabited

inductive I where
  | mov (x : X) | pick (c a b : X)
  | alloc (zs : List D) | box (x : X)
  | build (zs : List D) (ps : List (Nat × Nat × X))
  | lit (k : Nat) (zs : List E) (n : Nat) (ps : List (Nat × X))
  | load (agg : Bool) (n : Nat) (a : X) | store (agg : Bool) (n : Nat) (a x : X)
  | nilc (x : X)
  | bin (op : BinOp) (x y : X) | binb (op : BinOp) (x y : X) | isnil (ne : Bool) (x : X)
  | un (op : UnOp) (x : X)
  | convi (k : IntKind) (x : X) | convsb (x : X) | convbs (x : X) | convss (x : X)
  | mki (t : TypeId) (x : X)
  | mks (zs : List D) (n : X)
  | slice (k : Nat) (x : X) (lo hi : Option X) | slstr (x : X) (lo hi : Option X)
  | fadr (off : Nat) (x : X)
  | iadr (arr : Option Nat) (k : Nat) (x i : X)
  | fld (agg : Bool) (off n : Nat) (x : X)
  | ixs (x i : X)
  | ixa (agg : Bool) (len k : Nat) (x i : X)
  | ext (i : Nat) (x : X)
  | lens (x : X) | lenl (x : X)
  | mn (x y : X) | mx (x y : X)
  | app (k : Nat) (s x : X) | apps (s x : X)
  | call (f : FuncId) (args : List X)
  | mkf (f : Fn) (first caps : List X)
  | callv (f : X) (args : List X)
  | mkm
  | mget (ok : Bool) (z : E) (m k : X)
  | mput (m k x : X)
  | bad
  deriving Inhabited

structure Ins where
  dst : Option Nat
  g : Option (Nat × Bool)
  i : I
  deriving Inhabited

/-! ### From the loaded code -/
def cvD : Value → Option D
  | .slice none 0 0 => some .zs
  | x => if okV x then some (.v x) else none

def cvX : Operand → Option X
  | .tmp t => some (.s t)
  | .const v => (cvD v).map .c
  | .func f => some (.c (.fn (.func f) [] []))
  | .global _ => none

def isNilV : Value → Bool
  | .slice none 0 0 => true
  | _ => false

def zeroE (v : Value) : E := if isNilV v then .sl [] else .v v

def isAggB (P : Program) (t : TypeId) : Bool := match P.underlying t with
  | some (.struct _) | some (.array _ _) => true
  | _ => false

def okZ (v : Value) : Bool := isNilV v || okV v

def zerosOf (P : Program) (t : TypeId) : Option (List Value) := ((P.info? t).bind (·.zero)).map (·.cells.toList)

def zeros? (P : Program) (t : TypeId) : Option (List Value) := (zerosOf P t).bind fun z => if z.all okZ then some z else none

def xs? : List Operand → Option (List X)
  | [] => some []
  | x :: r => (cvX x).bind fun a => (xs? r).map (a :: ·)

def parts? : List (Nat × Operand) → Option (List (Nat × X))
  | [] => some []
  | (i, x) :: r => (cvX x).bind fun a => (parts? r).map ((i, a) :: ·)

def opt? : Option Operand → Option (Option X)
  | none => some none
  | some x => (cvX x).map some

def places? (P : Program) (fs : Array Field) : List (Nat × X) → Option (List (Nat × Nat × X))
  | [] => some []
  | (i, x) :: r => (fs[i]?).bind fun f => (places? P fs r).map ((f.offset, P.cellsOf f.type, x) :: ·)

def sameTmp : Operand → Operand → Bool
  | .tmp a, .tmp b => a == b
  | .const (.int j a), .const (.int k b) => j == k && a == b
  | _, _ => false

/-- The zero value of a type of one cell. -/
def zero1? (P : Program) (t : TypeId) : Option Value := ((P.info? t).bind (·.zero)).bind fun z => if okZ z then some z else none

def prepO (P : Program) (o : Op) : Option I :=
  match o with
  | .move x | .assign x => (cvX x).map .mov
  | .pick c a b => (cvX c).bind fun c => (cvX a).bind fun a => (cvX b).map fun b => .pick c a b
  | .alloc t => (zeros? P t).map fun z => .alloc (z.map fun v => .e (zeroE v))
  | .box _ x => (cvX x).map .box
  | .build t ps => (zeros? P t).bind fun z => (parts? ps.toList).bind fun ps =>
      match P.underlying t with
      | some (.struct fs) => if fs.toList.all (fun fd => (P.info? fd.type).isSome) then (places? P fs ps).map fun ps => .build (z.map fun v => .e (zeroE v)) ps else none
      | some (.array _ e) => if (P.info? e).isSome then some (.build (z.map fun v => .e (zeroE v)) (ps.map fun (i, x) => (i * P.cellsOf e, P.cellsOf e, x))) else none
      | _ => none
  | .buildSlice t n ps => (parts? ps.toList).bind fun ps =>
      match P.underlying t with
      | some (.slice e) => (zeros? P e).bind fun z => if P.cellsOf e ≠ 0 ∧ z.length = P.cellsOf e ∧ n * P.cellsOf e ≤ 2 ^ 24 then some (.lit (P.cellsOf e) (z.map zeroE) n ps) else none
      | _ => none
  | .load t x => (cvX x).bind fun x => (P.underlying t).map fun _ => if isAggB P t then .load true (P.cellsOf t) x else .load false 1 x
  | .store t x y => (cvX x).bind fun x => (cvX y).bind fun y => (P.info? t).map fun _ => .store (isAggB P t) (P.cellsOf t) x y
  | .nilCheck x => (cvX x).map .nilc
  | .binOp op t x y _ => (cvX x).bind fun x => (cvX y).bind fun y => match P.underlying t with
      | some .bool => some (.binb op x y)
      | some (.slice _) => (match op, y with | .eql, .c .zs => some (.isnil false x) | .neq, .c .zs => some (.isnil true x) | _, _ => none)
      | some (.int _) | some .string => some (.bin op x y)
      | _ => none
  | .unOp op _ x => (cvX x).map (.un op)
  | .convert s d x => (cvX x).bind fun x => match P.underlying s, P.underlying d with
      | some (.int _), some (.int k) => some (.convi k x)
      | some .string, some .string => some (.convss x)
      | some .string, some (.slice e) => (match P.underlying e with | some (.int .u8) => some (.convsb x) | _ => none)
      | some (.slice e), some .string => (match P.underlying e with | some (.int .u8) => some (.convbs x) | _ => none)
      | _, _ => none
  | .makeInterface t x => (cvX x).bind fun x => match P.underlying t with
      | some (.interface _) | none => none
      | some _ => some (.mki t x)
  | .makeFunc f a c => (xs? a.toList).bind fun a => (xs? c.toList).map fun c => .mkf f a c
  | .makeSlice t l c => (cvX l).bind fun l' => match P.underlying t with
      | some (.slice e) => (P.info? e).bind fun i => (zeros? P e).bind fun z =>
          if P.cellsOf e ≠ 0 ∧ z.length = P.cellsOf e ∧ i.bytes ≤ 65536 ∧ sameTmp l c = true then some (.mks (z.map fun v => .e (zeroE v)) l') else none
      | _ => none
  | .slice t x lo hi mx => (cvX x).bind fun x => (opt? lo).bind fun lo => (opt? hi).bind fun hi => match mx, P.underlying t with
      | none, some .string => some (.slstr x lo hi)
      | none, some (.slice e) => if P.cellsOf e ≠ 0 then some (.slice (P.cellsOf e) x lo hi) else none
      | _, _ => none
  | .fieldAddr t x f => (cvX x).bind fun x => match P.underlying t with
      | some (.struct fs) => (fs[f]?).bind fun f => if P.cellsOf f.type ≠ 0 then some (.fadr f.offset x) else none
      | _ => none
  | .indexAddr t x i => (cvX x).bind fun x => (cvX i).bind fun i => match P.underlying t with
      | some (.slice e) => if P.cellsOf e ≠ 0 then some (.iadr none (P.cellsOf e) x i) else none
      | some (.array n e) => if P.cellsOf e ≠ 0 then some (.iadr (some n) (P.cellsOf e) x i) else none
      | _ => none
  | .field t x f => (cvX x).bind fun x => match P.underlying t with
      | some (.struct fs) => (fs[f]?).bind fun f => (P.underlying f.type).map fun _ => if isAggB P f.type then .fld true f.offset (P.cellsOf f.type) x else .fld false f.offset 1 x
      | _ => none
  | .index t x i => (cvX x).bind fun x => (cvX i).bind fun i => match P.underlying t with
      | some .string => some (.ixs x i)
      | some (.array n e) => (P.underlying e).bind fun _ => if isAggB P e then some (.ixa true n (P.cellsOf e) x i) else if P.cellsOf e = 1 then some (.ixa false n 1 x i) else none
      | _ => none
  | .extract x i => (cvX x).map (.ext i)
  | .makeMap _ none => some .mkm
  | .lookup t x i ok => (cvX x).bind fun x => (cvX i).bind fun i => match P.underlying t with
      | some (.map k e) => (match P.underlying k with | some .string => (zero1? P e).map fun z => .mget ok (zeroE z) x i | _ => none)
      | _ => none
  | .mapUpdate t m k x => (cvX m).bind fun m => (cvX k).bind fun y => (cvX x).bind fun x => match P.underlying t with
      | some (.map k _) => (match P.underlying k with | some .string => some (.mput m y x) | _ => none)
      | _ => none
  | .call c => match c with
      | { callee := .value (.func f), args, .. } => (P.funcs[f]?).bind fun fn => if fn.name ≠ "runtime.NumGoroutine" ∧ fn.body.isNone = false then (xs? args.toList).map (.call f) else none
      | { callee := .value (.tmp t), args, .. } => (xs? args.toList).map (.callv (.s t))
      | { callee := .builtin .len, args := ⟨[x]⟩, argTypes := ⟨[t]⟩ } => (cvX x).bind fun x => (match P.underlying t with | some .string => some (.lens x) | some (.slice _) => some (.lenl x) | _ => none)
      | { callee := .builtin .min, args := ⟨[x, y]⟩, .. } => (cvX x).bind fun x => (cvX y).map fun y => .mn x y
      | { callee := .builtin .max, args := ⟨[x, y]⟩, .. } => (cvX x).bind fun x => (cvX y).map fun y => .mx x y
      | { callee := .builtin .append, args := ⟨[s, x]⟩, argTypes := ⟨[t, u]⟩ } => (cvX s).bind fun s => (cvX x).bind fun x => match P.underlying t, P.underlying u with
          | some (.slice e), some (.slice _) => (P.info? e).bind fun i => (i.zero).bind fun z => if z.cells.size = P.cellsOf e ∧ i.bytes ≤ 65536 then some (.app (P.cellsOf e) s x) else none
          | some (.slice e), some .string => (P.info? e).bind fun i => (i.zero).bind fun z => if P.cellsOf e = 1 ∧ z.cells.size = 1 ∧ i.bytes ≤ 65536 then some (.apps s x) else none
          | _, _ => none
      | _ => none
  | _ => none

def prepI (P : Program) (o : Op) : I := (prepO P o).getD .bad

/-! ### What a step does -/
def look (t : Nat) : List (Nat × D) → Option D
  | [] => none
  | (k, d) :: r => if k = t then some d else look t r

structure St where
  env : List (Nat × D)
  hp : List O
  deriving Inhabited

def hpF (l : List O) : Hp := fun i => l.getD i .dead

def St.ev (s : St) : X → Option D
  | .s t => look t s.env
  | .c d => some d

structure Eff where
  d : Option D
  al : List O := []
  wr : List (Nat × O) := []
  tc : List Nat := []

def hset (l : List O) : List (Nat × O) → List O
  | [] => l
  | (i, o) :: r => hset (l.set i o) r

def St.app (s : St) (dst : Option Nat) (f : Eff) : St :=
  ⟨(match dst, f.d with | some t, some d => (t, d) :: s.env | some t, none => (t, .any) :: s.env | none, _ => s.env), hset s.hp f.wr ++ f.al⟩

def gImp (g : Bool) (p : Prop) : Prop := match g with
  | true => p
  | false => True

theorem gImp_iff {g : Bool} {p : Prop} : gImp g p ↔ (g = true → p) := by cases g <;> simp [gImp]

/-- An operand, under a guard. -/
def evG (g : Bool) (x : Option D) (K : Prop → D → Prop) : Prop :=
  match x with
  | none => False
  | some (.when g' d) => K (gImp g (g' = true)) d
  | some d => K True d

def evGs (g : Bool) : List (Option D) → (Prop → List D → Prop) → Prop
  | [], K => K True []
  | x :: r, K => evG g x fun o d => evGs g r fun o' ds => K (o ∧ o') (d :: ds)

def D.toE : D → Option E
  | .e x => some x
  | .own _ es => some (.sl es)
  | .zs => some (.sl [])
  | _ => none

def toEs : List D → Option (List E)
  | [] => some []
  | d :: r => (d.toE).bind fun x => (toEs r).map (x :: ·)

def D.list : D → Option (List (List E))
  | .e (.sl es) => some es
  | .own _ es => some es
  | .zs => some []
  | _ => none

def D.cells : D → List D
  | .agg ds => ds
  | d => [d]

def D.stor : D → Bool
  | .tup _ | .when _ _ | .any => false
  | _ => true

def inR : IntKind → Int → Prop
  | .i64, r => -9223372036854775808 ≤ r ∧ r ≤ 9223372036854775807
  | .u8, r => 0 ≤ r ∧ r ≤ 255
  | .i32, r => -2147483648 ≤ r ∧ r ≤ 2147483647
  | k, r => k.min ≤ r ∧ r ≤ k.max

def binE (op : BinOp) (x y : D) (K : Prop → D → Prop) : Prop :=
  match x, y with
  | .e (.v (.int k a)), .e (.v (.int k' b)) => match op with
    | .add => K (k = k' ∧ inR k (a + b)) (.v (.int k (a + b)))
    | .sub => K (k = k' ∧ inR k (a - b)) (.v (.int k (a - b)))
    | .mul => K (k = k' ∧ inR k (a * b)) (.v (.int k (a * b)))
    | .quo => K (k = k' ∧ 0 ≤ a ∧ 0 < b ∧ inR k a) (.v (.int k (a / b)))
    | .rem => K (k = k' ∧ 0 ≤ a ∧ 0 < b) (.v (.int k (a % b)))
    | .eql => K (k = k') (.bool (decide (a = b)))
    | .neq => K (k = k') (.bool (!decide (a = b)))
    | .lss => K (k = k') (.bool (decide (a < b)))
    | .leq => K (k = k') (.bool (decide (a ≤ b)))
    | .gtr => K (k = k') (.bool (decide (b < a)))
    | .geq => K (k = k') (.bool (decide (b ≤ a)))
    | _ => False
  | .e (.v (.string a)), .e (.v (.string b)) => match op with
    | .add => K (a.data.toList.length + b.data.toList.length ≤ maxN) (.str (a.data.toList ++ b.data.toList))
    | .eql => K True (.bool (decide (a.data.toList = b.data.toList)))
    | .neq => K True (.bool (!decide (a.data.toList = b.data.toList)))
    | _ => False
  | _, _ => False

def u8s (es : List (List E)) : List UInt8 := es.map fun
  | [.v (.int .u8 n)] => UInt8.ofNat n.toNat
  | _ => 0

def bytesE (l : List UInt8) : List (List E) := l.map fun b => [.v (.int .u8 b.toNat)]

theorem u8s_bytesE (l : List UInt8) : u8s (bytesE l) = l := by
  induction l with
  | nil => rfl
  | cons b l ih => show UInt8.ofNat ((b.toNat : Int)).toNat :: u8s (bytesE l) = _; rw [ih]; simp

theorem bytesE_ok {l : List UInt8} : ∀ e ∈ bytesE l, ∃ b : UInt8, e = [.v (.int .u8 b.toNat)] := fun e he => by
  obtain ⟨b, _, rfl⟩ := List.mem_map.1 he; exact ⟨b, rfl⟩

def fillD (cells : List D) : List (Nat × Nat × List D) → List D
  | [] => cells
  | (off, _, ds) :: r => fillD (cells.take off ++ ds ++ cells.drop (off + ds.length)) r

def fillE (es : List (List E)) : List (Nat × List E) → List (List E)
  | [] => es
  | (i, x) :: r => fillE (es.set i x) r

def evO (ev : X → Option D) (g : Bool) (x : Option X) (K : Prop → Option Int → Prop) : Prop :=
  match x with
  | none => K True none
  | some x => evG g (ev x) fun o d => match d with
    | .e (.v (.int .i64 n)) => K o (some n)
    | _ => False

def allLen (k : Nat) : List (List E) → Prop
  | [] => True
  | y :: r => y.length = k ∧ allLen k r

theorem allLen_iff {k : Nat} : ∀ {es : List (List E)}, allLen k es ↔ ∀ e ∈ es, e.length = k
  | [] => by simp [allLen]
  | y :: r => by simp [allLen, allLen_iff (es := r)]

def allIx (n : Nat) : List (Nat × X) → Prop
  | [] => True
  | p :: r => p.1 < n ∧ allIx n r

theorem allIx_iff {n : Nat} : ∀ {ps : List (Nat × X)}, allIx n ps ↔ ∀ p ∈ ps, p.1 < n
  | [] => by simp [allIx]
  | y :: r => by simp [allIx, allIx_iff (ps := r)]

def buildOk (n : Nat) : List (Nat × Nat × X) → List D → Prop
  | [], [] => True
  | p :: ps, d :: ds => d.stor = true ∧ d.cells.length = p.2.1 ∧ p.1 + p.2.1 ≤ n ∧ buildOk n ps ds
  | _, _ => False

theorem buildOk_all {n : Nat} : ∀ {ps : List (Nat × Nat × X)} {ds : List D}, buildOk n ps ds → (∀ d ∈ ds, d.stor = true) ∧
    ∀ j, j < ps.length → (((ds.getD j .zs).cells.length = (ps.getD j default).2.1) ∧ (ps.getD j default).1 + (ps.getD j default).2.1 ≤ n)
  | [], [], _ => by simp
  | [], _ :: _, h => h.elim
  | _ :: _, [], h => h.elim
  | p :: ps, d :: ds, ⟨h1, h2, h3, h4⟩ => by
    obtain ⟨a, b⟩ := buildOk_all h4
    refine ⟨by simpa using ⟨h1, a⟩, fun j hj => ?_⟩
    cases j with
    | zero => exact ⟨by simpa using h2, by simpa using h3⟩
    | succ j => simpa using b j (by simpa using hj)

def litEs : List D → Option (List (List E))
  | [] => some []
  | d :: r => (toEs d.cells).bind fun x => (litEs r).map (x :: ·)

theorem litEs_map : ∀ {ds : List D} {es : List (List E)}, litEs ds = some es → ds.map (fun d => toEs d.cells) = es.map some
  | [], es, h => by simp only [litEs, Option.some.injEq] at h; subst h; rfl
  | d :: r, es, h => by
    simp only [litEs, Option.bind_eq_some_iff, Option.map_eq_some_iff] at h
    obtain ⟨x, h1, y, h2, rfl⟩ := h
    simp [h1, litEs_map h2]

/-- A map: what stands at a key; a key laid. -/
def mlook : List (List UInt8 × E) → List UInt8 → Option E
  | [], _ => none
  | p :: r, k => if p.1 = k then some p.2 else mlook r k
def mset : List (List UInt8 × E) → List UInt8 → E → List (List UInt8 × E)
  | [], k, v => [(k, v)]
  | p :: r, k, v => if p.1 = k then (k, v) :: r else p :: mset r k v

/-- The contract of a call as a step: 'pre': the things in memory that it needs, as they are; 'f': the number that its first new thing gets. -/
def CallE (P : Program) (fn : FuncId) (args : List D) (pre : List (Nat × O)) (f : Nat) (eff : Eff) : Prop :=
  ∀ (w : World) (G : Gh) (h h' : Hp) (vs : Array Value), Inv w G h → (∀ i o, (i, o) ∈ pre → h i = o) → (∀ j, j < eff.al.length → h (f + j) = .dead) →
    (∀ i, h' i = if f ≤ i ∧ i < f + eff.al.length then eff.al.getD (i - f) .dead else match eff.wr.find? (·.1 == i) with | some x => x.2 | none => h i) →
    vs.size = args.length → (∀ (j : Nat) v d, vs[j]? = some v → args[j]? = some d → Rv w G h v d) →
    Calls P fn vs w fun e w' => ∃ v d G', e = .returned v ∧ eff.d = some d ∧ Rv w' G' h' v d ∧ Inv w' G' h' ∧ Ext w G h w' G' h'

/-- What a value may also be taken for: a slice that nobody appends to any more. -/
def D.pl : D → D
  | .own _ es => .e (.sl es)
  | .zs => .e (.sl [])
  | .agg ds => .agg (ds.map fun
    | .own _ es => .e (.sl es)
    | .zs => .e (.sl [])
    | d => d)
  | d => d

/-- Each operand as it is, or taken for less. -/
def Wks : List D → List D → Prop
  | [], [] => True
  | d :: r, d' :: r' => (d' = d ∨ d' = d.pl) ∧ Wks r r'
  | _, _ => False

/-- A call: its contract, and what goes on behind it. -/
def CallK (P : Program) (hp : Hp) (f : Nat) (gd g : Bool) (fn : FuncId) (ds : List D) (o : Prop) (K : Prop → Eff → Prop) : Prop :=
  ∃ ds' pre eff, Wks ds ds' ∧ (g = true → o → CallE P fn ds' pre f eff) ∧ (∀ i o, (i, o) ∈ pre → hp i = o) ∧
    (gd = true → eff.al = [] ∧ eff.wr = []) ∧ (∀ x ∈ eff.wr, x.1 ∈ pre.map (·.1)) ∧ eff.tc = pre.map (·.1) ∧ ∃ d, eff.d = some d ∧ K o { eff with d := some (if gd then .when g d else d) }

section
variable (P : Program) (ev : X → Option D) (hp : Hp) (f : Nat)
/-- What a step does: to the operands 'ev', the memory 'hp', new things from number 'f' on; 'gd': is the step guarded, 'g': does the guard let it run. The continuation gets what is owed, and the effect. -/
def opE (dr gd g : Bool) (i : I) (K : Prop → Eff → Prop) : Prop :=
  let wr (d : D) : D := if gd then .when g d else d
  let fx (o : Prop) (d : D) : Prop := K (gImp g o) { d := some (wr d) }
  match i with
  | .mov x => evG g (ev x) fun o d => K o { d := some (wr d) }
  | .pick c a b => evG g (ev c) fun o dc => match dc with
    | .e (.v (.bool c)) => evG (g && c) (ev a) fun oa da => evG (g && !c) (ev b) fun ob db =>
      match da, db with
      | .e (.v (.bool a)), .e (.v (.bool b)) => K (o ∧ oa ∧ ob) { d := some (wr (.bool (if c then a else b))) }
      | _, _ => False
    | _ => False
  | .alloc zs => gd = false ∧ K True { d := some (.ref f 0), al := [.box zs] }
  | .box x => gd = false ∧ evG g (ev x) fun o d => match d with
    | .agg ds => K o { d := some (.ref f 0), al := [.box ds] }
    | d => K (o ∧ d.stor = true) { d := some (.ref f 0), al := [.box [d]] }
  | .build zs ps => evGs g (ps.map fun p => ev p.2.2) fun o ds =>
      K (o ∧ buildOk zs.length ps ds)
        { d := some (wr (.agg (fillD zs ((ps.zip ds).map fun (p, d) => (p.1, p.2.1, d.cells))))) }
  | .lit k zs n ps => gd = false ∧ (if n = 0 then K True { d := some .zs } ∧ ps = [] else evGs g (ps.map fun p => ev p.2) fun o ds =>
      match litEs ds with
      | some es => K (o ∧ allLen k es ∧ allIx n ps) { d := some (.own f (fillE (List.replicate n zs) ((ps.map (·.1)).zip es))), al := [.front n k] } ∨
          K (o ∧ allLen k es ∧ allIx n ps) { d := some (.vec f n k), al := [.vec true k ((fillE (List.replicate n zs) ((ps.map (·.1)).zip es)).flatten.map .e)] }
      | none => False)
  | .load agg n a => evG g (ev a) fun o d => match d.nr with
    | .rp ds => if agg then fx (o ∧ n ≤ ds.length) (.agg ((ds.take n).map .e)) else fx (o ∧ 1 ≤ ds.length) (.e (ds.getD 0 default))
    | .ref i off => match hp i with
      | .box ds => if agg then K (o ∧ off + n ≤ ds.length) { d := some (wr (.agg ((ds.drop off).take n))), tc := [i] }
        else K (o ∧ off < ds.length) { d := some (wr (ds.getD off default)), tc := [i] }
      | _ => False
    | .vref i off => match hp i with
      | .vec _ _ ds => if agg then K (o ∧ off + n ≤ ds.length) { d := some (wr (.agg ((ds.drop off).take n))), tc := [i] }
        else K (o ∧ off < ds.length) { d := some (wr (ds.getD off default)), tc := [i] }
      | _ => False
    | _ => False
  | .store _ n a x => gd = false ∧ evG g (ev a) fun o d => evG g (ev x) fun o' y => match d.nr with
    | .ref i off => match hp i with
      | .box ds => K (o ∧ o' ∧ y.cells.length = n ∧ off + n ≤ ds.length ∧ y.stor = true)
          { d := none, wr := [(i, .box (ds.take off ++ y.cells ++ ds.drop (off + n)))], tc := [i] }
      | _ => False
    | .vref i off => match hp i with
      | .vec b k ds => K (o ∧ o' ∧ y.cells.length = n ∧ off + n ≤ ds.length ∧ y.stor = true)
          { d := none, wr := [(i, .vec b k (ds.take off ++ y.cells ++ ds.drop (off + n)))], tc := [i] }
      | _ => False
    | _ => False
  | .nilc x => evG g (ev x) fun o d => match d with
    | .rp _ | .ref _ _ | .refs _ _ | .vref _ _ => K o { d := some (wr d) }
    | _ => False
  | .bin op x y => evG g (ev x) fun o d => evG g (ev y) fun o' d' => binE op d d' fun p r => K (o ∧ o' ∧ gImp g p) { d := some (wr r) }
  | .isnil ne x => evG g (ev x) fun o d => match d with
    | .vec i _ _ => (match hp i with | .vec true _ _ => K o { d := some (wr (.bool ne)), tc := [i] } | _ => False)
    | .bs _ _ _ _ => K o { d := some (wr (.bool ne)) }
    | .e (.sl (_ :: _)) => K o { d := some (wr (.bool ne)) }
    | _ => False
  | .binb op x y => evG g (ev x) fun o d => evG g (ev y) fun o' d' => match op, d, d' with
    | .eql, .e (.v (.bool a)), .e (.v (.bool b)) => K (o ∧ o') { d := some (wr (.bool (a == b))) }
    | .neq, .e (.v (.bool a)), .e (.v (.bool b)) => K (o ∧ o') { d := some (wr (.bool (a != b))) }
    | _, _, _ => False
  | .un op x => evG g (ev x) fun o d => match op, d with
    | .not, .e (.v (.bool b)) => K o { d := some (wr (.bool (!b))) }
    | .neg, .e (.v (.int k n)) => fx (o ∧ inR k (-n)) (.v (.int k (-n)))
    | _, _ => False
  | .convi k x => evG g (ev x) fun o d => match d with
    | .e (.v (.int _ n)) => fx (o ∧ inR k n) (.v (.int k n))
    | _ => False
  | .convss x => evG g (ev x) fun o d => match d with
    | .e (.v (.string s)) => K o { d := some (wr (.v (.string s))) }
    | _ => False
  | .convsb x => gd = false ∧ evG g (ev x) fun o d => match d with
    | .e (.v (.string s)) => K o { d := some (.e (.sl (bytesE s.data.toList))) }
    | _ => False
  | .convbs x => evG g (ev x) fun o d => match d.list with
    | some es => fx (o ∧ ∀ e ∈ es, ∃ b : UInt8, e = [.v (.int .u8 b.toNat)]) (.str (u8s es))
    | none => False
  | .mki t x => evG g (ev x) fun o d => match d with
    | .agg ds => (match toEs ds with | some es => K o { d := some (wr (.e (.ia t es))) } | none => False)
    | d => (match d.toE with | some y => K o { d := some (wr (.e (.iv t y))) } | none => False)
  | .mks zs n => gd = false ∧ evG g (ev n) fun o d => match d with
    | .e (.v (.int .i64 n)) => K (o ∧ 0 ≤ n ∧ n ≤ 2147483648) { d := some (.bs f 0 n.toNat zs.length), al := [.box (List.replicate n.toNat zs).flatten] } ∨
        K (o ∧ 0 ≤ n ∧ n ≤ 2147483648) { d := some (.vec f n.toNat zs.length), al := [.vec true zs.length (List.replicate n.toNat zs).flatten] }
    | _ => False
  | .slice k0 x lo hi => evG g (ev x) fun o d => evO ev g lo fun ol l => evO ev g hi fun oh h => match d with
    | .bs i off n k => fx (k = k0 ∧ o ∧ ol ∧ oh ∧ 0 ≤ l.getD 0 ∧ l.getD 0 ≤ h.getD n ∧ h.getD n ≤ n) (.bs i (off + (l.getD 0).toNat * k) (h.getD n - l.getD 0).toNat k)
    | .vec i n k => fx (k = k0 ∧ o ∧ ol ∧ oh ∧ (l.getD 0 = 0 ∧ 0 ≤ h.getD (n : Int) ∧ h.getD (n : Int) ≤ n)) (.vec i (h.getD (n : Int)).toNat k)
    | d => match d.list with
      | some es => fx (o ∧ ol ∧ oh ∧ (allLen k0 es ∧ 0 ≤ l.getD 0 ∧ l.getD 0 ≤ h.getD es.length ∧ h.getD es.length ≤ es.length)) (.e (.sl ((es.take (h.getD es.length).toNat).drop (l.getD 0).toNat)))
      | none => False
  | .slstr x lo hi => evG g (ev x) fun o d => evO ev g lo fun ol l => evO ev g hi fun oh h => match d with
    | .e (.v (.string s)) => fx (o ∧ ol ∧ oh ∧ (0 ≤ l.getD 0 ∧ l.getD 0 ≤ h.getD s.data.toList.length ∧ h.getD s.data.toList.length ≤ s.data.toList.length))
        (.str ((s.data.toList.take (h.getD s.data.toList.length).toNat).drop (l.getD 0).toNat))
    | _ => False
  | .fadr off x => evG g (ev x) fun o d => match d with
    | .rp ds => K o { d := some (wr (.rp (ds.drop off))) }
    | .ref i b => K o { d := some (wr (.ref i (b + off))) }
    | .refs i b => K o { d := some (wr (.refs i (b + off))) }
    | .vref i b => K o { d := some (wr (.vref i (b + off))) }
    | _ => False
  | .iadr arr k x i => evG g (ev x) fun o d => evG g (ev i) fun o' di => match di with
    | .e (.v (.int _ n)) => (match arr with
      | none => (match d with
        | .bs i off m k' => fx (o ∧ o' ∧ 0 ≤ n ∧ n < m ∧ k' = k) (.refs i (off + n.toNat * k))
        | .vec i m k' => (match hp i with
          | .vec _ _ _ => K (gImp g (o ∧ o' ∧ 0 ≤ n ∧ n < m ∧ k' = k)) { d := some (wr (.vref i (0 + n.toNat * k))), tc := [i] }
          | _ => False)
        | d => match d.list with
          | some es => fx (o ∧ o' ∧ (0 ≤ n ∧ n < es.length) ∧ (es.getD n.toNat []).length = k) (.rp (es.getD n.toNat []))
          | none => False)
      | some m => match d with
        | .ref i off => fx (o ∧ o' ∧ 0 ≤ n ∧ n < m) (.ref i (off + n.toNat * k))
        | .refs i off => fx (o ∧ o' ∧ 0 ≤ n ∧ n < m) (.refs i (off + n.toNat * k))
        | .rp ds => fx (o ∧ o' ∧ 0 ≤ n ∧ n < m) (.rp (ds.drop (n.toNat * k)))
        | _ => False)
    | _ => False
  | .fld agg off n x => evG g (ev x) fun o d => match d with
    | .agg ds => if agg then fx (o ∧ off + n ≤ ds.length) (.agg ((ds.drop off).take n)) else fx (o ∧ off < ds.length) (ds.getD off default)
    | _ => False
  | .ixs x i => evG g (ev x) fun o d => evG g (ev i) fun o' di => match d, di with
    | .e (.v (.string s)), .e (.v (.int _ n)) => fx (o ∧ o' ∧ (0 ≤ n ∧ n < s.data.toList.length)) (.v (.int .u8 (s.data.toList.getD n.toNat 0).toNat))
    | _, _ => False
  | .ixa agg len k x i => evG g (ev x) fun o d => evG g (ev i) fun o' di => match d, di with
    | .agg ds, .e (.v (.int _ n)) => if agg then fx (o ∧ o' ∧ 0 ≤ n ∧ n < len ∧ n.toNat * k + k ≤ ds.length) (.agg ((ds.drop (n.toNat * k)).take k))
      else fx (o ∧ o' ∧ 0 ≤ n ∧ n < len ∧ n < ds.length) (ds.getD n.toNat default)
    | _, _ => False
  | .ext i x => evG g (ev x) fun o d => match d with
    | .tup ds => fx (o ∧ i < ds.length) (ds.getD i default)
    | _ => False
  | .lens x => evG g (ev x) fun o d => match d with
    | .e (.v (.string s)) => (dr = false → g = true → o → s.data.toList.length ≤ maxN) → K o { d := some (wr (.int s.data.toList.length)) }
    | _ => False
  | .lenl x => evG g (ev x) fun o d => match d with
    | .bs _ _ n _ => (dr = false → g = true → o → n ≤ maxN) → K o { d := some (wr (.int n)) }
    | .vec _ n _ => (dr = false → g = true → o → n ≤ maxN) → K o { d := some (wr (.int n)) }
    | d => match d.list with
      | some es => (dr = false → g = true → o → es.length ≤ maxN) → K o { d := some (wr (.int es.length)) }
      | none => False
  | .mn x y => evG g (ev x) fun o d => evG g (ev y) fun o' d' => match d, d' with
    | .e (.v (.int k a)), .e (.v (.int k' b)) => fx (o ∧ o' ∧ k = k') (.v (.int k (min a b)))
    | _, _ => False
  | .mx x y => evG g (ev x) fun o d => evG g (ev y) fun o' d' => match d, d' with
    | .e (.v (.int k a)), .e (.v (.int k' b)) => fx (o ∧ o' ∧ k = k') (.v (.int k (max a b)))
    | _, _ => False
  | .app k s x => gd = false ∧ evG g (ev s) fun o d => evG g (ev x) fun o' d' => match d'.list with
    | some ys => (match d with
      | .zs => K (o ∧ o' ∧ (ys.length ≤ 2147483648 ∧ allLen k ys)) { d := some (.own f ys), al := [.front ys.length k] } ∨
          K (o ∧ o' ∧ (ys.length ≤ 2147483648 ∧ allLen k ys)) { d := some (.vec f ys.length k), al := [.vec (decide (0 < ys.length)) k (ys.flatten.map .e)] }
      | .vec i n k0 => (match hp i with
        | .vec b _ ds => K (o ∧ o' ∧ k0 = k ∧ (n + ys.length ≤ 2147483648 ∧ allLen k ys))
            { d := some (.vec f (n + ys.length) k), al := [.vec (b || decide (0 < ys.length)) k (ds.take (n * k) ++ ys.flatten.map .e)], wr := [(i, .gone)], tc := [i] }
        | _ => False)
      | .own i es => K (o ∧ o' ∧ (es.length + ys.length ≤ 2147483648 ∧ allLen k ys ∧ hp i = .front es.length k))
          { d := some (.own i (es ++ ys)), wr := [(i, .front (es.length + ys.length) k)], tc := [i] }
      | _ => False)
    | none => (match d' with
      | .vec j m kk => (match hp j with
        | .vec _ _ ds2 => (match d with
          | .zs => K (o ∧ o' ∧ kk = k ∧ (∃ xs : List E, ds2.take (m * k) = xs.map .e) ∧ 0 + m ≤ 2147483648) { d := some (.vec f (0 + m) k), al := [.vec (false || decide (0 < m)) k (([] : List D).take (0 * k) ++ ds2.take (m * k))], tc := [j] }
          | .vec i n k0 => (match hp i with
            | .vec b _ ds => K (o ∧ o' ∧ k0 = k ∧ kk = k ∧ (∃ xs : List E, ds2.take (m * k) = xs.map .e) ∧ n + m ≤ 2147483648)
                { d := some (.vec f (n + m) k), al := [.vec (b || decide (0 < m)) k (ds.take (n * k) ++ ds2.take (m * k))], wr := [(i, .gone)], tc := [i, j] }
            | _ => False)
          | _ => False)
        | _ => False)
      | _ => False)
  | .apps s x => gd = false ∧ evG g (ev s) fun o d => evG g (ev x) fun o' d' => match d' with
    | .e (.v (.string t)) => (match d with
      | .zs => K (o ∧ o' ∧ ((bytesE t.data.toList).length ≤ 2147483648 ∧ allLen 1 (bytesE t.data.toList))) { d := some (.own f (bytesE t.data.toList)), al := [.front (bytesE t.data.toList).length 1] }
      | .own i es => K (o ∧ o' ∧ (es.length + (bytesE t.data.toList).length ≤ 2147483648 ∧ allLen 1 (bytesE t.data.toList) ∧ hp i = .front es.length 1))
          { d := some (.own i (es ++ bytesE t.data.toList)), wr := [(i, .front (es.length + (bytesE t.data.toList).length) 1)], tc := [i] }
      | _ => False)
    | _ => False
  | .call fn xs => evGs g (xs.map ev) fun o ds => CallK P hp f gd g fn ds o K
  | .mkf fn a c => evGs g (a.map ev) fun o ds => evGs g (c.map ev) fun o' es => K (o ∧ o') { d := some (wr (.fn fn ds es)) }
  | .callv x xs => evG g (ev x) fun o d => evGs g (xs.map ev) fun o' ds => match d with
    | .fn (.func fn) a c => (∃ func, P.funcs[fn]? = some func ∧ func.name ≠ "runtime.NumGoroutine" ∧ func.body.isNone = false) ∧ CallK P hp f gd g fn (a ++ ds ++ c) (o ∧ o') K
    | _ => False
  | .mkm => gd = false ∧ K True { d := some (.mp f), al := [.smap []] }
  | .mget ok z m k => evG g (ev m) fun o d => evG g (ev k) fun o' d' => match d, d' with
    | .mp i, .e (.v (.string s)) => (match hp i with
      | .smap l => (match mlook l s.data.toList with
        | some v => K (o ∧ o') { d := some (wr (if ok then .tup [.e v, .bool true] else .e v)), tc := [i] }
        | none => K (o ∧ o') { d := some (wr (if ok then .tup [.e z, .bool false] else .e z)), tc := [i] })
      | _ => False)
    | _, _ => False
  | .mput m k x => gd = false ∧ evG g (ev m) fun o d => evG g (ev k) fun o' d' => evG g (ev x) fun o'' y => match d, d', y.toE with
    | .mp i, .e (.v (.string s)), some v => (match hp i with
      | .smap l => K (o ∧ o' ∧ o'') { d := none, wr := [(i, .smap (mset l s.data.toList v))], tc := [i] }
      | _ => False)
    | _, _, _ => False
  | .bad => False
end

mutual
/-- Nothing in it is still written. -/
def D.free : D → Bool
  | .e _ | .zs | .rp _ | .any => true
  | .agg ds => frees ds
  | .tup ds => frees ds
  | .when _ d => d.free
  | .fn _ a b => frees a && frees b
  | _ => false
def frees : List D → Bool
  | [] => true
  | d :: r => d.free && frees r
end

/-- What is handed back, taken for a plain thing. -/
def FinW (l : List O) (d' d : D) : Prop := ∀ (w : World) (G : Gh) (v : Value), Inv w G (hpF l) → Rv w G (hpF l) v d' → ∃ G', Rv w G' (hpF []) v d ∧ Inv w G' (hpF []) ∧
  ∀ w0 G0, Ext w0 G0 (hpF []) w G (hpF l) → Ext w0 G0 (hpF []) w G' (hpF [])

/-- What is handed back, and what is in memory then, taken for less; 'l0': what was handed in. -/
def FinV (l0 l' : List O) (d' : D) (l : List O) (d : D) : Prop := ∀ (w : World) (G : Gh) (v : Value), Inv w G (hpF l') → Rv w G (hpF l') v d' → ∃ G', Rv w G' (hpF l) v d ∧ Inv w G' (hpF l) ∧
  ∀ w0 G0, Ext w0 G0 (hpF l0) w G (hpF l') → Ext w0 G0 (hpF l0) w G' (hpF l)

/-- A state may be taken for less. -/
def Weak (h0 : Hp) (s s' : St) : Prop := ∀ (w : World) (G : Gh), Inv w G (hpF s.hp) → ∃ G', Inv w G' (hpF s'.hp) ∧ (∀ w0 G0, Ext w0 G0 h0 w G (hpF s.hp) → Ext w0 G0 h0 w G' (hpF s'.hp)) ∧
  ∀ t d', look t s'.env = some d' → ∃ d, look t s.env = some d ∧ ∀ x, Rv w G (hpF s.hp) x d → Rv w G' (hpF s'.hp) x d'

/-- A loop: what holds at its head, with a number that falls. -/
def LoopK (h0 : Hp) (body : (St → Prop) → St → Prop) (s : St) : Prop :=
  ∃ (I : Nat → St → Prop), (∃ n s', Weak h0 s s' ∧ I n s') ∧ ∀ n s, I n s → body (fun s1 => ∃ m s', m < n ∧ Weak h0 s1 s' ∧ I m s') s

/-! ### The same, with the arithmetic left open: a name for each operation, so that an evaluation stops there -/
structure Ar where
  add : Int → Int → Int
  sub : Int → Int → Int
  mul : Int → Int → Int
  div : Int → Int → Int
  mod : Int → Int → Int
  neg : Int → Int
  mn : Int → Int → Int
  mx : Int → Int → Int
  eq : Int → Int → Bool
  lt : Int → Int → Bool
  le : Int → Int → Bool
  nat : Int → Nat
  R : IntKind → Int → Prop
  lep : Int → Int → Prop
  ltp : Int → Int → Prop
  seq : List UInt8 → List UInt8 → Bool
  call : Program → Hp → Nat → Bool → Bool → FuncId → List D → Prop → (Prop → Eff → Prop) → Prop
  loop : Hp → ((St → Prop) → St → Prop) → St → Prop
  fin : List O → D → D → Prop
  finv : List O → List O → D → List O → D → Prop
  ld : List D → Nat → Nat → (Prop → List D → Prop) → Prop
  ld1 : List D → Nat → (Prop → D → Prop) → Prop
  st : List D → Nat → Nat → List D → (Prop → List D → Prop) → Prop
  plus : Nat → Nat → (Nat → Prop) → Prop
  off : Nat → Int → Nat → (Nat → Prop) → Prop
  row : List (List E) → Int → (Prop → List E → Prop) → Prop
  len : List (List E) → Bool → Bool → Prop → (Int → Prop) → Prop
  slen : List UInt8 → Bool → Bool → Prop → (Int → Prop) → Prop
  app0 : List (List E) → Nat → (Prop → Nat → Prop) → Prop
  app : List (List E) → List (List E) → Nat → O → (Prop → List (List E) → Nat → Prop) → Prop
  slc : List (List E) → Nat → Option Int → Option Int → (Prop → List (List E) → Prop) → Prop
  rep : List D → Int → (List D → Nat → Prop) → Prop
  mget : List (List UInt8 × E) → List UInt8 → (E → Prop) → (Unit → Prop) → Prop
  mset : List (List UInt8 × E) → List UInt8 → E → (List (List UInt8 × E) → Prop) → Prop
  gb : Bool → (Bool → Prop) → Prop
  alt : (Unit → Prop) → (Unit → Prop) → Prop
  app0v : List (List E) → Nat → (Prop → Bool → Nat → List D → Prop) → Prop
  appv : Bool → List D → Nat → List (List E) → Nat → (Prop → Bool → Nat → List D → Prop) → Prop
  vsl : Nat → Option Int → Option Int → (Prop → Nat → Prop) → Prop
  vcut : List D → Nat → Nat → (Prop → List D → Prop) → Prop
  appw : Bool → List D → Nat → List D → Nat → Nat → (Prop → Bool → Nat → List D → Prop) → Prop
  sapp : List UInt8 → List UInt8 → (Prop → List UInt8 → Prop) → Prop
  ssl : List UInt8 → Option Int → Option Int → (Prop → List UInt8 → Prop) → Prop
  six : List UInt8 → Int → (Prop → Nat → Prop) → Prop
  s2b : List UInt8 → (List (List E) → Prop) → Prop
  b2s : List (List E) → (Prop → List UInt8 → Prop) → Prop

def Ar.std : Ar where
  add a b := a + b
  sub a b := a - b
  mul a b := a * b
  div a b := a / b
  mod a b := a % b
  neg a := -a
  mn a b := min a b
  mx a b := max a b
  eq a b := decide (a = b)
  lt a b := decide (a < b)
  le a b := decide (a ≤ b)
  nat a := a.toNat
  R := inR
  lep a b := a ≤ b
  ltp a b := a < b
  seq a b := decide (a = b)
  call := CallK
  loop := LoopK
  fin l d' d := d.free = true → FinW l d' d
  finv := FinV
  ld ds off n k := k (off + n ≤ ds.length) ((ds.drop off).take n)
  ld1 ds off k := k (off < ds.length) (ds.getD off default)
  st ds off n cs k := k (off + n ≤ ds.length) (ds.take off ++ cs ++ ds.drop (off + n))
  plus a b k := k (a + b)
  off a n k K := K (a + n.toNat * k)
  row es n k := k (0 ≤ n ∧ n < es.length) (es.getD n.toNat [])
  len es dr g o k := (dr = false → g = true → o → es.length ≤ maxN) → k es.length
  slen es dr g o k := (dr = false → g = true → o → es.length ≤ maxN) → k es.length
  app0 ys k K := K (ys.length ≤ 2147483648 ∧ allLen k ys) ys.length
  app es ys k ob K := K (es.length + ys.length ≤ 2147483648 ∧ allLen k ys ∧ ob = .front es.length k) (es ++ ys) (es.length + ys.length)
  slc es k l h K := K (allLen k es ∧ 0 ≤ l.getD 0 ∧ l.getD 0 ≤ h.getD (es.length : Int) ∧ h.getD (es.length : Int) ≤ (es.length : Int)) ((es.take (h.getD (es.length : Int)).toNat).drop (l.getD 0).toNat)
  rep zs n K := K (List.replicate n.toNat zs).flatten n.toNat
  mget l k k1 k2 := match mlook l k with | some v => k1 v | none => k2 ()
  mset l k v K := K (Ab.mset l k v)
  gb b K := K b
  alt p q := p () ∨ q ()
  app0v ys k K := K (ys.length ≤ 2147483648 ∧ allLen k ys) (decide (0 < ys.length)) ys.length (ys.flatten.map .e)
  appv b ds n ys k K := K (n + ys.length ≤ 2147483648 ∧ allLen k ys) (b || decide (0 < ys.length)) (n + ys.length) (ds.take (n * k) ++ ys.flatten.map .e)
  vcut ds n k K := K (∃ xs : List E, ds.take (n * k) = xs.map .e) (ds.take (n * k))
  appw b ds n cs m k K := K (n + m ≤ 2147483648) (b || decide (0 < m)) (n + m) (ds.take (n * k) ++ cs)
  vsl n l h K := K (l.getD 0 = 0 ∧ 0 ≤ h.getD (n : Int) ∧ h.getD (n : Int) ≤ n) (h.getD (n : Int)).toNat
  sapp a b K := K (a.length + b.length ≤ maxN) (a ++ b)
  ssl s l h K := K (0 ≤ l.getD 0 ∧ l.getD 0 ≤ h.getD (s.length : Int) ∧ h.getD (s.length : Int) ≤ s.length) ((s.take (h.getD (s.length : Int)).toNat).drop (l.getD 0).toNat)
  six s n K := K (0 ≤ n ∧ n < s.length) (s.getD n.toNat 0).toNat
  s2b s K := K (bytesE s)
  b2s es K := K (∀ e ∈ es, ∃ b : UInt8, e = [.v (.int .u8 b.toNat)]) (u8s es)

structure Ar.Ok (A : Ar) : Prop where
  add : ∀ a b, A.add a b = a + b
  sub : ∀ a b, A.sub a b = a - b
  mul : ∀ a b, A.mul a b = a * b
  div : ∀ a b, A.div a b = a / b
  mod : ∀ a b, A.mod a b = a % b
  neg : ∀ a, A.neg a = -a
  mn : ∀ a b, A.mn a b = min a b
  mx : ∀ a b, A.mx a b = max a b
  eq : ∀ a b, A.eq a b = decide (a = b)
  lt : ∀ a b, A.lt a b = decide (a < b)
  le : ∀ a b, A.le a b = decide (a ≤ b)
  nat : ∀ a, A.nat a = a.toNat
  R : ∀ k a, A.R k a = inR k a
  lep : ∀ a b, A.lep a b = (a ≤ b)
  ltp : ∀ a b, A.ltp a b = (a < b)
  seq : ∀ a b, A.seq a b = decide (a = b)
  call : ∀ P hp f gd g fn ds o K, CallK P hp f gd g fn ds o K → A.call P hp f gd g fn ds o K
  loop : ∀ h0 body s, LoopK h0 body s → A.loop h0 body s
  fin : ∀ l d' d, (d.free = true → FinW l d' d) → A.fin l d' d
  finv : ∀ l0 l' d' l d, FinV l0 l' d' l d → A.finv l0 l' d' l d
  ld : ∀ ds off n k, (off + n ≤ ds.length ∧ ∀ cs, cs = (ds.drop off).take n → k True cs) → A.ld ds off n k
  ld1 : ∀ ds off k, (off < ds.length ∧ ∀ c, c = ds.getD off default → k True c) → A.ld1 ds off k
  st : ∀ ds off n cs k, (off + n ≤ ds.length ∧ ∀ ds', ds' = ds.take off ++ cs ++ ds.drop (off + n) → k True ds') → A.st ds off n cs k
  plus : ∀ a b k, (∀ c, c = a + b → k c) → A.plus a b k
  off : ∀ a n k K, (∀ c, c = a + n.toNat * k → K c) → A.off a n k K
  row : ∀ es n k, ((0 ≤ n ∧ n < es.length) ∧ ∀ row, row = es.getD n.toNat [] → k True row) → A.row es n k
  len : ∀ es dr g o k, (∀ z : Int, z = es.length → (dr = false → g = true → o → z ≤ 140737488355328) → k z) → A.len es dr g o k
  slen : ∀ es dr g o k, (∀ z : Int, z = es.length → (dr = false → g = true → o → z ≤ 140737488355328) → k z) → A.slen es dr g o k
  app0 : ∀ ys k K, ((ys.length ≤ 2147483648 ∧ allLen k ys) ∧ ∀ m, m = ys.length → K True m) → A.app0 ys k K
  app : ∀ es ys k ob K, ((es.length + ys.length ≤ 2147483648 ∧ allLen k ys ∧ ob = .front es.length k) ∧ ∀ zs m, zs = es ++ ys → m = zs.length → K True zs m) → A.app es ys k ob K
  slc : ∀ es k l h K, ((allLen k es ∧ 0 ≤ l.getD 0 ∧ l.getD 0 ≤ h.getD (es.length : Int) ∧ h.getD (es.length : Int) ≤ (es.length : Int)) ∧ ∀ zs, zs = (es.take (h.getD (es.length : Int)).toNat).drop (l.getD 0).toNat → K True zs) → A.slc es k l h K
  rep : ∀ zs n K, (∀ ds m, ds = (List.replicate n.toNat zs).flatten → m = n.toNat → K ds m) → A.rep zs n K
  mget : ∀ l k (k1 : E → Prop) (k2 : Unit → Prop), ((∀ v, mlook l k = some v → k1 v) ∧ (mlook l k = none → k2 ())) → A.mget l k k1 k2
  mset : ∀ l k v (K : List (List UInt8 × E) → Prop), (∀ l', l' = Ab.mset l k v → K l') → A.mset l k v K
  gb : ∀ b (K : Bool → Prop), (∀ v, v = b → K v) → A.gb b K
  gb0 : ∀ b (K : Bool → Prop), K b → A.gb b K
  row0 : ∀ es n k, (∀ p row, k p row) → A.row es n k
  alt : ∀ (p q : Unit → Prop), (p () ∨ q ()) → A.alt p q
  app0v : ∀ ys k K, ((ys.length ≤ 2147483648 ∧ allLen k ys) ∧ ∀ b m ds, b = decide (0 < ys.length) → m = ys.length → ds = ys.flatten.map .e → K True b m ds) → A.app0v ys k K
  appv : ∀ b ds n ys k K, ((n + ys.length ≤ 2147483648 ∧ allLen k ys) ∧ ∀ b' m ds', b' = (b || decide (0 < ys.length)) → m = n + ys.length → ds' = ds.take (n * k) ++ ys.flatten.map .e → K True b' m ds') → A.appv b ds n ys k K
  vsl : ∀ (n : Nat) (l h : Option Int) (K : Prop → Nat → Prop), ((l.getD 0 = 0 ∧ 0 ≤ h.getD (n : Int) ∧ h.getD (n : Int) ≤ n) ∧ ∀ m, m = (h.getD (n : Int)).toNat → K True m) → A.vsl n l h K
  vcut : ∀ ds n k K, ((∃ xs : List E, ds.take (n * k) = xs.map .e) ∧ ∀ cs, cs = ds.take (n * k) → K True cs) → A.vcut ds n k K
  appw : ∀ b ds n cs m k K, (n + m ≤ 2147483648 ∧ ∀ b' m' ds', b' = (b || decide (0 < m)) → m' = n + m → ds' = ds.take (n * k) ++ cs → K True b' m' ds') → A.appw b ds n cs m k K
  sapp : ∀ a b K, (a.length + b.length ≤ 140737488355328 ∧ ∀ l, l = a ++ b → K True l) → A.sapp a b K
  ssl : ∀ s l h K, ((0 ≤ l.getD 0 ∧ l.getD 0 ≤ h.getD (s.length : Int) ∧ h.getD (s.length : Int) ≤ s.length) ∧ ∀ r, r = (s.take (h.getD (s.length : Int)).toNat).drop (l.getD 0).toNat → K True r) → A.ssl s l h K
  six : ∀ s n K, (∀ (z : Int) c, z = s.length → c = (s.getD n.toNat 0).toNat → c < 256 → K (A.lep 0 n ∧ A.ltp n z) c) → A.six s n K
  s2b : ∀ s K, (∀ es, es = bytesE s → K es) → A.s2b s K
  b2s : ∀ es K l, es = bytesE l → K True l → A.b2s es K

theorem Ar.std_ok : Ar.std.Ok := ⟨fun _ _ => rfl, fun _ _ => rfl, fun _ _ => rfl, fun _ _ => rfl, fun _ _ => rfl, fun _ => rfl, fun _ _ => rfl, fun _ _ => rfl, fun _ _ => rfl, fun _ _ => rfl, fun _ _ => rfl, fun _ => rfl, fun _ _ => rfl, fun _ _ => rfl, fun _ _ => rfl, fun _ _ => rfl, fun _ _ _ _ _ _ _ _ _ h => h, fun _ _ _ h => h, fun _ _ _ h => h, fun _ _ _ _ _ h => h,
  fun _ _ _ k ⟨p, q⟩ => (eq_true p ▸ q _ rfl : k _ _),
  fun _ _ k ⟨p, q⟩ => (eq_true p ▸ q _ rfl : k _ _),
  fun _ _ _ _ k ⟨p, q⟩ => (eq_true p ▸ q _ rfl : k _ _),
  fun _ _ _ q => q _ rfl,
  fun _ _ _ _ q => q _ rfl,
  fun _ _ k ⟨p, q⟩ => (eq_true p ▸ q _ rfl : k _ _),
  fun _ _ _ _ _ q => fun hb => q _ rfl fun a b c => Int.ofNat_le.2 (hb a b c),
  fun _ _ _ _ _ q => fun hb => q _ rfl fun a b c => Int.ofNat_le.2 (hb a b c),
  fun _ _ k ⟨p, q⟩ => (eq_true p ▸ q _ rfl : k _ _),
  fun _ _ _ _ k ⟨p, q⟩ => (eq_true p ▸ q _ _ rfl (by simp) : k _ _ _),
  fun _ _ _ _ k ⟨p, q⟩ => (eq_true p ▸ q _ rfl : k _ _),
  fun _ _ _ q => q _ _ rfl rfl,
  fun l k k1 k2 ⟨p, q⟩ => (by show (match mlook l k with | some v => k1 v | none => k2 ()); split <;> simp_all),
  fun _ _ _ _ h => h _ rfl,
  fun _ _ h => h _ rfl,
  fun _ _ h => h,
  fun _ _ _ h => h _ _,
  fun _ _ h => h,
  fun _ _ k ⟨p, q⟩ => (eq_true p ▸ q _ _ _ rfl rfl rfl : k _ _ _ _),
  fun _ _ _ _ _ k ⟨p, q⟩ => (eq_true p ▸ q _ _ _ rfl rfl rfl : k _ _ _ _),
  fun _ _ _ k ⟨p, q⟩ => (eq_true p ▸ q _ rfl : k _ _),
  fun _ _ _ k ⟨p, q⟩ => (eq_true p ▸ q _ rfl : k _ _),
  fun _ _ _ _ _ _ k ⟨p, q⟩ => (eq_true p ▸ q _ _ _ rfl rfl rfl : k _ _ _ _),
  fun _ _ k ⟨p, q⟩ => (eq_true p ▸ q _ rfl : k _ _),
  fun _ _ _ k ⟨p, q⟩ => (eq_true p ▸ q _ rfl : k _ _),
  fun _ _ _ q => q _ _ rfl rfl (UInt8.toNat_lt _),
  fun _ _ q => q _ rfl,
  fun _ k l e h => (by subst e; show k (∀ e ∈ bytesE l, ∃ b : UInt8, e = [.v (.int .u8 b.toNat)]) (u8s (bytesE l)); rw [u8s_bytesE, eq_true (bytesE_ok (l := l))]; exact h)⟩

def binA (A : Ar) (op : BinOp) (x y : D) (K : Prop → D → Prop) : Prop :=
  match x, y with
  | .e (.v (.int k a)), .e (.v (.int k' b)) => match op with
    | .add => K (k = k' ∧ A.R k (A.add a b)) (.v (.int k (A.add a b)))
    | .sub => K (k = k' ∧ A.R k (A.sub a b)) (.v (.int k (A.sub a b)))
    | .mul => K (k = k' ∧ A.R k (A.mul a b)) (.v (.int k (A.mul a b)))
    | .quo => K (k = k' ∧ A.lep 0 a ∧ A.ltp 0 b ∧ A.R k a) (.v (.int k (A.div a b)))
    | .rem => K (k = k' ∧ A.lep 0 a ∧ A.ltp 0 b) (.v (.int k (A.mod a b)))
    | .eql => K (k = k') (.bool (A.eq a b))
    | .neq => K (k = k') (.bool (!A.eq a b))
    | .lss => K (k = k') (.bool (A.lt a b))
    | .leq => K (k = k') (.bool (A.le a b))
    | .gtr => K (k = k') (.bool (A.lt b a))
    | .geq => K (k = k') (.bool (A.le b a))
    | _ => False
  | .e (.v (.string a)), .e (.v (.string b)) => match op with
    | .add => A.sapp a.data.toList b.data.toList fun p l => K p (.str l)
    | .eql => K True (.bool (A.seq a.data.toList b.data.toList))
    | .neq => K True (.bool (!A.seq a.data.toList b.data.toList))
    | _ => False
  | _, _ => False

section
variable (A : Ar) (P : Program) (ev : X → Option D) (hp : Hp) (f : Nat)
/-- What a step does: to the operands 'ev', the memory 'hp', new things from number 'f' on; 'gd': is the step guarded, 'g': does the guard let it run. The continuation gets what is owed, and the effect. -/
def opA (dr gd g : Bool) (i : I) (K : Prop → Eff → Prop) : Prop :=
  let wr (d : D) : D := if gd then .when g d else d
  let fx (o : Prop) (d : D) : Prop := K (gImp g o) { d := some (wr d) }
  match i with
  | .mov x => evG g (ev x) fun o d => K o { d := some (wr d) }
  | .pick c a b => evG g (ev c) fun o dc => match dc with
    | .e (.v (.bool c)) => evG (g && c) (ev a) fun oa da => evG (g && !c) (ev b) fun ob db =>
      match da, db with
      | .e (.v (.bool a)), .e (.v (.bool b)) => A.gb (if c then a else b) fun v => K (o ∧ oa ∧ ob) { d := some (wr (.bool v)) }
      | _, _ => False
    | _ => False
  | .alloc zs => gd = false ∧ K True { d := some (.ref f 0), al := [.box zs] }
  | .box x => gd = false ∧ evG g (ev x) fun o d => match d with
    | .agg ds => K o { d := some (.ref f 0), al := [.box ds] }
    | d => K (o ∧ d.stor = true) { d := some (.ref f 0), al := [.box [d]] }
  | .build zs ps => evGs g (ps.map fun p => ev p.2.2) fun o ds =>
      K (o ∧ buildOk zs.length ps ds)
        { d := some (wr (.agg (fillD zs ((ps.zip ds).map fun (p, d) => (p.1, p.2.1, d.cells))))) }
  | .lit k zs n ps => gd = false ∧ (if n = 0 then K True { d := some .zs } ∧ ps = [] else evGs g (ps.map fun p => ev p.2) fun o ds =>
      match litEs ds with
      | some es => A.alt (fun _ => K (o ∧ allLen k es ∧ allIx n ps) { d := some (.own f (fillE (List.replicate n zs) ((ps.map (·.1)).zip es))), al := [.front n k] })
          (fun _ => K (o ∧ allLen k es ∧ allIx n ps) { d := some (.vec f n k), al := [.vec true k ((fillE (List.replicate n zs) ((ps.map (·.1)).zip es)).flatten.map .e)] })
      | none => False)
  | .load agg n a => evG g (ev a) fun o d => match d with
    | .rp ds => if agg then fx (o ∧ n ≤ ds.length) (.agg ((ds.take n).map .e)) else fx (o ∧ 1 ≤ ds.length) (.e (ds.getD 0 default))
    | .ref i off => match hp i with
      | .box ds => if agg then K (o ∧ off + n ≤ ds.length) { d := some (wr (.agg ((ds.drop off).take n))), tc := [i] }
        else K (o ∧ off < ds.length) { d := some (wr (ds.getD off default)), tc := [i] }
      | _ => False
    | .refs i off => match hp i with
      | .box ds => if agg then A.ld ds off n fun p cs => K (o ∧ p) { d := some (wr (.agg cs)), tc := [i] }
        else A.ld1 ds off fun p c => K (o ∧ p) { d := some (wr c), tc := [i] }
      | _ => False
    | .vref i off => match hp i with
      | .vec _ _ ds => if agg then A.ld ds off n fun p cs => K (o ∧ p) { d := some (wr (.agg cs)), tc := [i] }
        else A.ld1 ds off fun p c => K (o ∧ p) { d := some (wr c), tc := [i] }
      | _ => False
    | _ => False
  | .store _ n a x => gd = false ∧ evG g (ev a) fun o d => evG g (ev x) fun o' y => match d with
    | .ref i off => match hp i with
      | .box ds => K (o ∧ o' ∧ y.cells.length = n ∧ off + n ≤ ds.length ∧ y.stor = true)
          { d := none, wr := [(i, .box (ds.take off ++ y.cells ++ ds.drop (off + n)))], tc := [i] }
      | _ => False
    | .refs i off => match hp i with
      | .box ds => A.st ds off n y.cells fun p ds' => K (o ∧ o' ∧ y.cells.length = n ∧ p ∧ y.stor = true) { d := none, wr := [(i, .box ds')], tc := [i] }
      | _ => False
    | .vref i off => match hp i with
      | .vec b k ds => A.st ds off n y.cells fun p ds' => K (o ∧ o' ∧ y.cells.length = n ∧ p ∧ y.stor = true) { d := none, wr := [(i, .vec b k ds')], tc := [i] }
      | _ => False
    | _ => False
  | .nilc x => evG g (ev x) fun o d => match d with
    | .rp _ | .ref _ _ | .refs _ _ | .vref _ _ => K o { d := some (wr d) }
    | _ => False
  | .bin op x y => evG g (ev x) fun o d => evG g (ev y) fun o' d' => binA A op d d' fun p r => K (o ∧ o' ∧ gImp g p) { d := some (wr r) }
  | .isnil ne x => evG g (ev x) fun o d => match d with
    | .vec i _ _ => (match hp i with | .vec true _ _ => K o { d := some (wr (.bool ne)), tc := [i] } | _ => False)
    | .bs _ _ _ _ => K o { d := some (wr (.bool ne)) }
    | .e (.sl (_ :: _)) => K o { d := some (wr (.bool ne)) }
    | _ => False
  | .binb op x y => evG g (ev x) fun o d => evG g (ev y) fun o' d' => match op, d, d' with
    | .eql, .e (.v (.bool a)), .e (.v (.bool b)) => K (o ∧ o') { d := some (wr (.bool (a == b))) }
    | .neq, .e (.v (.bool a)), .e (.v (.bool b)) => K (o ∧ o') { d := some (wr (.bool (a != b))) }
    | _, _, _ => False
  | .un op x => evG g (ev x) fun o d => match op, d with
    | .not, .e (.v (.bool b)) => K o { d := some (wr (.bool (!b))) }
    | .neg, .e (.v (.int k n)) => fx (o ∧ A.R k (A.neg n)) (.v (.int k (A.neg n)))
    | _, _ => False
  | .convi k x => evG g (ev x) fun o d => match d with
    | .e (.v (.int _ n)) => fx (o ∧ A.R k n) (.v (.int k n))
    | _ => False
  | .convss x => evG g (ev x) fun o d => match d with
    | .e (.v (.string s)) => K o { d := some (wr (.v (.string s))) }
    | _ => False
  | .convsb x => gd = false ∧ evG g (ev x) fun o d => match d with
    | .e (.v (.string s)) => A.s2b s.data.toList fun ys => K o { d := some (.e (.sl ys)) }
    | _ => False
  | .convbs x => evG g (ev x) fun o d => match d.list with
    | some es => A.b2s es fun p l => fx (o ∧ p) (.str l)
    | none => False
  | .mki t x => evG g (ev x) fun o d => match d with
    | .agg ds => (match toEs ds with | some es => K o { d := some (wr (.e (.ia t es))) } | none => False)
    | d => (match d.toE with | some y => K o { d := some (wr (.e (.iv t y))) } | none => False)
  | .mks zs n => gd = false ∧ evG g (ev n) fun o d => match d with
    | .e (.v (.int .i64 n)) => A.alt (fun _ => A.rep zs n fun ds m => K (o ∧ A.lep 0 n ∧ A.lep n 2147483648) { d := some (.bs f 0 m zs.length), al := [.box ds] })
        (fun _ => A.rep zs n fun ds m => K (o ∧ A.lep 0 n ∧ A.lep n 2147483648) { d := some (.vec f m zs.length), al := [.vec true zs.length ds] })
    | _ => False
  | .slice k0 x lo hi => evG g (ev x) fun o d => evO ev g lo fun ol l => evO ev g hi fun oh h => match d with
    | .bs i off n k => fx (k = k0 ∧ o ∧ ol ∧ oh ∧ A.lep 0 (l.getD 0) ∧ A.lep (l.getD 0) (h.getD n) ∧ A.lep (h.getD n) n) (.bs i (off + (A.nat (l.getD 0)) * k) (A.nat (A.sub (h.getD n) (l.getD 0))) k)
    | .vec i n k => A.vsl n l h fun p m => fx (k = k0 ∧ o ∧ ol ∧ oh ∧ p) (.vec i m k)
    | d => match d.list with
      | some es => A.slc es k0 l h fun p zs => fx (o ∧ ol ∧ oh ∧ p) (.e (.sl zs))
      | none => False
  | .slstr x lo hi => evG g (ev x) fun o d => evO ev g lo fun ol l => evO ev g hi fun oh h => match d with
    | .e (.v (.string s)) => A.ssl s.data.toList l h fun p r => fx (o ∧ ol ∧ oh ∧ p) (.str r)
    | _ => False
  | .fadr off x => evG g (ev x) fun o d => match d with
    | .rp ds => K o { d := some (wr (.rp (ds.drop off))) }
    | .ref i b => K o { d := some (wr (.ref i (b + off))) }
    | .refs i b => A.plus b off fun b' => K o { d := some (wr (.refs i b')) }
    | .vref i b => A.plus b off fun b' => K o { d := some (wr (.vref i b')) }
    | _ => False
  | .iadr arr k x i => evG g (ev x) fun o d => evG g (ev i) fun o' di => match di with
    | .e (.v (.int _ n)) => (match arr with
      | none => (match d with
        | .bs i off m k' => A.off off n k fun b => fx (o ∧ o' ∧ A.lep 0 n ∧ A.ltp n m ∧ k' = k) (.refs i b)
        | .vec i m k' => (match hp i with
          | .vec _ _ _ => A.off 0 n k fun b => K (gImp g (o ∧ o' ∧ A.lep 0 n ∧ A.ltp n m ∧ k' = k)) { d := some (wr (.vref i b)), tc := [i] }
          | _ => False)
        | d => match d.list with
          | some es => A.row es n fun p row => fx (o ∧ o' ∧ p ∧ row.length = k) (.rp row)
          | none => False)
      | some m => match d with
        | .ref i off => fx (o ∧ o' ∧ A.lep 0 n ∧ A.ltp n m) (.ref i (off + (A.nat n) * k))
        | .refs i off => A.off off n k fun b => fx (o ∧ o' ∧ A.lep 0 n ∧ A.ltp n m) (.refs i b)
        | .rp ds => fx (o ∧ o' ∧ A.lep 0 n ∧ A.ltp n m) (.rp (ds.drop ((A.nat n) * k)))
        | _ => False)
    | _ => False
  | .fld agg off n x => evG g (ev x) fun o d => match d with
    | .agg ds => if agg then fx (o ∧ off + n ≤ ds.length) (.agg ((ds.drop off).take n)) else fx (o ∧ off < ds.length) (ds.getD off default)
    | _ => False
  | .ixs x i => evG g (ev x) fun o d => evG g (ev i) fun o' di => match d, di with
    | .e (.v (.string s)), .e (.v (.int _ n)) => A.six s.data.toList n fun p c => fx (o ∧ o' ∧ p) (.v (.int .u8 c))
    | _, _ => False
  | .ixa agg len k x i => evG g (ev x) fun o d => evG g (ev i) fun o' di => match d, di with
    | .agg ds, .e (.v (.int _ n)) => if agg then fx (o ∧ o' ∧ A.lep 0 n ∧ A.ltp n len ∧ (A.nat n) * k + k ≤ ds.length) (.agg ((ds.drop ((A.nat n) * k)).take k))
      else fx (o ∧ o' ∧ A.lep 0 n ∧ A.ltp n len ∧ A.ltp n ds.length) (ds.getD (A.nat n) default)
    | _, _ => False
  | .ext i x => evG g (ev x) fun o d => match d with
    | .tup ds => fx (o ∧ i < ds.length) (ds.getD i default)
    | _ => False
  | .lens x => evG g (ev x) fun o d => match d with
    | .e (.v (.string s)) => A.slen s.data.toList dr g o fun z => K o { d := some (wr (.int z)) }
    | _ => False
  | .lenl x => evG g (ev x) fun o d => match d with
    | .bs _ _ n _ => (dr = false → g = true → o → n ≤ maxN) → K o { d := some (wr (.int n)) }
    | .vec _ n _ => (dr = false → g = true → o → n ≤ maxN) → K o { d := some (wr (.int n)) }
    | d => match d.list with
      | some es => A.len es dr g o fun z => K o { d := some (wr (.int z)) }
      | none => False
  | .mn x y => evG g (ev x) fun o d => evG g (ev y) fun o' d' => match d, d' with
    | .e (.v (.int k a)), .e (.v (.int k' b)) => fx (o ∧ o' ∧ k = k') (.v (.int k (A.mn a b)))
    | _, _ => False
  | .mx x y => evG g (ev x) fun o d => evG g (ev y) fun o' d' => match d, d' with
    | .e (.v (.int k a)), .e (.v (.int k' b)) => fx (o ∧ o' ∧ k = k') (.v (.int k (A.mx a b)))
    | _, _ => False
  | .app k s x => gd = false ∧ evG g (ev s) fun o d => evG g (ev x) fun o' d' => match d'.list with
    | some ys => (match d with
      | .zs => A.alt (fun _ => A.app0 ys k fun p m => K (o ∧ o' ∧ p) { d := some (.own f ys), al := [.front m k] })
          (fun _ => A.app0v ys k fun p b m ds => K (o ∧ o' ∧ p) { d := some (.vec f m k), al := [.vec b k ds] })
      | .vec i n k0 => (match hp i with
        | .vec b _ ds => A.appv b ds n ys k fun p b' m ds' => K (o ∧ o' ∧ k0 = k ∧ p) { d := some (.vec f m k), al := [.vec b' k ds'], wr := [(i, .gone)], tc := [i] }
        | _ => False)
      | .own i es => A.app es ys k (hp i) fun p zs m => K (o ∧ o' ∧ p) { d := some (.own i zs), wr := [(i, .front m k)], tc := [i] }
      | _ => False)
    | none => (match d' with
      | .vec j m kk => (match hp j with
        | .vec _ _ ds2 => (match d with
          | .zs => A.vcut ds2 m k fun p cs => A.appw false [] 0 cs m k fun q b' m' ds' => K (o ∧ o' ∧ kk = k ∧ p ∧ q) { d := some (.vec f m' k), al := [.vec b' k ds'], tc := [j] }
          | .vec i n k0 => (match hp i with
            | .vec b _ ds => A.vcut ds2 m k fun p cs => A.appw b ds n cs m k fun q b' m' ds' => K (o ∧ o' ∧ k0 = k ∧ kk = k ∧ p ∧ q)
                { d := some (.vec f m' k), al := [.vec b' k ds'], wr := [(i, .gone)], tc := [i, j] }
            | _ => False)
          | _ => False)
        | _ => False)
      | _ => False)
  | .apps s x => gd = false ∧ evG g (ev s) fun o d => evG g (ev x) fun o' d' => match d' with
    | .e (.v (.string t)) => (match d with
      | .zs => A.s2b t.data.toList fun ys => A.app0 ys 1 fun p m => K (o ∧ o' ∧ p) { d := some (.own f ys), al := [.front m 1] }
      | .own i es => A.s2b t.data.toList fun ys => A.app es ys 1 (hp i) fun p zs m => K (o ∧ o' ∧ p) { d := some (.own i zs), wr := [(i, .front m 1)], tc := [i] }
      | _ => False)
    | _ => False
  | .call fn xs => evGs g (xs.map ev) fun o ds => A.call P hp f gd g fn ds o K
  | .mkf fn a c => evGs g (a.map ev) fun o ds => evGs g (c.map ev) fun o' es => K (o ∧ o') { d := some (wr (.fn fn ds es)) }
  | .callv x xs => evG g (ev x) fun o d => evGs g (xs.map ev) fun o' ds => match d with
    | .fn (.func fn) a c => (∃ func, P.funcs[fn]? = some func ∧ func.name ≠ "runtime.NumGoroutine" ∧ func.body.isNone = false) ∧ A.call P hp f gd g fn (a ++ ds ++ c) (o ∧ o') K
    | _ => False
  | .mkm => gd = false ∧ K True { d := some (.mp f), al := [.smap []] }
  | .mget ok z m k => evG g (ev m) fun o d => evG g (ev k) fun o' d' => match d, d' with
    | .mp i, .e (.v (.string s)) => (match hp i with
      | .smap l => A.mget l s.data.toList (fun v => K (o ∧ o') { d := some (wr (if ok then .tup [.e v, .bool true] else .e v)), tc := [i] })
          (fun _ => K (o ∧ o') { d := some (wr (if ok then .tup [.e z, .bool false] else .e z)), tc := [i] })
      | _ => False)
    | _, _ => False
  | .mput m k x => gd = false ∧ evG g (ev m) fun o d => evG g (ev k) fun o' d' => evG g (ev x) fun o'' y => match d, d', y.toE with
    | .mp i, .e (.v (.string s)), some v => (match hp i with
      | .smap l => A.mset l s.data.toList v fun l' => K (o ∧ o' ∧ o'') { d := none, wr := [(i, .smap l')], tc := [i] }
      | _ => False)
    | _, _, _ => False
  | .bad => False
end


theorem binA_std : binA Ar.std = binE := rfl

theorem opA_std : opA Ar.std = opE := by
  funext P ev hp f dr gd g i K
  cases i
  case load agg n a =>
    simp only [opA, opE]
    congr 1
    funext o d
    cases d <;> rfl
  case store agg n a x =>
    simp only [opA, opE]
    congr 2
    funext o d
    congr 1
    funext o' y
    cases d <;> rfl
  all_goals rfl
end Go.Proofs.Ytmnhoglkahmlaaa.Ab
