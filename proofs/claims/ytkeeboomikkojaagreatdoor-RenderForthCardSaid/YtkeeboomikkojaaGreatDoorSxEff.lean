/- Shallow formulas for operations that make memory, write or call. -/
import Derived.Test.YtkeeboomikkojaaGreatDoorSxOpsS
namespace Go.Sx

/-- A CALL: in whatever world with this heap the call ends, its result and heap meet R; a panic that leaves it meets X. -/
def CallX (P : Program) (ω : Amb) (f : FuncId) (args : List Value) (h : Hp) (R : Value → Hp → Prop) (X : List PanicEntry → Hp → Prop) : Prop :=
  ∀ d, Calls P f args.toArray (W ω h d) fun e w' => (∃ d', w' = W ω w'.heap d') ∧ match e with
    | .returned v => R v w'.heap
    | .panicked c => X c w'.heap
    | .outgrown => False

theorem CallX.mono {P : Program} {ω : Amb} {f : FuncId} {args : List Value} {h : Hp} {R R' : Value → Hp → Prop} {X X' : List PanicEntry → Hp → Prop}
    (hc : CallX P ω f args h R X) (hr : ∀ v h', R v h' → R' v h') (hx : ∀ c h', X c h' → X' c h') : CallX P ω f args h R' X' :=
  fun d => (hc d).mono fun e w' ⟨a, b⟩ => ⟨a, by cases e <;> first | exact hr _ _ b | exact hx _ _ b | exact b⟩

/-- a block with the cells from 'off' on overwritten -/
def spl (cur : Array Value) (off : Nat) (cs : List Value) : Array Value := (cur.toList.take off ++ (cs ++ cur.toList.drop (off + cs.length))).toArray

/-- a store of a row of cells: the block that is written, whole -/
def storeK (h : Hp) (a : Addr) (cs : List Value) (K : Hp → Prop) : Prop :=
  ∃ cur t, h[a.block]? = some (.cells cur t (0, 0)) ∧ a.spot = none ∧ a.off + cs.length ≤ cur.size ∧ K (h.setIfInBounds a.block (.cells (spl cur a.off cs) t (0, 0)))
def storeK1 (h : Hp) (a : Addr) (v : Value) (K : Hp → Prop) : Prop :=
  ∃ cur t, h[a.block]? = some (.cells cur t (0, 0)) ∧ a.spot = none ∧ a.off < cur.size ∧ K (h.setIfInBounds a.block (.cells (cur.setIfInBounds a.off v) t (0, 0)))

/-- a slice of the call's own: nobody else looks at the cells behind it up to its capacity (or it is nil and empty) -/
def OwnH (h : Hp) (base : Nat) (e : TypeId) (size : Nat) (v : Value) (n : Nat) (xs : List Value) : Prop :=
  xs.length = n * size ∧
  ((v = .slice none 0 0 ∧ n = 0) ∨
   ∃ g o cap cur, v = .slice (some ⟨g, o, none⟩) n cap ∧ base ≤ g ∧ h[g]? = some (.cells cur e (0, 0)) ∧ n ≤ cap ∧ cap ≤ maxLen ∧ o + cap * size ≤ cur.size ∧ (cur.toList.drop o).take (n * size) = xs)

/-- new blocks, and writes to one row alone -/
structure GrownH (h h' : Hp) (row : Option Nat) : Prop where
  size : h.size ≤ h'.size
  block : ∀ k, k < h.size → some k ≠ row → h'[k]? = h[k]?

/-- what an append takes: a slice with its cells, or nil -/
def newsAt (h : Hp) (x : Value) (m size : Nat) (news : List Value) : Prop :=
  news.length = m * size ∧ ((x = .slice none 0 0 ∧ m = 0) ∨ ∃ a c, x = .slice (some a) m c ∧ ∀ j u, news[j]? = some u → cellH h (a.add j) = some u)

def appK (P : Program) (t : TypeId) (h : Hp) (s x : Value) (K : Value → Hp → Prop) : Prop :=
  match P.underlying t with
  | some (.slice el) => match P.info? el with
    | some i => match i.zero with
      | some z => cond (z.cells.size == i.size && Nat.blt 0 i.size)
          (∃ base n xs m news, OwnH h base el i.size s n xs ∧ newsAt h x m i.size news ∧ (∀ u ∈ news, one u) ∧ n + m ≤ maxLen ∧ (n + m) * i.bytes ≤ 140737488355328 ∧ base ≤ h.size ∧
            ∀ v' h', OwnH h' base el i.size v' (n + m) (xs ++ news) → GrownH h h' s.ownBlock → (v' = .slice none 0 0 ↔ s = .slice none 0 0 ∧ m = 0) →
              (∀ k, v'.ownBlock = some k → s.ownBlock = some k ∨ h.size ≤ k) → K v' h') False
      | none => False
    | none => False
  | _ => False

/-- may the function be entered by its text? -/
def callable (P : Program) (f : FuncId) : Bool :=
  match P.funcs[f]? with
  | some fn => fn.name != "runtime.NumGoroutine" && fn.body.isSome
  | none => false

def callK (P : Program) (ω : Amb) (fv : Value) (args : List Value) (h : Hp) (K : Value → Hp → Prop) (X : List PanicEntry → Hp → Prop) : Prop :=
  match fv with
  | .func (.func f) first captured => cond (callable P f) (CallX P ω f (first.toList ++ (args ++ captured.toList)) h K X) False
  | _ => False

def zeroRow (z : List Value) (n : Nat) : Array Value := (Array.range (n * z.length)).map fun i => z.toArray[i % z.length]!

def makeK (P : Program) (t : TypeId) (h : Hp) (l c : Value) (K : Value → Hp → Prop) : Prop :=
  match P.underlying t with
  | some (.slice el) => match P.info? el with
    | some i => match i.zero with
      | some z => cond (z.cells.size == i.size)
        (asI l fun n => asI c fun m => n = m ∧ 0 ≤ n ∧ n ≤ 9223372036854775807 ∧ (i.bytes : Int) * n ≤ 281474976710656 ∧
          K (.slice (some ⟨h.size, 0, none⟩) n.toNat n.toNat) (h.push (.cells (zeroRow z.cells.toList n.toNat) el))) False
      | none => False
    | none => False
  | _ => False

/-- copy into a row: from a slice -/
def copyK (P : Program) (dT : TypeId) (h : Hp) (dst src : Value) (K : Value → Hp → Prop) : Prop :=
  match P.underlying dT with
  | some (.slice el) => szK P el fun sz => asSl1 dst fun a dl _ => asSl src fun b sl _ =>
      ∃ cs : List Value, cs.length = Nat.min sl dl * sz ∧ (match b with | some b => ∀ j u, cs[j]? = some u → cellH h (b.add j) = some u | none => sl = 0) ∧ (∀ u ∈ cs, one u) ∧
        storeK h a cs fun h' => K (.int .i64 (Nat.min sl dl : Nat)) h'
  | _ => False

def clearK (P : Program) (t : TypeId) (h : Hp) (x : Value) (K : Value → Hp → Prop) : Prop :=
  match P.underlying t with
  | some (.slice el) => match zeroOf P el with
    | some z => cond (z.all fun v => v.oneCell') (asSl x fun a n _ => match a with
      | none => K (.tuple #[]) h
      | some a => storeK h a (zeroRow z n).toList fun h' => K (.tuple #[]) h') False
    | none => False
  | _ => False

/-- '[]byte(s)': a new row, its room whatever it is -/
def bytesK (P : Program) (src t : TypeId) (h : Hp) (x : Value) (K : Value → Hp → Prop) : Prop :=
  match P.underlying src, P.underlying t with
  | some _, some (.slice el) => match P.underlying el with
    | some (.int .u8) => asS x fun s => ∀ (cap : Nat) (h' : Hp), h.size ≤ h'.size → (∀ k, k < h.size → h'[k]? = h[k]?) → (∀ j, j < s.size → cellH h' ⟨h.size, j, none⟩ = some (.int .u8 (s.data.toList.getD j 0).toNat)) →
        K (.slice (some ⟨h.size, 0, none⟩) s.size cap) h'
    | _ => False
  | _, _ => False

def asIfc (v : Value) (F : TypeId → Value → Prop) : Prop := match v with
  | .iface t u => F t u
  | _ => False
/-- AN OPERATION: whatever it does -/
def opx (P : Program) (ω : Amb) (op : Op) (e : Operand → Value) (h : Hp) (K : Value → Hp → Prop) (X : List PanicEntry → Hp → Prop) : Prop :=
  cond (isQuiet P op) (qx P op e h fun v _ => K v h) <|
  match op with
  | .store t x v => match aggOf P t with
    | some none => asP (e x) fun a => oneK (e v) (storeK1 h a (e v) fun h' => K undef h')
    | some (some n) => asP (e x) fun a => asA (e v) fun cs => cs.size = n ∧ (∀ u ∈ cs.toList, one u) ∧ storeK h a cs.toList fun h' => K undef h'
    | none => False
  | .alloc t => match zeroOf P t with
    | some z => K (.pointer (some ⟨h.size, 0, none⟩)) (h.push (.cells z.toArray t))
    | none => False
  | .box t x => K (.pointer (some ⟨h.size, 0, none⟩)) (h.push (.cells (e x).cells t))
  | .buildSlice t len parts => match P.underlying t with
    | some (.slice el) => match zeroOf P el, aggOf P el with
      | some z, some ag => cond (Nat.ble (len * ag.getD 1) 16777216 && z.length == ag.getD 1)
          (fillV (len * ag.getD 1) (zeroRow z len).toList (parts.toList.map fun p => (p.1 * ag.getD 1, ag, e p.2)) fun cs => K (.slice (some ⟨h.size, 0, none⟩) len len) (h.push (.cells cs.toArray el))) False
      | _, _ => False
    | _ => False
  | .makeSlice t l c => makeK P t h (e l) (e c) K
  | .convert s d x => bytesK P s d h (e x) K
  | .panic x => match e x with
    | .iface t v => X [{ v := .iface t v, recovered := false }] h
    | _ => False
  | .typeAssert x _ T true => match P.underlying T with
    | some (.interface _) => False
    | some _ => asIfc (e x) fun t u => cond (Nat.beq t T) (K (.tuple #[u, .bool true]) h) False
    | none => False
  | .call c => match c.callee with
    | .value f => callK P ω (e f) (c.args.toList.map e) h K X
    | .builtin .append => match c.argTypes.toList, c.args.toList with
      | [t, t'], [s, x] => cond (t == t') (appK P t h (e s) (e x) K) False
      | _, _ => False
    | .builtin .copy => match c.argTypes.toList, c.args.toList with
      | [t, _], [s, x] => copyK P t h (e s) (e x) K
      | _, _ => False
    | .builtin .clear => match c.argTypes.toList, c.args.toList with
      | [t], [s] => clearK P t h (e s) K
      | _, _ => False
    | _ => False
  | _ => False

end Go.Sx
