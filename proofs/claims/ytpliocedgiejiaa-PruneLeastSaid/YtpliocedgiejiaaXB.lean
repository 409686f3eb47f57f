/-
  A function's code as a tree of small steps, reckoned by the kernel: what each step asks, and that the tree is sound.
-/
import Derived.Test.YtpliocedgiejiaaXA
namespace Go.Proofs.Ytpliocedgiejiaa
open Go

/- THE STEPS -/
abbrev ExI (k : Int → W) : W := fun w => ∃ n, k n w
abbrev ExB (k : Bool → W) : W := fun w => ∃ n, k n w
abbrev ExS (k : ByteArray → W) : W := fun w => ∃ n, k n w
abbrev ExP (k : Option Addr → W) : W := fun w => ∃ n, k n w
abbrev ExA (k : Addr → W) : W := fun w => ∃ n, k n w
abbrev ExV (k : Value → W) : W := fun w => ∃ n, k n w
abbrev ExL (k : Option Addr → Nat → Nat → W) : W := fun w => ∃ a n c, k a n c w
abbrev ExM (k : Option Nat → W) : W := fun w => ∃ n, k n w
abbrev ExF (k : FuncId → Array Value → W) : W := fun w => ∃ n c, k n c w
abbrev ExO (k : TypeId → Value → W) : W := fun w => ∃ t v, k t v w
abbrev EqW (v u : Value) (k : W) : W := fun w => v = u ∧ k w
abbrev EqL (v u : List Value) (k : W) : W := fun w => v = u ∧ k w
def FlW : W := fun _ => False
def LdW (a : Addr) (k : Value → W) : W := fun w => ∃ v, w.cell? a = some v ∧ k v w
def LhW (S : World → Prop) (a : Addr) (k : Value → W) : W := fun w => ∃ v, (∀ w', S w' → w'.cell? a = some v) ∧ k v w
/-- the cells from a on are these -/
def cellsAt (w : World) (a : Addr) (cs : List Value) : Prop := ∀ i v, cs[i]? = some v → w.cell? (a.add i) = some v
def LnW (n : Nat) (a : Addr) (k : Value → W) : W := fun w => ∃ cs : List Value, cs.length = n ∧ cellsAt w a cs ∧ k (.agg cs.toArray) w
def LgW (S : World → Prop) (n : Nat) (a : Addr) (k : Value → W) : W := fun w => ∃ cs : List Value, cs.length = n ∧ (∀ w', S w' → cellsAt w' a cs) ∧ k (.agg cs.toArray) w
def StW (a : Addr) (v : Value) (k : W) : W := fun w => ((∃ u, w.cell? a = some u) ∧ w.frozen? a = false) ∧ k (w.setCell a v)
/-- the cells from a on, from the i-th one on, turned -/
def setN (w : World) (a : Addr) : List Value → Nat → World
  | [], _ => w
  | v :: r, i => setN (w.setCell (a.add i) v) a r (i + 1)
def SnW (a : Addr) (cs : List Value) (k : W) : W := fun w => (∀ i, i < cs.length → (∃ u, w.cell? (a.add i) = some u) ∧ w.frozen? (a.add i) = false) ∧ k (setN w a cs 0)
def NbW (cs : Array Value) (t : TypeId) (k : Addr → W) : W := fun w => k ⟨w.heap.size, 0, none⟩ (w.alloc (.cells cs t))
def NmW (k : Nat → W) : W := fun w => k w.heap.size (w.alloc (.map #[] 0))
def NcW (p : Option Addr) (k : Addr → W) : W := match p with | some a => k a | none => FlW
def BcW (b : Bool) (p q : W) : W := match b with | true => p | false => q
def ClW (P : Program) (f : FuncId) (args : Array Value) (k : Value → W) : W :=
  fun w => Calls P f args w fun e w' => ∃ v, e = .returned v ∧ k v w'
def SvW (P : Program) (m : Sem Value) (k : Value → W) : W := fun w => ∃ v w', m.run P w = .ok v w' ∧ k v w'
def SuW (P : Program) (m : Sem Unit) (k : W) : W := fun w => ∃ w', m.run P w = .ok () w' ∧ k w'
def SrW (P : Program) (m : Sem Value) (k : Value → W) : W := fun w => ∃ v, m.run P w = .ok v w ∧ k v w
def ShW (P : Program) (S : World → Prop) (m : Sem Value) (k : Value → W) : W := fun w => ∃ v, (∀ w', S w' → m.run P w' = .ok v w') ∧ k v w
def PrW (P : Program) (m : Sem Value) (k : Value → W) : W := fun w => ∃ v, (∀ w', m.run P w' = .ok v w') ∧ k v w
def PvW (P : Program) (m : Sem Value) (v : Value) (k : W) : W := fun w => (∀ w', m.run P w' = .ok v w') ∧ k w
def Outc (P : Program) (k : Value → W) : Result Next → Prop
  | .ok (.value v) w' => k v w'
  | .ok .skip w' => k undef w'
  | .ok (.enter f args) w' => ClW P f args k w'
  | .ok (.row row args) w' => Rows P row args w' k
  | _ => False
def RnW (P : Program) (m : Sem Next) (k : Value → W) : W := fun w => Outc P k (m.run P w)
def CkW (c : Prop) (k : W) : W := fun w => c ∧ k w
def DrW (k : W) : W := fun w => k w.drew
def RgW (k : (World → Prop) → W) : W := fun w => ∃ S : World → Prop, S w ∧ k S w
def AndW (p q : W) : W := fun w => p w ∧ q w
def OrW (p q : W) : W := fun w => p w ∨ q w
def AgW (k : (Nat → Value) → W) : W := fun w => ∀ g, k g w
def JnW (K : List Value → W) (k : (List Value → W) → W) : W := k K
def IxW (a : Option Addr) (n : Nat) (i : Int) (k : Addr → W) : W := fun w => ∃ x, a = some x ∧ (0 ≤ i ∧ i < n) ∧ k x w
def XbW (s : ByteArray) (i : Int) (k : UInt8 → W) : W := fun w => ∃ b, 0 ≤ i ∧ s[i.toNat]? = some b ∧ k b w
def IfW (v : Value) (p q : W) : W := fun w => (v = .nilIface → p w) ∧ (v ≠ .nilIface → q w)

/- Shapes -/
inductive Sh where | i (k : IntKind) | b | s | p | l | m | f | o | n | x

def genC : List Sh → (List Value → W) → W
  | [], k => k []
  | .i kd :: r, k => ExI fun n => genC r fun vs => k (.int kd n :: vs)
  | .b :: r, k => ExB fun n => genC r fun vs => k (.bool n :: vs)
  | .s :: r, k => ExS fun n => genC r fun vs => k (.string n :: vs)
  | .p :: r, k => ExP fun n => genC r fun vs => k (.pointer n :: vs)
  | .l :: r, k => ExL fun a n c => genC r fun vs => k (.slice a n c :: vs)
  | .m :: r, k => ExM fun n => genC r fun vs => k (.map n :: vs)
  | .f :: r, k => ExF fun n c => genC r fun vs => k (.func (.func n) #[] c :: vs)
  | .o :: r, k => ExV fun v => genC r fun vs => k (v :: vs)
  | .n :: r, k => genC r fun vs => k (.nilIface :: vs)
  | .x :: _, _ => FlW

theorem genC_sound : ∀ (l : List Sh) (k : List Value → W) (w : World), genC l k w → ∃ vs, k vs w := by
  intro l
  induction l with
  | nil => intro k w h; exact ⟨_, h⟩
  | cons sh r ih =>
    intro k w h
    cases sh <;> simp only [genC, FlW] at h
    case n => obtain ⟨vs, h⟩ := ih _ w h; exact ⟨_, h⟩
    case l => obtain ⟨_, _, _, h⟩ := h; obtain ⟨vs, h⟩ := ih _ w h; exact ⟨_, h⟩
    case f => obtain ⟨_, _, h⟩ := h; obtain ⟨vs, h⟩ := ih _ w h; exact ⟨_, h⟩
    all_goals (obtain ⟨_, h⟩ := h; obtain ⟨vs, h⟩ := ih _ w h; exact ⟨_, h⟩)

def shapes (P : Program) : Nat → TypeId → List Sh
  | 0, _ => [.x]
  | n + 1, t => match P.underlying t with
    | some (.int k) => [.i k] | some .bool => [.b] | some .string => [.s] | some (.pointer _) => [.p] | some (.slice _) => [.l] | some (.map ..) => [.m]
    | some (.func ..) => [.f] | some (.interface _) => [.o]
    | some (.struct fs) => fs.toList.flatMap fun f => shapes P n f.type
    | some (.array len e) => (List.replicate len (shapes P n e)).flatten
    | _ => [.x]

/-- one value of a type that is no tuple -/
def gen1 (P : Program) (t : TypeId) (k : Value → W) : W :=
  match P.underlying t with
  | some (.struct _) => genC (shapes P 20 t) fun vs => k (.agg vs.toArray)
  | some (.array ..) => genC (shapes P 20 t) fun vs => k (.agg vs.toArray)
  | _ => genC (shapes P 20 t) fun vs => match vs with | [v] => k v | _ => FlW

theorem gen1_sound {P : Program} {t : TypeId} {k : Value → W} {w : World} (h : gen1 P t k w) : ∃ v, k v w := by
  have rest : ∀ l, genC l (fun vs => match vs with | [v] => k v | _ => FlW) w → ∃ v, k v w := fun l h => by
    obtain ⟨vs, h⟩ := genC_sound _ _ _ h
    match vs, h with
    | [v], h => exact ⟨v, h⟩
    | [], h => exact (h : False).elim
    | _ :: _ :: _, h => exact (h : False).elim
  cases hP : P.underlying t with
  | none => simp only [gen1, hP] at h; exact rest _ h
  | some d =>
    cases d <;> simp only [gen1, hP] at h <;> first
      | exact rest _ h
      | (obtain ⟨vs, h⟩ := genC_sound _ _ _ h; exact ⟨_, h⟩)

def genT (P : Program) : List TypeId → (List Value → W) → W
  | [], k => k []
  | t :: ts, k => gen1 P t fun v => genT P ts fun vs => k (v :: vs)

theorem genT_sound {P : Program} : ∀ (ts : List TypeId) (k : List Value → W) (w : World), genT P ts k w → ∃ vs, k vs w := by
  intro ts
  induction ts with
  | nil => intro k w h; exact ⟨_, h⟩
  | cons t ts ih =>
    intro k w h
    obtain ⟨v, h⟩ := gen1_sound h
    obtain ⟨vs, h⟩ := ih _ _ h
    exact ⟨_, h⟩

/-- v, of a type, opened to its shape -/
def opn (P : Program) (t : TypeId) (v : Value) (k : Value → W) : W :=
  match P.underlying t with
  | some (.tuple ts) => genT P ts.toList fun vs => EqW v (.tuple vs.toArray) (k (.tuple vs.toArray))
  | _ => gen1 P t fun u => EqW v u (k u)

theorem opn_sound {P : Program} {t : TypeId} {v : Value} {k : Value → W} {w : World} (h : opn P t v k w) : k v w := by
  cases hP : P.underlying t with
  | none => simp only [opn, hP] at h; obtain ⟨u, rfl, h⟩ := gen1_sound h; exact h
  | some d =>
    cases d <;> simp only [opn, hP] at h <;> first
      | (obtain ⟨u, hu, h'⟩ := gen1_sound h; subst hu; exact h')
      | (obtain ⟨vs, hu, h'⟩ := genT_sound _ _ _ h; subst hu; exact h')

/- Values -/
def mn (x y : Int) : Int := if y < x then y else x
def mx (x y : Int) : Int := if y > x then y else x
def subAddr (a : Option Addr) (cap l size : Nat) : Option Addr := if cap = l then a else a.map (·.add (l * size))

def sizeP (P : Program) (t : TypeId) : Option Nat := (P.info? t).map (·.size)
def zeroP (P : Program) (t : TypeId) : Option Value := (P.info? t).bind (·.zero)
def aggP (P : Program) (t : TypeId) : Option Bool := match P.underlying t with | some (.struct _) => some true | some (.array ..) => some true | some _ => some false | none => none

def andI (k : IntKind) (a b : Int) : Int := k.wrap (BitVec.ofInt k.bits a &&& BitVec.ofInt k.bits b).toNat
def orI (k : IntKind) (a b : Int) : Int := k.wrap (BitVec.ofInt k.bits a ||| BitVec.ofInt k.bits b).toNat
def xorI (k : IntKind) (a b : Int) : Int := k.wrap (BitVec.ofInt k.bits a ^^^ BitVec.ofInt k.bits b).toNat
def shlI (k : IntKind) (a b : Int) : Int := k.wrap (a * 2 ^ (min b.toNat k.bits))
def shrI (k : IntKind) (a b : Int) : Int := a.fdiv (2 ^ (min b.toNat k.bits))
def binI (op : BinOp) (k : IntKind) (a b : Int) (c : Value → W) : W := match op with
  | .add => c (.int k (k.wrap (a + b))) | .sub => c (.int k (k.wrap (a - b))) | .mul => c (.int k (k.wrap (a * b)))
  | .quo => CkW (b ≠ 0) (c (.int k (k.wrap (a.tdiv b)))) | .rem => CkW (b ≠ 0) (c (.int k (a.tmod b)))
  | .and => c (.int k (andI k a b))
  | .or => c (.int k (orI k a b))
  | .xor => c (.int k (xorI k a b))
  | .eql => c (.bool (a == b)) | .neq => c (.bool (a != b)) | .lss => c (.bool (decide (a < b))) | .leq => c (.bool (decide (a ≤ b)))
  | .gtr => c (.bool (decide (a > b))) | .geq => c (.bool (decide (a ≥ b)))
  | _ => FlW

def ifaceP (P : Program) (t : TypeId) : Bool := match P.underlying t with | some (.interface _) => true | _ => false
def isI : Value → Bool | .iface .. => true | .nilIface => true | _ => false
def isNilI : Value → Bool | .nilIface => true | _ => false

def binW (P : Program) (op : BinOp) (t : TypeId) (ox oy : Operand) (x y : Value) (ty : TypeId) (c : Value → W) : W :=
  let other : W := PrW P (do eqGuard op t ox oy x y; binOp op t x y) fun v => opn P ty v c
  if ifaceP P t = true then
    match op, oy, y with
    | .eql, .const _, .nilIface => CkW (isI x = true) (c (.bool (isNilI x)))
    | .neq, .const _, .nilIface => CkW (isI x = true) (c (.bool (!isNilI x)))
    | _, _, _ => other
  else match x, y with
  | .int k a, .int k' b => match op with
    | .shl => CkW (0 ≤ b) (c (.int k (shlI k a b)))
    | .shr => CkW (0 ≤ b) (c (.int k (shrI k a b)))
    | op => if k = k' then binI op k a b c else FlW
  | .string a, .string b => match op with
    | .add => CkW (((a.size + b.size : Nat) : Int) ≤ IntKind.i64.max) (c (.string (a ++ b)))
    | .eql => c (.bool (a.toList == b.toList)) | .neq => c (.bool !(a.toList == b.toList)) | .lss => c (.bool (Op.bytesLess a.toList b.toList))
    | _ => other
  | .pointer a, .pointer none => match op, P.underlying t with
    | .eql, some (.pointer _) => c (.bool a.isNone) | .neq, some (.pointer _) => c (.bool !a.isNone) | _, _ => other
  | .slice a _ _, .slice none _ _ => match op, P.underlying t with
    | .eql, some (.slice _) => c (.bool a.isNone) | .neq, some (.slice _) => c (.bool !a.isNone) | _, _ => other
  | .map a, .map none => match op, P.underlying t with
    | .eql, some (.map ..) => c (.bool a.isNone) | .neq, some (.map ..) => c (.bool !a.isNone) | _, _ => other
  | .iface _ _, .nilIface => match op, P.underlying t with
    | .eql, some (.interface _) => c (.bool false) | .neq, some (.interface _) => c (.bool true) | _, _ => other
  | _, _ => other

def sliceW (P : Program) (t : TypeId) (x : Value) (lo hi mx : Option Value) (ty : TypeId) (c : Value → W) : W :=
  let other : W := PrW P (Instr.sliceAt t x lo hi mx) fun v => opn P ty v c
  match P.underlying t, x, mx with
  | some .string, .string s, none => match lo, hi with
    | none, none => c (.string (s.extract 0 s.size))
    | some (.int _ l), none => CkW (0 ≤ l ∧ l ≤ (s.size : Int)) (c (.string (s.extract l.toNat s.size)))
    | none, some (.int _ h) => CkW (0 ≤ h ∧ h ≤ (s.size : Int)) (c (.string (s.extract 0 h.toNat)))
    | some (.int _ l), some (.int _ h) => CkW ((0 ≤ h ∧ h ≤ (s.size : Int)) ∧ (0 ≤ l ∧ l ≤ h)) (c (.string (s.extract l.toNat h.toNat)))
    | _, _ => other
  | some (.slice e), .slice a n cap, none => match sizeP P e with
    | none => FlW
    | some size => match lo, hi with
      | none, none => c (.slice (subAddr a cap 0 size) (n - 0) (cap - 0))
      | some (.int _ l), none => CkW (0 ≤ l ∧ l ≤ (n : Int)) (c (.slice (subAddr a cap l.toNat size) (n - l.toNat) (cap - l.toNat)))
      | none, some (.int _ h) => CkW (0 ≤ h ∧ h ≤ (cap : Int)) (c (.slice (subAddr a cap 0 size) (h.toNat - 0) (cap - 0)))
      | some (.int _ l), some (.int _ h) => CkW ((0 ≤ h ∧ h ≤ (cap : Int)) ∧ (0 ≤ l ∧ l ≤ h)) (c (.slice (subAddr a cap l.toNat size) (h.toNat - l.toNat) (cap - l.toNat)))
      | _, _ => other
  | _, _, _ => other

/-- the cells that are built, by the types alone -/
def buildV (P : Program) (t : TypeId) (parts : List (Nat × Value)) : Value :=
  match P.underlying t, zeroP P t with
  | some (.struct fs), some z => .agg (parts.foldl (fun cs (i, v) => match fs[i]? with
      | none => cs
      | some f => match aggP P f.type with
        | some true => (v.cells.toList.zipIdx.foldl (fun cs (c, j) => cs.setIfInBounds (f.offset + j) c) cs)
        | _ => cs.setIfInBounds f.offset v) z.cells)
  | some (.array _ e), some z => match sizeP P e with
    | some size => .agg (parts.foldl (fun cs (i, v) => match aggP P e with
        | some true => (v.cells.toList.zipIdx.foldl (fun cs (c, j) => cs.setIfInBounds (i * size + j) c) cs)
        | _ => cs.setIfInBounds (i * size) v) z.cells)
    | none => undef
  | _, _ => undef

/-- an operation that looks alone -/
def lookW (P : Program) (S : World → Prop) (held : Bool) (o : Oper) (ρ : Operand → Value) (k : Value → W) : W :=
  match o.op with
  | .move x => k (ρ x)
  | .assign x => k (ρ x)
  | .pick c x y => match ρ c with
    | .bool b => match P.underlying o.type with
      | some .bool => match ρ x, ρ y with
        | .bool p, .bool q => k (.bool (cond b p q))
        | .bool p, _ => BcW b (k (.bool p)) FlW
        | _, .bool q => BcW b FlW (k (.bool q))
        | _, _ => FlW
      | _ => k (if b = true then ρ x else ρ y)
    | _ => FlW
  | .nilCheck x => if ifaceP P o.type = true then ExO fun t u => EqW (ρ x) (.iface t u) (k (.iface t u)) else match ρ x with
    | .pointer p => NcW p fun a => k (.pointer (some a))
    | .func (.func n) fs cs => k (.func (.func n) fs cs)
    | .iface t v => k (.iface t v)
    | _ => FlW
  | .binOp op t x y _ => binW P op t x y (ρ x) (ρ y) o.type k
  | .unOp op _ x => match op, ρ x with
    | .not, .bool b => k (.bool !b)
    | .neg, .int kd n => k (.int kd (kd.wrap (0 - n)))
    | op, v => PrW P (Op.unary op v) fun v => opn P o.type v k
  | .convert s d x => match P.underlying s, P.underlying d, ρ x with
    | some (.int _), some (.int kd), .int _ n => k (.int kd (kd.wrap n))
    | _, _, v => PrW P (convert s d v) fun v => opn P o.type v k
  | .makeInterface t x => match P.underlying t with
    | some (.interface _) => FlW
    | none => FlW
    | some _ => k (.iface t (ρ x))
  | .makeFunc f a c => k (.func f (a.map ρ) (c.map ρ))
  | .slice t x lo hi mx => sliceW P t (ρ x) (lo.map ρ) (hi.map ρ) (mx.map ρ) o.type k
  | .fieldAddr s x f => match ρ x, P.underlying s with
    | .pointer p, some (.struct fs) => match fs[f]? with
      | some fl => match sizeP P fl.type with
        | some (_ + 1) => NcW p fun a => k (.pointer (some (a.add fl.offset)))
        | _ => FlW
      | none => FlW
    | _, _ => FlW
  | .field t x f => match ρ x, P.underlying t with
    | .agg cs, some (.struct fs) => match fs[f]? with
      | some fl => match aggP P fl.type, sizeP P fl.type with
        | some true, some n => k (.agg (cs.extract fl.offset (fl.offset + n)))
        | some false, _ => match cs[fl.offset]? with
          | some v => k v
          | none => FlW
        | _, _ => FlW
      | none => FlW
    | _, _ => FlW
  | .indexAddr t x ix => match ρ x, ρ ix, P.underlying t with
    | .slice a n _, .int _ i, some (.slice e) => match sizeP P e with
      | some size => IxW a n i fun x => k (.pointer (some (x.add (i.toNat * size))))
      | none => FlW
    | .pointer p, .int _ i, some (.array n e) => match sizeP P e with
      | some size => NcW p fun a => CkW (0 ≤ i ∧ i < n) (k (.pointer (some (a.add (i.toNat * size)))))
      | none => FlW
    | _, _, _ => FlW
  | .index t x ix => match ρ x, ρ ix, P.underlying t with
    | .string s, .int _ i, some .string => XbW s i fun b => k (.int .u8 b.toNat)
    | v, i, _ => PrW P (Instr.index t v i) fun v => opn P o.type v k
  | .extract t ix => match ρ t with
    | .tuple vs => match vs[ix]? with
      | some v => k v
      | none => FlW
    | _ => FlW
  | .build t ps => (fun v => PvW P (Instr.build t (ps.map fun (i, x) => (i, ρ x))) v (k v)) (buildV P t (ps.toList.map fun (i, x) => (i, ρ x)))
  | .load t x => match ρ x with
    | .pointer p => NcW p fun a => match aggP P t with
      | some false => if held then LhW S a fun v => opn P o.type v k else LdW a fun v => opn P o.type v k
      | some true => match sizeP P t with
        | some n => if held then LgW S n a fun v => opn P o.type v k else LnW n a fun v => opn P o.type v k
        | none => FlW
      | none => FlW
    | _ => FlW
  | .lookup t x ix ok => if held then ShW P S (Instr.lookup t (ρ x) (ρ ix) ok) fun v => opn P o.type v k else SrW P (Instr.lookup t (ρ x) (ρ ix) ok) fun v => opn P o.type v k
  | .typeAssert x t d ok => PrW P (Instr.typeAssert (ρ x) t d ok) fun r => if ok = true then gen1 P d fun v => ExB fun b => EqW r (.tuple #[v, .bool b]) (k (.tuple #[v, .bool b])) else opn P d r k
  | .call { callee := .builtin b, args, argTypes } => match b, args.toList.map ρ with
    | .len, [.string s] => match (argTypes[0]?).bind P.underlying with | some .string => k (.int .i64 s.size) | _ => FlW
    | .len, [.slice _ n _] => match (argTypes[0]?).bind P.underlying with | some (.slice _) => k (.int .i64 n) | _ => FlW
    | .min, [.int kd x, .int _ y] => k (.int kd (mn x y))
    | .max, [.int kd x, .int _ y] => k (.int kd (mx x y))
    | .min, [.int kd x, .int _ y, .int _ z] => k (.int kd (mn (mn x y) z))
    | .max, [.int kd x, .int _ y, .int _ z] => k (.int kd (mx (mx x y) z))
    | .len, [v] => if held then ShW P S (Builtin.len_ argTypes o.type #[v]) fun v => opn P o.type v k else SrW P (Builtin.len_ argTypes o.type #[v]) fun v => opn P o.type v k
    | .cap, [.slice _ _ c] => match (argTypes[0]?).bind P.underlying with | some (.slice _) => k (.int .i64 c) | _ => FlW
    | _, _ => FlW
  | _ => FlW

def allOne : List Value → Bool
  | [] => true
  | v :: r => match v with
    | .agg _ => false
    | .tuple _ => false
    | _ => allOne r

def isO : Sh → Bool | .o => true | _ => false
/-- whether a type's values hold interface values -/
def hasI (P : Program) (t : TypeId) : Bool := (shapes P 20 t).any isO

/-- a store -/
def stoW (P : Program) (t : TypeId) (a : Addr) (v : Value) (k : W) : W := match sizeP P t with
  | none => FlW
  | some n => if hasI P t = true then CkW (allOne v.cells.toList = true ∧ v.cells.size = n) (if Nat.beq n 1 = true then CkW (v.cells = #[v]) (StW a v k) else SnW a v.cells.toList k) else match v with
    | .agg cs => match Nat.beq cs.toList.length n, allOne cs.toList with
      | true, true => SnW a cs.toList k
      | _, _ => FlW
    | .tuple _ => FlW
    | v => match Nat.beq n 1 with
      | true => StW a v k
      | false => FlW

/-- a value of a type that is known, or not -/
def hinted (P : Program) (t : Option TypeId) (k : Value → W) : W := match t with
  | some t => gen1 P t k
  | none => ExV k

theorem hinted_sound {P : Program} {t : Option TypeId} {k : Value → W} {w : World} (h : hinted P t k w) : ∃ v, k v w := by
  cases t with
  | none => exact h
  | some t => exact gen1_sound h

/-- an operation that acts -/
def actW (P : Program) (hint : Nat → Option TypeId) (o : Oper) (ρ : Operand → Value) (k : Value → W) : W :=
  match o.op with
  | .alloc t => match zeroP P t with
    | some z => NbW z.cells t fun a => k (.pointer (some a))
    | none => FlW
  | .box t x => NbW (ρ x).cells t fun a => k (.pointer (some a))
  | .buildSlice t n ps => SvW P (Instr.buildSlice t n (ps.map fun (i, x) => (i, ρ x))) fun v => opn P o.type v k
  | .store t x v => match ρ x with
    | .pointer p => NcW p fun a => stoW P t a (ρ v) (k undef)
    | _ => FlW
  | .makeMap t r => match r with
    | none => NmW fun m => k (.map (some m))
    | some r => SvW P (Instr.makeMap t (some (ρ r))) fun v => ExM fun m => EqW v (.map m) (k (.map m))
  | .makeSlice t l c => SvW P (Instr.makeSlice t (ρ l) (ρ c)) fun v => opn P o.type v k
  | .mapUpdate t m x v => SuW P (Instr.mapUpdate t (ρ m) (ρ x) (ρ v)) (k undef)
  | .insert t m x v => SuW P (Instr.mapUpdate t (ρ m) (ρ x) (ρ v)) (k undef)
  | .mapEntry t m x => SvW P (Instr.mapEntry t (ρ m) (ρ x)) fun v => opn P o.type v k
  | .entryStore t m s x => SuW P (Instr.entryStore t (ρ m) (ρ s) (ρ x)) (k undef)
  | .range t x => SvW P (Instr.range t (ρ x)) fun v => ExA fun p => EqW v (.pointer (some p)) (k (.pointer (some p)))
  | .next it s => SvW P (Instr.next (ρ it) s o.type) fun v => OrW (EqW v (.tuple #[.bool false]) (k (.tuple #[.bool false])))
      (if s = true then ExI fun n => ExI fun c => EqW v (.tuple #[.bool true, .int .i64 n, .int .i32 c]) (k (.tuple #[.bool true, .int .i64 n, .int .i32 c]))
        else ExV fun x => ExV fun y => EqW v (.tuple #[.bool true, x, y]) (k (.tuple #[.bool true, x, y])))
  | .entry it => SvW P (Instr.entry (ρ it)) fun v => hinted P (hint 0) fun x => hinted P (hint 1) fun y => EqW v (.tuple #[x, y]) (k (.tuple #[x, y]))
  | .convert s d x => SvW P (convert s d (ρ x)) fun v => opn P o.type v k
  | .call { callee := .builtin b, args, argTypes } => match b with
    | .append => SvW P (Builtin.append_ argTypes o.type (args.map ρ)) fun v => opn P o.type v k
    | .copy => SvW P (Builtin.copy_ argTypes o.type (args.map ρ)) fun v => ExI fun n => EqW v (.int .i64 n) (k (.int .i64 n))
    | .clear => SvW P (Builtin.clear_ argTypes o.type (args.map ρ)) k
    | .delete => SvW P (Builtin.delete_ argTypes o.type (args.map ρ)) k
    | .unsafeString => SvW P (Builtin.unsafeString_ argTypes o.type (args.map ρ)) fun v => opn P o.type v k
    | .unsafeSliceData => SvW P (Builtin.unsafeSliceData_ argTypes o.type (args.map ρ)) fun v => opn P o.type v k
    | b => RnW P (do let d ← resolve ρ { callee := .builtin b, args, argTypes } o.type; invoke d.target d.args) fun v => opn P o.type v k
  | .call { callee := .value f, args, argTypes } => match ρ f with
    | .func (.func n) fs cs => RnW P (callFunc n (fs ++ args.map ρ ++ cs)) fun v => opn P o.type v k
    | _ => RnW P (do let d ← resolve ρ { callee := .value f, args, argTypes } o.type; invoke d.target d.args) fun v => opn P o.type v k
  | .call { callee := .invoke r name, args, .. } => RnW P (callMethod (ρ r) name (args.map ρ)) fun v => opn P o.type v k
  | _ => RnW P (execOp ρ o) k

end Go.Proofs.Ytpliocedgiejiaa
