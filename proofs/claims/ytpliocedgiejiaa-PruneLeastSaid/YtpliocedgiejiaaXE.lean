/-
  A function's code as a tree of steps: the tree, and that it is sound.
-/
import Derived.Test.YtpliocedgiejiaaXD
import Derived.Scope
namespace Go.Proofs.Ytpliocedgiejiaa
open Go

section
variable {P : Program}

theorem run_bind_ok {α β : Type} {m : Sem α} {f : α → Sem β} {v : α} {w w' : World} (h : m.run P w = .ok v w') : (m >>= f).run P w = (f v).run P w' := by
  simp [h]

theorem outc_opn {t : TypeId} {k : Value → W} : ∀ {r : Result Next}, Outc P (fun v => opn P t v k) r → Outc P k r := by
  intro r h
  cases r with
  | halt x w => exact (h : False).elim
  | ok n w =>
    cases n <;> first | exact (h : False).elim | exact opn_sound h | skip
    · exact Calls.mono (h : ClW P _ _ _ w) fun e w' ⟨v, he, hk⟩ => ⟨v, he, opn_sound hk⟩
    · exact Rows.mono (h : Rows P _ _ w _) fun v w' hk => opn_sound hk

theorem run_newRow (t : TypeId) (cs : Array Value) (w : World) : (newRow t cs).run P w = .ok ⟨w.heap.size, 0, none⟩ (w.alloc (.cells cs t)) := rfl
theorem run_zero {t : TypeId} {z : Value} (h : zeroP P t = some z) (w : World) : (zeroValue t).run P w = .ok z w := by
  unfold zeroP at h
  cases hi : P.info? t with
  | none => rw [hi] at h; cases h
  | some i =>
    rw [hi] at h
    unfold zeroValue
    rw [run_bind_ok (run_info hi w)]
    have h' : i.zero = some z := h
    simp only [h']; rfl
theorem run_alloc {t : TypeId} {z : Value} (h : zeroP P t = some z) (w : World) :
    (Instr.alloc t true (.tuple #[])).run P w = .ok (.pointer (some ⟨w.heap.size, 0, none⟩)) (w.alloc (.cells z.cells t)) := by
  unfold Instr.alloc
  rw [run_bind_ok (run_zero h w)]
  simp only [newVar]
  rw [run_bind_ok (run_newRow t z.cells w)]
  rfl
theorem run_box (t : TypeId) (v : Value) (w : World) : (Instr.box t v).run P w = .ok (.pointer (some ⟨w.heap.size, 0, none⟩)) (w.alloc (.cells v.cells t)) := by
  unfold Instr.box newVar
  rw [run_bind_ok (run_newRow t v.cells w)]
  rfl

theorem run_st1 {a : Addr} {v u : Value} {w : World} (h : w.cell? a = some u) (hf : w.frozen? a = false) (ho : allOne [v] = true) : (store a v).run P w = .ok () (w.setCell a v) := by
  unfold store
  cases v <;> first
    | (simp [allOne] at ho; done)
    | simp [Sem.run, h, hf]

theorem frozen_set {w : World} {a b : Addr} {v : Value} : (w.setCell a v).frozen? b = w.frozen? b := by
  unfold World.frozen? World.setCell
  simp only [Array.getElem?_modify]
  by_cases h : a.block = b.block
  · rw [if_pos h]
    cases w.heap[b.block]? with
    | none => rfl
    | some o => cases o <;> rfl
  · rw [if_neg h]

theorem cell_set_some {w : World} {a b : Addr} {v u : Value} (h : w.cell? b = some u) : ∃ u', (w.setCell a v).cell? b = some u' := RowKit.cell?_setCell_some h

theorem run_stN {a : Addr} : ∀ (cs : List Value) (i : Nat) (w : World), allOne cs = true → (∀ j, j < cs.length → (∃ u, w.cell? (a.add (i + j)) = some u) ∧ w.frozen? (a.add (i + j)) = false) →
    (storeCells a cs i).run P w = .ok () (setN w a cs i) := by
  intro cs
  induction cs with
  | nil => intro i w _ _; rfl
  | cons c cs ih =>
    intro i w ho h
    obtain ⟨⟨u, hu⟩, hf⟩ := h 0 (by simp)
    have ho1 : allOne [c] = true ∧ allOne cs = true := by
      cases c <;> first | (simp [allOne] at ho; done) | exact ⟨rfl, by simpa [allOne] using ho⟩
    unfold storeCells
    rw [run_bind_ok (run_st1 (by simpa using hu) (by simpa using hf) ho1.1)]
    refine ih (i + 1) _ ho1.2 fun j hj => ?_
    obtain ⟨⟨u', hu'⟩, hf'⟩ := h (j + 1) (by simp; omega)
    rw [show i + (j + 1) = i + 1 + j from by omega] at hu' hf'
    exact ⟨cell_set_some hu', by rw [frozen_set]; exact hf'⟩

theorem stoW_sound {t : TypeId} {a : Addr} {v : Value} {k : W} {w : World} (h : stoW P t a v k w) : ∃ w', (storeVar t a v).run P w = .ok () w' ∧ k w' := by
  unfold stoW at h
  cases hz : sizeP P t with
  | none => rw [hz] at h; exact (h : False).elim
  | some n =>
    rw [hz] at h
    have one : allOne [v] = true → v.cells = #[v] → (match Nat.beq n 1 with | true => StW a v k | false => FlW) w → ∃ w', (storeVar t a v).run P w = .ok () w' ∧ k w' := fun ho hc h1 => by
      cases hn : Nat.beq n 1 with
      | false => rw [hn] at h1; exact (h1 : False).elim
      | true =>
        rw [hn] at h1
        have := Nat.eq_of_beq_eq_true hn
        subst this
        obtain ⟨⟨⟨u, hu⟩, hf⟩, hk⟩ := (h1 : StW a v k w)
        refine ⟨_, ?_, hk⟩
        unfold storeVar
        rw [run_bind_ok (run_size hz w)]
        simp only [hc]
        have := run_stN (P := P) (a := a) [v] 0 w ho (fun j hj => by
          have : j = 0 := by simpa using hj
          subst this
          simpa [Addr.add] using ⟨⟨u, hu⟩, hf⟩)
        simpa [setN, Addr.add] using this
    dsimp only at h
    split at h
    · obtain ⟨⟨ho, hsz⟩, h⟩ := h
      split at h
      · rename_i hn1
        obtain ⟨hc, h⟩ := h
        have h1 : allOne [v] = true := by rw [hc] at ho; exact ho
        exact one h1 hc (by rw [hn1]; exact h)
      · obtain ⟨h1, hk⟩ := h
        refine ⟨_, ?_, hk⟩
        unfold storeVar
        rw [run_bind_ok (run_size hz w)]
        rw [if_neg (by simp [hsz])]
        exact run_stN v.cells.toList 0 w ho (fun j hj => by simpa using h1 j hj)
    cases v <;> first
      | exact one rfl rfl h
      | exact (h : False).elim
      | skip
    rename_i cs
    have h' : (match Nat.beq cs.toList.length n, allOne cs.toList with | true, true => SnW a cs.toList k | _, _ => FlW) w := h
    cases hn : Nat.beq cs.toList.length n with
    | false => rw [hn] at h'; exact (h' : False).elim
    | true =>
      cases ho : allOne cs.toList with
      | false => rw [hn, ho] at h'; exact (h' : False).elim
      | true =>
        rw [hn, ho] at h'
        have := Nat.eq_of_beq_eq_true hn
        obtain ⟨h1, hk⟩ := h'
        refine ⟨_, ?_, hk⟩
        unfold storeVar
        rw [run_bind_ok (run_size hz w)]
        have hsz : ¬ (Value.agg cs).cells.size ≠ n := by simpa [Value.cells] using this
        rw [if_neg hsz]
        exact run_stN cs.toList 0 w ho (fun j hj => by simpa using h1 j hj)

theorem actW_sound {hint : Nat → Option TypeId} {o : Oper} {ρ : Operand → Value} {k : Value → W} {w : World} (h : actW P hint o ρ k w) : Outc P k ((execOp ρ o).run P w) := by
  have sv : ∀ {m : Sem Value}, execOp ρ o = (do Pure.pure (Next.value (← m))) → ∀ {v w'}, m.run P w = .ok v w' → k v w' → Outc P k ((execOp ρ o).run P w) :=
    fun {m} he {v w'} hm hk => by rw [he, run_v hm]; exact hk
  have svo : ∀ {m : Sem Value} {ty : TypeId}, execOp ρ o = (do Pure.pure (Next.value (← m))) → (SvW P m fun v => opn P ty v k) w → Outc P k ((execOp ρ o).run P w) :=
    fun {m ty} he ⟨v, w', hm, hk⟩ => sv he hm (opn_sound hk)
  have su : ∀ {m : Sem Unit}, execOp ρ o = (do m; Pure.pure Next.skip) → (SuW P m (k undef)) w → Outc P k ((execOp ρ o).run P w) :=
    fun {m} he ⟨w', hm, hk⟩ => by rw [he, run_u hm]; exact hk
  obtain ⟨dst, op, type, pos, after, guard⟩ := o
  unfold actW at h
  cases op <;> (try dsimp only at h) <;> try exact h
  case alloc t =>
    cases hz : zeroP P t with
    | none => simp only [hz] at h; exact (h : False).elim
    | some z => simp only [hz] at h; exact sv (m := Instr.alloc t true (.tuple #[])) rfl (run_alloc hz w) h
  case buildSlice t n ps => exact svo rfl h
  case store t x v =>
    cases hx : ρ x <;> simp only [hx] at h <;> try exact (h : False).elim
    rename_i p
    cases p with
    | none => exact (h : False).elim
    | some a =>
      obtain ⟨w', hm, hk⟩ := stoW_sound (h : stoW P t a (ρ v) (k undef) w)
      exact su (m := Instr.storeAt t (ρ x) (ρ v)) rfl ⟨w', by rw [hx]; unfold Instr.storeAt; simpa [Instr.sureAddr] using hm, hk⟩
  case makeMap t r =>
    cases r with
    | none => exact sv (m := Instr.makeMap t none) (w' := w.alloc (.map #[] 0)) rfl rfl h
    | some r => obtain ⟨v, w', hm, p, rfl, hk⟩ := h; exact sv (m := Instr.makeMap t (some (ρ r))) rfl hm hk
  case makeSlice t l c => exact svo rfl h
  case mapUpdate t m x v => exact su rfl h
  case insert t m x v => exact su rfl h
  case mapEntry t m x => exact svo rfl h
  case entryStore t m s x => exact su rfl h
  case range t x => obtain ⟨v, w', hm, p, rfl, hk⟩ := h; exact sv rfl hm hk
  case next it s =>
    obtain ⟨v, w', hm, hk⟩ := h
    rcases hk with ⟨rfl, hk⟩ | hk
    · exact sv rfl hm hk
    · cases s with
      | true => obtain ⟨n, c, rfl, hk⟩ := hk; exact sv rfl hm hk
      | false => obtain ⟨x, y, rfl, hk⟩ := hk; exact sv rfl hm hk
  case entry it =>
    obtain ⟨v, w', hm, hk⟩ := h
    obtain ⟨x, hk⟩ := hinted_sound hk
    obtain ⟨y, he2, hk2⟩ := hinted_sound hk
    subst he2
    exact sv rfl hm hk2
  case convert s d x => exact svo rfl h
  case call c =>
    obtain ⟨callee, args, argTypes⟩ := c
    cases callee <;> (try dsimp only at h)
    · rename_i f
      cases hf : ρ f <;> simp only [hf] at h <;> try exact outc_opn h
      rename_i fn fs cs
      cases fn <;> (try dsimp only at h) <;> try exact outc_opn h
      rename_i nf
      refine outc_opn (t := type) ?_
      have : execOp ρ { dst := dst, op := Op.call { callee := .value f, args := args, argTypes := argTypes }, type := type, pos := pos, after := after, guard := guard } =
          callFunc nf (fs ++ args.map ρ ++ cs) := by
        simp only [execOp, resolve, hf, Deferred.ofValue]
        simp only [bind, Sem.bind, pure, invoke]
      rw [this]
      exact h
    · rename_i r name
      refine outc_opn (t := type) ?_
      have : execOp ρ { dst := dst, op := Op.call { callee := .invoke r name, args := args, argTypes := argTypes }, type := type, pos := pos, after := after, guard := guard } =
          callMethod (ρ r) name (args.map ρ) := by
        simp only [execOp, resolve]
        simp only [bind, Sem.bind, pure, invoke]
        have h0 : (#[ρ r] ++ Array.map ρ args)[0]? = some (ρ r) := by simp [Array.getElem?_append]
        have h1 : (#[ρ r] ++ Array.map ρ args).extract 1 (#[ρ r] ++ Array.map ρ args).size = Array.map ρ args := by
          apply Array.ext
          · simp
          · intro i h1 h2; simp
        rw [h0]
        exact congrArg (callMethod (ρ r) name) h1
      rw [this]
      exact h
    · rename_i b
      have he : execOp ρ { dst := dst, op := Op.call { callee := .builtin b, args := args, argTypes := argTypes }, type := type, pos := pos, after := after, guard := guard } =
          builtin b argTypes type (args.map fun | .const _ => true | _ => false) (args.map ρ) := by
        simp only [execOp, resolve, invoke]; rfl
      cases b <;> first
        | exact outc_opn h
        | (obtain ⟨v, w', hm, hk⟩ := h; exact sv (m := Builtin.clear_ argTypes type (args.map ρ)) he hm hk)
        | (obtain ⟨v, w', hm, hk⟩ := h; exact sv (m := Builtin.delete_ argTypes type (args.map ρ)) he hm hk)
        | (obtain ⟨v, w', hm, n, rfl, hk⟩ := h; exact sv (m := Builtin.copy_ argTypes type (args.map ρ)) he hm hk)
        | exact svo (m := Builtin.append_ argTypes type (args.map ρ)) he h
        | exact svo (m := Builtin.unsafeString_ argTypes type (args.map ρ)) he h
        | exact svo (m := Builtin.unsafeSliceData_ argTypes type (args.map ρ)) he h

/-- what is asked of an operation, to what the base asks -/
theorem outc_wp {Q : Exit → Act → World → Prop} {o : Oper} {a : Act} {k : Value → W} {K : Act → World → Prop} {w : World}
    (h : Outc P k ((execOp a.eval o).run P w)) (hk : ∀ v w', k v w' → K (a.put o.dst v) w') : o.wp P a w K (Qn Q) := by
  unfold Oper.wp
  generalize (execOp a.eval o).run P w = r at *
  cases r with
  | halt x w => exact (h : False).elim
  | ok n w =>
    cases n <;> first | exact (h : False).elim | exact hk _ _ h | skip
    · exact Calls.mono (h : ClW P _ _ _ w) fun e w' ⟨v, he, hv⟩ => by subst he; exact hk _ _ hv
    · exact Rows.mono (h : Rows P _ _ w _) fun v w' hv => hk _ _ hv

/-- an operation, whichever -/
def opA (P : Program) (hint : Nat → Option TypeId) (o : Oper) (ρ : Operand → Value) (k : Value → W) : W :=
  if looksOnly P o = true then lookW P (fun _ => True) false o ρ k else actW P hint o ρ k

/-- the types of the parts of what an operation yields, by those who take them -/
def hintOf (ops : Array Oper) (o : Oper) : Nat → Option TypeId := fun i => match o.dst with
  | none => none
  | some d => ops.toList.findSome? fun x => match x.op with
    | .extract (.tmp t) j => if (t == d && j == i) = true then some x.type else none
    | _ => none

theorem opA_sound {hint : Nat → Option TypeId} {o : Oper} {ρ : Operand → Value} {k : Value → W} {w : World} (h : opA P hint o ρ k w) : Outc P k ((execOp ρ o).run P w) := by
  unfold opA at h
  split at h
  · obtain ⟨v, hd, _, hf, hk⟩ := lookW_sound h
    rw [hf.run trivial]; exact hk
  · exact actW_sound h

def isSrc (ops : Array Oper) (i : Nat) : Bool := ops.any fun o => match o.guard with | some (j, _) => j == i | none => false

def splitB (b : Bool) (v : Value) (k : Value → W) : W :=
  if b = true then (match v with | .bool x => BcW x (k (.bool true)) (k (.bool false)) | v => k v) else k v

theorem splitB_sound {b : Bool} {v : Value} {k : Value → W} {w : World} (h : splitB b v k w) : k v w := by
  unfold splitB at h
  split at h
  · cases v <;> first | exact h | skip
    rename_i x
    cases x <;> exact h
  · exact h

/- what is known of a frame: temporaries and their values, the latest first -/
abbrev Env := List (Nat × Value)

def lookE : Env → Nat → Value
  | [], _ => undef
  | (j, v) :: r, i => match Nat.beq j i with | true => v | false => lookE r i
def hasE : Env → Nat → Bool
  | [], _ => false
  | (j, _) :: r, i => match Nat.beq j i with | true => true | false => hasE r i

def ρE (e : Env) : Operand → Value
  | .tmp t => lookE e t
  | .const v => v
  | .global g => .pointer (some ⟨g, 0, none⟩)
  | .func f => .func (.func f) #[] #[]

def Wf (N : Nat) (a : Act) : Prop := a.tmps.size = N ∧ a.defers = []

def Rep (N : Nat) (e : Env) (a : Act) : Prop := Wf N a ∧ ∀ t, hasE e t = true → a.tmps.getD t undef = lookE e t

theorem beq_true {j i : Nat} (h : Nat.beq j i = true) : j = i := Nat.eq_of_beq_eq_true h
theorem beq_false {j i : Nat} (h : Nat.beq j i = false) : j ≠ i := Nat.ne_of_beq_eq_false h

theorem Rep.put {N : Nat} {e : Env} {a : Act} (h : Rep N e a) {d : Nat} (hd : d < N) (v : Value) : Rep N ((d, v) :: e) (a.put (some d) v) := by
  refine ⟨⟨by simp [Act.put, h.1.1], h.1.2⟩, fun t ht => ?_⟩
  unfold hasE at ht
  unfold lookE
  have hs : d < a.tmps.size := by rw [h.1.1]; exact hd
  cases hb : Nat.beq d t with
  | true => have := beq_true hb; subst this; simp [Act.put, hs]
  | false =>
    rw [hb] at ht
    have hne := beq_false hb
    have := h.2 t ht
    simp only [Act.put, Array.getD_eq_getD_getElem?, Array.getElem?_setIfInBounds_ne hne] at this ⊢
    exact this

theorem Rep.eval {N : Nat} {e : Env} {a : Act} (h : Rep N e a) {x : Operand} (hx : ∀ t, x = .tmp t → hasE e t = true) : a.eval x = ρE e x := by
  cases x with
  | tmp t => exact h.2 t (hx t rfl)
  | _ => rfl

def okOp (ops : Array Oper) (e : Env) (o : Oper) : Bool := (match o.op with | .select .. => false | _ => true) && (o.looksAt ops).all (hasE e)

theorem okOp_exec {ops : Array Oper} {N : Nat} {e : Env} {a : Act} {o : Oper} (h : Rep N e a) (hk : okOp ops e o = true) : execOp a.eval o = execOp (ρE e) o := by
  simp only [okOp, Bool.and_eq_true, List.all_eq_true] at hk
  refine execOp_congr o (fun cs b he => by rw [he] at hk; cases hk.1) fun x hx => h.eval fun t ht => hk.2 t ?_
  subst ht
  exact List.mem_append_left _ (List.mem_filterMap.2 ⟨.tmp t, by simpa using hx, rfl⟩)

def wantedE (ops : Array Oper) (e : Env) (o : Oper) : Bool := match o.guard with
  | none => true
  | some (j, want) => match (ops[j]?).bind (·.dst) with
    | some t => (match lookE e t with | .bool b => b == want | _ => false)
    | none => false

theorem wantedE_eq {ops : Array Oper} {N : Nat} {e : Env} {a : Act} {o : Oper} (h : Rep N e a) (hk : okOp ops e o = true) (hN : ∀ t, hasE e t = true → t < N) :
    Region.wanted o (yielded ops a.tmps) = wantedE ops e o := by
  simp only [okOp, Bool.and_eq_true, List.all_eq_true] at hk
  unfold Region.wanted wantedE
  cases hg : o.guard with
  | none => rfl
  | some gw =>
    obtain ⟨j, want⟩ := gw
    simp only
    unfold yielded
    cases ht : (ops[j]?).bind (·.dst) with
    | none => rfl
    | some t =>
      have hin : hasE e t = true := hk.2 t (by unfold Oper.looksAt; rw [hg]; simp [ht])
      have hlt : t < a.tmps.size := by rw [h.1.1]; exact hN t hin
      have hv := h.2 t hin
      simp only [Option.bind_some]
      have : a.tmps[t]? = some (lookE e t) := by rw [← hv]; simp [hlt]
      rw [this]
      cases lookE e t <;> first | rfl | simp

/-- an environment whose temporaries the frame has -/
def Bd (N : Nat) (e : Env) : Prop := ∀ t, hasE e t = true → t < N

theorem Bd.put {N : Nat} {e : Env} (h : Bd N e) {d : Nat} (hd : d < N) (v : Value) : Bd N ((d, v) :: e) := by
  intro t ht
  unfold hasE at ht
  cases hb : Nat.beq d t with
  | true => exact beq_true hb ▸ hd
  | false => rw [hb] at ht; exact h t ht

def putE (N : Nat) (e : Env) (dst : Option Tmp) (v : Value) (k : Env → W) : W := match dst with
  | none => k e
  | some d => match Nat.ble (d + 1) N with | true => k ((d, v) :: e) | false => FlW

theorem putE_sound {N : Nat} {e : Env} {a : Act} {dst : Option Tmp} {v : Value} {k : Env → W} {w : World} (h : Rep N e a) (hb : Bd N e) (hk : putE N e dst v k w) :
    ∃ e', Rep N e' (a.put dst v) ∧ Bd N e' ∧ k e' w := by
  unfold putE at hk
  cases dst with
  | none => exact ⟨e, h, hb, hk⟩
  | some d =>
    simp only at hk
    cases hd : Nat.ble (d + 1) N with
    | false => rw [hd] at hk; exact (hk : False).elim
    | true =>
      rw [hd] at hk
      have hlt : d < N := Nat.le_of_ble_eq_true hd
      exact ⟨_, h.put hlt v, hb.put hlt v, hk⟩

def opsW (P : Program) (N : Nat) (ops : Array Oper) : List Oper → Nat → (Env → W) → Env → W
  | [], _, k, e => k e
  | o :: r, i, k, e =>
    if okOp ops e o = true then
      if wantedE ops e o = true then opA P (hintOf ops o) o (ρE e) fun v => splitB (isSrc ops i) v fun v => putE N e o.dst v fun e => opsW P N ops r (i + 1) k e
      else putE N e o.dst undef fun e => opsW P N ops r (i + 1) k e
    else FlW

/-- the post of a body: what is known of the frame there -/
def Qe (N : Nat) (Q : Exit → Env → W) : Exit → Act → World → Prop := fun ex a w => ∃ e, Rep N e a ∧ Bd N e ∧ Q ex e w

theorem opsW_sound {ops : Array Oper} {N : Nat} {Q : Exit → Env → W} : ∀ (l : List Oper) (i : Nat) (e : Env) (a : Act) (w : World), Rep N e a → Bd N e →
    opsW P N ops l i (fun e => Q .normal e) e w → wpList P ops (Qn (Qe N Q)) l a w := by
  intro l
  induction l with
  | nil => intro i e a w hr hb h; exact ⟨e, hr, hb, h⟩
  | cons o r ih =>
    intro i e a w hr hb h
    unfold opsW at h
    unfold wpList
    split at h
    · rename_i hok
      rw [wantedE_eq hr hok hb]
      split at h
      · rename_i hwan
        rw [if_pos hwan]
        refine .inl ?_
        have ho := opA_sound h
        rw [← okOp_exec hr hok] at ho
        have := outc_wp (Q := Qe N Q) ho (K := wpList P ops (Qn (Qe N Q)) r) fun v w' hv => by
          obtain ⟨e', h1, h2, h3⟩ := putE_sound hr hb (splitB_sound hv)
          exact ih _ _ _ _ h1 h2 h3
        exact this
      · rename_i hwan
        rw [if_neg hwan]
        obtain ⟨e', h1, h2, h3⟩ := putE_sound hr hb h
        exact ih _ _ _ _ h1 h2 h3
    · exact (h : False).elim

def andAll : List W → W
  | [] => FlW
  | [p] => p
  | p :: ps => AndW p (andAll ps)

theorem andAll_all : ∀ {l : List W} {w : World}, andAll l w → ∀ p ∈ l, p w := by
  intro l
  induction l with
  | nil => intro w h; exact (h : False).elim
  | cons p ps ih =>
    intro w h q hq
    cases ps with
    | nil => cases hq with | head => exact h | tail _ hq => cases hq
    | cons r rs =>
      obtain ⟨h1, h2⟩ := (h : AndW p (andAll (r :: rs)) w)
      cases hq with
      | head => exact h1
      | tail _ hq => exact ih h2 q hq

def SkW (S : World → Prop) (k : (World → Prop) → W) : W := fun w => ∃ S' : World → Prop, (∀ x, S' x → S x) ∧ S' w ∧ k S' w

/- lists are brought to their form once -/
def forceL {α : Type} : List α → (List α → W) → W
  | [], k => k []
  | x :: r, k => forceL r fun r' => k (x :: r')

theorem forceL_eq {α : Type} : ∀ (l : List α) (k : List α → W), forceL l k = k l := by
  intro l
  induction l with
  | nil => intro k; rfl
  | cons x r ih => intro k; unfold forceL; rw [ih]

/-- a region that draws, in its canonical order -/
def canW (P : Program) (N : Nat) (ops : Array Oper) (chk : Bool) (k : Env → W) : Nat → (World → Prop) → List Bool → Env → W
  | 0, _, listed, e => match Region.ready .any ops ⟨listed⟩ with | [] => k e | _ :: _ => FlW
  | n + 1, S, listed, e =>
    forceL (Region.ready .any ops ⟨listed⟩) fun rs =>
    match rs.find? (fun i => match ops[i]? with | some o => looksOnly P o | none => false) with
    | some j => match ops[j]? with
      | some o =>
        if okOp ops e o = true then
          forceL (listed.set j true) fun listed =>
          if wantedE ops e o = true then
            lookW P S (!calm P ops j) o (ρE e) fun v => splitB (isSrc ops j) v fun v => putE N e o.dst v fun e => canW P N ops chk k n S listed e
          else putE N e o.dst undef fun e => canW P N ops chk k n S listed e
        else FlW
      | none => FlW
    | none => match rs with
      | [] => k e
      | rs => andAll (rs.map fun j => match ops[j]? with
        | some o =>
          if okOp ops e o = true then
            forceL (listed.set j true) fun listed =>
            if wantedE ops e o = true then
              actW P (hintOf ops o) o (ρE e) fun v => if chk = true then SkW S (fun S => splitB (isSrc ops j) v fun v => putE N e o.dst v fun e => canW P N ops chk k n S listed e)
                else splitB (isSrc ops j) v fun v => putE N e o.dst v fun e => canW P N ops chk k n S listed e
            else putE N e o.dst undef fun e => canW P N ops chk k n S listed e
          else FlW
        | none => FlW)

theorem set_arr (l : List Bool) (j : Nat) : (⟨l⟩ : Array Bool).setIfInBounds j true = ⟨l.set j true⟩ := by
  simp

theorem canW_sound {ops : Array Oper} {N : Nat} {chk : Bool} {Q : Exit → Env → W} :
    ∀ n (S : World → Prop) listed e a w, (chk = false → ∀ w, S w) → Rep N e a → Bd N e → S w → canW P N ops chk (fun e => Q .normal e) n S listed e w → Can P ops (Qe N Q) S n ⟨listed⟩ a w := by
  intro n
  induction n with
  | zero =>
    intro S listed e a w hS hr hb _ h
    unfold canW at h
    cases hrd : Region.ready .any ops ⟨listed⟩ with
    | nil => rw [hrd] at h; exact ⟨hrd, e, hr, hb, h⟩
    | cons _ _ => rw [hrd] at h; exact (h : False).elim
  | succ n ih =>
    intro S listed e a w hS hr hb hSw h
    unfold canW at h
    rw [forceL_eq] at h
    cases hfind : (Region.ready .any ops ⟨listed⟩).find? (fun i => match ops[i]? with | some o => looksOnly P o | none => false) with
    | some j =>
      simp only [hfind] at h
      have hj := List.mem_of_find?_eq_some hfind
      have hl := List.find?_some hfind
      cases hoj : ops[j]? with
      | none => simp only [hoj] at h; exact (h : False).elim
      | some o =>
        simp only [hoj] at h hl
        refine .inl ?_
        split at h
        · rename_i hok
          rw [forceL_eq] at h
          split at h
          · rename_i hwan
            obtain ⟨v, hd, hcalm, hf, hk⟩ := lookW_sound h
            obtain ⟨e', h1, h2, h3⟩ := putE_sound hr hb (splitB_sound hk)
            rw [← okOp_exec hr hok] at hf
            refine ⟨j, o, v, hd, hj, hoj, hl, fun e => by simpa using hcalm e, .inl ⟨(wantedE_eq hr hok hb).trans hwan, hf⟩, ?_⟩
            rw [set_arr]
            exact ih _ _ _ _ _ hS h1 h2 hSw h3
          · rename_i hwan
            obtain ⟨e', h1, h2, h3⟩ := putE_sound hr hb h
            refine ⟨j, o, undef, .pure, hj, hoj, hl, by simp, .inr ⟨(wantedE_eq hr hok hb).trans (by simpa using hwan), rfl⟩, ?_⟩
            rw [set_arr]
            exact ih _ _ _ _ _ hS h1 h2 hSw h3
        · exact (h : False).elim
    | none =>
      simp only [hfind] at h
      refine .inr ?_
      have hno : ∀ j ∈ Region.ready .any ops ⟨listed⟩, ∀ o, ops[j]? = some o → looksOnly P o = false := fun j hj o ho => by
        have := List.find?_eq_none.1 hfind j hj
        simp only [ho] at this
        simpa using this
      cases hrd : Region.ready .any ops ⟨listed⟩ with
      | nil => simp only [hrd] at h; exact ⟨fun _ => ⟨e, hr, hb, h⟩, by simp, by simp⟩
      | cons r0 rs0 =>
        simp only [hrd] at h
        refine ⟨by simp, fun j hj => hno j (hrd ▸ hj), fun j hj => ?_⟩
        have hall := andAll_all h _ (List.mem_map_of_mem hj)
        cases hoj : ops[j]? with
        | none => simp only [hoj] at hall; exact (hall : False).elim
        | some o =>
          simp only [hoj] at hall
          unfold wpOp
          simp only [hoj]
          split at hall
          · rename_i hok
            rw [forceL_eq] at hall
            rw [wantedE_eq hr hok hb, set_arr]
            split at hall
            · rename_i hwan
              rw [if_pos hwan]
              refine .inl ?_
              have ho := actW_sound hall
              rw [← okOp_exec hr hok] at ho
              exact outc_wp (Q := Qe N Q) ho (K := fun a' w' => ∃ S' : World → Prop, (∀ x, S' x → S x) ∧ S' w' ∧ Can P ops (Qe N Q) S' n ⟨listed.set j true⟩ a' w') fun v w' hv => by
                cases chk with
                | true =>
                  obtain ⟨S', hi', h0, h⟩ := (hv : SkW S _ w')
                  obtain ⟨e', h1, h2, h3⟩ := putE_sound hr hb (splitB_sound h)
                  exact ⟨S', hi', h0, ih _ _ _ _ _ (by simp) h1 h2 h0 h3⟩
                | false =>
                  simp only [Bool.false_eq_true, if_false] at hv
                  obtain ⟨e', h1, h2, h3⟩ := putE_sound hr hb (splitB_sound hv)
                  exact ⟨S, fun _ h => h, hS rfl w', ih _ _ _ _ _ hS h1 h2 (hS rfl w') h3⟩
            · rename_i hwan
              rw [if_neg hwan]
              obtain ⟨e', h1, h2, h3⟩ := putE_sound hr hb hall
              exact ⟨S, fun _ h => h, hSw, ih _ _ _ _ _ hS h1 h2 hSw h3⟩
          · exact (hall : False).elim
end
end Go.Proofs.Ytpliocedgiejiaa
