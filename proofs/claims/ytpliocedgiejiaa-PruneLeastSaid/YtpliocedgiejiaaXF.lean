/-
  A function's code as a tree of steps: blocks, branches, loops, joins, whole functions.
-/
import Derived.Test.YtpliocedgiejiaaXE
import Derived.Scope
namespace Go.Proofs.Ytpliocedgiejiaa
open Go

section
variable {P : Program}

/- loops -/
def wpIn (P : Program) (c : Code) (Q : Exit → Act → World → Prop) (a : Act) (w : World) : Prop :=
  ∀ (b : Frame) (k : List Item) (cs : List Frame),
    ∃ e a' w', Q e a' w' ∧ Arrives P (lone (b.at a (.code c :: .inLoop c :: k)) cs w) b k cs e a' w'

theorem wp_of_in {c : Code} {Q : Exit → Act → World → Prop} {a : Act} {w : World} (h : wpIn P c Q a w) : (Code.loop c).wp P Q a w :=
  fun b k cs => let ⟨e, a', w', q, r⟩ := h b k cs; ⟨e, a', w', q, .of_steps (.one step_loop) r⟩

theorem wpIn_unroll {c : Code} {Q : Exit → Act → World → Prop} {a : Act} {w : World} (h : c.wp P (Exit.then (wpIn P c Q) Q) a w) : wpIn P c Q a w := by
  intro b k cs
  obtain ⟨e, a₁, w₁, hq, harr⟩ := h b (.inLoop c :: k) cs
  cases e with
  | normal =>
    obtain ⟨e₂, a₂, w₂, hq₂, harr₂⟩ := hq b k cs
    exact ⟨e₂, a₂, w₂, hq₂, .of_steps (Steps.trans harr (.one step_inLoop)) harr₂⟩
  | exit id => exact ⟨_, a₁, w₁, hq, .pass (x := .inLoop c) rfl (fun _ _ => .inl (by simp)) harr⟩
  | goto l => exact ⟨_, a₁, w₁, hq, .pass (x := .inLoop c) rfl (fun _ _ => .inl (by simp)) harr⟩
  | ret => exact ⟨_, a₁, w₁, hq, .pass (x := .inLoop c) rfl (fun _ _ => .inl (by simp)) harr⟩
  | panic ch => exact ⟨_, a₁, w₁, hq, .pass (x := .inLoop c) rfl (fun _ _ => .inl (by simp)) harr⟩
  | outgrown => exact ⟨_, a₁, w₁, hq, .pass (x := .inLoop c) rfl (fun _ _ => .inl (by simp)) harr⟩

theorem wpIn_mono {c : Code} {Q Q' : Exit → Act → World → Prop} {a : Act} {w : World} (hq : ∀ e a w, Q e a w → Q' e a w) (h : wpIn P c Q a w) : wpIn P c Q' a w :=
  fun b k cs => let ⟨e, a', w', q, r⟩ := h b k cs; ⟨e, a', w', hq _ _ _ q, r⟩

/- what is kept of a frame -/
def sh1 : Value → Sh
  | .int k _ => .i k | .bool _ => .b | .string _ => .s | .pointer _ => .p | .slice .. => .l | .map _ => .m
  | .func (.func _) ⟨[]⟩ _ => .f | .iface _ _ => .o | .nilIface => .o | _ => .x

def noX : Sh → Bool | .x => false | _ => true

/-- an entry: which temporary, whether it is an aggregate, its shapes -/
abbrev Ent := Nat × Bool × List Sh

def entOf (v : Value) : Option (Bool × List Sh) := match v with
  | .agg cs => some (true, cs.toList.map sh1)
  | .tuple _ => none
  | v => some (false, [sh1 v])

def genEnt (e : Ent) (k : Value → W) : W := match e with
  | (_, true, l) => genC l fun vs => k (.agg vs.toArray)
  | (_, false, l) => genC l fun vs => match vs with | [v] => k v | _ => FlW

theorem genEnt_sound {e : Ent} {k : Value → W} {w : World} (h : genEnt e k w) : ∃ v, k v w := by
  obtain ⟨i, g, l⟩ := e
  cases g <;> simp only [genEnt] at h
  · obtain ⟨vs, h⟩ := genC_sound _ _ _ h
    match vs, h with
    | [v], h => exact ⟨v, h⟩
    | [], h => exact (h : False).elim
    | _ :: _ :: _, h => exact (h : False).elim
  · obtain ⟨vs, h⟩ := genC_sound _ _ _ h; exact ⟨_, h⟩


/-- what is written, with the types -/
def wrT : Code → List (Nat × TypeId)
  | .region _ ops _ => ops.toList.filterMap fun o => o.dst.map fun d => (d, o.type)
  | .seq x y => wrT x ++ wrT y
  | .cond _ x y => wrT x ++ wrT y
  | .block _ b => wrT b
  | .loop b => wrT b
  | .scope b => wrT b
  | _ => []

def entTy (P : Program) (t : Nat) (ty : TypeId) : List Ent := match aggP P ty with
  | some true => [(t, true, shapes P 20 ty)]
  | some false => match shapes P 20 ty with
    | [q] => if noX q = true then [(t, false, [q])] else []
    | _ => []
  | none => []

def tyAt : List (Nat × TypeId) → Nat → Option TypeId
  | [], _ => none
  | (j, t) :: r, i => match Nat.beq j i with | true => some t | false => tyAt r i

def entIface (P : Program) (tb : List (Nat × TypeId)) (i : Nat) : Option (List Ent) := match tyAt tb i with
  | some t => if hasI P t = true then some (entTy P i t) else none
  | none => none

def entsE (P : Program) (tb : List (Nat × TypeId)) : Env → List Ent
  | [] => []
  | (i, v) :: r => match entIface P tb i with
    | some es => es ++ entsE P tb r
    | none => match entOf v with
      | some (g, l) => if l.all noX = true then (i, g, l) :: entsE P tb r else entsE P tb r
      | none => entsE P tb r

def genEnvK : List Ent → (List Value → Env → W) → W
  | [], k => k [] []
  | e :: es, k => genEnt e fun v => genEnvK es fun vs en => k (v :: vs) ((e.1, v) :: en)

def zipE : List Ent → List Value → Env
  | e :: es, v :: vs => (e.1, v) :: zipE es vs
  | _, _ => []

theorem genEnvK_sound : ∀ (es : List Ent) (k : List Value → Env → W) (w : World), genEnvK es k w → ∃ vs, k vs (zipE es vs) w := by
  intro es
  induction es with
  | nil => intro k w h; exact ⟨[], h⟩
  | cons e es ih =>
    intro k w h
    obtain ⟨v, h⟩ := genEnt_sound h
    obtain ⟨vs, h⟩ := ih _ _ h
    exact ⟨v :: vs, h⟩

def keepE (s : List Ent) (e : Env) : List Value := s.map fun x => lookE e x.1
def keepA (s : List Ent) (a : Act) : List Value := s.map fun x => a.tmps.getD x.1 undef

def haveAll (s : List Ent) (e : Env) : Bool := s.all fun x => hasE e x.1

theorem keep_eq {N : Nat} {e : Env} {a : Act} (h : Rep N e a) : ∀ {s : List Ent}, haveAll s e = true → keepA s a = keepE s e := by
  intro s hs
  simp only [haveAll, List.all_eq_true] at hs
  exact List.map_congr_left fun x hx => h.2 _ (hs x hx)

theorem zip_has : ∀ (s : List Ent) (l : List Value) (t : Nat), hasE (zipE s l) t = true → ∃ x ∈ s, x.1 = t := by
  intro s
  induction s with
  | nil => intro l t h; cases l <;> cases h
  | cons e es ih =>
    intro l t h
    cases l with
    | nil => cases h
    | cons v vs =>
      unfold zipE hasE at h
      cases hb : Nat.beq e.1 t with
      | true => exact ⟨e, List.mem_cons_self, beq_true hb⟩
      | false =>
        rw [hb] at h
        obtain ⟨x, hx, he⟩ := ih vs t h
        exact ⟨x, List.mem_cons_of_mem _ hx, he⟩

theorem rep_zip {N : Nat} {a : Act} (hw : Wf N a) : ∀ (s : List Ent), Rep N (zipE s (keepA s a)) a := by
  intro s
  refine ⟨hw, ?_⟩
  induction s with
  | nil => intro t h; cases h
  | cons e es ih =>
    intro t h
    show a.tmps.getD t undef = lookE ((e.1, a.tmps.getD e.1 undef) :: zipE es (keepA es a)) t
    have h' : hasE ((e.1, a.tmps.getD e.1 undef) :: zipE es (keepA es a)) t = true := h
    unfold hasE at h'
    unfold lookE
    cases hb : Nat.beq e.1 t with
    | true => rw [beq_true hb]
    | false => rw [hb] at h'; exact ih t h'

def inN (N : Nat) (s : List Ent) : Bool := s.all fun x => Nat.ble (x.1 + 1) N

theorem bd_zip {N : Nat} {s : List Ent} (h : inN N s = true) (l : List Value) : Bd N (zipE s l) := by
  intro t ht
  obtain ⟨x, hx, rfl⟩ := zip_has s l t ht
  simp only [inN, List.all_eq_true] at h
  exact Nat.le_of_ble_eq_true (h x hx)

/-- go on from what was kept -/
def onK (s : List Ent) (k : Env → W) (l : List Value) : W := genEnvK s fun vs e => EqL l vs (k e)

theorem onK_sound {N : Nat} {s : List Ent} {k : Env → W} {a : Act} {w : World} (hw : Wf N a) (hs : inN N s = true) (h : onK s k (keepA s a) w) :
    ∃ e, Rep N e a ∧ Bd N e ∧ k e w := by
  obtain ⟨vs, hv, h⟩ := genEnvK_sound _ _ _ h
  subst hv
  exact ⟨_, rep_zip hw s, bd_zip hs _, h⟩

def kAt : List (Nat × (List Value → W)) → Nat → List Value → W
  | [], _ => fun _ => FlW
  | (j, k) :: r, i => if j = i then k else kAt r i

def lpK (Kr : List Value → W) (Ks : List (Nat × (List Value → W))) : Exit → List Value → W
  | .ret => Kr
  | .exit i => kAt Ks i
  | _ => fun _ => FlW

def LpW (P : Program) (N : Nat) (b : Code) (s : List Ent) (Kr : List Value → W) (Ks : List (Nat × (List Value → W))) (l : List Value) : W :=
  fun w => ∀ a, Wf N a → keepA s a = l → wpIn P b (fun e a w => Wf N a ∧ Qn (fun e a w => lpK Kr Ks e (keepA s a) w) e a w) a w

def thenW (k : Env → W) (Q : Exit → Env → W) : Exit → Env → W
  | .normal, a => k a
  | e, a => Q e a

def blockW (id : Nat) (Q : Exit → Env → W) : Exit → Env → W
  | .exit i, a => match Nat.beq i id with | true => Q .normal a | false => Q (.exit i) a
  | e, a => Q e a

def noGotoW (Q : Exit → Env → W) : Exit → Env → W
  | .goto _, _ => FlW
  | e, a => Q e a

def multi (P : Program) (ops : Array Oper) : Bool :=
  (List.range ops.size).any fun i => match ops[i]? with
    | some oi => !looksOnly P oi && ((List.range i).any fun j => match ops[j]? with
      | some oj => !looksOnly P oj && !dep ops 8 i j
      | none => false)
    | none => false

def exitsN (id : Nat) : Code → Nat
  | .seq x y => exitsN id x + exitsN id y
  | .cond _ x y => exitsN id x + exitsN id y
  | .block _ b => exitsN id b
  | .loop b => if exitsN id b = 0 then 0 else 1
  | .exit i => if i = id then 1 else 0
  | .scope b => exitsN id b
  | _ => 0

/-- in how many ways the code may come to its end -/
def falls (P : Program) : Code → Nat
  | .region _ ops d => if d && multi P ops then 2 else 1
  | .seq x y => if falls P x = 0 then 0 else falls P y
  | .cond _ x y => falls P x + falls P y
  | .block id b => falls P b + exitsN id b
  | .loop _ => 0
  | .exit _ => 0
  | .ret => 0
  | .goto _ => 0
  | .scope b => falls P b
  | _ => 1

/-- by which exits a body may be left -/
def outs (bound : List Nat) : Code → List Nat
  | .seq x y => outs bound x ++ outs bound y
  | .cond _ x y => outs bound x ++ outs bound y
  | .block i b => outs (i :: bound) b
  | .loop b => outs bound b
  | .exit i => if bound.contains i = true then [] else [i]
  | .scope b => outs bound b
  | _ => []

def nubN : List Nat → List Nat
  | [] => []
  | i :: r => if r.contains i = true then nubN r else i :: nubN r

def hasRet : Code → Bool
  | .seq x y => hasRet x || hasRet y
  | .cond _ x y => hasRet x || hasRet y
  | .block _ b => hasRet b
  | .loop b => hasRet b
  | .ret => true
  | .scope b => hasRet b
  | _ => false

def flagged (P : Program) (ops : Array Oper) : Bool :=
  (List.range ops.size).any fun i => match ops[i]? with
    | some o => (match o.op with | .load .. => true | .lookup .. => true | .call _ => looksOnly P o | _ => false) && !calm P ops i
    | none => false

def dsts (ops : Array Oper) : List Nat := ops.toList.filterMap (·.dst)

/- which temporaries may be read ahead of being written -/
def opReads (ops : Array Oper) (o : Oper) : List Nat := o.looksAt ops

def rbwOps (ops : Array Oper) : List Oper → List Nat → List Nat
  | [], _ => []
  | o :: r, wr => ((opReads ops o).filter fun t => !wr.contains t) ++ rbwOps ops r (o.dst.toList ++ wr)

def readOf : Operand → List Nat
  | .tmp t => [t]
  | _ => []

def both : Option (List Nat) → Option (List Nat) → Option (List Nat)
  | none, b => b
  | a, none => a
  | some a, some b => some (a.filter fun t => b.contains t)

/-- what is read ahead of being written, and what is written for sure where the code comes to its end (none: it doesn't) -/
def rbw : Code → List Nat → List Nat × Option (List Nat)
  | .region _ ops _, wr => (rbwOps ops ops.toList wr, some (dsts ops ++ wr))
  | .seq x y, wr => match rbw x wr with
    | (r, none) => (r, none)
    | (r, some wr) => let (r', o) := rbw y wr; (r ++ r', o)
  | .cond c x y, wr => let (r, o) := rbw x wr; let (r', o') := rbw y wr; ((readOf c).filter (fun t => !wr.contains t) ++ (r ++ r'), both o o')
  | .block i b, wr => let (r, o) := rbw b wr; (r, if exitsN i b = 0 then o else some wr)
  | .loop b, wr => ((rbw b wr).1, none)
  | .exit _, _ => ([], none)
  | .ret, _ => ([], none)
  | .scope b, wr => rbw b wr
  | _, wr => ([], some wr)

def hasGuards (c : Code) : Bool := match c with | .region _ ops _ => ops.any fun o => o.guard.isSome | _ => false
def plainNext (c : Code) : Bool := match c with | .cond .. => true | .ret => true | .seq (.cond ..) _ => true | _ => false

def entsNew (P : Program) (live : List Nat) : List (Nat × TypeId) → List Nat → List Ent
  | [], _ => []
  | (t, ty) :: r, kn => if (live.contains t && !kn.contains t) = true then entTy P t ty ++ entsNew P live r (t :: kn) else entsNew P live r kn

def pruneK : Env → List Nat → (Env → W) → W
  | [], _, k => k []
  | (t, v) :: r, lv, k => if lv.contains t = true then forceL (lv.filter fun x => !Nat.beq x t) fun lv' => pruneK r lv' fun r' => k ((t, v) :: r') else pruneK r lv k

/-- the pruned one tells no more -/
def Sub (e e' : Env) : Prop := ∀ t, hasE e t = true → hasE e' t = true ∧ lookE e t = lookE e' t

theorem hasE_ne {t u : Nat} {v : Value} {r : Env} (h : Nat.beq t u = false) : hasE ((t, v) :: r) u = hasE r u := by rw [hasE, h]
theorem lookE_ne {t u : Nat} {v : Value} {r : Env} (h : Nat.beq t u = false) : lookE ((t, v) :: r) u = lookE r u := by rw [lookE, h]

theorem pruneK_sound : ∀ (e : Env) (lv : List Nat) (k : Env → W) (w : World), pruneK e lv k w → ∃ e', (∀ t, hasE e' t = true → lv.contains t = true) ∧ Sub e' e ∧ k e' w := by
  intro e
  induction e with
  | nil => intro lv k w h; exact ⟨[], (fun t h => by cases h), (fun t h => by cases h), h⟩
  | cons x r ih =>
    obtain ⟨t, v⟩ := x
    intro lv k w h
    unfold pruneK at h
    split at h
    · rename_i hc
      rw [forceL_eq] at h
      obtain ⟨e', h1, h2, h3⟩ := ih _ _ _ h
      refine ⟨(t, v) :: e', fun u hu => ?_, fun u hu => ?_, h3⟩
      · unfold hasE at hu
        cases hb : Nat.beq t u with
        | true => exact beq_true hb ▸ hc
        | false =>
          rw [hb] at hu
          have := h1 u hu
          simp only [List.contains_iff_mem, List.mem_filter] at this
          simpa using this.1
      · unfold hasE at hu ⊢
        unfold lookE
        cases hb : Nat.beq t u with
        | true => exact ⟨rfl, rfl⟩
        | false => rw [hb] at hu; exact h2 u hu
    · rename_i hc
      obtain ⟨e', h1, h2, h3⟩ := ih _ _ _ h
      refine ⟨e', h1, fun u hu => ?_, h3⟩
      have hne : Nat.beq t u = false := by
        cases hb : Nat.beq t u with
        | false => rfl
        | true => exact absurd (h1 u hu) (beq_true hb ▸ hc)
      rw [hasE_ne hne, lookE_ne hne]
      exact h2 u hu

theorem Rep.sub {N : Nat} {e e' : Env} {a : Act} (h : Rep N e a) (hs : Sub e' e) : Rep N e' a :=
  ⟨h.1, fun t ht => (h.2 t (hs t ht).1).trans (hs t ht).2.symm⟩
theorem Bd.sub {N : Nat} {e e' : Env} (h : Bd N e) (hs : Sub e' e) : Bd N e' := fun t ht => h t (hs t ht).1

def joinsB (P : Program) (x y : Code) : Bool := decide (2 ≤ falls P x) || (hasGuards x && !plainNext y)

def toJ (s : List Ent) (j : List Value → W) (e : Env) : W := if haveAll s e = true then j (keepE s e) else FlW

def codeW (P : Program) (N : Nat) (tb : List (Nat × TypeId)) : Code → List Nat → (Exit → Env → W) → Env → W
  | .skip, _, Q, e => Q .normal e
  | .region _ ops d, _, Q, e =>
    if d = true then
      if (tempsApart ops && Region.noSelect ops && P.follows .mixedOrders) = true then
        if flagged P ops = true then DrW (RgW fun S => canW P N ops true (fun e => Q .normal e) ops.size S (List.replicate ops.size false) e)
        else DrW (canW P N ops false (fun e => Q .normal e) ops.size (fun _ => True) (List.replicate ops.size false) e)
      else FlW
    else opsW P N ops ops.toList 0 (fun e => Q .normal e) e
  | .seq x y, lv, Q, e => forceL (nubN ((rbw y []).1 ++ lv)) fun lx =>
    if joinsB P x y = true then
      pruneK e lx fun e0 => forceL (entsE P tb e0 ++ entsNew P lx (wrT x) (e0.map (·.1))) fun s =>
      if inN N s = true then JnW (onK s fun e' => codeW P N tb y lv Q e') (fun j => codeW P N tb x lx (thenW (fun e' => toJ s j e') Q) e) else FlW
    else codeW P N tb x lx (thenW (fun e' => pruneK e' lx fun e' => codeW P N tb y lv Q e') Q) e
  | .cond c x y, lv, Q, e => if (readOf c).all (hasE e) = true then (match ρE e c with
      | .bool b => BcW b (codeW P N tb x lv Q e) (codeW P N tb y lv Q e)
      | _ => FlW) else FlW
  | .block id b, lv, Q, e => codeW P N tb b lv (blockW id Q) e
  | .loop b, lv, Q, e => forceL (nubN ((rbw b []).1 ++ lv)) fun lx => pruneK e lx fun e0 => forceL (entsE P tb e0) fun s =>
    if inN N s = true then
      toJ s (LpW P N b s (if hasRet b = true then onK s (fun e => Q .ret e) else fun _ => FlW) ((nubN (outs [] b)).map fun i => (i, onK s (fun e => Q (.exit i) e)))) e0
    else FlW
  | .exit id, _, Q, e => Q (.exit id) e
  | .scope b, lv, Q, e => codeW P N tb b lv (noGotoW Q) e
  | .ret, _, Q, e => Q .ret e
  | _, _, _, _ => FlW

theorem kAt_map {s : List Ent} {Q : Exit → Env → W} {i : Nat} {l : List Value} {w : World} : ∀ is : List Nat,
    kAt (is.map fun i => (i, onK s (fun e => Q (.exit i) e))) i l w → onK s (fun e => Q (.exit i) e) l w := by
  intro is
  induction is with
  | nil => intro h; exact (h : False).elim
  | cons j is ih =>
    intro h
    simp only [List.map_cons, kAt] at h
    split at h
    · rename_i hj; subst hj; exact h
    · exact ih h

abbrev Qc (N : Nat) (Q : Exit → Env → W) : Exit → Act → World → Prop := fun ex a w => Wf N a ∧ Qn (Qe N Q) ex a w

theorem Qn_wf {N : Nat} {Q : Exit → Env → W} : ∀ ex a w, Qn (Qe N Q) ex a w → Qc N Q ex a w := fun ex a w h => by
  cases ex <;> first | exact (h : False).elim | exact ⟨h.choose_spec.1.1, h⟩

theorem codeW_sound {N : Nat} {tb : List (Nat × TypeId)} : ∀ (c : Code) (lv : List Nat) (Q : Exit → Env → W) (e : Env) (a : Act) (w : World), Rep N e a → Bd N e → codeW P N tb c lv Q e w →
    c.wp P (Qc N Q) a w := by
  intro c
  induction c with
  | skip => intro lv Q e a w hr hb h; exact wp_skip ⟨hr.1, e, hr, hb, h⟩
  | region id ops d =>
    intro lv Q e a w hr hb h
    unfold codeW at h
    cases d with
    | false => exact wp_mono (wp_region_list (opsW_sound (Q := Q) _ _ _ _ _ hr hb h)) Qn_wf
    | true =>
      simp only [if_true] at h
      split at h
      · rename_i hc
        simp only [Bool.and_eq_true] at hc
        have ha : (Array.replicate ops.size false : Array Bool) = ⟨List.replicate ops.size false⟩ := by simp
        have fin : ∀ {S : World → Prop}, S w.drew → Can P ops (Qe N Q) S ops.size ⟨List.replicate ops.size false⟩ a w.drew →
            (Code.region id ops true).wp P (Qc N Q) a w := fun {S} hS hcan =>
          wp_mono (wp_region_can hc.2 hc.1.1 hc.1.2 hS (ha ▸ hcan)) Qn_wf
        split at h
        · obtain ⟨S, hS, h⟩ := h
          exact fin hS (canW_sound (Q := Q) _ _ _ _ _ _ (by simp) hr hb hS h)
        · exact fin (S := fun _ => True) trivial (canW_sound (Q := Q) _ _ _ _ _ _ (by simp) hr hb trivial h)
      · exact (h : False).elim
  | seq x y ihx ihy =>
    intro lv Q e a w hr hb h
    unfold codeW at h
    rw [forceL_eq] at h
    have key : ∀ {K : Env → W} {lx : List Nat}, (∀ e' a' w', Rep N e' a' → Bd N e' → K e' w' → ∃ e2, Rep N e2 a' ∧ Bd N e2 ∧ codeW P N tb y lv Q e2 w') →
        codeW P N tb x lx (thenW K Q) e w → (Code.seq x y).wp P (Qc N Q) a w := fun {K lx} hK hx =>
      wp_seq (wp_mono (ihx _ _ _ _ _ hr hb hx) fun ex a' w' hq => by
        cases ex <;> first
          | exact hq
          | exact (hq.2 : False).elim
          | (obtain ⟨_, e', h1, h2, h3⟩ := hq; obtain ⟨e2, h4, h5, h6⟩ := hK _ _ _ h1 h2 h3; exact ihy _ _ _ _ _ h4 h5 h6))
    split at h
    · obtain ⟨e0, _, _, h⟩ := pruneK_sound _ _ _ _ h
      rw [forceL_eq] at h
      split at h
      · rename_i hs
        refine key (fun e' a' w' h1 h2 h3 => ?_) h
        unfold toJ at h3
        split at h3
        · rename_i hall
          rw [← keep_eq h1 hall] at h3
          exact onK_sound h1.1 hs h3
        · exact (h3 : False).elim
      · exact (h : False).elim
    · refine key (fun e' a' w' h1 h2 h3 => ?_) h
      obtain ⟨e2, _, h5, h6⟩ := pruneK_sound _ _ _ _ h3
      exact ⟨e2, h1.sub h5, h2.sub h5, h6⟩
  | cond c x y ihx ihy =>
    intro lv Q e a w hr hb h
    unfold codeW at h
    split at h
    · rename_i hok
      have hev : a.eval c = ρE e c := hr.eval fun t ht => by
        subst ht
        simpa [readOf] using hok
      cases hc : ρE e c <;> simp only [hc] at h <;> try exact (h : False).elim
      rename_i b
      rw [hc] at hev
      cases b with
      | true => exact wp_cond_true hev (ihx _ _ _ _ _ hr hb h)
      | false => exact wp_cond_false hev (ihy _ _ _ _ _ hr hb h)
    · exact (h : False).elim
  | block id b ih =>
    intro lv Q e a w hr hb h
    unfold codeW at h
    refine wp_block (wp_mono (ih _ _ _ _ _ hr hb h) fun ex a' w' hq => ?_)
    cases ex <;> first
      | exact hq
      | skip
    rename_i i
    obtain ⟨h1, e', h2, h3, h4⟩ := hq
    simp only [Exit.inBlock]
    have h5 : (match Nat.beq i id with | true => Q .normal e' | false => Q (.exit i) e') w' := h4
    cases hb : Nat.beq i id with
    | true => rw [hb] at h5; rw [if_pos (beq_true hb)]; exact ⟨h1, e', h2, h3, h5⟩
    | false => rw [hb] at h5; rw [if_neg (beq_false hb)]; exact ⟨h1, e', h2, h3, h5⟩
  | loop b _ =>
    intro lv Q e a w hr hb h
    unfold codeW at h
    rw [forceL_eq] at h
    obtain ⟨e0, _, hsub, h⟩ := pruneK_sound _ _ _ _ h
    rw [forceL_eq] at h
    split at h
    · rename_i hs
      unfold toJ at h
      split at h
      · rename_i hall
        have hr0 := hr.sub hsub
        rw [← keep_eq hr0 hall] at h
        refine wp_of_in (wpIn_mono (fun ex a' w' hq => ?_) (h a hr.1 rfl))
        obtain ⟨h1, h2⟩ := hq
        refine ⟨h1, ?_⟩
        cases ex <;> try exact (h2 : False).elim
        · exact onK_sound h1 hs (kAt_map _ h2)
        · have h3 : (if hasRet b = true then onK (entsE P tb e0) (fun e => Q .ret e) else fun _ => FlW) (keepA (entsE P tb e0) a') w' := h2
          split at h3
          · exact onK_sound h1 hs h3
          · exact (h3 : False).elim
      · exact (h : False).elim
    · exact (h : False).elim
  | scope b ih =>
    intro lv Q e a w hr hb h
    unfold codeW at h
    refine wp_scope_straight (wp_mono (ih _ _ _ _ _ hr hb h) fun ex a' w' hq => ?_)
    cases ex <;> first
      | exact hq
      | (obtain ⟨_, _, _, _, h2⟩ := hq; exact (h2 : False).elim)
  | exit id => intro lv Q e a w hr hb h; exact wp_exit ⟨hr.1, e, hr, hb, h⟩
  | ret => intro lv Q e a w hr hb h; exact wp_ret ⟨hr.1, e, hr, hb, h⟩
  | _ => intro lv Q e a w hr hb h; exact (h : False).elim

theorem lp_unroll {N : Nat} {tb : List (Nat × TypeId)} {b : Code} {lv : List Nat} {s : List Ent} {Kr : List Value → W} {Ks : List (Nat × (List Value → W))} {l : List Value} {w : World} (hs : inN N s = true)
    (h : codeW P N tb b lv (thenW (fun e => toJ s (LpW P N b s Kr Ks) e) (fun ex e => toJ s (lpK Kr Ks ex) e)) (zipE s l) w) : LpW P N b s Kr Ks l w := by
  intro a hw hl
  subst hl
  refine wpIn_unroll (wp_mono (codeW_sound _ _ _ _ _ _ (rep_zip hw s) (bd_zip hs _) h) fun ex a' w' hq => ?_)
  have tj : ∀ {j : List Value → W} {e : Env}, Rep N e a' → toJ s j e w' → j (keepA s a') w' := fun {j e} hr hj => by
    unfold toJ at hj
    split at hj
    · rename_i hall; rw [keep_eq hr hall]; exact hj
    · exact (hj : False).elim
  obtain ⟨h1, h2⟩ := hq
  cases ex with
  | normal => obtain ⟨e, hr, _, h3⟩ := h2; exact (tj hr h3 : LpW P N b s Kr Ks (keepA s a') w') a' h1 rfl
  | panic c => exact (h2 : False).elim
  | outgrown => exact (h2 : False).elim
  | exit i => obtain ⟨e, hr, _, h3⟩ := h2; exact ⟨h1, tj (j := lpK Kr Ks (.exit i)) hr h3⟩
  | goto i => obtain ⟨e, hr, _, h3⟩ := h2; exact ⟨h1, tj (j := lpK Kr Ks (.goto i)) hr h3⟩
  | ret => obtain ⟨e, hr, _, h3⟩ := h2; exact ⟨h1, tj (j := lpK Kr Ks .ret) hr h3⟩

/-- what may be read behind a round -/
def lvB (s : List Ent) (b : Code) : List Nat := nubN (s.map (·.1) ++ (rbw b []).1)

/-- the loops of a body, outer ones first -/
def loopsOf : Code → List Code
  | .seq x y => loopsOf x ++ loopsOf y
  | .cond _ x y => loopsOf x ++ loopsOf y
  | .block _ b => loopsOf b
  | .loop b => b :: loopsOf b
  | .scope b => loopsOf b
  | _ => []

def lpB (fn : Func) (i : Nat) : Code := match fn.body with
  | some c => (loopsOf c)[i]?.getD .skip
  | none => .skip

/- whole functions -/
def RsW (P : Program) (fn : Func) (e : Env) (R : Value → W) : W :=
  fun w => ∃ v, (∀ tmps : Array Value, (∀ t, hasE e t = true → tmps.getD t undef = lookE e t) → (results fn tmps).run P w = .ok v w) ∧ R v w

def tmpOnly : List ResultVar → Option (List Tmp)
  | [] => some []
  | .tmp t :: r => (tmpOnly r).map (t :: ·)
  | .cell .. :: _ => none

def LvW (P : Program) (t : TypeId) (a : Addr) (k : Value → W) : W := match aggP P t with
  | some false => LdW a fun v => opn P t v k
  | some true => match sizeP P t with
    | some n => LnW n a fun v => opn P t v k
    | none => FlW
  | none => FlW

def resW (P : Program) (fn : Func) (R : Value → W) (e : Env) : W :=
  if (fn.results.toList.all fun | .tmp t => hasE e t | .cell a _ => hasE e a) = true then
    (match tmpOnly fn.results.toList with
    | some [t] => R (lookE e t)
    | some ts => R (.tuple (ts.map fun t => lookE e t).toArray)
    | none => match fn.results.toList with
      | [.cell a t] => match lookE e a with
        | .pointer p => NcW p fun d => LvW P t d R
        | _ => FlW
      | _ => RsW P fn e R)
  else FlW

def retW (P : Program) (fn : Func) (R : Value → W) : Exit → Env → W
  | .normal, a => resW P fn R a
  | .ret, a => resW P fn R a
  | _, _ => FlW

theorem LvW_sound {t : TypeId} {a : Addr} {k : Value → W} {w : World} (h : LvW P t a k w) : ∃ v, (loadVar t a).run P w = .ok v w ∧ k v w := by
  unfold LvW at h
  cases ha : aggP P t with
  | none => rw [ha] at h; exact (h : False).elim
  | some b =>
    rw [ha] at h
    cases b with
    | false => obtain ⟨v, hv, hk⟩ := (h : (LdW a fun v => opn P t v k) w); exact ⟨v, run_load1 ha hv, opn_sound hk⟩
    | true =>
      cases hz : sizeP P t with
      | none => simp only [hz] at h; exact (h : False).elim
      | some n =>
        simp only [hz] at h
        obtain ⟨cs, hn, hv, hk⟩ := (h : (LnW n a fun v => opn P t v k) w)
        exact ⟨_, run_loadN ha hz hn hv, opn_sound hk⟩

theorem tmpOnly_spec : ∀ {l : List ResultVar} {ts : List Tmp}, tmpOnly l = some ts → l = ts.map .tmp := by
  intro l
  induction l with
  | nil => intro ts h; cases h; rfl
  | cons r l ih =>
    intro ts h
    cases r with
    | tmp t =>
      simp only [tmpOnly] at h
      cases hl : tmpOnly l with
      | none => rw [hl] at h; cases h
      | some ts' => rw [hl] at h; cases h; rw [ih hl]; rfl
    | cell a t => cases h

def resV (ts : List Tmp) (tmps : Array Value) : Value := match ts with | [t] => tmps.getD t undef | ts => .tuple (ts.map fun t => tmps.getD t undef).toArray

def resOf (tmps : Array Value) : ResultVar → Sem Value
  | .tmp t => pure (tmps.getD t undef)
  | .cell a t => do loadVar t (← asAddr (tmps.getD a undef))

theorem results_eq (fn : Func) (tmps : Array Value) : results fn tmps = (do
    let vs ← fn.results.mapM (resOf tmps)
    pure (if h : vs.size = 1 then vs[0] else .tuple vs)) := by
  unfold results
  congr 1

theorem run_mapL (tmps : Array Value) (w : World) : ∀ ts : List Tmp, ((ts.map ResultVar.tmp).mapM (resOf tmps) : Sem (List Value)).run P w = .ok (ts.map fun t => tmps.getD t undef) w := fun ts => by
  induction ts with
  | nil => rfl
  | cons t ts ih => simp only [List.map_cons, List.mapM_cons, Sem.run_bind, resOf, Sem.run_pure, Result.andThen, ih]

theorem run_results {fn : Func} {ts : List Tmp} (h : tmpOnly fn.results.toList = some ts) (tmps : Array Value) (w : World) :
    (results fn tmps).run P w = .ok (resV ts tmps) w := by
  have hr : fn.results = (ts.map ResultVar.tmp).toArray := by rw [← tmpOnly_spec h]
  rw [results_eq, hr]
  have this : ((ts.map ResultVar.tmp).toArray.mapM (resOf tmps) : Sem (Array Value)).run P w = .ok (ts.map fun t => tmps.getD t undef).toArray w := by
    rw [List.mapM_toArray, Sem.run_map, run_mapL]; rfl
  rw [run_bind_ok this]
  match ts with
  | [] => rfl
  | [t] => rfl
  | t :: u :: r => simp [resV]

theorem resW_sound {N : Nat} {fn : Func} {R : Value → W} {e : Env} {a : Act} {w : World} (hr : Rep N e a) (h : resW P fn R e w) : ∃ v, (results fn a.tmps).run P w = .ok v w ∧ R v w := by
  unfold resW at h
  split at h
  · rename_i hall
    simp only [List.all_eq_true] at hall
    cases ht : tmpOnly fn.results.toList with
    | none =>
      rw [ht] at h
      simp only at h
      have other : RsW P fn e R w → ∃ v, (results fn a.tmps).run P w = .ok v w ∧ R v w := fun ⟨v, h1, h2⟩ => ⟨v, h1 a.tmps (fun t ht => hr.2 t ht), h2⟩
      rcases hl : fn.results.toList with _ | ⟨r1, _ | ⟨r2, rs⟩⟩
      · rw [hl] at h; exact other h
      · cases r1 with
        | tmp t => rw [hl] at h; exact other h
        | cell t1 ty =>
          rw [hl] at h
          have hin : hasE e t1 = true := hall (.cell t1 ty) (by rw [hl]; exact List.mem_cons_self)
          cases hv : lookE e t1 <;> simp only [hv] at h <;> try exact (h : False).elim
          rename_i p
          cases p with
          | none => exact (h : False).elim
          | some d =>
            obtain ⟨v, h1, h2⟩ := LvW_sound (h : LvW P ty d R w)
            refine ⟨v, ?_, h2⟩
            have ha : a.tmps.getD t1 undef = .pointer (some d) := (hr.2 t1 hin).trans hv
            have hres : fn.results = #[.cell t1 ty] := by rw [← Array.toList_inj]; exact hl
            rw [results_eq, hres]
            have hm : (#[ResultVar.cell t1 ty].mapM (resOf a.tmps) : Sem (Array Value)).run P w = .ok #[v] w := by
              rw [List.mapM_toArray, Sem.run_map]
              simp only [List.mapM_cons, List.mapM_nil, Sem.run_bind, resOf, ha, asAddr, Sem.run_pure, Result.andThen, h1]
            rw [run_bind_ok hm]
            rfl
      · rw [hl] at h; cases r1 <;> exact other h
    | some ts =>
      rw [ht] at h
      have hrs := tmpOnly_spec ht
      have hin : ∀ t ∈ ts, hasE e t = true := fun t hm => hall (.tmp t) (by rw [hrs]; exact List.mem_map_of_mem hm)
      refine ⟨_, run_results ht _ _, ?_⟩
      match ts, h, hin with
      | [], h, _ => exact h
      | [t], h, hin => show R (a.tmps.getD t undef) w; rw [hr.2 t (hin t List.mem_cons_self)]; exact h
      | t :: u :: r, h, hin =>
        have : ((t :: u :: r).map fun t => a.tmps.getD t undef) = (t :: u :: r).map fun t => lookE e t := List.map_congr_left fun x hx => hr.2 x (hin x hx)
        show R (.tuple ((t :: u :: r).map fun t => a.tmps.getD t undef).toArray) w
        rw [this]; exact h
  · exact (h : False).elim

/-- the temporaries of the results -/
def resT (fn : Func) : List Nat := fn.results.toList.map fun | .tmp t => t | .cell a _ => a

/-- what is known at a function's begin -/
def startE : Nat → List Value → Env
  | _, [] => []
  | i, v :: r => (i, v) :: startE (i + 1) r

theorem startE_look : ∀ (l : List Value) (i t : Nat), hasE (startE i l) t = true → i ≤ t ∧ t < i + l.length ∧ lookE (startE i l) t = l.getD (t - i) undef := by
  intro l
  induction l with
  | nil => intro i t h; cases h
  | cons v r ih =>
    intro i t h
    unfold startE hasE at h
    unfold startE lookE
    cases hb : Nat.beq i t with
    | true => have := beq_true hb; subst this; simp
    | false =>
      rw [hb] at h
      obtain ⟨h1, h2, h3⟩ := ih (i + 1) t h
      refine ⟨by omega, by simp; omega, ?_⟩
      rw [h3]
      have : t - i = (t - (i + 1)) + 1 := by omega
      rw [this]; rfl

def bodyOf (fn : Func) : Code := fn.body.getD .skip

/-- the types of a function's temporaries -/
def tbOf (fn : Func) : List (Nat × TypeId) := (fn.params.toList.zipIdx.map fun (t, i) => (i, t)) ++ wrT (bodyOf fn)

theorem calls_of_codeW {f : FuncId} {fn : Func} {args : List Value} {w : World} {R : Value → W} {N : Nat}
    (hf : P.funcs[f]? = some fn) (hb : fn.body = some (bodyOf fn)) (hn : args.length + (fn.ntmps - args.length) = N)
    (h : codeW P N (tbOf fn) (bodyOf fn) (resT fn) (retW P fn R) (startE 0 args) w) : ClW P f args.toArray R w := by
  refine calls_of_wp hf hb ?_
  have hw : Wf N { tmps := args.toArray ++ Array.replicate (fn.ntmps - args.toArray.size) undef, defers := [] } := ⟨by simp [hn], rfl⟩
  have hr : Rep N (startE 0 args) { tmps := args.toArray ++ Array.replicate (fn.ntmps - args.toArray.size) undef, defers := [] } := ⟨hw, fun t ht => by
    obtain ⟨_, h2, h3⟩ := startE_look _ _ _ ht
    rw [h3]
    have h4 : t < args.length := by omega
    simp [Array.getElem?_append, h4]⟩
  have hbd : Bd N (startE 0 args) := fun t ht => by have := (startE_look _ _ _ ht).2.1; omega
  refine wp_mono (codeW_sound _ _ _ _ _ _ hr hbd h) fun e a' w' hq => ?_
  obtain ⟨h1, h2⟩ := hq
  cases e <;> first
    | exact (h2 : False).elim
    | (obtain ⟨_, h3, _, h2⟩ := h2; first
        | exact (h2 : False).elim
        | (obtain ⟨v, hv, hR⟩ := resW_sound h3 h2; exact ⟨h1.2, v, hv, v, rfl, hR⟩))

theorem castW {p q : W} (e : p = q) {w : World} (h : q w) : p w := e ▸ h
end
end Go.Proofs.Ytpliocedgiejiaa
