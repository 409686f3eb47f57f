/-
  The canonical order of a region: operations that only look (at temporaries, at memory) are carried out as soon as they may be, the others branch.
-/
import Derived.WalkKit
import Derived.OrdersHeld
namespace Go.Proofs.Ytpliocedgiejiaa
open Go

abbrev W := World → Prop

/-- Q, but neither a panic nor an outgrown run. -/
def Qn (Q : Exit → Act → World → Prop) : Exit → Act → World → Prop
  | .panic _, _, _ => False
  | .outgrown, _, _ => False
  | e, a, w => Q e a w

theorem Qn_imp {Q : Exit → Act → World → Prop} : ∀ (e : Exit) (a : Act) (w : World), Qn Q e a w → Q e a w := fun e a w h => by
  cases e <;> first | exact h | exact (h : False).elim

section
variable {P : Program} {ops : Array Oper} {Q : Exit → Act → World → Prop} {S : World → Prop}

/-- How an operation is held to one value: in every world, in every world that meets S, or here alone. -/
inductive Hold where | pure | held | here deriving DecidableEq

def FitsW (P : Program) (S : World → Prop) (w : World) : Hold → Sem Next → Value → Prop
  | .pure, m, v => ∀ w', m.run P w' = .ok (.value v) w'
  | .held, m, v => ∀ w', S w' → m.run P w' = .ok (.value v) w'
  | .here, m, v => m.run P w = .ok (.value v) w

theorem FitsW.run {h : Hold} {m : Sem Next} {v : Value} {w : World} (f : FitsW P S w h m v) (hS : S w) : m.run P w = .ok (.value v) w := by
  cases h with
  | pure => exact f w
  | held => exact f w hS
  | here => exact f

def Fits (P : Program) (ops : Array Oper) (S : World → Prop) (h : Hold) (o : Oper) (v : Value) (a : Act) (w : World) : Prop :=
  (Region.wanted o (yielded ops a.tmps) = true ∧ FitsW P S w h (execOp a.eval o) v) ∨ (Region.wanted o (yielded ops a.tmps) = false ∧ v = undef)

theorem Fits.wpOp {i : Nat} {o : Oper} {v : Value} {a : Act} {h : Hold} {w : World} (hi : ops[i]? = some o) (hS : S w) (hy : Fits P ops S h o v a w)
    {K : Act → World → Prop} (hk : K (a.put o.dst v) w) : wpOp P ops Q i K a w := by
  unfold Go.wpOp
  simp only [hi]
  rcases hy with ⟨hw, hv⟩ | ⟨hw, rfl⟩
  · simp only [hw, if_true, Oper.wp, hv.run hS, Oper.upon]; exact .inl hk
  · simp only [hw, Bool.false_eq_true, if_false]; exact hk

/-- an operation that must wait, directly or by what it is given, for j -/
def dep (ops : Array Oper) : Nat → Nat → Nat → Bool
  | 0, _, _ => false
  | f + 1, k, j => match ops[k]? with
    | none => false
    | some o => o.after.any (fun e => Region.binds .any e && e.on == j) || o.after.any (fun e => Region.binds .any e && (e.ground == .data) && dep ops f e.on j)

def Closed (ops : Array Oper) (listed : Array Bool) : Prop :=
  ∀ k o, ops[k]? = some o → listed.getD k false = true → ∀ e ∈ o.after, Region.binds .any e = true → listed.getD e.on false = true

theorem dep_listed {listed : Array Bool} (hc : Closed ops listed) : ∀ f k j, dep ops f k j = true → listed.getD k false = true → listed.getD j false = true := by
  intro f
  induction f with
  | zero => intro k j h; simp [dep] at h
  | succ f ih =>
    intro k j h hk
    unfold dep at h
    cases ho : ops[k]? with
    | none => simp [ho] at h
    | some o =>
      simp only [ho, Bool.or_eq_true] at h
      rcases h with h | h
      · obtain ⟨e, he, hb⟩ := Array.any_eq_true'.1 h
        simp only [Bool.and_eq_true, beq_iff_eq] at hb
        exact hb.2 ▸ hc k o ho hk e he hb.1
      · obtain ⟨e, he, hb⟩ := Array.any_eq_true'.1 h
        simp only [Bool.and_eq_true] at hb
        exact ih _ _ hb.2 (hc k o ho hk e he hb.1.1)

/-- what is ready does not wait for what is not listed -/
theorem dep_ready {listed : Array Bool} (hc : Closed ops listed) {f k j : Nat} (h : dep ops f k j = true) (hk : k ∈ Region.ready .any ops listed) :
    listed.getD j false = true := by
  obtain ⟨_, o, ho, hall⟩ := mem_ready.1 hk
  cases f with
  | zero => simp [dep] at h
  | succ f =>
    unfold dep at h
    simp only [ho, Bool.or_eq_true] at h
    rcases h with h | h
    · obtain ⟨e, he, hb⟩ := Array.any_eq_true'.1 h
      simp only [Bool.and_eq_true, beq_iff_eq] at hb
      exact hb.2 ▸ hall e he hb.1
    · obtain ⟨e, he, hb⟩ := Array.any_eq_true'.1 h
      simp only [Bool.and_eq_true] at hb
      exact dep_listed hc _ _ _ hb.2 (hall e he hb.1.1)

theorem not_listed_of {listed : Array Bool} {j : Nat} (h : listed.getD j true = false) : listed.getD j false = true → False := by
  intro h1
  rcases Nat.lt_or_ge j listed.size with h' | h'
  · simp [h'] at h h1; rw [h] at h1; cases h1
  · simp [Array.getElem?_eq_none h'] at h1

theorem Closed.add {listed : Array Bool} (hc : Closed ops listed) {i : Nat} (hi : i ∈ Region.ready .any ops listed) : Closed ops (listed.setIfInBounds i true) := by
  intro k o ho hk e he hb
  by_cases h : i = k
  · subst h
    obtain ⟨_, o', ho', hall⟩ := mem_ready.1 hi
    rw [ho] at ho'; cases ho'
    exact getD_set_true (hall e he hb)
  · rw [getD_set_ne false h] at hk
    exact getD_set_true (hc k o ho hk e he hb)

/-- which operations act: all but those that are known to look alone -/
def looksOnly (P : Program) (o : Oper) : Bool := match o.op with
  | .move _ | .assign _ | .pick .. | .build .. | .load .. | .nilCheck _ | .binOp .. | .unOp .. | .makeInterface .. | .makeFunc .. | .slice .. | .fieldAddr .. | .field ..
  | .indexAddr .. | .index .. | .lookup .. | .extract .. | .typeAssert .. => true
  | .convert s d _ => match P.underlying s, P.underlying d with | some (.int _), some (.int _) => true | _, _ => false
  | .call { callee := .builtin b, .. } => match b with | .len | .cap | .min | .max => true | _ => false
  | _ => false

/-- no operation that acts is free to come ahead of, or behind, j -/
def calm (P : Program) (ops : Array Oper) (j : Nat) : Bool :=
  (List.range ops.size).all fun k => match ops[k]? with | some o => looksOnly P o || k == j || dep ops 8 k j || dep ops 8 j k | none => true

/-- of two operations that do not wait for each other neither touches the other's temporaries -/
def tempsApart (ops : Array Oper) : Bool :=
  (List.range ops.size).all fun i => match ops[i]? with
    | none => true
    | some oi => (List.range ops.size).all fun j => match ops[j]? with
      | none => true
      | some oj => i == j || oj.after.any (fun e => Region.binds .any e && e.on == i) || oi.after.any (fun e => Region.binds .any e && e.on == j) || (oi.apart ops oj)

theorem tempsApart_spec (h : tempsApart ops = true) {i j : Nat} {oi oj : Oper} (hi : ops[i]? = some oi) (hj : ops[j]? = some oj) (hne : i ≠ j)
    {listed : Array Bool} (ri : i ∈ Region.ready .any ops listed) (rj : j ∈ Region.ready .any ops listed) : oi.apart ops oj = true := by
  simp only [tempsApart, List.all_eq_true, List.mem_range] at h
  have h1 := h i (Array.getElem?_eq_some_iff.1 hi).1
  simp only [hi, List.all_eq_true, List.mem_range] at h1
  have h2 := h1 j (Array.getElem?_eq_some_iff.1 hj).1
  simp only [hj, Bool.or_eq_true, beq_iff_eq, hne, false_or] at h2
  obtain ⟨ui, oi', hi', alli⟩ := mem_ready.1 ri
  obtain ⟨uj, oj', hj', allj⟩ := mem_ready.1 rj
  rw [hi] at hi'; cases hi'
  rw [hj] at hj'; cases hj'
  rcases h2 with (h2 | h2) | h2
  · obtain ⟨e, he, hb⟩ := Array.any_eq_true'.1 h2
    simp only [Bool.and_eq_true, beq_iff_eq] at hb
    exact (not_listed_of ui (hb.2 ▸ allj e he hb.1)).elim
  · obtain ⟨e, he, hb⟩ := Array.any_eq_true'.1 h2
    simp only [Bool.and_eq_true, beq_iff_eq] at hb
    exact (not_listed_of uj (hb.2 ▸ alli e he hb.1)).elim
  · exact h2

/-- THE CANONICAL RUN. -/
def CanN (P : Program) (ops : Array Oper) (Q : Exit → Act → World → Prop) : Nat → (World → Prop) → Array Bool → Act → World → Prop
  | 0, _, listed, a, w => Region.ready .any ops listed = [] ∧ Q .normal a w
  | n + 1, S, listed, a, w =>
    (∃ j o v h, j ∈ Region.ready .any ops listed ∧ ops[j]? = some o ∧ looksOnly P o = true ∧ (h = Hold.here → calm P ops j = true) ∧ Fits P ops S h o v a w ∧
      CanN P ops Q n S (listed.setIfInBounds j true) (a.put o.dst v) w) ∨
    ((Region.ready .any ops listed = [] → Q .normal a w) ∧ (∀ j ∈ Region.ready .any ops listed, ∀ o, ops[j]? = some o → looksOnly P o = false) ∧
      (∀ j ∈ Region.ready .any ops listed, wpOp P ops (Qn Q) j (fun a' w' => ∃ S' : World → Prop, (∀ x, S' x → S x) ∧ S' w' ∧ CanN P ops Q n S' (listed.setIfInBounds j true) a' w') a w))

abbrev Can (P : Program) (ops : Array Oper) (Q : Exit → Act → World → Prop) (S : World → Prop) (n : Nat) (listed : Array Bool) (a : Act) (w : World) : Prop := CanN P ops Q n S listed a w

theorem FitsW.mono {S' : World → Prop} {h : Hold} {m : Sem Next} {v : Value} {w : World} (f : FitsW P S w h m v) (hs : ∀ x, S' x → S x) : FitsW P S' w h m v := by
  cases h with
  | pure => exact f
  | held => exact fun w' hw => f w' (hs _ hw)
  | here => exact f
theorem Fits.mono {S' : World → Prop} {h : Hold} {o : Oper} {v : Value} {a : Act} {w : World} (f : Fits P ops S h o v a w) (hs : ∀ x, S' x → S x) : Fits P ops S' h o v a w :=
  f.imp (fun ⟨x, y⟩ => ⟨x, y.mono hs⟩) id

theorem FitsW.keep {h : Hold} {m : Sem Next} {v : Value} {w w' : World} (f : FitsW P S w h m v) (hh : h ≠ .here ∨ w' = w) : FitsW P S w' h m v := by
  cases h with
  | pure => exact f
  | held => exact f
  | here => rcases hh with hh | rfl
            · exact (hh rfl).elim
            · exact f

theorem Fits.of_same {o : Oper} {v : Value} {a a' : Act} {h : Hold} {w w' : World} (hy : Fits P ops S h o v a w) (he : execOp a'.eval o = execOp a.eval o)
    (hw : Region.wanted o (yielded ops a'.tmps) = Region.wanted o (yielded ops a.tmps)) (hh : h ≠ .here ∨ w' = w) : Fits P ops S h o v a' w' := by
  unfold Fits at *
  rw [he, hw]
  exact hy.imp (fun ⟨x, y⟩ => ⟨x, y.keep hh⟩) id

/-- an operation j (whichever) behind one that fits (i) may come ahead of it -/
theorem swap {j : Nat} {oi oj : Oper} {v : Value} {h : Hold} (hj : ops[j]? = some oj) (hap : oi.apart ops oj = true) (hsi : ∀ cs b, oi.op ≠ .select cs b) (hsj : ∀ cs b, oj.op ≠ .select cs b)
    {K : Act → World → Prop} {a : Act} {w : World} (hhold : h ≠ .here)
    (hy : Fits P ops S h oi v a w) (hh : wpOp P ops (Qn Q) j K (a.put oi.dst v) w) :
    wpOp P ops (Qn Q) j (fun a' w' => Fits P ops S h oi v a' w' ∧ K (a'.put oi.dst v) w') a w := by
  obtain ⟨h1, h2, h3⟩ := Oper.apart_spec hap
  have keep : ∀ (a : Act) w w', Fits P ops S h oi v a w → ∀ u, Fits P ops S h oi v (a.put oj.dst u) w' := fun a w w' hy u =>
    hy.of_same (execOp_put oi hsi a oj.dst u h3) (wanted_put oi a oj.dst u h3) (.inl hhold)
  unfold Go.wpOp at *
  simp only [hj] at *
  rw [wanted_put oj a oi.dst v h1] at hh
  split
  · rename_i hw
    simp only [hw, if_true] at hh
    rcases hh with hh | ⟨hasks, hlets⟩
    case inr => obtain ⟨_, _, hf⟩ := hlets; exact (hf : False).elim
    refine .inl ?_
    unfold Oper.wp at *
    rw [execOp_put oj hsj a oi.dst v h1] at hh
    generalize (execOp a.eval oj).run P w = r at *
    cases r with
    | ok n w' =>
      cases n <;> simp only [Oper.upon] at hh ⊢
      case value u => exact ⟨keep a w w' hy u, by rw [← Act.put_comm a v u h2]; exact hh⟩
      case skip => exact ⟨keep a w w' hy _, by rw [← Act.put_comm a v undef h2]; exact hh⟩
      case defer d =>
        refine ⟨keep { a with defers := d :: a.defers } w w' (hy.of_same rfl rfl (.inr rfl)) _, ?_⟩
        rw [← Act.put_comm _ v undef h2, ← Act.put_defers]
        exact hh
      case enter f args =>
        refine Calls.mono hh fun e w'' he => ?_
        cases e with
        | returned u => exact ⟨keep a w w'' hy u, by rw [← Act.put_comm a v u h2]; exact he⟩
        | panicked c => exact (he : False).elim
        | outgrown => obtain ⟨_, _, hf⟩ := he; exact (hf : False).elim
      case row row args => exact Rows.mono hh fun u w'' he => ⟨keep a w w'' hy u, by rw [← Act.put_comm a v u h2]; exact he⟩
    | halt x w' =>
      cases x <;> simp only [Oper.upon] at hh ⊢
      case panic u => exact (hh : False).elim
  · rename_i hw
    simp only [hw] at hh
    exact ⟨keep a w w hy _, by rw [← Act.put_comm a v undef h2]; exact hh⟩

theorem ready_add {i j : Nat} {listed : Array Bool} (hi : i ∈ Region.ready .any ops listed) (hne : i ≠ j) : i ∈ Region.ready .any ops (listed.setIfInBounds j true) := ready_mono hi hne

/-- one that looks alone may come first, if it is ready -/
theorem frontL (hta : tempsApart ops = true) (hsel : Region.noSelect ops = true) {i : Nat} {oi : Oper} (hoi : ops[i]? = some oi) (hl : looksOnly P oi = true) :
    ∀ n listed a w, i ∈ Region.ready .any ops listed → Can P ops Q S n listed a w →
      ∃ m v h, n = m + 1 ∧ (h = Hold.here → calm P ops i = true) ∧ Fits P ops S h oi v a w ∧ Can P ops Q S m (listed.setIfInBounds i true) (a.put oi.dst v) w := by
  intro n
  induction n with
  | zero => intro listed a w hr hc; rw [hc.1] at hr; cases hr
  | succ n ih =>
    intro listed a w hr hc
    rcases hc with ⟨j, o, v, h, hj, ho, hlo, hcalm, hf, hc⟩ | ⟨_, hb, _⟩
    · by_cases hij : i = j
      · subst hij
        rw [hoi] at ho; cases ho
        exact ⟨n, v, h, rfl, hcalm, hf, hc⟩
      · obtain ⟨m, u, h', rfl, hcalm', hf', hc'⟩ := ih _ _ _ (ready_add hr hij) hc
        have hap := tempsApart_spec hta hoi ho hij hr hj
        obtain ⟨h1, h2, h3⟩ := Oper.apart_spec hap
        have hsi := fun cs b => Region.noSelect_spec hsel i oi cs b hoi
        have hsj := fun cs b => Region.noSelect_spec hsel j o cs b ho
        have fi : Fits P ops S h' oi u a w := hf'.of_same (execOp_put oi hsi a o.dst v h3).symm (wanted_put oi a o.dst v h3).symm (.inr rfl)
        have fj : Fits P ops S h o v (a.put oi.dst u) w := hf.of_same (execOp_put o hsj a oi.dst u h1) (wanted_put o a oi.dst u h1) (.inr rfl)
        refine ⟨m + 1, u, h', rfl, hcalm', fi, .inl ⟨j, o, v, h, ready_add hj (Ne.symm hij), ho, hlo, hcalm, fj, ?_⟩⟩
        rw [Array.setIfInBounds_comm _ _ hij, Act.put_comm a u v h2]
        exact hc'
    · have := hb i hr oi hoi
      rw [hl] at this; cases this

/-- one that acts may come first, if it is ready -/
theorem frontE (hta : tempsApart ops = true) (hsel : Region.noSelect ops = true) {i : Nat} {oi : Oper} (hoi : ops[i]? = some oi) (hl : looksOnly P oi = false) :
    ∀ n listed a w, Closed ops listed → S w → i ∈ Region.ready .any ops listed → Can P ops Q S n listed a w →
      ∃ m, n = m + 1 ∧ wpOp P ops (Qn Q) i (fun a' w' => ∃ S' : World → Prop, (∀ x, S' x → S x) ∧ S' w' ∧ Can P ops Q S' m (listed.setIfInBounds i true) a' w') a w := by
  intro n
  induction n with
  | zero => intro listed a w _ _ hr hc; rw [hc.1] at hr; cases hr
  | succ n ih =>
    intro listed a w hcl hS hr hc
    rcases hc with ⟨j, o, v, h, hj, ho, hlo, hcalm, hf, hc⟩ | ⟨_, hb, hall⟩
    · have hij : i ≠ j := by intro e; subst e; rw [hoi] at ho; cases ho; rw [hl] at hlo; cases hlo
      obtain ⟨m, rfl, hw⟩ := ih _ _ _ (hcl.add hj) hS (ready_add hr hij) hc
      have hap := tempsApart_spec hta ho hoi (Ne.symm hij) hj hr
      obtain ⟨h1, h2, h3⟩ := Oper.apart_spec hap
      have hsi := fun cs b => Region.noSelect_spec hsel i oi cs b hoi
      have hsj := fun cs b => Region.noSelect_spec hsel j o cs b ho
      have hh : h ≠ .here := by
        intro e
        have hca := hcalm e
        simp only [calm, List.all_eq_true, List.mem_range] at hca
        have h4 := hca i (Array.getElem?_eq_some_iff.1 hoi).1
        simp only [hoi, hl, Bool.false_or, Bool.or_eq_true, beq_iff_eq, hij, false_or] at h4
        rcases h4 with h4 | h4
        · exact not_listed_of (mem_ready.1 hj).1 (dep_ready hcl h4 hr)
        · exact not_listed_of (mem_ready.1 hr).1 (dep_ready hcl h4 hj)
      refine ⟨m + 1, rfl, wpOp_mono (fun a' w' hk => ?_) (swap hoi hap hsj hsi hh hf hw)⟩
      obtain ⟨hfit, S', hi', hS', hcan⟩ := hk
      refine ⟨S', hi', hS', .inl ⟨j, o, v, h, ready_add hj (Ne.symm hij), ho, hlo, hcalm, hfit.mono hi', ?_⟩⟩
      rw [Array.setIfInBounds_comm _ _ hij]
      exact hcan
    · exact ⟨n, rfl, hall i hr⟩

theorem Can.any (hta : tempsApart ops = true) (hsel : Region.noSelect ops = true) :
    ∀ n (S : World → Prop) listed a w, Closed ops listed → S w → Can P ops Q S n listed a w → wpAny P .any ops (Qn Q) n listed a w := by
  intro n
  induction n with
  | zero => intro S listed a w _ _ hc; exact ⟨hc.1, hc.2⟩
  | succ n ih =>
    intro S listed a w hcl hS hc
    refine ⟨fun hr => ?_, fun i hi => ?_⟩
    · rcases hc with ⟨j, _, _, _, hj, _⟩ | ⟨hq, _⟩
      · rw [hr] at hj; cases hj
      · exact hq hr
    · obtain ⟨_, oi, hoi, _⟩ := mem_ready.1 hi
      cases hl : looksOnly P oi with
      | true =>
        obtain ⟨m, v, h, hm, _, hf, hcan⟩ := frontL hta hsel hoi hl _ _ _ _ hi hc
        cases hm
        exact hf.wpOp hoi hS (ih _ _ _ _ (hcl.add hi) hS hcan)
      | false =>
        obtain ⟨m, hm, hw⟩ := frontE hta hsel hoi hl _ _ _ _ hcl hS hi hc
        cases hm
        exact wpOp_mono (fun a' w' ⟨S', _, h1, h2⟩ => ih S' _ _ _ (hcl.add hi) h1 h2) hw

/-- **A region that draws, by its canonical run.** -/
theorem wp_region_can {id : Nat} {a : Act} {w : World} (hm : P.follows .mixedOrders = true) (hta : tempsApart ops = true) (hsel : Region.noSelect ops = true) (hS : S w.drew)
    (h : Can P ops Q S ops.size (Array.replicate ops.size false) a w.drew) : (Code.region id ops true).wp P (Qn Q) a w :=
  wp_region_any hm (Can.any hta hsel _ _ _ _ _ (fun k o _ hk => by
    exfalso
    rcases Nat.lt_or_ge k ops.size with h' | h'
    · simp [h'] at hk
    · simp [h'] at hk) hS h)
end
end Go.Proofs.Ytpliocedgiejiaa
