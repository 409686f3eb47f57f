/-
  Parts of memory apart: what a list of assertions says of a world, and how the steps of a tree are taken by it.
-/
import Derived.Test.YtpliocedgiejiaaXF
namespace Go.Proofs.Ytpliocedgiejiaa
open Go

abbrev Hp := Nat → Option Obj
abbrev Asn := Hp → Prop

def SatH : List Asn → Hp → Prop
  | [], _ => True
  | A :: L, h => ∃ h1 h2 : Hp, (∀ b, h1 b = none ∨ h2 b = none) ∧ (∀ b o, h1 b = some o → h b = some o) ∧ (∀ b o, h2 b = some o → h b = some o) ∧ A h1 ∧ SatH L h2

/-- the world at the begin: what is told apart from memory stays as it was there -/
class Base where
  W0 : World
def Gl [Base] (w : World) : Prop := w.os = Base.W0.os ∧ w.output = Base.W0.output

def Sat [Base] (w : World) (L : List Asn) : Prop := SatH L (fun b => w.heap[b]?) ∧ Gl w

def Pt (b : Nat) (o : Obj) : Asn := fun h => h b = some o
/-- a block of cells, none of them shut -/
abbrev Cs (b : Nat) (T : TypeId) (cs : List Value) : Asn := Pt b (.cells cs.toArray T (0, 0))

theorem SatH.up {L : List Asn} {h h' : Hp} (hs : SatH L h) (hh : ∀ b o, h b = some o → h' b = some o) : SatH L h' := by
  cases L with
  | nil => trivial
  | cons A L =>
    obtain ⟨h1, h2, hd, u1, u2, a, r⟩ := hs
    exact ⟨h1, h2, hd, fun b o e => hh _ _ (u1 b o e), fun b o e => hh _ _ (u2 b o e), a, r⟩

def joinH (h1 h2 : Hp) : Hp := fun b => (h1 b).or (h2 b)

theorem joinH_some {h1 h2 : Hp} {b : Nat} {o : Obj} (h : joinH h1 h2 b = some o) : h1 b = some o ∨ h2 b = some o := by
  unfold joinH at h
  cases h1b : h1 b with
  | none => rw [h1b] at h; exact .inr (by simpa using h)
  | some x => rw [h1b] at h; exact .inl (by simpa using h)

theorem SatH.swap {A B : Asn} {L : List Asn} {h : Hp} (hs : SatH (A :: B :: L) h) : SatH (B :: A :: L) h := by
  obtain ⟨h1, h2, hd, u1, u2, a, h3, h4, hd', u3, u4, b, r⟩ := hs
  refine ⟨h3, joinH h1 h4, fun x => ?_, fun x o e => u2 _ _ (u3 x o e), fun x o e => ?_, b, h1, h4, fun x => ?_, fun x o e => ?_, fun x o e => ?_, a, r⟩
  · cases e3 : h3 x with
    | none => exact .inl rfl
    | some o =>
      right
      have e2 := u3 _ _ e3
      have e1 : h1 x = none := (hd x).resolve_right (by rw [e2]; simp)
      have e4 : h4 x = none := (hd' x).resolve_left (by rw [e3]; simp)
      simp [joinH, e1, e4]
  · rcases joinH_some e with e | e
    · exact u1 _ _ e
    · exact u2 _ _ (u4 _ _ e)
  · cases e4 : h4 x with
    | none => exact .inr rfl
    | some o => exact .inl ((hd x).resolve_right (by rw [u4 _ _ e4]; simp))
  · simp [joinH, e]
  · have e1 : h1 x = none := (hd x).resolve_right (by rw [u4 _ _ e]; simp)
    simp [joinH, e1, e]

theorem SatH.perm {L L' : List Asn} (p : L.Perm L') : ∀ {h : Hp}, SatH L h → SatH L' h := by
  induction p with
  | nil => intro h hs; exact hs
  | cons A _ ih => intro h ⟨h1, h2, hd, u1, u2, a, r⟩; exact ⟨h1, h2, hd, u1, u2, a, ih r⟩
  | swap A B L => intro h hs; exact hs.swap
  | trans _ _ ih1 ih2 => intro h hs; exact ih2 (ih1 hs)

theorem SatH.tail {A : Asn} {L : List Asn} {h : Hp} (hs : SatH (A :: L) h) : SatH L h := by
  obtain ⟨h1, h2, hd, u1, u2, a, r⟩ := hs
  exact r.up u2

theorem SatH.drop : ∀ {L F : List Asn} {h : Hp}, SatH (L ++ F) h → SatH F h := by
  intro L
  induction L with
  | nil => intro F h hs; exact hs
  | cons A L ih => intro F h hs; exact ih (SatH.tail hs)

/-- parts of a heap, one for each list -/
theorem SatH.split : ∀ {L F : List Asn} {h : Hp}, SatH (L ++ F) h → ∃ h1 h2 : Hp, (∀ b, h1 b = none ∨ h2 b = none) ∧ (∀ b o, h1 b = some o → h b = some o) ∧ (∀ b o, h2 b = some o → h b = some o) ∧ SatH L h1 ∧ SatH F h2 := by
  intro L
  induction L with
  | nil => intro F h hs; exact ⟨fun _ => none, h, fun _ => .inl rfl, (fun _ _ e => by cases e), (fun _ _ e => e), trivial, hs⟩
  | cons A L ih =>
    intro F h ⟨h1, h2, hd, u1, u2, a, r⟩
    obtain ⟨h3, h4, hd', u3, u4, l, f⟩ := ih r
    refine ⟨joinH h1 h3, h4, fun x => ?_, fun x o e => ?_, fun x o e => u2 _ _ (u4 _ _ e), ⟨h1, h3, fun x => ?_, fun x o e => ?_, fun x o e => ?_, a, l⟩, f⟩
    · cases e4 : h4 x with
      | none => exact .inr rfl
      | some o =>
        left
        have e1 : h1 x = none := (hd x).resolve_right (by rw [u4 _ _ e4]; simp)
        have e3 : h3 x = none := (hd' x).resolve_right (by rw [e4]; simp)
        simp [joinH, e1, e3]
    · rcases joinH_some e with e | e
      · exact u1 _ _ e
      · exact u2 _ _ (u3 _ _ e)
    · cases e3 : h3 x with
      | none => exact .inr rfl
      | some o => exact .inl ((hd x).resolve_right (by rw [u3 _ _ e3]; simp))
    · simp [joinH, e]
    · have e1 : h1 x = none := (hd x).resolve_right (by rw [u3 _ _ e]; simp)
      simp [joinH, e1, e]

theorem SatH.join : ∀ {L F : List Asn} {h h1 h2 : Hp}, (∀ b, h1 b = none ∨ h2 b = none) → (∀ b o, h1 b = some o → h b = some o) → (∀ b o, h2 b = some o → h b = some o) →
    SatH L h1 → SatH F h2 → SatH (L ++ F) h := by
  intro L
  induction L with
  | nil => intro F h h1 h2 _ _ u2 _ f; exact f.up u2
  | cons A L ih =>
    intro F h h1 h2 hd u1 u2 ⟨h3, h4, hd', u3, u4, a, l⟩ f
    refine ⟨h3, joinH h4 h2, fun x => ?_, fun x o e => u1 _ _ (u3 _ _ e), fun x o e => ?_, a, ih (h1 := h4) (h2 := h2) (fun x => ?_) (fun x o e => ?_) (fun x o e => ?_) l f⟩
    · cases e3 : h3 x with
      | none => exact .inl rfl
      | some o =>
        right
        have e4 : h4 x = none := (hd' x).resolve_left (by rw [e3]; simp)
        have e2 : h2 x = none := (hd x).resolve_left (by rw [u3 _ _ e3]; simp)
        simp [joinH, e4, e2]
    · rcases joinH_some e with e | e
      · exact u1 _ _ (u4 _ _ e)
      · exact u2 _ _ e
    · cases e4 : h4 x with
      | none => exact .inl rfl
      | some o => exact .inr ((hd x).resolve_left (by rw [u4 _ _ e4]; simp))
    · simp [joinH, e]
    · have e4 : h4 x = none := by
        cases e4 : h4 x with
        | none => rfl
        | some o' => have := (hd x).resolve_left (by rw [u4 _ _ e4]; simp); rw [e] at this; cases this
      simp [joinH, e4, e]

/-- a list of assertions as one -/
def Sep (L : List Asn) : Asn := SatH L
def ExA' {α : Type} (A : α → Asn) : Asn := fun h => ∃ x, A x h
/-- an assertion with a fact -/
def PureA (p : Prop) (A : Asn) : Asn := fun h => p ∧ A h

theorem SatH.sep {L F : List Asn} {h : Hp} : SatH (Sep L :: F) h ↔ SatH (L ++ F) h := by
  constructor
  · intro ⟨h1, h2, hd, u1, u2, a, r⟩; exact SatH.join hd u1 u2 a r
  · intro hs
    obtain ⟨h1, h2, hd, u1, u2, l, f⟩ := SatH.split hs
    exact ⟨h1, h2, hd, u1, u2, l, f⟩

section
variable [Base]
theorem Sat.sep {w : World} {L F : List Asn} : Sat w (Sep L :: F) ↔ Sat w (L ++ F) := ⟨fun h => ⟨SatH.sep.1 h.1, h.2⟩, fun h => ⟨SatH.sep.2 h.1, h.2⟩⟩
theorem Sat.ex {w : World} {α : Type} {A : α → Asn} {F : List Asn} : Sat w (ExA' A :: F) ↔ ∃ x, Sat w (A x :: F) := by
  constructor
  · intro ⟨⟨h1, h2, hd, u1, u2, ⟨x, a⟩, r⟩, hg⟩; exact ⟨x, ⟨h1, h2, hd, u1, u2, a, r⟩, hg⟩
  · intro ⟨x, ⟨h1, h2, hd, u1, u2, a, r⟩, hg⟩; exact ⟨⟨h1, h2, hd, u1, u2, ⟨x, a⟩, r⟩, hg⟩
theorem Sat.pure {w : World} {p : Prop} {A : Asn} {F : List Asn} : Sat w (PureA p A :: F) ↔ p ∧ Sat w (A :: F) := by
  constructor
  · intro ⟨⟨h1, h2, hd, u1, u2, ⟨x, a⟩, r⟩, hg⟩; exact ⟨x, ⟨h1, h2, hd, u1, u2, a, r⟩, hg⟩
  · intro ⟨x, ⟨h1, h2, hd, u1, u2, a, r⟩, hg⟩; exact ⟨⟨h1, h2, hd, u1, u2, ⟨x, a⟩, r⟩, hg⟩
theorem Sat.imp {w : World} {A B : Asn} {F : List Asn} (hi : ∀ h, A h → B h) (hs : Sat w (A :: F)) : Sat w (B :: F) := by
  obtain ⟨⟨h1, h2, hd, u1, u2, a, r⟩, hg⟩ := hs
  exact ⟨⟨h1, h2, hd, u1, u2, hi _ a, r⟩, hg⟩
theorem Sat.perm {w : World} {L L' : List Asn} (hs : Sat w L) (p : L.Perm L') : Sat w L' := ⟨SatH.perm p hs.1, hs.2⟩
theorem Sat.tail {w : World} {A : Asn} {L : List Asn} (hs : Sat w (A :: L)) : Sat w L := ⟨SatH.tail hs.1, hs.2⟩
theorem Sat.dropL {w : World} {E F : List Asn} (hs : Sat w (E ++ F)) : Sat w F := ⟨SatH.drop hs.1, hs.2⟩
theorem Sat.swap {w : World} {A B : Asn} {L : List Asn} (hs : Sat w (A :: B :: L)) : Sat w (B :: A :: L) := ⟨SatH.swap hs.1, hs.2⟩
theorem Sat.drew {w : World} {L : List Asn} (hs : Sat w L) : Sat w.drew L := hs

end
section
theorem perm_erase {α : Type} : ∀ (L : List α) (i : Nat) (h : i < L.length), (L[i] :: L.eraseIdx i).Perm L := by
  intro L
  induction L with
  | nil => intro i h; cases h
  | cons x L ih =>
    intro i h
    cases i with
    | zero => exact List.Perm.refl _
    | succ i => exact (List.Perm.swap _ _ _).trans ((ih i (by simpa using h)).cons x)

end
section
variable [Base]
/-- the i-th comes to the front -/
theorem Sat.front {w : World} {L : List Asn} (hs : Sat w L) (i : Nat) {A : Asn} (hi : L[i]? = some A) : Sat w (A :: L.eraseIdx i) := by
  refine hs.perm ?_
  obtain ⟨hlt, rfl⟩ := List.getElem?_eq_some_iff.1 hi
  exact (perm_erase L i hlt).symm

/-- and goes back -/
theorem Sat.back {w : World} {L : List Asn} (i : Nat) {A B : Asn} (hi : L[i]? = some A) (hs : Sat w (B :: L.eraseIdx i)) : Sat w (L.set i B) := by
  refine hs.perm ?_
  obtain ⟨hlt, rfl⟩ := List.getElem?_eq_some_iff.1 hi
  have h1 : (L.set i B)[i]'(by simpa using hlt) = B := by simp
  have h2 : (L.set i B).eraseIdx i = L.eraseIdx i := by
    rw [List.eraseIdx_set_eq]
  have := perm_erase (L.set i B) i (by simpa using hlt)
  rw [h1, h2] at this
  exact this

theorem Sat.pt {w : World} {L : List Asn} (hs : Sat w L) (i : Nat) {b : Nat} {o : Obj} (hi : L[i]? = some (Pt b o)) : w.heap[b]? = some o := by
  obtain ⟨⟨h1, h2, hd, u1, u2, a, r⟩, hg⟩ := hs.front i hi
  exact u1 _ _ a

theorem Sat.lt {w : World} {L : List Asn} (hs : Sat w L) (i : Nat) {b : Nat} {o : Obj} (hi : L[i]? = some (Pt b o)) : b < w.heap.size :=
  (Array.getElem?_eq_some_iff.1 (hs.pt i hi)).1

theorem Sat.cell {w : World} {L : List Asn} (hs : Sat w L) (i : Nat) {b : Nat} {cs : List Value} {T : TypeId} {fr : Nat × Nat} (hi : L[i]? = some (Pt b (.cells cs.toArray T fr))) (j : Nat) :
    w.cell? ⟨b, j, none⟩ = cs[j]? := by
  unfold World.cell?
  rw [hs.pt i hi]
  simp

theorem Sat.frozen {w : World} {L : List Asn} (hs : Sat w L) (i : Nat) {b : Nat} {cs : List Value} {T : TypeId} (hi : L[i]? = some (Cs b T cs)) (j : Nat) :
    w.frozen? ⟨b, j, none⟩ = false := by
  unfold World.frozen?
  rw [hs.pt i hi]
  simp

/-- a block's object turned -/
theorem Sat.turn {w w' : World} {L : List Asn} (hs : Sat w L) (i : Nat) {b : Nat} {o o' : Obj} (hi : L[i]? = some (Pt b o)) (hb : w'.heap[b]? = some o')
    (hr : ∀ x, x ≠ b → w'.heap[x]? = w.heap[x]?) (hgl : Gl w → Gl w') : Sat w' (L.set i (Pt b o')) := by
  refine Sat.back i hi ?_
  obtain ⟨⟨h1, h2, hd, u1, u2, a, r⟩, hg⟩ := hs.front i hi
  have a' : h1 b = some o := a
  refine ⟨⟨fun x => if x = b then some o' else none, h2, fun x => ?_, fun x o e => ?_, fun x o e => ?_, by show (if b = b then some o' else none) = some o'; rw [if_pos rfl], r⟩, hgl hg⟩
  · by_cases hx : x = b
    · subst hx; exact .inr ((hd x).resolve_left (by rw [a']; simp))
    · exact .inl (if_neg hx)
  · show w'.heap[x]? = some o
    by_cases hx : x = b
    · subst hx
      have e2 : some o' = some o := by simpa using e
      rw [hb]; exact e2
    · simp [hx] at e
  · have hx : x ≠ b := by intro hx; subst hx; have := (hd x).resolve_left (by rw [a']; simp); rw [e] at this; cases this
    show w'.heap[x]? = some o
    rw [hr x hx]
    exact u2 _ _ e

end
section
theorem heap_setCell {w : World} {b j : Nat} {cs : List Value} {T : TypeId} {fr : Nat × Nat} {v : Value} (h : w.heap[b]? = some (.cells cs.toArray T fr)) :
    (w.setCell ⟨b, j, none⟩ v).heap[b]? = some (.cells (cs.set j v).toArray T fr) := by
  unfold World.setCell
  simp [Array.getElem?_modify, h]

end
section
variable [Base]
end
section
theorem heap_setCell_other {w : World} {b j x : Nat} {v : Value} (h : x ≠ b) : (w.setCell ⟨b, j, none⟩ v).heap[x]? = w.heap[x]? := by
  unfold World.setCell
  simp [Array.getElem?_modify, Ne.symm h]

end
section
variable [Base]
theorem Sat.set {w : World} {L : List Asn} (hs : Sat w L) (i : Nat) {b : Nat} {cs : List Value} {T : TypeId} (hi : L[i]? = some (Cs b T cs)) (j : Nat) (v : Value) :
    Sat (w.setCell ⟨b, j, none⟩ v) (L.set i (Cs b T (cs.set j v))) :=
  hs.turn i hi (heap_setCell (hs.pt i hi)) (fun _ hx => heap_setCell_other hx) (fun h => h)

theorem Sat.alloc {w : World} {L : List Asn} (hs : Sat w L) (o : Obj) : Sat (w.alloc o) (Pt w.heap.size o :: L) := by
  refine ⟨⟨fun x => if x = w.heap.size then some o else none, fun x => w.heap[x]?, fun x => ?_, fun x o' e => ?_, fun x o' e => ?_, by show (if w.heap.size = w.heap.size then some o else none) = some o; rw [if_pos rfl], hs.1⟩, hs.2⟩
  · by_cases hx : x = w.heap.size
    · subst hx; right; simp
    · exact .inl (if_neg hx)
  · by_cases hx : x = w.heap.size
    · subst hx
      have e2 : some o = some o' := by simpa using e
      show (w.heap.push o)[w.heap.size]? = some o'
      rw [Array.getElem?_push_size]; exact e2
    · simp [hx] at e
  · have hlt : x < w.heap.size := (Array.getElem?_eq_some_iff.1 e).1
    show (w.heap.push o)[x]? = some o'
    rw [Array.getElem?_push_lt hlt, ← e]
    simp

/-- a world that keeps all blocks keeps all assertions -/
theorem Sat.keep {w w' : World} {L : List Asn} (hs : Sat w L) (h : ∀ (b : Nat) (o : Obj), w.heap[b]? = some o → w'.heap[b]? = some o) (hgl : Gl w → Gl w') : Sat w' L := ⟨SatH.up hs.1 h, hgl hs.2⟩

/- THE STEPS -/
end
section
variable [Base] {P : Program} {w : World} {L : List Asn}

theorem ld {b j : Nat} {cs : List Value} {T : TypeId} {fr : Nat × Nat} {v : Value} {k : Value → W} (hs : Sat w L) (i : Nat) (hi : L[i]? = some (Pt b (.cells cs.toArray T fr))) (hj : cs[j]? = some v) (hk : k v w) :
    LdW ⟨b, j, none⟩ k w := ⟨v, (hs.cell i hi j).trans hj, hk⟩

end
section
variable {P : Program} {w : World} {L : List Asn}
theorem addr_add (b o i : Nat) : (Addr.mk b o none).add i = ⟨b, o + i, none⟩ := by
  unfold Addr.add
  split
  · rename_i h; subst h; rfl
  · rfl

end
section
variable [Base] {P : Program} {w : World} {L : List Asn}
theorem ln {b o n : Nat} {cs : List Value} {T : TypeId} {fr : Nat × Nat} {vs : List Value} {k : Value → W} (hs : Sat w L) (i : Nat) (hi : L[i]? = some (Pt b (.cells cs.toArray T fr)))
    (hn : vs.length = n) (hv : (cs.drop o).take n = vs) (hk : k (.agg vs.toArray) w) : LnW n ⟨b, o, none⟩ k w := by
  refine ⟨vs, hn, fun j v hj => ?_, hk⟩
  rw [addr_add, hs.cell i hi]
  subst hv
  rw [List.getElem?_take] at hj
  split at hj
  · rw [List.getElem?_drop] at hj; exact hj
  · cases hj

theorem st {b j : Nat} {cs : List Value} {T : TypeId} {v : Value} {k : W} (hs : Sat w L) (i : Nat) (hi : L[i]? = some (Cs b T cs)) (hj : j < cs.length)
    (hk : ∀ w', Sat w' (L.set i (Cs b T (cs.set j v))) → k w') : StW ⟨b, j, none⟩ v k w :=
  ⟨⟨⟨cs[j], by rw [hs.cell i hi j]; exact List.getElem?_eq_getElem hj⟩, hs.frozen i hi j⟩, hk _ (hs.set i hi j v)⟩

/-- cells from o on turned -/
def setL : List Value → Nat → List Value → List Value
  | cs, _, [] => cs
  | cs, o, v :: r => setL (cs.set o v) (o + 1) r

theorem setN_sat {b : Nat} {T : TypeId} : ∀ (vs : List Value) (w : World) (L : List Asn) (o i : Nat) (cs : List Value) (x : Nat), Sat w L → L[x]? = some (Cs b T cs) →
    Sat (setN w ⟨b, o, none⟩ vs i) (L.set x (Cs b T (setL cs (o + i) vs))) := by
  intro vs
  induction vs with
  | nil =>
    intro w L o i cs x hs hx
    have : L.set x (Cs b T cs) = L := by
      obtain ⟨hlt, he⟩ := List.getElem?_eq_some_iff.1 hx
      rw [← he, List.set_getElem_self]
    show Sat w (L.set x (Cs b T cs))
    rw [this]; exact hs
  | cons v vs ih =>
    intro w L o i cs x hs hx
    unfold setN setL
    rw [addr_add]
    have h1 := hs.set x hx (o + i) v
    have := ih _ _ o (i + 1) (cs.set (o + i) v) x h1 (by
      rw [List.getElem?_set]; simp [(List.getElem?_eq_some_iff.1 hx).1])
    rw [List.set_set] at this
    exact this

theorem sn {b o : Nat} {cs vs : List Value} {T : TypeId} {k : W} (hs : Sat w L) (i : Nat) (hi : L[i]? = some (Cs b T cs)) (hj : o + vs.length ≤ cs.length)
    (hk : ∀ w', Sat w' (L.set i (Cs b T (setL cs o vs))) → k w') : SnW ⟨b, o, none⟩ vs k w := by
  refine ⟨fun j hj' => ?_, hk _ (setN_sat vs w L o 0 cs i hs hi)⟩
  rw [addr_add]
  refine ⟨⟨cs[o + j], ?_⟩, hs.frozen i hi _⟩
  rw [hs.cell i hi]
  exact List.getElem?_eq_getElem (by omega)

theorem nb {cs : Array Value} {T : TypeId} {k : Addr → W} (hs : Sat w L) (hk : ∀ b w', Sat w' (Cs b T cs.toList :: L) → k ⟨b, 0, none⟩ w') : NbW cs T k w :=
  hk _ _ (hs.alloc _)

theorem nm {k : Nat → W} (hs : Sat w L) (hk : ∀ b w', Sat w' (Pt b (.map #[] 0) :: L) → k b w') : NmW k w := hk _ _ (hs.alloc _)

end
section
variable {P : Program} {w : World} {L : List Asn}
theorem cl {f : FuncId} {args : Array Value} {k k' : Value → W} (h : ClW P f args k' w) (hk : ∀ v w', k' v w' → k v w') : ClW P f args k w :=
  Calls.mono h fun _ _ ⟨v, he, hv⟩ => ⟨v, he, hk _ _ hv⟩

end
section
variable [Base] {P : Program} {w : World} {L : List Asn}
end
section
variable {P : Program} {w : World} {L : List Asn}
theorem bc {b : Bool} {p q : W} (ht : b = true → p w) (hf : b = false → q w) : BcW b p q w := by
  cases b
  · exact hf rfl
  · exact ht rfl
end
section
variable [Base] {P : Program} {w : World} {L : List Asn}
end
section
variable {P : Program} {w : World} {L : List Asn}
theorem bct {b : Bool} {p q : W} (h : b = true) (hp : p w) : BcW b p q w := by subst h; exact hp
end
section
variable [Base] {P : Program} {w : World} {L : List Asn}
end
section
variable {P : Program} {w : World} {L : List Asn}
theorem bcf {b : Bool} {p q : W} (h : b = false) (hq : q w) : BcW b p q w := by subst h; exact hq

end
section
variable [Base] {P : Program} {w : World} {L : List Asn}
end
section
variable {P : Program} {w : World} {L : List Asn}
theorem jn {K : List Value → W} {k : (List Value → W) → W} (I : List Value → World → Prop) (hK : ∀ l w, I l w → K l w) (h : k I w) (hm : ∀ j j' : List Value → W, (∀ l w, j l w → j' l w) → k j w → k j' w) :
    JnW K k w := hm I K hK h
end
section
variable [Base] {P : Program} {w : World} {L : List Asn}
end
section
variable {P : Program} {w : World} {L : List Asn}
theorem jn' {K : List Value → W} {k : (List Value → W) → W} (h : k K w) : JnW K k w := h
end
section
variable [Base] {P : Program} {w : World} {L : List Asn}
end
end Go.Proofs.Ytpliocedgiejiaa
