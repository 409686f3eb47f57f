/-
  The steps of single operations are sound.
-/
import Derived.Test.YtpliocedgiejiaaXB
namespace Go.Proofs.Ytpliocedgiejiaa
open Go

section
variable {P : Program}

theorem run_v {m : Sem Value} {v : Value} {w w' : World} (h : m.run P w = .ok v w') : (do pure (Next.value (← m)) : Sem Next).run P w = .ok (.value v) w' := by
  simp [h]
theorem run_u {m : Sem Unit} {w w' : World} (h : m.run P w = .ok () w') : (do m; pure Next.skip : Sem Next).run P w = .ok .skip w' := by
  simp [h]
theorem run_under {t : TypeId} {d : TypeDesc} (h : P.underlying t = some d) (w : World) : (underlying t).run P w = .ok d w := by
  unfold Go.underlying Go.program; simp [h, Bind.bind, Sem.bind, Sem.run, Pure.pure]
theorem run_info {t : TypeId} {d : TypeInfo} (h : P.info? t = some d) (w : World) : (typeInfo t).run P w = .ok d w := by
  unfold Go.typeInfo Go.program; simp [h, Bind.bind, Sem.bind, Sem.run, Pure.pure]
theorem run_size {t : TypeId} {n : Nat} (h : sizeP P t = some n) (w : World) : (sizeOf t).run P w = .ok n w := by
  unfold sizeP at h
  cases hi : P.info? t with
  | none => rw [hi] at h; cases h
  | some i => rw [hi] at h; cases h; unfold Go.sizeOf; simp [run_info hi]
theorem run_isAgg {t : TypeId} {b : Bool} (h : aggP P t = some b) (w : World) : (isAgg t).run P w = .ok b w := by
  unfold aggP at h
  unfold Go.isAgg
  cases hu : P.underlying t with
  | none => rw [hu] at h; cases h
  | some d => rw [hu] at h; simp only [Sem.run_bind, run_under hu]; cases d <;> cases h <;> rfl

theorem binI_sound {op : BinOp} {k : IntKind} {a b : Int} {c : Value → W} {w : World} (h : binI op k a b c w) (xType : TypeId) :
    ∃ v, (∀ w', (binOp op xType (.int k a) (.int k b)).run P w' = .ok v w') ∧ c v w := by
  cases op <;> simp only [binI, FlW, CkW] at h
  case quo => exact ⟨_, fun w' => by simp [binOp, Op.intDiv, h.1], h.2⟩
  case rem => exact ⟨_, fun w' => by simp [binOp, Op.intDiv, h.1], h.2⟩
  all_goals exact ⟨_, fun w' => by simp [binOp, Op.intArith, Op.intBits, Op.intCmp, andI, orI, xorI], h⟩

theorem eq_ptr {t e : TypeId} (hu : P.underlying t = some (.pointer e)) (a : Option Addr) (w : World) : (Op.equal t (.pointer a) (.pointer none)).run P w = .ok a.isNone w := by
  show (Op.equalIn (9999 + 1) t _ _).run P w = _
  unfold Op.equalIn
  simp only [Sem.run_bind, run_under hu]
  cases a <;> rfl
theorem eq_slice {t e : TypeId} (hu : P.underlying t = some (.slice e)) (a : Option Addr) (n c n' c' : Nat) (w : World) :
    (Op.equal t (.slice a n c) (.slice none n' c')).run P w = .ok a.isNone w := by
  show (Op.equalIn (9999 + 1) t _ _).run P w = _
  unfold Op.equalIn
  simp only [Sem.run_bind, run_under hu]
  cases a <;> rfl
theorem eq_map {t k e : TypeId} (hu : P.underlying t = some (.map k e)) (a : Option Nat) (w : World) : (Op.equal t (.map a) (.map none)).run P w = .ok a.isNone w := by
  show (Op.equalIn (9999 + 1) t _ _).run P w = _
  unfold Op.equalIn
  simp only [Sem.run_bind, run_under hu]
  cases a <;> rfl
theorem eq_iface {t : TypeId} {ms : Array (String × TypeId)} (hu : P.underlying t = some (.interface ms)) (tt : TypeId) (v : Value) (w : World) :
    (Op.equal t (.iface tt v) .nilIface).run P w = .ok false w := by
  show (Op.equalIn (9999 + 1) t _ _).run P w = _
  unfold Op.equalIn
  simp only [Sem.run_bind, run_under hu]
  rfl
theorem eq_nilI {t : TypeId} {ms : Array (String × TypeId)} (hu : P.underlying t = some (.interface ms)) (w : World) :
    (Op.equal t .nilIface .nilIface).run P w = .ok true w := by
  show (Op.equalIn (9999 + 1) t _ _).run P w = _
  unfold Op.equalIn
  simp only [Sem.run_bind, run_under hu]
  rfl
theorem bin_eql {t : TypeId} {x y : Value} {b : Bool} {w : World} (hi : ∀ k n, x ≠ .int k n) (hf : ∀ k n, x ≠ .float k n) (hc : ∀ k n m, x ≠ .complex k n m) (hs : ∀ s, x ≠ .string s)
    (h : (Op.equal t x y).run P w = .ok b w) : (binOp .eql t x y).run P w = .ok (.bool b) w ∧ (binOp .neq t x y).run P w = .ok (.bool !b) w := by
  cases x <;> first
    | exact (hi _ _ rfl).elim
    | exact (hf _ _ rfl).elim
    | exact (hc _ _ _ rfl).elim
    | exact (hs _ rfl).elim
    | (unfold binOp; constructor <;> simp [h])

/-- what is asked of the run of a binary operation -/
def binRun (op : BinOp) (t : TypeId) (ox oy : Operand) (x y : Value) : Sem Value := do eqGuard op t ox oy x y; binOp op t x y

theorem binRun_plain {op : BinOp} {t : TypeId} {ox oy : Operand} {x y : Value} (hx : (∀ cs, x ≠ .agg cs) ∧ (x ≠ .nilIface ∨ y ≠ .nilIface)) (w : World) :
    (binRun op t ox oy x y).run P w = (binOp op t x y).run P w := by
  unfold binRun
  have : (eqGuard op t ox oy x y).run P w = .ok () w := by
    unfold eqGuard
    cases x <;> first
      | exact (hx.1 _ rfl).elim
      | (cases y <;> first
          | (rcases hx.2 with h | h <;> exact (h rfl).elim)
          | (cases op <;> simp))
  simp [this]

theorem binW_sound {op : BinOp} {t : TypeId} {ox oy : Operand} {x y : Value} {ty : TypeId} {c : Value → W} {w : World} (h : binW P op t ox oy x y ty c w) :
    ∃ v, (∀ w', (binRun op t ox oy x y).run P w' = .ok v w') ∧ c v w := by
  have other : (PrW P (binRun op t ox oy x y) fun v => opn P ty v c) w → ∃ v, (∀ w', (binRun op t ox oy x y).run P w' = .ok v w') ∧ c v w :=
    fun ⟨v, hv, hc⟩ => ⟨v, hv, opn_sound hc⟩
  unfold binW at h
  split at h
  · rename_i hif
    obtain ⟨ms, hu⟩ : ∃ ms, P.underlying t = some (.interface ms) := by
      unfold ifaceP at hif
      split at hif
      · exact ⟨_, by assumption⟩
      · cases hif
    have key : ∀ (z : Operand) (u : Value), oy = .const u → y = .nilIface → isI x = true → ∀ w', (binRun .eql t ox oy x y).run P w' = .ok (.bool (isNilI x)) w' ∧ (binRun .neq t ox oy x y).run P w' = .ok (.bool (!isNilI x)) w' := by
      intro z u hoy hy hx w'
      subst hoy; subst hy
      cases x <;> first
        | (cases hx; done)
        | skip
      · rename_i tt v
        have plain : ∀ op w', (binRun op t ox (.const u) (.iface tt v) .nilIface).run P w' = (binOp op t (.iface tt v) .nilIface).run P w' :=
          fun op => binRun_plain ⟨fun _ => by simp, .inl (by simp)⟩
        exact ⟨(plain _ w').trans (bin_eql (by simp) (by simp) (by simp) (by simp) (eq_iface hu _ _ w')).1, (plain _ w').trans (bin_eql (by simp) (by simp) (by simp) (by simp) (eq_iface hu _ _ w')).2⟩
      · have plain : ∀ op w', (binRun op t ox (.const u) .nilIface .nilIface).run P w' = (binOp op t .nilIface .nilIface).run P w' := fun op w' => by
          unfold binRun
          have : (eqGuard op t ox (.const u) .nilIface .nilIface).run P w' = .ok () w' := by
            unfold eqGuard
            cases op <;> simp
          simp [this]
        exact ⟨(plain _ w').trans (bin_eql (by simp) (by simp) (by simp) (by simp) (eq_nilI hu w')).1, (plain _ w').trans (bin_eql (by simp) (by simp) (by simp) (by simp) (eq_nilI hu w')).2⟩
    split at h
    · exact ⟨_, fun w' => (key ox _ rfl rfl h.1 w').1, h.2⟩
    · exact ⟨_, fun w' => (key ox _ rfl rfl h.1 w').2, h.2⟩
    · exact other h
  rename_i hif
  split at h
  · -- ints
    rename_i k a k' b
    have plain : ∀ w', (binRun op t ox oy (.int k a) (.int k' b)).run P w' = (binOp op t (.int k a) (.int k' b)).run P w' :=
      binRun_plain ⟨fun _ => by simp, .inl (by simp)⟩
    split at h
    · obtain ⟨h1, h2⟩ := h
      exact ⟨_, fun w' => by rw [plain]; simp [binOp, Op.shift, Int.not_lt.2 h1, shlI], h2⟩
    · obtain ⟨h1, h2⟩ := h
      exact ⟨_, fun w' => by rw [plain]; simp [binOp, Op.shift, Int.not_lt.2 h1, shrI], h2⟩
    · split at h
      · rename_i hk
        subst hk
        obtain ⟨v, hv, hc⟩ := binI_sound (P := P) h t
        exact ⟨v, fun w' => by rw [plain]; exact hv w', hc⟩
      · exact (h : False).elim
  · rename_i a b
    have plain : ∀ op w', (binRun op t ox oy (.string a) (.string b)).run P w' = (binOp op t (.string a) (.string b)).run P w' :=
      fun op => binRun_plain ⟨fun _ => by simp, .inl (by simp)⟩
    split at h
    · obtain ⟨h1, h2⟩ := h
      exact ⟨_, fun w' => by rw [plain]; simp only [binOp, Op.stringOp]; rw [if_neg (Int.not_lt.2 h1)]; rfl, h2⟩
    · exact ⟨_, fun w' => by rw [plain]; simp [binOp, Op.stringOp], h⟩
    · exact ⟨_, fun w' => by rw [plain]; simp [binOp, Op.stringOp], h⟩
    · exact ⟨_, fun w' => by rw [plain]; simp [binOp, Op.stringOp], h⟩
    · exact other h
  · rename_i a
    have plain : ∀ op w', (binRun op t ox oy (.pointer a) (.pointer none)).run P w' = (binOp op t (.pointer a) (.pointer none)).run P w' :=
      fun op => binRun_plain ⟨fun _ => by simp, .inl (by simp)⟩
    cases hu : P.underlying t with
    | none => rw [hu] at h; cases op <;> exact other h
    | some d =>
      rw [hu] at h
      cases op <;> cases d <;> first
        | exact other h
        | exact ⟨_, fun w' => (plain _ w').trans (bin_eql (by simp) (by simp) (by simp) (by simp) (eq_ptr hu _ w')).1, h⟩
        | exact ⟨_, fun w' => (plain _ w').trans (bin_eql (by simp) (by simp) (by simp) (by simp) (eq_ptr hu _ w')).2, h⟩
  · rename_i a n1 c1 n2 c2
    have plain : ∀ op w', (binRun op t ox oy (.slice a n1 c1) (.slice none n2 c2)).run P w' = (binOp op t (.slice a n1 c1) (.slice none n2 c2)).run P w' :=
      fun op => binRun_plain ⟨fun _ => by simp, .inl (by simp)⟩
    cases hu : P.underlying t with
    | none => rw [hu] at h; cases op <;> exact other h
    | some d =>
      rw [hu] at h
      cases op <;> cases d <;> first
        | exact other h
        | exact ⟨_, fun w' => (plain _ w').trans (bin_eql (by simp) (by simp) (by simp) (by simp) (eq_slice hu _ _ _ _ _ w')).1, h⟩
        | exact ⟨_, fun w' => (plain _ w').trans (bin_eql (by simp) (by simp) (by simp) (by simp) (eq_slice hu _ _ _ _ _ w')).2, h⟩
  · rename_i a
    have plain : ∀ op w', (binRun op t ox oy (.map a) (.map none)).run P w' = (binOp op t (.map a) (.map none)).run P w' :=
      fun op => binRun_plain ⟨fun _ => by simp, .inl (by simp)⟩
    cases hu : P.underlying t with
    | none => rw [hu] at h; cases op <;> exact other h
    | some d =>
      rw [hu] at h
      cases op <;> cases d <;> first
        | exact other h
        | exact ⟨_, fun w' => (plain _ w').trans (bin_eql (by simp) (by simp) (by simp) (by simp) (eq_map hu _ w')).1, h⟩
        | exact ⟨_, fun w' => (plain _ w').trans (bin_eql (by simp) (by simp) (by simp) (by simp) (eq_map hu _ w')).2, h⟩
  · rename_i tt vv
    have plain : ∀ op w', (binRun op t ox oy (.iface tt vv) .nilIface).run P w' = (binOp op t (.iface tt vv) .nilIface).run P w' :=
      fun op => binRun_plain ⟨fun _ => by simp, .inl (by simp)⟩
    cases hu : P.underlying t with
    | none => rw [hu] at h; cases op <;> exact other h
    | some d =>
      rw [hu] at h
      cases op <;> cases d <;> first
        | exact other h
        | exact ⟨_, fun w' => (plain _ w').trans (bin_eql (by simp) (by simp) (by simp) (by simp) (eq_iface hu _ _ w')).1, h⟩
        | exact ⟨_, fun w' => (plain _ w').trans (bin_eql (by simp) (by simp) (by simp) (by simp) (eq_iface hu _ _ w')).2, h⟩
  · exact other h
end
end Go.Proofs.Ytpliocedgiejiaa
