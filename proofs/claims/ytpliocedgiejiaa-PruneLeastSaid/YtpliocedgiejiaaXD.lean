/-
  The steps of single operations are sound: slices, the operations that look alone, those that act.
-/
import Derived.Test.YtpliocedgiejiaaXC
namespace Go.Proofs.Ytpliocedgiejiaa
open Go

section
variable {P : Program}

theorem run_bind_ok' {α β : Type} {m : Sem α} {f : α → Sem β} {v : α} {w w' : World} (h : m.run P w = .ok v w') : (m >>= f).run P w = (f v).run P w' := by
  simp [h]

theorem sb_ok {k : IntKind} {v : Int} {y : Nat} {code : BoundsCode} (h : 0 ≤ v ∧ v ≤ (y : Int)) (w : World) :
    (Instr.sliceBound (.int k v) y code).run P w = .ok v.toNat w := by
  simp [Instr.sliceBound, asIntOf, h]

theorem sliceAt_str {t : TypeId} (hu : P.underlying t = some .string) (x : Value) (lo hi mx : Option Value) (w : World) :
    (Instr.sliceAt t x lo hi mx).run P w = (Instr.slice t x lo hi mx).run P w := by
  unfold Instr.sliceAt; simp [run_under hu]
theorem sliceAt_slice {t e : TypeId} (hu : P.underlying t = some (.slice e)) (x : Value) (lo hi mx : Option Value) (w : World) :
    (Instr.sliceAt t x lo hi mx).run P w = (Instr.slice t x lo hi mx).run P w := by
  unfold Instr.sliceAt; simp [run_under hu]

theorem bounds_ok {isS : Bool} {len cap : Nat} {lo hi : Option Value} {l h : Nat} (w : World)
    (hh : (hi = none ∧ h = len) ∨ ∃ (k : IntKind) (v : Int), hi = some (.int k v) ∧ (0 ≤ v ∧ v ≤ (cap : Int)) ∧ h = v.toNat)
    (hl : (lo = none ∧ l = 0) ∨ ∃ (k : IntKind) (v : Int), lo = some (.int k v) ∧ (0 ≤ v ∧ v ≤ (h : Int)) ∧ l = v.toNat) :
    (Instr.sliceBounds isS len cap lo hi none).run P w = .ok (l, h, cap) w := by
  unfold Instr.sliceBounds
  rcases hh with ⟨rfl, rfl⟩ | ⟨k, v, rfl, hv, rfl⟩ <;> rcases hl with ⟨rfl, rfl⟩ | ⟨k', v', rfl, hv', rfl⟩
  · simp
  · simp [sb_ok hv']
  · simp [sb_ok hv]
  · simp [sb_ok hv, sb_ok hv']

theorem slice_str {t : TypeId} {s : ByteArray} {lo hi : Option Value} {l h : Nat} (hu : P.underlying t = some .string) (w : World)
    (hb : (Instr.sliceBounds false s.size s.size lo hi none).run P w = .ok (l, h, s.size) w) :
    (Instr.sliceAt t (.string s) lo hi none).run P w = .ok (.string (s.extract l h)) w := by
  rw [sliceAt_str hu]; unfold Instr.slice; simp [run_under hu, hb]

theorem slice_sl {t e : TypeId} {a : Option Addr} {n cap size : Nat} {lo hi : Option Value} {l h : Nat} (hu : P.underlying t = some (.slice e)) (hsz : sizeP P e = some size) (w : World)
    (hb : (Instr.sliceBounds true n cap lo hi none).run P w = .ok (l, h, cap) w) :
    (Instr.sliceAt t (.slice a n cap) lo hi none).run P w = .ok (.slice (subAddr a cap l size) (h - l) (cap - l)) w := by
  rw [sliceAt_slice hu]; unfold Instr.slice; simp [run_under hu, hb, run_size hsz, subAddr]

theorem sliceW_sound {t : TypeId} {x : Value} {lo hi mx : Option Value} {ty : TypeId} {c : Value → W} {w : World} (h : sliceW P t x lo hi mx ty c w) :
    ∃ v, (∀ w', (Instr.sliceAt t x lo hi mx).run P w' = .ok v w') ∧ c v w := by
  have other : (PrW P (Instr.sliceAt t x lo hi mx) fun v => opn P ty v c) w → ∃ v, (∀ w', (Instr.sliceAt t x lo hi mx).run P w' = .ok v w') ∧ c v w :=
    fun ⟨v, hv, hc⟩ => ⟨v, hv, opn_sound hc⟩
  unfold sliceW at h
  cases hu : P.underlying t with
  | none => rw [hu] at h; exact other h
  | some d =>
    rw [hu] at h
    cases d
    case string =>
      cases x <;> first | exact other h | skip
      rename_i s
      cases mx <;> first | exact other h | skip
      cases lo with
      | none =>
        cases hi with
        | none => exact ⟨_, fun w' => slice_str hu w' (bounds_ok w' (.inl ⟨rfl, rfl⟩) (.inl ⟨rfl, rfl⟩)), h⟩
        | some hv =>
          cases hv <;> first | exact other h | skip
          obtain ⟨h1, h2⟩ := h
          exact ⟨_, fun w' => slice_str hu w' (bounds_ok w' (.inr ⟨_, _, rfl, h1, rfl⟩) (.inl ⟨rfl, rfl⟩)), h2⟩
      | some lv =>
        cases lv <;> first | exact other h | skip
        cases hi with
        | none =>
          obtain ⟨h1, h2⟩ := h
          exact ⟨_, fun w' => slice_str hu w' (bounds_ok w' (.inl ⟨rfl, rfl⟩) (.inr ⟨_, _, rfl, h1, rfl⟩)), h2⟩
        | some hv =>
          cases hv <;> first | exact other h | skip
          obtain ⟨⟨h1, h2⟩, h3⟩ := h
          exact ⟨_, fun w' => slice_str hu w' (bounds_ok w' (.inr ⟨_, _, rfl, h1, rfl⟩) (.inr ⟨_, _, rfl, ⟨h2.1, by omega⟩, rfl⟩)), h3⟩
    case slice e =>
      cases x <;> first | exact other h | skip
      rename_i a n cap
      cases mx <;> first | exact other h | skip
      cases hsz : sizeP P e with
      | none => simp only [hsz] at h; exact (h : False).elim
      | some size =>
        simp only [hsz] at h
        cases lo with
        | none =>
          cases hi with
          | none => exact ⟨_, fun w' => slice_sl hu hsz w' (bounds_ok w' (.inl ⟨rfl, rfl⟩) (.inl ⟨rfl, rfl⟩)), h⟩
          | some hv =>
            cases hv <;> first | exact other h | skip
            obtain ⟨h1, h2⟩ := h
            exact ⟨_, fun w' => slice_sl hu hsz w' (bounds_ok w' (.inr ⟨_, _, rfl, h1, rfl⟩) (.inl ⟨rfl, rfl⟩)), h2⟩
        | some lv =>
          cases lv <;> first | exact other h | skip
          cases hi with
          | none =>
            obtain ⟨h1, h2⟩ := h
            exact ⟨_, fun w' => slice_sl hu hsz w' (bounds_ok w' (.inl ⟨rfl, rfl⟩) (.inr ⟨_, _, rfl, h1, rfl⟩)), h2⟩
          | some hv =>
            cases hv <;> first | exact other h | skip
            obtain ⟨⟨h1, h2⟩, h3⟩ := h
            exact ⟨_, fun w' => slice_sl hu hsz w' (bounds_ok w' (.inr ⟨_, _, rfl, h1, rfl⟩) (.inr ⟨_, _, rfl, ⟨h2.1, by omega⟩, rfl⟩)), h3⟩
    all_goals exact other h

theorem run_load1 {t : TypeId} {a : Addr} {v : Value} {w : World} (ha : aggP P t = some false) (h : w.cell? a = some v) : (loadVar t a).run P w = .ok v w := by
  unfold loadVar
  rw [run_bind_ok' (run_isAgg ha w)]
  simp [load, Sem.run, h]

theorem run_loadCF {a : Addr} : ∀ (cs : List Value) (i : Nat) (acc : Array Value) (w : World), (∀ j v, cs[j]? = some v → w.cell? (a.add (i + j)) = some v) →
    (loadCellsFrom a i cs.length acc).run P w = .ok (acc ++ cs.toArray) w := by
  intro cs
  induction cs with
  | nil => intro i acc w _; simp [loadCellsFrom]
  | cons c cs ih =>
    intro i acc w h
    have h0 := h 0 c rfl
    have := ih (i + 1) (acc.push c) w fun j v hj => by have := h (j + 1) v (by simpa using hj); rwa [show i + 1 + j = i + (j + 1) from by omega]
    simp only [List.length_cons, loadCellsFrom]
    have h0' : w.cell? (a.add i) = some c := by simpa using h0
    rw [run_bind_ok' (show (load (a.add i)).run P w = .ok c w from by simp [load, Sem.run, h0'])]
    rw [this]; simp

theorem run_loadN {t : TypeId} {a : Addr} {cs : List Value} {n : Nat} {w : World} (ha : aggP P t = some true) (hz : sizeP P t = some n) (hn : cs.length = n) (h : cellsAt w a cs) :
    (loadVar t a).run P w = .ok (.agg cs.toArray) w := by
  unfold loadVar
  rw [run_bind_ok' (run_isAgg ha w)]
  subst hn
  have hc : (loadCells a cs.length).run P w = .ok cs.toArray w := by
    unfold loadCells
    have := run_loadCF (P := P) (a := a) cs 0 #[] w (fun j v hj => by simpa using h j v hj)
    simpa using this
  simp only [if_true]
  rw [run_bind_ok' (run_size hz w), run_bind_ok' hc]
  rfl

theorem fieldPlace_ok {a : Addr} {fl : Field} {n : Nat} (h : sizeP P fl.type = some (n + 1)) (w : World) : (fieldPlace a fl).run P w = .ok (a.add fl.offset) w := by
  unfold fieldPlace; simp [run_size h]

theorem lookW_sound {S : World → Prop} {held : Bool} {o : Oper} {ρ : Operand → Value} {k : Value → W} {w : World} (h : lookW P S held o ρ k w) :
    ∃ v hd, (hd = Hold.here → held = false) ∧ FitsW P S w hd (execOp ρ o) v ∧ k v w := by
  have pure : ∀ {m : Sem Value} {v : Value}, execOp ρ o = (do Pure.pure (Next.value (← m))) → (∀ w', m.run P w' = .ok v w') → k v w →
      ∃ v hd, (hd = Hold.here → held = false) ∧ FitsW P S w hd (execOp ρ o) v ∧ k v w :=
    fun {m v} he hm hk => ⟨v, .pure, by simp, fun w' => by rw [he]; exact run_v (hm w'), hk⟩
  have pureV : ∀ {m : Sem Next} {v : Value}, execOp ρ o = m → (∀ w', m.run P w' = .ok (.value v) w') → k v w →
      ∃ v hd, (hd = Hold.here → held = false) ∧ FitsW P S w hd (execOp ρ o) v ∧ k v w :=
    fun {m v} he hm hk => ⟨v, .pure, by simp, fun w' => by rw [he]; exact hm w', hk⟩
  have prw : ∀ {m : Sem Value} {ty : TypeId}, execOp ρ o = (do Pure.pure (Next.value (← m))) → (PrW P m fun v => opn P ty v k) w →
      ∃ v hd, (hd = Hold.here → held = false) ∧ FitsW P S w hd (execOp ρ o) v ∧ k v w :=
    fun {m ty} he ⟨v, hv, hc⟩ => pure he hv (opn_sound hc)
  have look : ∀ {m : Sem Value} {ty : TypeId}, execOp ρ o = (do Pure.pure (Next.value (← m))) →
      (if held then ShW P S m fun v => opn P ty v k else SrW P m fun v => opn P ty v k) w →
      ∃ v hd, (hd = Hold.here → held = false) ∧ FitsW P S w hd (execOp ρ o) v ∧ k v w := fun {m ty} he hh => by
    cases held with
    | true =>
      obtain ⟨v, hv, hc⟩ := (hh : (ShW P S m fun v => opn P ty v k) w)
      exact ⟨v, .held, by simp, fun w' hS => by rw [he]; exact run_v (hv w' hS), opn_sound hc⟩
    | false =>
      obtain ⟨v, hv, hc⟩ := (hh : (SrW P m fun v => opn P ty v k) w)
      exact ⟨v, .here, fun _ => rfl, by show (execOp ρ o).run P w = _; rw [he]; exact run_v hv, opn_sound hc⟩
  obtain ⟨dst, op, type, pos, after, guard⟩ := o
  unfold lookW at h
  cases op <;> (try simp only at h) <;> try exact (h : False).elim
  case move x => exact pureV rfl (fun _ => rfl) h
  case assign x => exact pureV rfl (fun _ => rfl) h
  case pick c x y =>
    cases hc : ρ c <;> simp only [hc] at h <;> try exact (h : False).elim
    rename_i b
    have fin : ∀ u, (if b = true then ρ x else ρ y) = u → k u w → _ := fun u hu hk =>
      pureV (m := Pure.pure (Next.value u)) (by subst hu; simp only [execOp, hc, asBool]; rfl) (fun _ => rfl) hk
    cases hu : P.underlying type with
    | none => simp only [hu] at h; exact fin _ rfl h
    | some d =>
      simp only [hu] at h
      cases d <;> (try dsimp only at h) <;> try exact fin _ rfl h
      cases hx : ρ x <;> simp only [hx] at h <;> cases hy : ρ y <;> simp only [hy] at h <;> first
        | exact (h : False).elim
        | (refine fin _ ?_ h; rw [hx, hy]; cases b <;> rfl)
        | (cases b
           · exact (h : False).elim
           · exact fin _ (by rw [hx]; rfl) h)
        | (cases b
           · exact fin _ (by rw [hy]; rfl) h
           · exact (h : False).elim)
  case nilCheck x =>
    split at h
    · obtain ⟨t, u, he, h⟩ := h
      exact pureV (m := Pure.pure (Next.value (.iface t u))) (by simp only [execOp, he]) (fun _ => rfl) h
    cases hx : ρ x <;> simp only [hx] at h <;> try exact (h : False).elim
    case pointer p =>
      cases p with
      | none => exact (h : False).elim
      | some a => exact pureV (m := Pure.pure (Next.value (.pointer (some a)))) (by simp only [execOp, hx]) (fun _ => rfl) h
    case func f fs cs =>
      cases f <;> try exact (h : False).elim
      exact pureV (m := Pure.pure (Next.value (.func _ fs cs))) (by simp only [execOp, hx]) (fun _ => rfl) h
    case iface t v => exact pureV (m := Pure.pure (Next.value (.iface t v))) (by simp only [execOp, hx]) (fun _ => rfl) h
  case binOp op t x y yt =>
    obtain ⟨v, hv, hc⟩ := binW_sound h
    exact pure (m := binRun op t x y (ρ x) (ρ y)) rfl hv hc
  case unOp op t x =>
    cases op <;> cases hx : ρ x <;> simp only [hx] at h <;> first
      | exact pure (m := Op.unary _ (ρ x)) rfl (fun w' => by rw [hx]; rfl) h
      | exact prw (m := Op.unary _ (ρ x)) rfl (by rw [hx]; exact h)
  case convert s d x =>
    have other : (PrW P (convert s d (ρ x)) fun v => opn P type v k) w → _ := prw (m := convert s d (ρ x)) rfl
    cases hs : P.underlying s with
    | none => simp only [hs] at h; exact other h
    | some ds =>
      cases hd : P.underlying d with
      | none => simp only [hs, hd] at h; cases ds <;> exact other h
      | some dd =>
        simp only [hs, hd] at h
        cases ds <;> try exact other h
        cases dd <;> try exact other h
        cases hx : ρ x <;> simp only [hx] at h other <;> try exact other h
        exact pure (m := convert s d (ρ x)) rfl (fun w' => by rw [hx]; unfold convert; simp [run_under hs, run_under hd, Conv.intToInt]) h
  case makeInterface t x =>
    cases hu : P.underlying t with
    | none => simp only [hu] at h; exact (h : False).elim
    | some d =>
      simp only [hu] at h
      have hm : (∀ ms, d ≠ .interface ms) → k (.iface t (ρ x)) w → _ := fun hd hk =>
        pure (m := Instr.makeInterface t (ρ x)) rfl (fun w' => by unfold Instr.makeInterface; simp only [Sem.run_bind, run_under hu]; cases d <;> first | rfl | exact (hd _ rfl).elim) hk
      cases d <;> first | exact (h : False).elim | exact hm (by simp) h
  case makeFunc f a c => exact pure (m := Instr.makeFunc f (a.map ρ) (c.map ρ)) rfl (fun _ => rfl) h
  case slice t x lo hi mx =>
    obtain ⟨v, hv, hc⟩ := sliceW_sound h
    exact pure (m := Instr.sliceAt t (ρ x) (lo.map ρ) (hi.map ρ) (mx.map ρ)) rfl hv hc
  case fieldAddr s x f =>
    cases hx : ρ x <;> simp only [hx] at h <;> try exact (h : False).elim
    rename_i p
    cases hu : P.underlying s with
    | none => simp only [hu] at h; exact (h : False).elim
    | some d =>
      simp only [hu] at h
      cases d <;> (try dsimp only at h) <;> try exact (h : False).elim
      rename_i fs
      cases hf : fs[f]? with
      | none => simp only [hf] at h; exact (h : False).elim
      | some fl =>
        simp only [hf] at h
        cases hz : sizeP P fl.type with
        | none => simp only [hz] at h; exact (h : False).elim
        | some n =>
          simp only [hz] at h
          cases n with
          | zero => exact (h : False).elim
          | succ n =>
            cases p with
            | none => exact (h : False).elim
            | some a =>
            exact pure (m := Instr.fieldAt s (ρ x) f) rfl (fun w' => by rw [hx]; unfold Instr.fieldAt; simp [run_under hu, hf, Instr.sureAddr, fieldPlace_ok hz]) h
  case field t x f =>
    cases hx : ρ x <;> simp only [hx] at h <;> try exact (h : False).elim
    rename_i cs
    cases hu : P.underlying t with
    | none => simp only [hu] at h; exact (h : False).elim
    | some d =>
      simp only [hu] at h
      cases d <;> (try dsimp only at h) <;> try exact (h : False).elim
      rename_i fs
      cases hf : fs[f]? with
      | none => simp only [hf] at h; exact (h : False).elim
      | some fl =>
        simp only [hf] at h
        cases ha : aggP P fl.type with
        | none => simp only [ha] at h; exact (h : False).elim
        | some b =>
          cases b with
          | true =>
            cases hz : sizeP P fl.type with
            | none => simp only [ha, hz] at h; exact (h : False).elim
            | some n =>
              simp only [ha, hz] at h
              exact pure (m := Instr.field t (ρ x) f) rfl (fun w' => by rw [hx]; unfold Instr.field part; simp [run_under hu, hf, run_isAgg ha, run_size hz, asAgg]) h
          | false =>
            simp only [ha] at h
            cases hc : cs[fl.offset]? with
            | none => simp only [hc] at h; exact (h : False).elim
            | some v =>
              simp only [hc] at h
              exact pure (m := Instr.field t (ρ x) f) rfl (fun w' => by rw [hx]; unfold Instr.field part; simp [run_under hu, hf, run_isAgg ha, hc, asAgg]) h
  case indexAddr t x ix =>
    cases hx : ρ x <;> simp only [hx] at h <;> try exact (h : False).elim
    case pointer p =>
      cases hi : ρ ix <;> simp only [hi] at h <;> try exact (h : False).elim
      rename_i kd i
      cases hu : P.underlying t with
      | none => simp only [hu] at h; exact (h : False).elim
      | some d =>
        simp only [hu] at h
        cases d <;> (try dsimp only at h) <;> try exact (h : False).elim
        rename_i n e
        cases hz : sizeP P e with
        | none => simp only [hz] at h; exact (h : False).elim
        | some size =>
          simp only [hz] at h
          cases p with
          | none => exact (h : False).elim
          | some a =>
            obtain ⟨h1, h2⟩ := h
            exact pure (m := Instr.indexAt t (ρ x) (ρ ix)) rfl (fun w' => by rw [hx, hi]; unfold Instr.indexAt; simp [run_under hu, asIntOf, Instr.sureAddr, h1, run_size hz]) h2
    case slice a n c =>
      cases hi : ρ ix <;> simp only [hi] at h <;> try exact (h : False).elim
      rename_i kd i
      cases hu : P.underlying t with
      | none => simp only [hu] at h; exact (h : False).elim
      | some d =>
        simp only [hu] at h
        cases d <;> (try dsimp only at h) <;> try exact (h : False).elim
        rename_i e
        cases hz : sizeP P e with
        | none => simp only [hz] at h; exact (h : False).elim
        | some size =>
          simp only [hz] at h
          obtain ⟨y, rfl, h1, h2⟩ := h
          exact pure (m := Instr.indexAt t (ρ x) (ρ ix)) rfl (fun w' => by rw [hx, hi]; unfold Instr.indexAt; simp [run_under hu, asIntOf, h1, run_size hz]) h2
  case index t x ix =>
    have other : (PrW P (Instr.index t (ρ x) (ρ ix)) fun v => opn P type v k) w → _ := prw (m := Instr.index t (ρ x) (ρ ix)) rfl
    cases hx : ρ x <;> simp only [hx] at h other <;> try exact other h
    rename_i s
    cases hi : ρ ix <;> simp only [hi] at h other <;> try exact other h
    rename_i kd i
    cases hu : P.underlying t with
    | none => simp only [hu] at h; exact other h
    | some d =>
      simp only [hu] at h
      cases d <;> (try dsimp only at h) <;> try exact other h
      obtain ⟨b, h1, h2, h3⟩ := h
      exact pure (m := Instr.index t (ρ x) (ρ ix)) rfl (fun w' => by rw [hx, hi]; unfold Instr.index; simp [run_under hu, asIntOf, h1, h2]) h3
  case extract t ix =>
    cases ht : ρ t <;> simp only [ht] at h <;> try exact (h : False).elim
    rename_i vs
    cases hv : vs[ix]? with
    | none => simp only [hv] at h; exact (h : False).elim
    | some v =>
      simp only [hv] at h
      exact pure (m := Instr.extract (ρ t) ix) rfl (fun w' => by rw [ht]; unfold Instr.extract; simp [hv]) h
  case build t ps =>
    obtain ⟨hv, hk⟩ := h
    exact pure (m := Instr.build t (ps.map fun (i, x) => (i, ρ x))) rfl hv hk
  case load t x =>
    cases hx : ρ x <;> simp only [hx] at h <;> try exact (h : False).elim
    rename_i p
    cases p with
    | none => exact (h : False).elim
    | some a =>
    have he : execOp ρ { dst := dst, op := Op.load t x, type := type, pos := pos, after := after, guard := guard } = (do Pure.pure (Next.value (← Instr.loadAt t (.pointer (some a))))) := by
      simp only [execOp, hx]
    have hl : ∀ w', (Instr.loadAt t (.pointer (some a))).run P w' = (loadVar t a).run P w' := fun w' => by unfold Instr.loadAt; simp [Instr.sureAddr]
    have h' : (match aggP P t with
      | some false => if held then LhW S a fun v => opn P type v k else LdW a fun v => opn P type v k
      | some true => match sizeP P t with
        | some n => if held then LgW S n a fun v => opn P type v k else LnW n a fun v => opn P type v k
        | none => FlW
      | none => FlW) w := h
    cases ha : aggP P t with
    | none => rw [ha] at h'; exact (h' : False).elim
    | some ag =>
      rw [ha] at h'
      cases ag with
      | false =>
        cases held with
        | true =>
          obtain ⟨v, hv, hc⟩ := (h' : (LhW S a fun v => opn P type v k) w)
          exact ⟨v, .held, by simp, fun w' hS => by rw [he]; exact run_v ((hl w').trans (run_load1 ha (hv w' hS))), opn_sound hc⟩
        | false =>
          obtain ⟨v, hv, hc⟩ := (h' : (LdW a fun v => opn P type v k) w)
          exact ⟨v, .here, fun _ => rfl, by show Sem.run P (execOp ρ _) w = _; rw [he]; exact run_v ((hl w).trans (run_load1 ha hv)), opn_sound hc⟩
      | true =>
        cases hz : sizeP P t with
        | none => simp only [hz] at h'; exact (h' : False).elim
        | some n =>
          simp only [hz] at h'
          cases held with
          | true =>
            obtain ⟨cs, hn, hv, hc⟩ := (h' : (LgW S n a fun v => opn P type v k) w)
            exact ⟨_, .held, by simp, fun w' hS => by rw [he]; exact run_v ((hl w').trans (run_loadN ha hz hn (hv w' hS))), opn_sound hc⟩
          | false =>
            obtain ⟨cs, hn, hv, hc⟩ := (h' : (LnW n a fun v => opn P type v k) w)
            exact ⟨_, .here, fun _ => rfl, by show Sem.run P (execOp ρ _) w = _; rw [he]; exact run_v ((hl w).trans (run_loadN ha hz hn hv)), opn_sound hc⟩
  case lookup t x ix ok => exact look (m := Instr.lookup t (ρ x) (ρ ix) ok) rfl h
  case typeAssert x t d ok =>
    obtain ⟨v, hv, hk⟩ := h
    split at hk
    · obtain ⟨u, b, he2, hk2⟩ := gen1_sound hk; subst he2
      exact pure (m := Instr.typeAssert (ρ x) t d ok) rfl hv hk2
    · exact pure (m := Instr.typeAssert (ρ x) t d ok) rfl hv (opn_sound hk)
  case call c =>
    obtain ⟨callee, args, argTypes⟩ := c
    cases callee <;> try exact (h : False).elim
    rename_i b
    have he : execOp ρ { dst := dst, op := Op.call { callee := .builtin b, args := args, argTypes := argTypes }, type := type, pos := pos, after := after, guard := guard } =
        builtin b argTypes type (args.map fun | .const _ => true | _ => false) (args.map ρ) := by
      simp only [execOp, resolve, invoke]; rfl
    have hargs : ∀ {l : List Value}, args.toList.map ρ = l → args.map ρ = l.toArray := fun {l} hl => by
      rw [← hl, ← Array.toList_map]
    have ty : ∀ {d : TypeDesc}, (argTypes[0]?).bind P.underlying = some d → ∃ t, argTypes[0]? = some t ∧ P.underlying t = some d := fun {d} hu => by
      cases ha : argTypes[0]? with
      | none => rw [ha] at hu; cases hu
      | some t => rw [ha] at hu; exact ⟨t, rfl, hu⟩
    cases b <;> (try dsimp only at h) <;> (try exact (h : False).elim)
    case cap =>
      generalize hl : args.toList.map ρ = l at h
      generalize hu : (argTypes[0]?).bind P.underlying = u at h
      rcases l with _ | ⟨v, _ | ⟨v2, l⟩⟩ <;> try exact (h : False).elim
      · cases v <;> try exact (h : False).elim
        cases u <;> try exact (h : False).elim
        rename_i d
        cases d <;> try exact (h : False).elim
        obtain ⟨t, ha, hu'⟩ := ty hu
        exact pure (m := Builtin.cap_ argTypes type (args.map ρ)) he (fun w' => by rw [hargs hl]; unfold Builtin.cap_; simp [ha, run_under hu', goInt]) h
      · cases v <;> exact (h : False).elim
    case len =>
      generalize hl : args.toList.map ρ = l at h
      generalize hu : (argTypes[0]?).bind P.underlying = u at h
      rcases l with _ | ⟨v, _ | ⟨v2, l⟩⟩ <;> try exact (h : False).elim
      · have other : (if held then ShW P S (Builtin.len_ argTypes type #[v]) fun v => opn P type v k else SrW P (Builtin.len_ argTypes type #[v]) fun v => opn P type v k) w → _ :=
          fun h => look (m := Builtin.len_ argTypes type #[v]) (by rw [he, hargs hl]; rfl) h
        cases v <;> try exact other h
        · cases u <;> try exact (h : False).elim
          rename_i d
          cases d <;> try exact (h : False).elim
          obtain ⟨t, ha, hu'⟩ := ty hu
          exact pure (m := Builtin.len_ argTypes type (args.map ρ)) he (fun w' => by rw [hargs hl]; unfold Builtin.len_; simp [ha, run_under hu', goInt]) h
        · cases u <;> try exact (h : False).elim
          rename_i d
          cases d <;> try exact (h : False).elim
          obtain ⟨t, ha, hu'⟩ := ty hu
          exact pure (m := Builtin.len_ argTypes type (args.map ρ)) he (fun w' => by rw [hargs hl]; unfold Builtin.len_; simp [ha, run_under hu', goInt]) h
      · cases v <;> exact (h : False).elim
    case min =>
      generalize hl : args.toList.map ρ = l at h
      rcases l with _ | ⟨v, _ | ⟨v2, _ | ⟨v3, _ | ⟨v4, l⟩⟩⟩⟩ <;> try exact (h : False).elim
      · cases v <;> exact (h : False).elim
      · cases v <;> try exact (h : False).elim
        cases v2 <;> try exact (h : False).elim
        exact pure (m := Builtin.min_ argTypes type (args.map ρ)) he (fun w' => by rw [hargs hl]; unfold Builtin.min_; simp [Builtin.min2, mn]) h
      · cases v <;> try exact (h : False).elim
        cases v2 <;> try exact (h : False).elim
        cases v3 <;> try exact (h : False).elim
        exact pure (m := Builtin.min_ argTypes type (args.map ρ)) he (fun w' => by rw [hargs hl]; unfold Builtin.min_; simp [Builtin.min2, mn]; try rfl) h
      · cases v <;> try exact (h : False).elim
        cases v2 <;> try exact (h : False).elim
        cases v3 <;> exact (h : False).elim
    case max =>
      generalize hl : args.toList.map ρ = l at h
      rcases l with _ | ⟨v, _ | ⟨v2, _ | ⟨v3, _ | ⟨v4, l⟩⟩⟩⟩ <;> try exact (h : False).elim
      · cases v <;> exact (h : False).elim
      · cases v <;> try exact (h : False).elim
        cases v2 <;> try exact (h : False).elim
        exact pure (m := Builtin.max_ argTypes type (args.map ρ)) he (fun w' => by rw [hargs hl]; unfold Builtin.max_; simp [Builtin.max2, mx]) h
      · cases v <;> try exact (h : False).elim
        cases v2 <;> try exact (h : False).elim
        cases v3 <;> try exact (h : False).elim
        exact pure (m := Builtin.max_ argTypes type (args.map ρ)) he (fun w' => by rw [hargs hl]; unfold Builtin.max_; simp [Builtin.max2, mx]; try rfl) h
      · cases v <;> try exact (h : False).elim
        cases v2 <;> try exact (h : False).elim
        cases v3 <;> exact (h : False).elim
end
end Go.Proofs.Ytpliocedgiejiaa
