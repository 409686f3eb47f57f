/-
  What the functions of the pair compute.
-/
import Derived.Test.YtpliocedgiejiaaPA1
namespace Go.Proofs.Ytpliocedgiejiaa
open Go
section
variable [Base]

def vals (l : List Int) : List Value := l.map (.int .i64)
def tick (n : Int) : Value := .iface 51 (.agg #[.int .i64 n])
def tickV (l : List Int) : List Value := l.map tick

end
section
theorem elI : El Try.prog 22 3 1 8 [.int .i64 0] := ⟨Try.underlying22, by kernel_rfl, rfl, by decide⟩
end
section
variable [Base]
end
section
theorem elO : El Try.prog 27 40 1 16 [.nilIface] := ⟨Try.underlying27, by kernel_rfl, rfl, by decide⟩

end
section
variable [Base]
end
section
variable [Base] {w : World} {L : List Asn} {R : Value → W}

end
section
variable {w : World} {L : List Asn} {R : Value → W}
theorem vals_len (l : List Int) : (vals l).length = l.length := by simp [vals]
end
section
variable [Base] {w : World} {L : List Asn} {R : Value → W}
end
section
variable {w : World} {L : List Asn} {R : Value → W}
theorem tickV_len (l : List Int) : (tickV l).length = l.length := by simp [tickV]

end
section
variable [Base] {w : World} {L : List Asn} {R : Value → W}
end
section
variable {w : World} {L : List Asn} {R : Value → W}
theorem one_int (n : Int) : ∀ u ∈ [Value.int .i64 n], u.oneCell' = true := by intro u hu; simp at hu; subst hu; rfl
end
section
variable [Base] {w : World} {L : List Asn} {R : Value → W}
end
section
variable {w : World} {L : List Asn} {R : Value → W}
theorem one_tick (n : Int) : ∀ u ∈ [tick n], u.oneCell' = true := by intro u hu; simp at hu; subst hu; rfl
end
section
variable [Base] {w : World} {L : List Asn} {R : Value → W}
end
section
variable {w : World} {L : List Asn} {R : Value → W}
theorem one_vals (l : List Int) : ∀ u ∈ vals l, u.oneCell' = true := by intro u hu; simp [vals] at hu; obtain ⟨_, _, rfl⟩ := hu; rfl
end
section
variable [Base] {w : World} {L : List Asn} {R : Value → W}
end
section
variable {w : World} {L : List Asn} {R : Value → W}
theorem one_tickV (l : List Int) : ∀ u ∈ tickV l, u.oneCell' = true := by intro u hu; simp [tickV] at hu; obtain ⟨_, _, rfl⟩ := hu; rfl

end
section
variable [Base] {w : World} {L : List Asn} {R : Value → W}
theorem c20 {n : Int} (hs : Sat w L) (hk : ∀ a w', Sat w' (Sl 3 1 (some a) 1 1 [.int .i64 n] :: L) → R (.tuple #[.slice (some a) 1 1, .slice none 0 0, .bool true]) w') :
    ClW Try.prog 20 #[tick n] R w := by
  refine w20 _ _ _ ?_
  unfold t20 tick
  refine ta_ne Try.underlying58 (by simp) (z := .agg #[.int .i64 0, .int .i64 0]) (by kernel_rfl) (by decide) ⟨_, _, _, rfl, bcf rfl ?_⟩
  refine ta_ne Try.underlying60 (by simp) (z := .agg #[.int .i64 0]) (by kernel_rfl) (by decide) ⟨_, _, rfl, bcf rfl ?_⟩
  refine ta_ne Try.underlying62 (by simp) (z := .agg #[.int .i64 0, .int .i64 0]) (by kernel_rfl) (by decide) ⟨_, _, _, rfl, bcf rfl ?_⟩
  refine ta_ne Try.underlying63 (by simp) (z := .agg #[.int .i64 0, .int .i64 0]) (by kernel_rfl) (by decide) ⟨_, _, _, rfl, bcf rfl ?_⟩
  refine ta_ne Try.underlying64 (by simp) (z := .agg #[.int .i64 0]) (by kernel_rfl) (by decide) ⟨_, _, rfl, bcf rfl ?_⟩
  refine ta_ne Try.underlying65 (by simp) (z := .agg #[.int .i64 0]) (by kernel_rfl) (by decide) ⟨_, _, rfl, bcf rfl ?_⟩
  refine ta_ne Try.underlying67 (by simp) (z := .agg #[.int .i64 0, .int .i64 0, .int .i64 0]) (by kernel_rfl) (by decide) ⟨_, _, _, _, rfl, bcf rfl ?_⟩
  refine ta_ne Try.underlying69 (by simp) (z := .agg #[.int .i64 0, .int .i64 0, .string ⟨#[]⟩]) (by kernel_rfl) (by decide) ⟨_, _, _, _, rfl, bcf rfl ?_⟩
  refine ta_ne Try.underlying70 (by simp) (z := .agg #[.int .i64 0, .int .i64 0, .int .i64 0]) (by kernel_rfl) (by decide) ⟨_, _, _, _, rfl, bcf rfl ?_⟩
  refine ta_eq Try.underlying51 (by simp) ⟨_, _, rfl, bct rfl ?_⟩
  refine nb hs fun b w1 hs => ?_
  refine sn hs 0 rfl (by simp) fun w2 hs => ?_
  refine lda hs 0 rfl rfl ⟨_, rfl, ?_⟩
  refine bs elI hs (cs := [.int .i64 n]) (by decide) (by kernel_rfl) rfl fun a w3 hs => ⟨_, _, _, rfl, ?_⟩
  exact hk _ _ (Sat.tail (Sat.swap hs))

theorem c13 {n : Int} (hs : Sat w L) (hk : ∀ a w', Sat w' (Sl 3 1 (some a) 1 1 [.int .i64 n] :: L) → R (.slice (some a) 1 1) w') : ClW Try.prog 13 #[tick n] R w := by
  refine w13 _ _ _ (c20 hs fun a w' hs' => ⟨_, _, _, _, _, _, _, rfl, bct rfl (hk a w' hs')⟩)

end
section
variable {w : World} {L : List Asn} {R : Value → W}
theorem wrap_small {n : Int} (h : -9223372036854775808 ≤ n) (h2 : n ≤ 9223372036854775807) : IntKind.wrap .i64 n = n := by rw [IntKind.wrap_i64]; omega

end
section
variable [Base] {w : World} {L : List Asn} {R : Value → W}
end
section
variable {w : World} {L : List Asn} {R : Value → W}
theorem map_at {α : Type} (f : α → Value) (pre : List α) (x : α) (r : List α) : ((pre ++ x :: r).map f)[pre.length]? = some (f x) := by simp

end
section
variable [Base] {w : World} {L : List Asn} {R : Value → W}
end
section
variable {w : World} {L : List Asn} {R : Value → W}
theorem idx_nat (k : Nat) : ((k : Int)).toNat = k := by simp

end
section
variable [Base] {w : World} {L : List Asn} {R : Value → W}
/-- a row as told -/
def bitAt (kinds n : Int) : Bool := andI .u64 (shrI .u64 (IntKind.wrap .u64 kinds) (Int.tmod (IntKind.wrap .u64 n) 60)) 1 == 1
def cntM (kinds : Int) : List Int → Int → Int
  | [], a => a
  | n :: r, a => cntM kinds r (if bitAt kinds n = true then IntKind.wrap .i64 (a + 1) else a)
def hasM (l : List Int) (kinds least : Int) : Bool := decide (cntM kinds l 0 ≥ least)

end
section
variable {w : World} {L : List Asn} {R : Value → W}
theorem tmod_ok (n : Int) : (0 : Int) ≤ Int.tmod (IntKind.wrap .u64 n) 60 := by
  refine Int.tmod_nonneg _ ?_
  rw [IntKind.wrap_u64]; omega

end
section
variable [Base] {w : World} {L : List Asn} {R : Value → W}
theorem lp17 {A : Asn} {i : Nat} {a : Option Addr} {c : Nat} {l : List Int} {kinds least : Int} {b : Bool} (hs : Sat w L) (hi : L[i]? = some A) (hr : Reads A a (vals l)) (hb : l.length ≤ 1000000) {Kr K0 : List Value → W} :
    ∀ (r pre : List Int) (acc : Int), l = pre ++ r → K0 [.int .i64 (l.length : Int), .int .i64 (cntM kinds r acc), .bool b, .slice a l.length c, .int .i64 kinds, .int .i64 least] w →
      L17_0 Kr K0 [.int .i64 (pre.length : Int), .int .i64 acc, .bool b, .slice a l.length c, .int .i64 kinds, .int .i64 least] w := by
  intro r
  induction r with
  | nil =>
    intro pre acc hl hk
    refine u17_0 _ _ _ _ _ _ _ _ _ _ _ (bcf ?_ ?_)
    · simp [hl]
    · rw [hl] at hk ⊢; simpa [cntM] using hk
  | cons x r ih =>
    intro pre acc hl hk
    have hlen : l.length = pre.length + (r.length + 1) := by simp [hl]
    have hget : (vals l)[((pre.length : Int)).toNat]? = some (.int .i64 x) := by rw [idx_nat, hl]; exact map_at _ pre x r
    refine u17_0 _ _ _ _ _ _ _ _ _ _ _ (bct (by simp; omega) (jn' ?_))
    refine ixl1 hs i hi hr (by omega) (by omega) hget ⟨_, rfl, by decide, tmod_ok x, ?_⟩
    have hw : IntKind.wrap .i64 ((pre.length : Int) + 1) = ((pre ++ [x]).length : Int) := by rw [wrap_small (by omega) (by omega)]; simp
    refine bc (fun hbit => ⟨_, _, _, _, _, _, _, _, rfl, ?_⟩) (fun hbit => ⟨_, _, _, _, _, _, _, _, rfl, ?_⟩)
    · rw [hw]
      refine ih (pre ++ [x]) _ (by simp [hl]) ?_
      have : cntM kinds (x :: r) acc = cntM kinds r (IntKind.wrap .i64 (acc + 1)) := by
        show cntM kinds r (if bitAt kinds x = true then _ else _) = _
        rw [if_pos (show bitAt kinds x = true from hbit)]
      rw [← this]; exact hk
    · rw [hw]
      refine ih (pre ++ [x]) _ (by simp [hl]) ?_
      have : cntM kinds (x :: r) acc = cntM kinds r acc := by
        show cntM kinds r (if bitAt kinds x = true then _ else _) = _
        rw [if_neg (by unfold bitAt; rw [hbit]; simp)]
      rw [← this]; exact hk

theorem c17 {A : Asn} {i : Nat} {a : Option Addr} {n c : Nat} {l : List Int} {kinds least : Int} (hs : Sat w L) (hi : L[i]? = some A) (hr : Reads A a (vals l)) (hn : n = l.length) (hb : l.length ≤ 1000000)
    (hk : R (.bool (hasM l kinds least)) w) : ClW Try.prog 17 #[.slice a n c, .int .i64 kinds, .int .i64 least] R w := by
  subst hn
  refine w17 _ _ _ _ _ _ _ ?_
  exact lp17 hs hi hr hb l [] 0 rfl ⟨_, _, _, _, _, _, _, _, rfl, hk⟩

theorem lp18 {A : Asn} {i : Nat} {a : Option Addr} {c : Nat} {l : List Int} {t2 : Option Addr} {t2l t2c : Nat} (hi : L[i]? = some A) (hr : Reads A a (tickV l)) (hb : l.length ≤ 1000000) {Kr K0 : List Value → W} :
    ∀ (r pre : List Int) (w : World) (a3 : Option Addr) (c3 : Nat), l = pre ++ r → Sat w (Sl 3 1 a3 pre.length c3 (vals pre) :: L) →
      (∀ a' c' w', Sat w' (Sl 3 1 a' l.length c' (vals l) :: L) → K0 [.int .i64 (l.length : Int), .slice a' l.length c', .slice t2 t2l t2c, .slice a l.length c] w') →
      L18_0 Kr K0 [.int .i64 (pre.length : Int), .slice a3 pre.length c3, .slice t2 t2l t2c, .slice a l.length c] w := by
  intro r
  induction r with
  | nil =>
    intro pre w a3 c3 hl hs hk
    rw [List.append_nil] at hl
    subst hl
    refine u18_0 _ _ _ _ _ _ _ _ _ _ _ _ _ (bcf (by simp) (hk _ _ _ hs))
  | cons x r ih =>
    intro pre w a3 c3 hl hs hk
    have hlen : l.length = pre.length + (r.length + 1) := by simp [hl]
    have hget : (tickV l)[((pre.length : Int)).toNat]? = some (tick x) := by rw [idx_nat, hl]; exact map_at _ pre x r
    refine u18_0 _ _ _ _ _ _ _ _ _ _ _ _ _ (bct (by simp; omega) (jn' ?_))
    refine ixl1 hs (i + 1) hi hr (by omega) (by omega) hget ⟨_, rfl, ?_⟩
    refine c13 hs fun a4 w1 hs => ⟨_, _, _, rfl, bct (by decide) ?_⟩
    refine ixl1 hs 0 rfl Sl.reads (by decide) (by decide) rfl ⟨_, rfl, ?_⟩
    refine bs elI hs (cs := [.int .i64 x]) (by decide) (by kernel_rfl) rfl fun a5 w2 hs => ⟨_, _, _, rfl, ?_⟩
    refine ap elI hs 2 rfl (hs.rd 0 rfl Sl.reads) (by simp) (one_int x) (by simp only [maxLen]; omega) (by omega) fun a6 c6 w3 hs => ⟨_, _, _, rfl, ?_⟩
    have hw : IntKind.wrap .i64 ((pre.length : Int) + 1) = ((pre ++ [x]).length : Int) := by rw [wrap_small (by omega) (by omega)]; simp
    have hv : vals pre ++ [.int .i64 x] = vals (pre ++ [x]) := by simp [vals]
    have hs' : Sat w3 (Sl 3 1 a6 (pre.length + 1) c6 (vals (pre ++ [x])) :: L) := by rw [← hv]; exact hs.tail.tail
    refine ⟨_, _, _, _, _, _, _, _, _, _, rfl, ?_⟩
    rw [hw]
    have := ih (pre ++ [x]) w3 a6 c6 (by simp [hl]) (by simpa using hs') hk
    simpa using this

theorem c18 {A : Asn} {i : Nat} {a : Option Addr} {n c : Nat} {l : List Int} (hs : Sat w L) (hi : L[i]? = some A) (hr : Reads A a (tickV l)) (hn : n = l.length) (hb : l.length ≤ 1000000)
    (hk : ∀ a' c' w', Sat w' (Sl 3 1 a' l.length c' (vals l) :: L) → R (.slice a' l.length c') w') : ClW Try.prog 18 #[.slice a n c] R w := by
  subst hn
  refine w18 _ _ _ _ _ ?_
  refine bs elI hs (cs := []) (by decide) (by kernel_rfl) rfl fun a1 w1 hs => ⟨_, _, _, rfl, ?_⟩
  exact lp18 hi hr hb l [] w1 _ _ rfl hs fun a' c' w' hs' => ⟨_, _, _, _, _, _, _, _, _, _, rfl, hk _ _ _ hs'⟩

theorem lp7 {A : Asn} {i : Nat} {a : Option Addr} {c : Nat} {l : List Int} {t2 : Option Addr} {t2l t2c : Nat} (hi : L[i]? = some A) (hr : Reads A a (vals l)) (hb : l.length ≤ 1000000) {Kr K0 : List Value → W} :
    ∀ (r pre : List Int) (w : World) (a3 : Option Addr) (c3 : Nat), l = pre ++ r → Sat w (Sl 40 1 a3 pre.length c3 (tickV pre) :: L) →
      (∀ a' c' w', Sat w' (Sl 40 1 a' l.length c' (tickV l) :: L) → K0 [.int .i64 (l.length : Int), .slice a' l.length c', .slice t2 t2l t2c, .slice a l.length c] w') →
      L7_0 Kr K0 [.int .i64 (pre.length : Int), .slice a3 pre.length c3, .slice t2 t2l t2c, .slice a l.length c] w := by
  intro r
  induction r with
  | nil =>
    intro pre w a3 c3 hl hs hk
    rw [List.append_nil] at hl
    subst hl
    refine u7_0 _ _ _ _ _ _ _ _ _ _ _ _ _ (bcf (by simp) (hk _ _ _ hs))
  | cons x r ih =>
    intro pre w a3 c3 hl hs hk
    have hlen : l.length = pre.length + (r.length + 1) := by simp [hl]
    have hget : (vals l)[((pre.length : Int)).toNat]? = some (.int .i64 x) := by rw [idx_nat, hl]; exact map_at _ pre x r
    refine u7_0 _ _ _ _ _ _ _ _ _ _ _ _ _ (bct (by simp; omega) ?_)
    refine ixl1 hs (i + 1) hi hr (by omega) (by omega) hget ⟨_, rfl, ⟨fun w' => by kernel_rfl, ?_⟩⟩
    refine bs elO hs (cs := [tick x]) (by decide) (by kernel_rfl) rfl fun a5 w2 hs => ⟨_, _, _, rfl, ?_⟩
    refine ap elO hs 1 rfl (hs.rd 0 rfl Sl.reads) (by simp) (one_tick x) (by simp only [maxLen]; omega) (by omega) fun a6 c6 w3 hs => ⟨_, _, _, rfl, ?_⟩
    have hw : IntKind.wrap .i64 ((pre.length : Int) + 1) = ((pre ++ [x]).length : Int) := by rw [wrap_small (by omega) (by omega)]; simp
    have hv : tickV pre ++ [tick x] = tickV (pre ++ [x]) := by simp [tickV]
    have hs' : Sat w3 (Sl 40 1 a6 (pre.length + 1) c6 (tickV (pre ++ [x])) :: L) := by rw [← hv]; exact hs.tail
    rw [hw]
    have := ih (pre ++ [x]) w3 a6 c6 (by simp [hl]) (by simpa using hs') hk
    simpa using this

theorem c7 {A : Asn} {i : Nat} {a : Option Addr} {n c : Nat} {l : List Int} (hs : Sat w L) (hi : L[i]? = some A) (hr : Reads A a (vals l)) (hn : n = l.length) (hb : l.length ≤ 1000000)
    (hk : ∀ a' c' w', Sat w' (Sl 40 1 a' l.length c' (tickV l) :: L) → R (.slice a' l.length c') w') : ClW Try.prog 7 #[.slice a n c] R w := by
  subst hn
  refine w7 _ _ _ _ _ ?_
  refine bs elO hs (cs := []) (by decide) (by kernel_rfl) rfl fun a1 w1 hs => ⟨_, _, _, rfl, ?_⟩
  exact lp7 hi hr hb l [] w1 _ _ rfl hs fun a' c' w' hs' => ⟨_, _, _, _, _, _, _, _, _, _, rfl, hk _ _ _ hs'⟩

theorem lp9 {A B : Asn} {i j : Nat} {a b : Option Addr} {c d : Nat} {p q : List Int} {t4 : Bool} (hi : L[i]? = some A) (hr : Reads A a (vals p)) (hj : L[j]? = some B) (hq : Reads B b (vals q)) (hlen : p.length = q.length)
    (hb : p.length ≤ 1000000) {Kr K0 : List Value → W} :
    ∀ (r1 r2 pre pre2 : List Int) (w : World), Sat w L → p = pre ++ r1 → q = pre2 ++ r2 → pre.length = pre2.length →
      (r1 ≠ r2 → ∀ n w', Sat w' L → Kr [.int .i64 n, .slice a p.length c, .bool false, .slice b q.length d] w') →
      (r1 = r2 → ∀ w', Sat w' L → K0 [.int .i64 (p.length : Int), .slice a p.length c, .bool t4, .slice b q.length d] w') →
      L9_0 Kr K0 [.int .i64 (pre.length : Int), .slice a p.length c, .bool t4, .slice b q.length d] w := by
  intro r1
  induction r1 with
  | nil =>
    intro r2 pre pre2 w hs hp hq2 hpp k1 k2
    have hr2 : r2 = [] := by
      apply List.eq_nil_of_length_eq_zero
      have h1 : p.length = pre.length := by simp [hp]
      have h2 : q.length = pre2.length + r2.length := by simp [hq2]
      omega
    have := k2 hr2.symm w hs
    refine u9_0 _ _ _ _ _ _ _ _ _ _ _ (bcf (by simp [hp]) ?_)
    have h1 : p.length = pre.length := by simp [hp]
    rw [h1] at this ⊢
    exact this
  | cons x r1 ih =>
    intro r2 pre pre2 w hs hp hq2 hpp k1 k2
    have h1 : p.length = pre.length + (r1.length + 1) := by simp [hp]
    have h2 : q.length = pre2.length + r2.length := by simp [hq2]
    obtain ⟨y, r2', rfl⟩ : ∃ y r, r2 = y :: r := by
      cases r2 with
      | nil => simp at h2; omega
      | cons y r => exact ⟨y, r, rfl⟩
    have hget : (vals p)[((pre.length : Int)).toNat]? = some (.int .i64 x) := by rw [idx_nat, hp]; exact map_at _ pre x r1
    have hget2 : (vals q)[((pre.length : Int)).toNat]? = some (.int .i64 y) := by rw [idx_nat, hq2, hpp]; exact map_at _ pre2 y r2'
    refine u9_0 _ _ _ _ _ _ _ _ _ _ _ (bct (by simp; omega) (dr ?_))
    have hs := hs.drew
    refine ixl1 hs i hi hr (by omega) (by omega) hget ⟨_, rfl, ?_⟩
    refine ixl1 hs j hj hq (by omega) (by omega) hget2 ⟨_, rfl, ?_⟩
    refine bc (fun hne => k1 (by intro he; cases he; simp at hne) _ _ hs) (fun heq => ?_)
    have hxy : x = y := by simpa using heq
    have hw : IntKind.wrap .i64 ((pre.length : Int) + 1) = ((pre ++ [x]).length : Int) := by rw [wrap_small (by omega) (by omega)]; simp
    rw [hw]
    exact ih r2' (pre ++ [x]) (pre2 ++ [y]) _ hs (by simp [hp]) (by simp [hq2]) (by simp [hpp]) (fun hne => k1 (by intro he; cases he; exact hne rfl)) (fun he => k2 (by rw [he, hxy]))

/-- whether orders are the ticks of a row -/
theorem c9 {A B : Asn} {i j : Nat} {a b : Option Addr} {n m c d : Nat} {p q : List Int} (hs : Sat w L) (hi : L[i]? = some A) (hr : Reads A a (tickV p)) (hj : L[j]? = some B) (hq : Reads B b (vals q)) (hn : n = p.length) (hm : m = q.length)
    (hb : p.length ≤ 1000000) (hk : ∀ w', Sat w' L → R (.bool (decide (p = q))) w') : ClW Try.prog 9 #[.slice a n c, .slice b m d] R w := by
  subst hn; subst hm
  refine w9 _ _ _ _ _ _ _ _ (c18 hs hi hr rfl hb fun a1 c1 w1 hs => ⟨_, _, _, rfl, ?_⟩)
  have fls : p ≠ q → R (.bool false) w1 := fun h => by have := hk w1 hs.tail; rwa [decide_eq_false h] at this
  refine bc (fun hne => fls (by intro h; simp [h] at hne)) (fun heq => bc (fun hne => fls (by intro h; simp [h] at hne)) (fun _ => ?_))
  have hlen : p.length = q.length := by
    have : (p.length : Int) = (q.length : Int) := by simpa using heq
    omega
  refine lp9 (i := 0) (j := j + 1) (p := p) (q := q) rfl Sl.reads hj hq hlen hb p q [] [] w1 hs rfl rfl rfl (fun hne n w' hs' => ?_) (fun he w' hs' => ?_)
  · refine ⟨_, _, _, _, _, _, _, _, rfl, ?_⟩
    have := hk w' hs'.tail
    rwa [decide_eq_false hne] at this
  · refine ⟨_, _, _, _, _, _, _, _, rfl, ?_⟩
    have := hk w' hs'.tail
    rwa [decide_eq_true he] at this

/-- a copy -/
theorem c14 {A : Asn} {i : Nat} {a : Option Addr} {n c : Nat} {l : List Int} (hs : Sat w L) (hi : L[i]? = some A) (hr : Reads A a (tickV l)) (hn : n = l.length) (hb : l.length ≤ 1000000)
    (hk : ∀ a' c' w', Sat w' (Sl 40 1 a' l.length c' (tickV l) :: L) → R (.slice a' l.length c') w') : ClW Try.prog 14 #[.slice a n c] R w := by
  subst hn
  refine w14 _ _ _ _ _ ?_
  cases a with
  | none =>
    have hl : l = [] := by
      cases l with
      | nil => rfl
      | cons x r =>
        obtain ⟨y, hy, _⟩ := (hs.rd i hi hr).cell (j := 0) (u := tick x) rfl
        cases hy
    subst hl
    exact bct rfl (hk none 0 w (hs.slNil 40 1 none))
  | some a =>
    refine bcf rfl ?_
    refine bs elO hs (cs := []) (by decide) (by kernel_rfl) rfl fun a1 w1 hs => ⟨_, _, _, rfl, ?_⟩
    refine ap elO hs 0 rfl (hs.rd (i + 1) hi hr) (by simp [tickV]) (one_tickV l) (by simp only [maxLen]; omega) (by omega) fun a6 c6 w3 hs => ⟨_, _, _, rfl, ?_⟩
    have := hk a6 c6 w3 (by simpa using hs)
    simpa using this

end
section
variable {w : World} {L : List Asn} {R : Value → W}
theorem one_z : allOne [Value.nilIface] = true := rfl

end
section
variable [Base] {w : World} {L : List Asn} {R : Value → W}
/-- some are cut out of a slice that owns its row -/
theorem c19 {i : Nat} {a : Option Addr} {n c : Nat} {l : List Int} {x1 x2 : Int} (hs : Sat w L) (hi : L[i]? = some (Sl 40 1 a n c (tickV l))) (hn : n = l.length) (hb : l.length ≤ 1000000) (h0 : 0 ≤ x1) (h1 : x1 ≤ x2) (h2 : x2 ≤ l.length)
    (hk : ∀ a' c' w' m, m = (l.take x1.toNat ++ l.drop x2.toNat).length → Sat w' (L.set i (Sl 40 1 a' m c' (tickV (l.take x1.toNat ++ l.drop x2.toNat)))) → R (.slice a' m c') w') : ClW Try.prog 19 #[.slice a n c, .int .i64 x1, .int .i64 x2] R w := by
  subst hn
  have hle : l.length ≤ c := hs.fact i hi fun h x => x.le
  refine w19 _ _ _ _ _ _ _ (sl3 elO h0 h1 h2 (by omega) fun v hv => ⟨_, _, _, hv, ?_⟩)
  refine bc (fun heq => ?_) (fun hne => dr ⟨⟨h0, by omega⟩, ⟨by omega, by omega⟩, ?_⟩)
  · have hx : x1 = x2 := by simpa using heq
    subst hx
    have hl : l.take x1.toNat ++ l.drop x1.toNat = l := List.take_append_drop _ _
    have := hk a c w l.length (by rw [hl]) (by
      rw [hl]
      obtain ⟨hlt, he⟩ := List.getElem?_eq_some_iff.1 hi
      rw [← he, List.set_getElem_self]; exact hs)
    exact this
  · have hs := hs.drew
    have hnews := hs.rdH (a := subAddr a c x2.toNat 1) (xs := tickV (l.drop x2.toNat)) hi fun h hx => by
      have := Sl.readsFrom (j := x2.toNat) hx
      rw [Nat.mul_one] at this
      simpa [tickV, List.map_drop] using this
    have hs := hs.map i hi (B := Sl 40 1 a x1.toNat c (tickV (l.take x1.toNat))) fun h hx => by
      have := Sl.shrink (m := x1.toNat) (by omega) hx
      rw [Nat.mul_one] at this
      simpa [tickV, List.map_take] using this
    have hlt : i < L.length := (List.getElem?_eq_some_iff.1 hi).1
    have hset : (L.set i (Sl 40 1 a x1.toNat c (tickV (l.take x1.toNat))))[i]? = some (Sl 40 1 a x1.toNat c (tickV (l.take x1.toNat))) := by simp [hlt]
    have e1 : Nat.sub l.length x2.toNat = (l.drop x2.toNat).length := by simp
    rw [subAddr_zero, show Nat.sub x1.toNat 0 = x1.toNat from rfl, show Nat.sub c 0 = c from rfl, e1]
    refine apr elO hs i hset hnews (by simp [tickV]) (one_tickV _) (by simp only [maxLen, List.length_drop]; omega) (by simp only [List.length_drop]; omega) fun a' c2 w' hs' hq => ⟨_, _, _, rfl, ?_⟩
    obtain ⟨rfl, rfl⟩ := hq (by simp only [List.length_drop]; omega)
    refine ⟨⟨⟨by omega, by omega⟩, by simp only [List.length_drop]; omega, by simp only [List.length_drop]; omega⟩, ?_⟩
    rw [List.set_set] at hs'
    rw [show (((x1.toNat + (l.drop x2.toNat).length : Nat) : Int)).toNat = x1.toNat + (l.drop x2.toNat).length from Int.toNat_natCast _, show ((l.length : Int)).toNat = l.length from Int.toNat_natCast _]
    refine clr elO one_z hs' i (List.getElem?_set_self hlt) (by simp only [List.length_drop, Nat.sub_eq]; omega) fun w3 hs3 => ?_
    refine hk _ _ _ _ ?_ ?_
    · simp only [List.length_append, List.length_take, List.length_drop]; omega
    · have : tickV (l.take x1.toNat) ++ tickV (l.drop x2.toNat) = tickV (l.take x1.toNat ++ l.drop x2.toNat) := by simp [tickV]
      rw [← this]
      exact hs3

/-- a row without some -/
def withoutM (l : List Int) (at_ n : Int) : List Int :=
  if at_ < 0 ∨ n < 1 ∨ at_ ≥ (l.length : Int) then l else l.take at_.toNat ++ l.drop (at_ + mn n ((l.length : Int) - at_)).toNat

end
section
variable {w : World} {L : List Asn} {R : Value → W}
theorem withoutM_le (l : List Int) (at_ n : Int) : (withoutM l at_ n).length ≤ l.length := by
  unfold withoutM
  split
  · exact Nat.le_refl _
  · simp only [List.length_append, List.length_take, List.length_drop]
    unfold mn; split <;> omega

end
section
variable [Base] {w : World} {L : List Asn} {R : Value → W}
theorem c10 {A : Asn} {i : Nat} {a : Option Addr} {n c : Nat} {l : List Int} {x1 x2 : Int} (hs : Sat w L) (hi : L[i]? = some A) (hr : Reads A a (tickV l)) (hn : n = l.length) (hb : l.length ≤ 1000000)
    (hk : ∀ a' c' w' m, m = (withoutM l x1 x2).length → Sat w' (Sl 40 1 a' m c' (tickV (withoutM l x1 x2)) :: L) → R (.slice a' m c') w') : ClW Try.prog 10 #[.slice a n c, .int .i64 x1, .int .i64 x2] R w := by
  refine w10 _ _ _ _ _ _ _ (c14 hs hi hr hn hb fun a1 c1 w1 hs => ⟨_, _, _, rfl, ?_⟩)
  have same : x1 < 0 ∨ x2 < 1 ∨ x1 ≥ (l.length : Int) → R (.slice a1 l.length c1) w1 := fun h => by
    have hm : withoutM l x1 x2 = l := by unfold withoutM; rw [if_pos h]
    exact hk a1 c1 w1 l.length (by rw [hm]) (by rw [hm]; exact hs)
  refine bc (fun h1 => same (.inl (by simpa using h1))) fun h1 => bc (fun h2 => same (.inr (.inl (by simpa using h2)))) fun h2 => bc (fun h3 => same (.inr (.inr (by simpa using h3)))) fun h3 => ?_
  have h1' : ¬ x1 < 0 := by simpa using h1
  have h2' : ¬ x2 < 1 := by simpa using h2
  have h3' : ¬ x1 ≥ (l.length : Int) := by simpa using h3
  have hw : IntKind.wrap .i64 ((l.length : Int) - x1) = (l.length : Int) - x1 := wrap_small (by omega) (by omega)
  have hm : mn x2 ((l.length : Int) - x1) ≤ (l.length : Int) - x1 ∧ 1 ≤ mn x2 ((l.length : Int) - x1) := by unfold mn; split <;> omega
  have hw2 : IntKind.wrap .i64 (x1 + mn x2 ((l.length : Int) - x1)) = x1 + mn x2 ((l.length : Int) - x1) := wrap_small (by omega) (by omega)
  rw [hw, hw2]
  refine c19 hs (i := 0) rfl rfl hb (by omega) (by omega) (by omega) fun a' c' w' m hm' hs' => ⟨_, _, _, rfl, ?_⟩
  have he : withoutM l x1 x2 = l.take x1.toNat ++ l.drop (x1 + mn x2 ((l.length : Int) - x1)).toNat := by unfold withoutM; rw [if_neg (by omega)]
  exact hk _ _ _ _ (by rw [he]; exact hm') (by rw [he]; exact hs')

/-- the document's way to leave some out -/
def woM (at_ n : Int) : Int → List Int → List Int
  | _, [] => []
  | i, x :: r => if at_ < 0 ∨ n < 1 ∨ i < at_ ∨ i - at_ ≥ n then x :: woM at_ n (i + 1) r else woM at_ n (i + 1) r

theorem lp11 {A : Asn} {i : Nat} {a : Option Addr} {c : Nat} {l : List Int} {x1 x2 : Int} {t6 : Option Addr} {t6l t6c : Nat} (hi : L[i]? = some A) (hr : Reads A a (vals l)) (hb : l.length ≤ 1000000) {Kr K0 : List Value → W} :
    ∀ (r pre out : List Int) (w : World) (a3 : Option Addr) (c3 : Nat), l = pre ++ r → out.length ≤ pre.length → Sat w (Sl 3 1 a3 out.length c3 (vals out) :: L) →
      (∀ a' c' w' m, m = (out ++ woM x1 x2 pre.length r).length → Sat w' (Sl 3 1 a' m c' (vals (out ++ woM x1 x2 pre.length r)) :: L) → K0 [.int .i64 (l.length : Int), .slice a' m c', .slice t6 t6l t6c, .slice a l.length c, .int .i64 x1, .int .i64 x2] w') →
      L11_0 Kr K0 [.int .i64 (pre.length : Int), .slice a3 out.length c3, .slice t6 t6l t6c, .slice a l.length c, .int .i64 x1, .int .i64 x2] w := by
  intro r
  induction r with
  | nil =>
    intro pre out w a3 c3 hl ho hs hk
    rw [List.append_nil] at hl
    subst hl
    refine u11_0 _ _ _ _ _ _ _ _ _ _ _ _ _ _ _ (bcf (by simp) ?_)
    have := hk a3 c3 w out.length (by simp [woM]) (by simpa [woM] using hs)
    exact this
  | cons x r ih =>
    intro pre out w a3 c3 hl ho hs hk
    have hlen : l.length = pre.length + (r.length + 1) := by simp [hl]
    have hget : (vals l)[((pre.length : Int)).toNat]? = some (.int .i64 x) := by rw [idx_nat, hl]; exact map_at _ pre x r
    have hw : IntKind.wrap .i64 ((pre.length : Int) + 1) = ((pre ++ [x]).length : Int) := by rw [wrap_small (by omega) (by omega)]; simp
    refine u11_0 _ _ _ _ _ _ _ _ _ _ _ _ _ _ _ (bct (by simp; omega) (jn' ?_))
    have put : (x1 < 0 ∨ x2 < 1 ∨ (pre.length : Int) < x1 ∨ (pre.length : Int) - x1 ≥ x2) → ∀ {K : List Value → W},
        (∀ l w', (ExI fun n19 => ExL fun a20 l21 c22 => ExL fun a23 l24 c25 => ExL fun a26 l27 c28 => ExI fun n29 => ExI fun n30 => EqL l [.int .i64 n19, .slice a20 l21 c22, .slice a23 l24 c25, .slice a26 l27 c28, .int .i64 n29, .int .i64 n30] (L11_0 (fun l31 => Kr l31) (fun l32 => K0 l32) [.int .i64 (IntKind.wrap .i64 (n19 + (1 : Int))), .slice a20 l21 c22, .slice a23 l24 c25, .slice a26 l27 c28, .int .i64 n29, .int .i64 n30])) w' → K l w') →
        (IxW a l.length (pre.length : Int) fun a34 => LdW (Addr.add a34 (Nat.mul (Int.toNat (pre.length : Int)) 1)) fun v35 => ExI fun n36 => EqW v35 (.int .i64 n36) (SvW Try.prog (Instr.buildSlice 22 1 #[(0, .int .i64 n36)]) fun v37 => ExL fun a38 l39 c40 => EqW v37 (.slice a38 l39 c40) (SvW Try.prog (Builtin.append_ #[22, 22] 22 #[.slice a3 out.length c3, .slice a38 l39 c40]) fun v41 => ExL fun a42 l43 c44 => EqW v41 (.slice a42 l43 c44) (K [.int .i64 (pre.length : Int), .slice a42 l43 c44, .slice t6 t6l t6c, .slice a l.length c, .int .i64 x1, .int .i64 x2])))) w := by
      intro hc K hK
      refine ixl1 hs (i + 1) hi hr (by omega) (by omega) hget ⟨_, rfl, ?_⟩
      refine bs elI hs (cs := [.int .i64 x]) (by decide) (by kernel_rfl) rfl fun a5 w2 hs => ⟨_, _, _, rfl, ?_⟩
      refine ap elI hs 1 rfl (hs.rd 0 rfl Sl.reads) (by simp) (one_int x) (by simp only [maxLen]; omega) (by omega) fun a6 c6 w3 hs => ⟨_, _, _, rfl, hK _ _ ⟨_, _, _, _, _, _, _, _, _, _, _, _, rfl, ?_⟩⟩
      have hv : vals out ++ [.int .i64 x] = vals (out ++ [x]) := by simp [vals]
      have hs' : Sat w3 (Sl 3 1 a6 (out.length + 1) c6 (vals (out ++ [x])) :: L) := by rw [← hv]; exact hs.tail
      rw [hw]
      have hwo : out ++ woM x1 x2 pre.length (x :: r) = (out ++ [x]) ++ woM x1 x2 ((pre ++ [x]).length : Nat) r := by
        simp [woM, if_pos hc]
      have := ih (pre ++ [x]) (out ++ [x]) w3 a6 c6 (by simp [hl]) (by simp; omega) (by simpa using hs') (by rw [← hwo]; exact hk)
      simpa using this
    refine bc (fun h1 => put (.inl (by simpa using h1)) fun _ _ h => h) fun h1 => bc (fun h2 => put (.inr (.inl (by simpa using h2))) fun _ _ h => h) fun h2 => bc (fun h3 => put (.inr (.inr (.inl (by simpa using h3)))) fun _ _ h => h) fun h3 => ?_
    have h1' : ¬ x1 < 0 := by simpa using h1
    have h2' : ¬ x2 < 1 := by simpa using h2
    have h3' : ¬ (pre.length : Int) < x1 := by simpa using h3
    have hw3 : IntKind.wrap .i64 ((pre.length : Int) - x1) = (pre.length : Int) - x1 := wrap_small (by omega) (by omega)
    rw [hw3]
    refine bc (fun h4 => put (.inr (.inr (.inr (by simpa using h4)))) fun _ _ h => h) fun h4 => ⟨_, _, _, _, _, _, _, _, _, _, _, _, rfl, ?_⟩
    have h4' : ¬ (pre.length : Int) - x1 ≥ x2 := by simpa using h4
    rw [hw]
    have hwo : woM x1 x2 pre.length (x :: r) = woM x1 x2 ((pre ++ [x]).length : Nat) r := by
      simp only [woM]
      rw [if_neg (by omega)]
      simp
    rw [hwo] at hk
    have := ih (pre ++ [x]) out w a3 c3 (by simp [hl]) (by simp; omega) hs hk
    exact this

end
section
variable {w : World} {L : List Asn} {R : Value → W}
theorem woM_keep (at_ n : Int) : ∀ (r : List Int) (i : Int), (at_ < 0 ∨ n < 1) → woM at_ n i r = r := by
  intro r
  induction r with
  | nil => intro i _; rfl
  | cons x r ih => intro i h; unfold woM; rw [if_pos (by omega), ih _ h]

end
section
variable [Base] {w : World} {L : List Asn} {R : Value → W}
end
section
variable {w : World} {L : List Asn} {R : Value → W}
theorem woM_behind (at_ n : Int) : ∀ (r : List Int) (i : Int), at_ + n ≤ i → woM at_ n i r = r := by
  intro r
  induction r with
  | nil => intro i _; rfl
  | cons x r ih => intro i h; unfold woM; rw [if_pos (by omega), ih _ (by omega)]

end
section
variable [Base] {w : World} {L : List Asn} {R : Value → W}
end
section
variable {w : World} {L : List Asn} {R : Value → W}
theorem woM_in (at_ n : Int) (h0 : 0 ≤ at_) (hn : 1 ≤ n) : ∀ (r : List Int) (i : Int), at_ ≤ i → i ≤ at_ + n → woM at_ n i r = r.drop (at_ + n - i).toNat := by
  intro r
  induction r with
  | nil => intro i _ _; simp [woM]
  | cons x r ih =>
    intro i h1 h2
    by_cases he : i = at_ + n
    · subst he; rw [woM_behind _ _ _ _ (Int.le_refl _)]; simp
    · unfold woM
      rw [if_neg (by omega), ih _ (by omega) (by omega)]
      rw [show (at_ + n - i).toNat = (at_ + n - (i + 1)).toNat + 1 by omega]
      simp

end
section
variable [Base] {w : World} {L : List Asn} {R : Value → W}
end
section
variable {w : World} {L : List Asn} {R : Value → W}
theorem woM_all (at_ n : Int) (h0 : 0 ≤ at_) (hn : 1 ≤ n) : ∀ (r : List Int) (i : Int), i ≤ at_ → woM at_ n i r = r.take (at_ - i).toNat ++ r.drop (at_ + n - i).toNat := by
  intro r
  induction r with
  | nil => intro i _; simp [woM]
  | cons x r ih =>
    intro i h1
    by_cases he : i = at_
    · subst he
      rw [woM_in _ _ h0 hn _ _ (Int.le_refl _) (by omega)]; simp
    · unfold woM
      rw [if_pos (by omega), ih _ (by omega)]
      rw [show (at_ + n - i).toNat = (at_ + n - (i + 1)).toNat + 1 by omega, show (at_ - i).toNat = (at_ - (i + 1)).toNat + 1 by omega]
      simp

end
section
variable [Base] {w : World} {L : List Asn} {R : Value → W}
end
section
variable {w : World} {L : List Asn} {R : Value → W}
theorem woM_eq (l : List Int) (at_ n : Int) : woM at_ n 0 l = withoutM l at_ n := by
  unfold withoutM
  by_cases h : at_ < 0 ∨ n < 1
  · rw [woM_keep _ _ _ _ h, if_pos (by omega)]
  · rw [woM_all _ _ (by omega) (by omega) _ _ (by omega)]
    split
    · rw [List.take_of_length_le (by omega), List.drop_eq_nil_of_le (by omega)]; simp
    · congr 1
      · congr 1; omega
      · by_cases hm : n ≤ (l.length : Int) - at_
        · have : mn n ((l.length : Int) - at_) = n := by unfold mn; split <;> omega
          rw [this]; congr 1; omega
        · have : mn n ((l.length : Int) - at_) = (l.length : Int) - at_ := by unfold mn; split <;> omega
          rw [this, List.drop_eq_nil_of_le (by omega), List.drop_eq_nil_of_le (by omega)]

end
section
variable [Base] {w : World} {L : List Asn} {R : Value → W}
theorem c11 {A : Asn} {i : Nat} {a : Option Addr} {n c : Nat} {l : List Int} {x1 x2 : Int} (hs : Sat w L) (hi : L[i]? = some A) (hr : Reads A a (vals l)) (hn : n = l.length) (hb : l.length ≤ 1000000)
    (hk : ∀ a' c' w' m, m = (withoutM l x1 x2).length → Sat w' (Sl 3 1 a' m c' (vals (withoutM l x1 x2)) :: L) → R (.slice a' m c') w') : ClW Try.prog 11 #[.slice a n c, .int .i64 x1, .int .i64 x2] R w := by
  subst hn
  refine w11 _ _ _ _ _ _ _ ?_
  refine bs elI hs (cs := []) (by decide) (by kernel_rfl) rfl fun a1 w1 hs => ⟨_, _, _, rfl, ?_⟩
  refine lp11 hi hr hb l [] [] w1 _ _ rfl (Nat.le_refl _) hs fun a' c' w' m hm hs' => ⟨_, _, _, _, _, _, _, _, _, _, _, _, rfl, ?_⟩
  rw [List.nil_append, show ((([] : List Int).length : Nat) : Int) = 0 from rfl, woM_eq] at hm hs'
  exact hk _ _ _ _ hm hs'
end
end Go.Proofs.Ytpliocedgiejiaa
