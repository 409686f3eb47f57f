/-
  Nothing of what is left of a row can be left out: the plain law, and the law's walk.
-/
import Derived.Test.YtpliocedgiejiaaPD1
namespace Go.Proofs.Ytpliocedgiejiaa
open Go

theorem withoutM_sub (l : List Int) (at_ n : Int) : (withoutM l at_ n).Sublist l := by
  unfold withoutM
  split
  · exact List.Sublist.refl _
  · rename_i h
    have h1 : at_.toNat ≤ (at_ + mn n ((l.length : Int) - at_)).toNat := by unfold mn; split <;> omega
    conv => rhs; rw [← List.take_append_drop at_.toNat l]
    exact (List.Sublist.refl _).append (List.drop_sublist_drop_left l h1)

theorem roundF_sub (kinds least : Int) (n : Nat) : ∀ (f at_ : Nat) (l : List Int) (cut : Bool), (roundF kinds least n f at_ l cut).1.Sublist l := by
  intro f
  induction f with
  | zero => intro at_ l cut; exact List.Sublist.refl _
  | succ f ih =>
    intro at_ l cut
    unfold roundF
    split
    · split
      · exact (ih _ _ _).trans (withoutM_sub _ _ _)
      · exact ih _ _ _
    · exact List.Sublist.refl _

theorem roundF_has (kinds least : Int) (n : Nat) : ∀ (f at_ : Nat) (l : List Int) (cut : Bool), hasM l kinds least = true → hasM (roundF kinds least n f at_ l cut).1 kinds least = true := by
  intro f
  induction f with
  | zero => intro at_ l cut h; exact h
  | succ f ih =>
    intro at_ l cut h
    unfold roundF
    split
    · split
      · rename_i h2; exact ih _ _ _ h2
      · exact ih _ _ _ h
    · exact h

theorem roundF_true (kinds least : Int) (n : Nat) : ∀ (f at_ : Nat) (l : List Int), (roundF kinds least n f at_ l true).2.2 = true := by
  intro f
  induction f with
  | zero => intro at_ l; rfl
  | succ f ih =>
    intro at_ l
    unfold roundF
    split
    · split <;> exact ih _ _
    · rfl

theorem roundF_min (kinds least : Int) : ∀ (f at_ : Nat) (l : List Int), l.length < at_ + f → (roundF kinds least 1 f at_ l false).2.2 = false →
    (roundF kinds least 1 f at_ l false).1 = l ∧ ∀ i : Nat, at_ ≤ i → i < l.length → hasM (withoutM l i 1) kinds least = false := by
  intro f
  induction f with
  | zero => intro at_ l hf _; exact ⟨rfl, fun i h1 h2 => by omega⟩
  | succ f ih =>
    intro at_ l hf hc
    unfold roundF at hc ⊢
    split at hc
    · rename_i h1
      rw [if_pos h1]
      split at hc
      · dsimp only at hc
        rw [roundF_true] at hc; cases hc
      · rename_i h2
        rw [if_neg h2]
        obtain ⟨h3, h4⟩ := ih (at_ + 1) l (by omega) hc
        refine ⟨h3, fun i h5 h6 => ?_⟩
        by_cases he : i = at_
        · subst he; simpa using h2
        · exact h4 i (by omega) h6
    · rename_i h1
      rw [if_neg h1]
      exact ⟨rfl, fun i h5 h6 => by omega⟩

theorem leastF_facts (kinds least : Int) : ∀ (f n : Nat) (l : List Int), n + l.length < f → hasM l kinds least = true →
    hasM (leastF kinds least f n l).1 kinds least = true ∧ (leastF kinds least f n l).1.Sublist l ∧ (1 ≤ n → ∀ i : Nat, i < (leastF kinds least f n l).1.length → hasM (withoutM (leastF kinds least f n l).1 i 1) kinds least = false) := by
  intro f
  induction f with
  | zero => intro n l hf; omega
  | succ f ih =>
    intro n l hf hh
    by_cases hn : 0 < n
    · obtain ⟨l1, k1, cut1, hr⟩ : ∃ l1 k1 cut1, (l1, k1, cut1) = roundF kinds least n (l.length + 1) 0 l false := ⟨_, _, _, rfl⟩
      have hsub : l1.Sublist l := by have := roundF_sub kinds least n (l.length + 1) 0 l false; rw [← hr] at this; exact this
      have hhas : hasM l1 kinds least = true := by have := roundF_has kinds least n (l.length + 1) 0 l false hh; rw [← hr] at this; exact this
      have hle : l1.length ≤ l.length := hsub.length_le
      rw [leastF_round hn hr]
      by_cases hc : n ≠ 1 ∨ cut1 = false
      · rw [if_pos hc]
        obtain ⟨h1, h2, h3⟩ := ih (n / 2) l1 (by omega) hhas
        refine ⟨h1, h2.trans hsub, fun _ => ?_⟩
        by_cases hn1 : n = 1
        · subst hn1
          have hcut : cut1 = false := by simpa using hc
          have hz : leastF kinds least f (1 / 2) l1 = (l1, 0) := by
            cases f with
            | zero => rfl
            | succ f => unfold leastF; rw [if_neg (by omega)]
          rw [hz]
          have := roundF_min kinds least (l.length + 1) 0 l (by omega)
          rw [← hr] at this
          obtain ⟨h4, h5⟩ := this hcut
          have h4' : l1 = l := h4
          subst h4'
          exact fun i hi => h5 i (by omega) hi
        · exact h3 (by omega)
      · rw [if_neg hc]
        have hn1 : n = 1 := by omega
        have hcut : cut1 = true := by
          cases cut1
          · exact (hc (.inr rfl)).elim
          · rfl
        have hlt : l1.length < l.length := by
          have := roundF_cut kinds least n hn (l.length + 1) 0 l
          rw [← hr] at this; exact this hcut
        obtain ⟨h1, h2, h3⟩ := ih n l1 (by omega) hhas
        exact ⟨h1, h2.trans hsub, h3⟩
    · have hz : leastF kinds least (f + 1) n l = (l, 0) := by unfold leastF; rw [if_neg hn]
      rw [hz]
      exact ⟨hh, List.Sublist.refl _, fun h => by omega⟩

theorem leastM_facts {kinds least : Int} {l : List Int} (hh : hasM l kinds least = true) :
    hasM (leastM kinds least l).1 kinds least = true ∧ (leastM kinds least l).1.Sublist l ∧ ∀ i : Nat, i < (leastM kinds least l).1.length → hasM (withoutM (leastM kinds least l).1 i 1) kinds least = false := by
  unfold leastM
  rw [if_pos hh]
  obtain ⟨h1, h2, h3⟩ := leastF_facts kinds least (2 * l.length + 1) l.length l (by omega) hh
  refine ⟨h1, h2, fun i hi => ?_⟩
  cases l with
  | nil => exfalso; rw [List.sublist_nil.1 h2] at hi; cases hi
  | cons x r => exact h3 (by simp) i hi

section
variable [Base] {w : World} {L F : List Asn} {R : Value → W}

theorem lp41 {b : Nat} {kinds least : Int} {a9 a8 a0 : Option Addr} {c9 c8 c0 n8 n0 : Nat} {t6 : Bool} {m : List Int} (hb : m.length ≤ 1000000) (hmin : ∀ i : Nat, i < m.length → hasM (withoutM m i 1) kinds least = false) {Kr K0 : List Value → W} :
    ∀ (r i : Nat) (w : World) (q : Int), i + r = m.length → Sat w (Cs b 26 [.int .i64 kinds, .int .i64 least, .int .i64 q] :: Sl 40 1 a9 m.length c9 (tickV m) :: F) →
      (∀ w' q', Sat w' (Cs b 26 [.int .i64 kinds, .int .i64 least, .int .i64 q'] :: Sl 40 1 a9 m.length c9 (tickV m) :: F) →
        K0 [.int .i64 (m.length : Int), .slice a9 m.length c9, .slice a8 n8 c8, .pointer (some ⟨b, 0, none⟩), .bool t6, .slice a0 n0 c0] w') →
      L4_1 Kr K0 [.int .i64 (i : Int), .slice a9 m.length c9, .slice a8 n8 c8, .pointer (some ⟨b, 0, none⟩), .bool t6, .slice a0 n0 c0] w := by
  intro r
  induction r with
  | zero =>
    intro i w q hi hs hk
    have hi' : i = m.length := by omega
    subst hi'
    exact u4_1 _ _ _ _ _ _ _ _ _ _ _ _ _ _ _ (bcf (by simp) (hk w q hs))
  | succ r ih =>
    intro i w q hi hs hk
    refine u4_1 _ _ _ _ _ _ _ _ _ _ _ _ _ _ _ (bct (by simp; omega) ?_)
    refine c10 hs (i := 1) rfl Sl.reads rfl hb fun a1 d1 w1 m1 hm1 hs1 => ⟨_, _, _, rfl, ?_⟩
    have hle := withoutM_le m i 1
    refine c12 hs1 (i := 1) (j := 0) rfl rfl (by decide) Sl.reads hm1 (by omega) fun w2 hs2 => ⟨_, rfl, bcf (hmin i (by omega)) ?_⟩
    have hw : IntKind.wrap .i64 ((i : Int) + 1) = ((i + 1 : Nat) : Int) := by rw [wrap_small (by omega) (by omega)]; simp
    rw [hw]
    exact ih (i + 1) w2 _ (by omega) (Sat.tail hs2) hk

theorem lp40 {a9 a8 a0 : Option Addr} {c9 c8 c0 n0 i9 i8 : Nat} {A9 A8 : Asn} {t6 : Bool} {m o : List Int} (h9 : L[i9]? = some A9) (hr9 : Reads A9 a9 (tickV m)) (h8 : L[i8]? = some A8) (hr8 : Reads A8 a8 (tickV o))
    (hbm : m.length ≤ 1000000) (hbo : o.length ≤ 1000000) {Kr K2 : List Value → W} :
    ∀ (ro po rm pm : List Int) (w : World), o = po ++ ro → m = pm ++ rm → rm.Sublist ro → Sat w L →
      (∀ w' z, Sat w' L → K2 [.int .i64 z, .int .i64 (m.length : Int), .slice a9 m.length c9, .slice a8 o.length c8, .bool t6, .slice a0 n0 c0] w') →
      L4_0 Kr K2 [.int .i64 (po.length : Int), .int .i64 (pm.length : Int), .slice a9 m.length c9, .slice a8 o.length c8, .bool t6, .slice a0 n0 c0] w := by
  intro ro
  induction ro with
  | nil =>
    intro po rm pm w ho hm hsub hs hk
    have hrm : rm = [] := List.sublist_nil.1 hsub
    subst hrm
    have h1 : pm.length = m.length := by simp [hm]
    refine u4_0 _ _ _ _ _ _ _ _ _ _ _ _ _ _ _ (bcf (by simp [ho]) ?_)
    rw [h1]; exact hk w _ hs
  | cons x ro ih =>
    intro po rm pm w ho hm hsub hs hk
    have hlo : o.length = po.length + (ro.length + 1) := by simp [ho]
    have hgx : (tickV o)[((po.length : Int)).toNat]? = some (tick x) := by rw [idx_nat, ho]; exact map_at _ po x ro
    refine u4_0 _ _ _ _ _ _ _ _ _ _ _ _ _ _ _ (bct (by simp; omega) ?_)
    cases rm with
    | nil =>
      have h1 : pm.length = m.length := by simp [hm]
      refine bcf (by simp [h1]) ?_
      rw [h1]; exact hk w _ hs
    | cons y rm =>
      have hlm : m.length = pm.length + (rm.length + 1) := by simp [hm]
      have hgy : (tickV m)[((pm.length : Int)).toNat]? = some (tick y) := by rw [idx_nat, hm]; exact map_at _ pm y rm
      refine bct (by simp; omega) (jn' (dr (rg (fun w' => Sat w' L) hs.drew ?_)))
      refine ixh1 hs.drew (fun _ h => h) i8 h8 hr8 (by omega) (by omega) hgx ⟨_, rfl, ?_⟩
      refine ixh1 hs.drew (fun _ h => h) i9 h9 hr9 (by omega) (by omega) hgy ⟨_, rfl, ?_⟩
      refine c13 hs.drew fun a1 w1 hs1 => ⟨_, _, _, rfl, sk (fun w' => Sat w' (Sl 3 1 (some a1) 1 1 [.int .i64 x] :: L)) (fun _ h => h.tail) hs1 ?_⟩
      refine ixh1 hs1 (fun _ h => h) 0 rfl Sl.reads (by decide) (by decide) rfl ⟨_, rfl, ?_⟩
      refine c13 hs1 fun a2 w2 hs2 => ⟨_, _, _, rfl, sk0 hs2.tail ?_⟩
      refine ixl1 hs2 0 rfl Sl.reads (by decide) (by decide) rfl ⟨_, rfl, ?_⟩
      have hs3 := hs2.tail.tail
      have hwo : IntKind.wrap .i64 ((po.length : Int) + 1) = ((po ++ [x]).length : Int) := by rw [wrap_small (by omega) (by omega)]; simp
      refine bc (fun heq => ⟨_, _, _, _, _, _, _, _, _, _, _, _, rfl, ?_⟩) (fun hne => ⟨_, _, _, _, _, _, _, _, _, _, _, _, rfl, ?_⟩)
      · have hxy : x = y := by simpa using heq
        subst hxy
        have hwm : IntKind.wrap .i64 ((pm.length : Int) + 1) = ((pm ++ [x]).length : Int) := by rw [wrap_small (by omega) (by omega)]; simp
        rw [hwo, hwm]
        exact ih (po ++ [x]) rm (pm ++ [x]) w2 (by simp [ho]) (by simp [hm]) (List.cons_sublist_cons.1 hsub) hs3 hk
      · have hxy : x ≠ y := by simpa using hne
        rw [hwo]
        refine ih (po ++ [x]) (y :: rm) pm w2 (by simp [ho]) hm ?_ hs3 hk
        cases hsub with
        | cons _ h => exact h
        | cons_cons _ h => exact (hxy rfl).elim

theorem c4 {A : Asn} {j : Nat} {a : Option Addr} {n c : Nat} {l : List Int} {kinds count : Int} (hs : Sat w F) (hj : F[j]? = some A) (hr : Reads A a (vals l)) (hn : n = l.length)
    (hk : ∀ w', Sat w' F → R (.bool true) w') : ClW Try.prog 4 #[.slice a n c, .int .i64 kinds, .int .i64 count] R w := by
  subst hn
  refine w4 _ _ _ _ _ _ _ (c5 hs fun w1 hs => ⟨_, rfl, bcf rfl ?_⟩)
  refine bc (fun _ => hk _ hs) (fun h40 => ?_)
  have hl : l.length ≤ 40 := by have : ¬ ((l.length : Int) > 40) := by simpa using h40
                                omega
  refine ⟨fun w' => by kernel_rfl, nb hs fun b w2 hs => ?_⟩
  refine c7 hs (i := j + 1) hj hr rfl (by omega) fun a3 d3 w3 hs => ⟨_, _, _, rfl, ?_⟩
  refine c12 hs (i := 1) (j := 0) rfl rfl (by decide) Sl.reads rfl (by omega) fun w4 hs4 => ⟨_, rfl, ?_⟩
  have hs : Sat w4 (Cs b 26 [.int .i64 kinds, .int .i64 count, .int .i64 (IntKind.wrap .i64 (0 + 1))] :: Sl 40 1 a3 l.length d3 (tickV l) :: F) := Sat.swap hs4
  refine bc (fun _ => hk _ hs.tail.tail) (fun hyes => ?_)
  have hh : hasM l kinds count = true := by simpa using hyes
  obtain ⟨f1, f2, f3⟩ := leastM_facts hh
  have hml := f2.length_le
  refine c6 hs (j := 0) rfl Sl.reads rfl (by omega) fun w5 a5 d5 m5 hm5 hs5 => ⟨_, _, _, _, rfl, ?_⟩
  subst hm5
  refine c12 hs5 (i := 0) (j := 1) rfl rfl (by decide) Sl.reads rfl (by omega) fun w6 hs6 => ⟨_, rfl, bcf (by rw [f1]; rfl) ?_⟩
  refine lp41 (by omega) f3 (leastM kinds count l).1.length 0 w6 _ (by omega) hs6 fun w7 q7 hs7 => ⟨_, _, _, _, _, _, _, _, _, _, _, _, rfl, ?_⟩
  refine lp40 (i9 := 1) (i8 := 2) rfl Sl.reads rfl Sl.reads (by omega) (by omega) l [] (leastM kinds count l).1 [] w7 rfl rfl f2 hs7 fun w8 z hs8 => ⟨_, _, _, _, _, _, _, _, _, _, _, _, rfl, bct (by simp) ?_⟩
  refine c9 hs8 (i := 2) (j := j + 3) rfl Sl.reads hj hr rfl rfl (by omega) fun w9 hs9 => ⟨_, rfl, ?_⟩
  rw [show decide (l = l) = true by simp]
  exact hk _ hs9.tail.tail.tail
end
end Go.Proofs.Ytpliocedgiejiaa
