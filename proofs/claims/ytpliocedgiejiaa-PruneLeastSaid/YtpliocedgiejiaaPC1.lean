/-
  What the pair's loops compute: rounds, and what is left.
-/
import Derived.Test.YtpliocedgiejiaaPB1
namespace Go.Proofs.Ytpliocedgiejiaa
open Go
section
variable [Base]

def addW : Int → Nat → Int
  | q, 0 => q
  | q, k + 1 => addW (IntKind.wrap .i64 (q + 1)) k

end
section
theorem addW_add (q : Int) (a b : Nat) : addW q (a + b) = addW (addW q a) b := by
  induction a generalizing q with
  | zero => simp [addW]
  | succ a ih => rw [show a + 1 + b = (a + b) + 1 by omega]; simp [addW, ih]

end
section
variable [Base]
def roundF (kinds least : Int) (n : Nat) : Nat → Nat → List Int → Bool → List Int × Nat × Bool
  | 0, _, l, cut => (l, 0, cut)
  | f + 1, at_, l, cut =>
    if at_ < l.length then
      if hasM (withoutM l at_ n) kinds least = true then
        ((roundF kinds least n f at_ (withoutM l at_ n) true).1, (roundF kinds least n f at_ (withoutM l at_ n) true).2.1 + 1, (roundF kinds least n f at_ (withoutM l at_ n) true).2.2)
      else ((roundF kinds least n f (at_ + n) l cut).1, (roundF kinds least n f (at_ + n) l cut).2.1 + 1, (roundF kinds least n f (at_ + n) l cut).2.2)
    else (l, 0, cut)

def leastF (kinds least : Int) : Nat → Nat → List Int → List Int × Nat
  | 0, _, l => (l, 0)
  | f + 1, n, l =>
    if 0 < n then
      let r := roundF kinds least n (l.length + 1) 0 l false
      if n ≠ 1 ∨ r.2.2 = false then ((leastF kinds least f (n / 2) r.1).1, r.2.1 + (leastF kinds least f (n / 2) r.1).2)
      else ((leastF kinds least f n r.1).1, r.2.1 + (leastF kinds least f n r.1).2)
    else (l, 0)

/-- what is left of a row, and how often is asked behind the first time -/
def leastM (kinds least : Int) (l : List Int) : List Int × Nat :=
  if hasM l kinds least = true then leastF kinds least (2 * l.length + 1) l.length l else (l, 0)

end
section
theorem withoutM_lt {l : List Int} {at_ n : Nat} (h : at_ < l.length) (hn : 0 < n) : (withoutM l at_ n).length < l.length := by
  unfold withoutM
  rw [if_neg (by omega)]
  simp only [List.length_append, List.length_take, List.length_drop]
  unfold mn; split <;> omega

end
section
variable [Base]
end
section
theorem roundF_le (kinds least : Int) (n : Nat) : ∀ (f at_ : Nat) (l : List Int) (cut : Bool), (roundF kinds least n f at_ l cut).1.length ≤ l.length := by
  intro f
  induction f with
  | zero => intro at_ l cut; exact Nat.le_refl _
  | succ f ih =>
    intro at_ l cut
    unfold roundF
    split
    · split
      · exact Nat.le_trans (ih _ _ _) (withoutM_le _ _ _)
      · exact ih _ _ _
    · exact Nat.le_refl _

end
section
variable [Base]
end
section
theorem roundF_cut (kinds least : Int) (n : Nat) (hn : 0 < n) : ∀ (f at_ : Nat) (l : List Int), (roundF kinds least n f at_ l false).2.2 = true → (roundF kinds least n f at_ l false).1.length < l.length := by
  intro f
  induction f with
  | zero => intro at_ l h; cases h
  | succ f ih =>
    intro at_ l h
    unfold roundF at h ⊢
    split at h
    · rename_i h1
      rw [if_pos h1]
      split at h
      · rename_i h2
        rw [if_pos h2]
        exact Nat.lt_of_le_of_lt (roundF_le _ _ _ _ _ _ _) (withoutM_lt h1 hn)
      · rename_i h2
        rw [if_neg h2]
        exact ih _ _ h
    · cases h

end
section
variable [Base]
end
section
variable [Base] {w : World} {L F : List Asn} {R : Value → W}

end
section
variable {w : World} {L F : List Asn} {R : Value → W}
theorem set_ne {L : List Asn} {i j : Nat} {A B : Asn} (h : i ≠ j) (hj : L[j]? = some A) : (L.set i B)[j]? = some A := by rw [List.getElem?_set_ne h]; exact hj

end
section
variable [Base] {w : World} {L F : List Asn} {R : Value → W}
theorem c12 {A : Asn} {i j b : Nat} {a : Option Addr} {n c : Nat} {l : List Int} {kinds least q : Int} (hs : Sat w L) (hi : L[i]? = some (Cs b 26 [.int .i64 kinds, .int .i64 least, .int .i64 q])) (hj : L[j]? = some A) (hij : i ≠ j) (hr : Reads A a (tickV l))
    (hn : n = l.length) (hb : l.length ≤ 1000000)
    (hk : ∀ w', Sat w' (L.set i (Cs b 26 [.int .i64 kinds, .int .i64 least, .int .i64 (IntKind.wrap .i64 (q + 1))])) → R (.bool (hasM l kinds least)) w') : ClW Try.prog 12 #[.pointer (some ⟨b, 0, none⟩), .slice a n c] R w := by
  refine w12 _ _ _ _ _ _ (nc (lda hs i hi rfl ⟨_, rfl, nc (sta hs i hi (by simp) fun w1 hs => ?_)⟩))
  have hlt : i < L.length := (List.getElem?_eq_some_iff.1 hi).1
  have hi' : (L.set i (Cs b 26 [.int .i64 kinds, .int .i64 least, .int .i64 (IntKind.wrap .i64 (q + 1))]))[i]? = some (Cs b 26 [.int .i64 kinds, .int .i64 least, .int .i64 (IntKind.wrap .i64 (q + 1))]) := List.getElem?_set_self hlt
  have hj' := set_ne (B := Cs b 26 [.int .i64 kinds, .int .i64 least, .int .i64 (IntKind.wrap .i64 (q + 1))]) hij hj
  refine dr (rg (fun w' => Sat w' (L.set i (Cs b 26 [.int .i64 kinds, .int .i64 least, .int .i64 (IntKind.wrap .i64 (q + 1))]))) hs.drew ?_)
  refine nc (lh (fun _ h => h) i hi' rfl ⟨_, rfl, nc (lh (fun _ h => h) i hi' rfl ⟨_, rfl, ?_⟩)⟩)
  refine c18 hs.drew hj' hr hn hb fun a1 c1 w2 hs2 => ⟨_, _, _, rfl, sk0 hs2.tail ?_⟩
  exact c17 hs2 (i := 0) rfl Sl.reads rfl hb ⟨_, rfl, sk0 hs2.tail (hk _ hs2.tail)⟩

end
section
variable {w : World} {L F : List Asn} {R : Value → W}
theorem call_has {b : Nat} {v : Value} {k : Value → W} (h : ClW Try.prog 12 #[.pointer (some ⟨b, 0, none⟩), v] k w) : RnW Try.prog (callMethod (.iface 24 (.pointer (some ⟨b, 0, none⟩))) "Has" #[v]) k w := by
  have : (callMethod (.iface 24 (.pointer (some ⟨b, 0, none⟩))) "Has" #[v]).run Try.prog w = .ok (.enter 12 #[.pointer (some ⟨b, 0, none⟩), v]) w := by kernel_rfl
  unfold RnW
  rw [this]
  exact h

end
section
variable [Base] {w : World} {L F : List Asn} {R : Value → W}
theorem c15 {A : Asn} {x i j p b : Nat} {a : Option Addr} {n c : Nat} {l : List Int} {kinds least q1 q2 : Int} (hs : Sat w L) (hx : L[x]? = some (Cs p 47 [.iface 24 (.pointer (some ⟨b, 0, none⟩)), .int .i64 q1]))
    (hi : L[i]? = some (Cs b 26 [.int .i64 kinds, .int .i64 least, .int .i64 q2])) (hj : L[j]? = some A) (hij : i ≠ j) (hxi : x ≠ i) (hxj : x ≠ j) (hr : Reads A a (tickV l))
    (hn : n = l.length) (hb : l.length ≤ 1000000)
    (hk : ∀ w', Sat w' ((L.set x (Cs p 47 [.iface 24 (.pointer (some ⟨b, 0, none⟩)), .int .i64 (IntKind.wrap .i64 (q1 + 1))])).set i (Cs b 26 [.int .i64 kinds, .int .i64 least, .int .i64 (IntKind.wrap .i64 (q2 + 1))])) → R (.bool (hasM l kinds least)) w') :
    ClW Try.prog 15 #[.pointer (some ⟨p, 0, none⟩), .slice a n c] R w := by
  refine w15 _ _ _ _ _ _ (nc (lda hs x hx rfl ⟨_, rfl, nc (sta hs x hx (by simp) fun w1 hs => nc ?_)⟩))
  have hlt : x < L.length := (List.getElem?_eq_some_iff.1 hx).1
  refine lda hs x (List.getElem?_set_self hlt) rfl ⟨_, rfl, call_has ?_⟩
  exact c12 hs (set_ne hxi hi) (set_ne hxj hj) hij hr hn hb fun w' hs' => ⟨_, rfl, hk w' hs'⟩

theorem lp16 {p b : Nat} {n : Nat} {kinds least : Int} {t7 : Bool} {t6 : Option Addr} {t6l t6c : Nat} (hn : 0 < n) (hnb : n ≤ 1000000) {Kr K0 : List Value → W} :
    ∀ (f at_ : Nat) (l : List Int) (cut : Bool) (w : World) (q1 q2 : Int) (a : Option Addr) (c : Nat), l.length < at_ + f → l.length ≤ 1000000 →
      Sat w (Cs p 47 [.iface 24 (.pointer (some ⟨b, 0, none⟩)), .int .i64 q1] :: Cs b 26 [.int .i64 kinds, .int .i64 least, .int .i64 q2] :: Sl 40 1 a l.length c (tickV l) :: F) →
      (∀ (w' : World) (a' : Option Addr) (c' : Nat) (z : Int) (l' : List Int) (k' : Nat) (cut' : Bool) (m : Nat), (l', k', cut') = roundF kinds least n f at_ l cut → m = l'.length →
        Sat w' (Cs p 47 [.iface 24 (.pointer (some ⟨b, 0, none⟩)), .int .i64 (addW q1 k')] :: Cs b 26 [.int .i64 kinds, .int .i64 least, .int .i64 (addW q2 k')] :: Sl 40 1 a' m c' (tickV l') :: F) →
        K0 [.int .i64 z, .bool cut', .bool t7, .slice t6 t6l t6c, .pointer (some ⟨p, 0, none⟩), .slice a' m c', .int .i64 (n : Int)] w') →
      L16_0 Kr K0 [.int .i64 (at_ : Int), .bool cut, .bool t7, .slice t6 t6l t6c, .pointer (some ⟨p, 0, none⟩), .slice a l.length c, .int .i64 (n : Int)] w := by
  intro f
  induction f with
  | zero =>
    intro at_ l cut w q1 q2 a c hf hb hs hk
    refine u16_0 _ _ _ _ _ _ _ _ _ _ _ _ _ _ (bcf (by simp; omega) ?_)
    exact hk w a c _ l 0 cut _ rfl rfl hs
  | succ f ih =>
    intro at_ l cut w q1 q2 a c hf hb hs hk
    refine u16_0 _ _ _ _ _ _ _ _ _ _ _ _ _ _ (bc (fun hlt => ?_) (fun hge => ?_))
    · have hlt' : at_ < l.length := by have : (at_ : Int) < l.length := by simpa using hlt
                                       omega
      refine c10 hs (i := 2) rfl Sl.reads rfl hb fun a1 c1 w1 m hm hs1 => ⟨_, _, _, rfl, ?_⟩
      refine c15 hs1 (x := 1) (i := 2) (j := 0) rfl rfl rfl (by decide) (by decide) (by decide) Sl.reads hm (Nat.le_trans (withoutM_le _ _ _) hb) fun w2 hs2 => ⟨_, rfl, ?_⟩
      refine bc (fun hyes => ?_) (fun hno => ?_)
      · -- the rest has it
        subst hm
        have hs3 : Sat w2 (Cs p 47 [.iface 24 (.pointer (some ⟨b, 0, none⟩)), .int .i64 (IntKind.wrap .i64 (q1 + 1))] :: Cs b 26 [.int .i64 kinds, .int .i64 least, .int .i64 (IntKind.wrap .i64 (q2 + 1))] :: Sl 40 1 a1 (withoutM l at_ n).length c1 (tickV (withoutM l at_ n)) :: F) := by
          have h2 : Sat w2 (Sl 40 1 a1 (withoutM l at_ n).length c1 (tickV (withoutM l at_ n)) :: Cs p 47 [.iface 24 (.pointer (some ⟨b, 0, none⟩)), .int .i64 (IntKind.wrap .i64 (q1 + 1))] :: Cs b 26 [.int .i64 kinds, .int .i64 least, .int .i64 (IntKind.wrap .i64 (q2 + 1))] :: Sl 40 1 a l.length c (tickV l) :: F) := hs2
          exact (h2.front 3 rfl).tail.perm ((List.Perm.swap _ _ _).trans ((List.Perm.swap _ _ _).cons _))
        have hlen := withoutM_lt hlt' hn
        refine ih at_ _ true w2 _ _ a1 c1 (by omega) (by omega) hs3 fun w' a' c' z l' k' cut' m hr hm hs' => ?_
        refine hk w' a' c' z l' (k' + 1) cut' m ?_ hm ?_
        · unfold roundF; rw [if_pos hlt', if_pos hyes, ← hr]
        · exact hs'
      · have hs3 : Sat w2 (Cs p 47 [.iface 24 (.pointer (some ⟨b, 0, none⟩)), .int .i64 (IntKind.wrap .i64 (q1 + 1))] :: Cs b 26 [.int .i64 kinds, .int .i64 least, .int .i64 (IntKind.wrap .i64 (q2 + 1))] :: Sl 40 1 a l.length c (tickV l) :: F) := Sat.tail hs2
        have hw : IntKind.wrap .i64 ((at_ : Int) + (n : Int)) = ((at_ + n : Nat) : Int) := by rw [wrap_small (by omega) (by omega)]; simp
        rw [hw]
        refine ih (at_ + n) l cut w2 _ _ a c (by omega) hb hs3 fun w' a' c' z l' k' cut' m hr hm hs' => ?_
        refine hk w' a' c' z l' (k' + 1) cut' m ?_ hm hs'
        unfold roundF; rw [if_pos hlt', if_neg (by rw [hno]; simp), ← hr]
    · have hge' : ¬ at_ < l.length := by have : ¬ (at_ : Int) < l.length := by simpa using hge
                                         omega
      refine hk w a c _ l 0 cut _ ?_ rfl hs
      unfold roundF; rw [if_neg hge']

theorem c16 {p b : Nat} {n m c : Nat} {kinds least q1 q2 : Int} {a : Option Addr} {l : List Int} (hn : 0 < n) (hnb : n ≤ 1000000) (hm : m = l.length) (hb : l.length ≤ 1000000)
    (hs : Sat w (Cs p 47 [.iface 24 (.pointer (some ⟨b, 0, none⟩)), .int .i64 q1] :: Cs b 26 [.int .i64 kinds, .int .i64 least, .int .i64 q2] :: Sl 40 1 a l.length c (tickV l) :: F))
    (hk : ∀ (w' : World) (a' : Option Addr) (c' : Nat) (l' : List Int) (k' : Nat) (cut' : Bool) (m : Nat), (l', k', cut') = roundF kinds least n (l.length + 1) 0 l false → m = l'.length →
        Sat w' (Cs p 47 [.iface 24 (.pointer (some ⟨b, 0, none⟩)), .int .i64 (addW q1 k')] :: Cs b 26 [.int .i64 kinds, .int .i64 least, .int .i64 (addW q2 k')] :: Sl 40 1 a' m c' (tickV l') :: F) →
        R (.tuple #[.slice a' m c', .bool cut']) w') : ClW Try.prog 16 #[.pointer (some ⟨p, 0, none⟩), .slice a m c, .int .i64 (n : Int)] R w := by
  subst hm
  refine w16 _ _ _ _ _ _ _ ?_
  exact lp16 hn hnb (l.length + 1) 0 l false w q1 q2 a c (by omega) hb hs fun w' a' c' z l' k' cut' m hr hm hs' => ⟨_, _, _, _, _, _, _, _, _, _, _, rfl, hk w' a' c' l' k' cut' m hr hm hs'⟩

end
section
variable {w : World} {L F : List Asn} {R : Value → W}
theorem half (n : Nat) (h : n ≤ 1000000) : IntKind.wrap .i64 (Int.tdiv (n : Int) 2) = ((n / 2 : Nat) : Int) := by
  have h1 : Int.tdiv (n : Int) 2 = ((n / 2 : Nat) : Int) := by
    rw [Int.tdiv_eq_ediv_of_nonneg (by omega)]; rfl
  rw [h1, wrap_small (by omega) (by omega)]

end
section
variable [Base] {w : World} {L F : List Asn} {R : Value → W}
end
section
variable {w : World} {L F : List Asn} {R : Value → W}
theorem leastF_round {kinds least : Int} {f n : Nat} {l l' : List Int} {k' : Nat} {cut' : Bool} (hn : 0 < n) (hr : (l', k', cut') = roundF kinds least n (l.length + 1) 0 l false) :
    leastF kinds least (f + 1) n l = if n ≠ 1 ∨ cut' = false then ((leastF kinds least f (n / 2) l').1, k' + (leastF kinds least f (n / 2) l').2) else ((leastF kinds least f n l').1, k' + (leastF kinds least f n l').2) := by
  conv => lhs; unfold leastF
  rw [if_pos hn, ← hr]

end
section
variable [Base] {w : World} {L F : List Asn} {R : Value → W}
theorem lp6 {p b : Nat} {kinds least : Int} {t5 : Int} {t4 : Option Addr} {t4l t4c : Nat} {Kr K0 : List Value → W} :
    ∀ (f n : Nat) (l : List Int) (w : World) (q1 q2 : Int) (a : Option Addr) (c : Nat), n + l.length < f → n ≤ 1000000 → l.length ≤ 1000000 →
      Sat w (Cs p 47 [.iface 24 (.pointer (some ⟨b, 0, none⟩)), .int .i64 q1] :: Cs b 26 [.int .i64 kinds, .int .i64 least, .int .i64 q2] :: Sl 40 1 a l.length c (tickV l) :: F) →
      (∀ (w' : World) (a' : Option Addr) (c' : Nat) (z : Int) (l' : List Int) (k' : Nat) (m : Nat), (l', k') = leastF kinds least f n l → m = l'.length →
        Sat w' (Cs p 47 [.iface 24 (.pointer (some ⟨b, 0, none⟩)), .int .i64 (addW q1 k')] :: Cs b 26 [.int .i64 kinds, .int .i64 least, .int .i64 (addW q2 k')] :: Sl 40 1 a' m c' (tickV l') :: F) →
        K0 [.int .i64 z, .pointer (some ⟨p, 0, none⟩), .slice a' m c', .int .i64 t5, .slice t4 t4l t4c] w') →
      L6_0 Kr K0 [.int .i64 (n : Int), .pointer (some ⟨p, 0, none⟩), .slice a l.length c, .int .i64 t5, .slice t4 t4l t4c] w := by
  intro f
  induction f with
  | zero => intro n l w q1 q2 a c hf; omega
  | succ f ih =>
    intro n l w q1 q2 a c hf hnb hb hs hk
    refine u6_0 _ _ _ _ _ _ _ _ _ _ _ _ (bc (fun hpos => ?_) (fun hz => ?_))
    · have hn : 0 < n := by have : (0 : Int) < (n : Int) := by simpa using hpos
                            omega
      refine c16 hn hnb rfl hb hs fun w1 a1 c1 l1 k1 cut1 m hr hm hs1 => ⟨_, _, _, _, rfl, ?_⟩
      subst hm
      have hle : l1.length ≤ l.length := by have := roundF_le kinds least n (l.length + 1) 0 l false; rw [← hr] at this; exact this
      have halfway : (n ≠ 1 ∨ cut1 = false) → L6_0 Kr K0 [.int .i64 (IntKind.wrap .i64 (Int.tdiv (n : Int) 2)), .pointer (some ⟨p, 0, none⟩), .slice a1 l1.length c1, .int .i64 t5, .slice t4 t4l t4c] w1 := fun hc => by
        rw [half n hnb]
        refine ih (n / 2) l1 w1 _ _ a1 c1 (by omega) (by omega) (by omega) hs1 fun w' a' c' z l' k' m hr2 hm hs' => hk w' a' c' z l' (k1 + k') m ?_ hm (by rw [addW_add, addW_add]; exact hs')
        rw [leastF_round hn hr, if_pos hc, ← hr2]
      refine bc (fun h1 => ⟨by decide, halfway (.inl ?_)⟩) (fun h1 => bc (fun h2 => ⟨by decide, halfway (.inr (by simpa using h2))⟩) (fun h2 => ?_))
      · intro hn1; subst hn1; simp at h1
      · have hn1 : n = 1 := by have : (n : Int) = 1 := by simpa using h1
                               omega
        have hcut : cut1 = true := by simpa using h2
        have hlt : l1.length < l.length := by
          have := roundF_cut kinds least n hn (l.length + 1) 0 l
          rw [← hr] at this; exact this hcut
        refine ih n l1 w1 _ _ a1 c1 (by omega) (by omega) (by omega) hs1 fun w' a' c' z l' k' m hr2 hm hs' => hk w' a' c' z l' (k1 + k') m ?_ hm (by rw [addW_add, addW_add]; exact hs')
        rw [leastF_round hn hr, if_neg (by rw [hcut]; simp [hn1]), ← hr2]
    · have hn : n = 0 := by have : ¬ (0 : Int) < (n : Int) := by simpa using hz
                            omega
      refine hk w a c _ l 0 _ ?_ rfl hs
      unfold leastF; rw [if_neg (by omega)]

theorem c6 {A : Asn} {j b : Nat} {a : Option Addr} {n c : Nat} {l : List Int} {kinds least q2 : Int} (hs : Sat w (Cs b 26 [.int .i64 kinds, .int .i64 least, .int .i64 q2] :: L)) (hj : L[j]? = some A) (hr : Reads A a (tickV l)) (hn : n = l.length) (hb : l.length ≤ 100000)
    (hk : ∀ (w' : World) (a' : Option Addr) (c' m : Nat), m = (leastM kinds least l).1.length →
      Sat w' (Cs b 26 [.int .i64 kinds, .int .i64 least, .int .i64 (addW q2 ((leastM kinds least l).2 + 1))] :: Sl 40 1 a' m c' (tickV (leastM kinds least l).1) :: L) →
      R (.tuple #[.slice a' m c', .int .i64 (addW 0 ((leastM kinds least l).2 + 1))]) w') :
    ClW Try.prog 6 #[.slice a n c, .iface 24 (.pointer (some ⟨b, 0, none⟩))] R w := by
  refine w6 _ _ _ _ _ _ (c14 hs (i := j + 1) hj hr hn (by omega) fun a1 c1 w1 hs1 => ⟨_, _, _, rfl, rfl, bcf rfl ⟨fun w' => by kernel_rfl, ?_⟩⟩)
  refine nb hs1 fun p w2 hs2 => ?_
  refine c15 hs2 (x := 0) (i := 2) (j := 1) rfl rfl rfl (by decide) (by decide) (by decide) Sl.reads rfl (by omega) fun w3 hs3 => ⟨_, rfl, ?_⟩
  refine bc (fun hno => ?_) (fun hyes => ?_)
  · have hno' : ¬ hasM l kinds least = true := by simpa using hno
    have hm : leastM kinds least l = (l, 0) := by unfold leastM; rw [if_neg hno']
    rw [hm] at hk
    refine dr (lda hs3.drew 0 rfl rfl ⟨_, rfl, ?_⟩)
    refine hk _ a1 c1 l.length rfl ?_
    exact Sat.swap (Sat.tail hs3.drew)
  · have hyes' : hasM l kinds least = true := by simpa using hyes
    have hm : leastM kinds least l = leastF kinds least (2 * l.length + 1) l.length l := by unfold leastM; rw [if_pos hyes']
    rw [hm] at hk
    have hs4 : Sat w3 (Cs p 47 [.iface 24 (.pointer (some ⟨b, 0, none⟩)), .int .i64 (IntKind.wrap .i64 (0 + 1))] :: Cs b 26 [.int .i64 kinds, .int .i64 least, .int .i64 (IntKind.wrap .i64 (q2 + 1))] :: Sl 40 1 a1 l.length c1 (tickV l) :: L) :=
      Sat.perm hs3 ((List.Perm.swap _ _ _).cons _)
    refine lp6 (2 * l.length + 1) l.length l w3 _ _ a1 c1 (by omega) (by omega) (by omega) hs4 fun w' a' c' z l' k' m hr2 hm hs' => ⟨_, _, _, _, _, _, _, _, _, rfl, ?_⟩
    rw [← hr2] at hk
    refine dr (nc (lda hs'.drew 0 rfl rfl ⟨_, rfl, ?_⟩))
    exact hk _ a' c' m hm (Sat.tail hs'.drew)

theorem c6nil {A : Asn} {j : Nat} {a : Option Addr} {n c : Nat} {l : List Int} (hs : Sat w L) (hj : L[j]? = some A) (hr : Reads A a (tickV l)) (hn : n = l.length) (hb : l.length ≤ 100000)
    (hk : ∀ (w' : World) (a' : Option Addr) (c' m : Nat), m = l.length → Sat w' (Sl 40 1 a' m c' (tickV l) :: L) → R (.tuple #[.slice a' m c', .int .i64 0]) w') :
    ClW Try.prog 6 #[.slice a n c, .nilIface] R w := by
  refine w6 _ _ _ _ _ _ (c14 hs (i := j) hj hr hn (by omega) fun a1 c1 w1 hs1 => ⟨_, _, _, rfl, rfl, bct rfl (hk _ _ _ _ rfl hs1)⟩)

/- THE DOCUMENT's -/
theorem lp8a {n : Nat} {kinds least : Int} {t7 : Int} {t6 : Option Addr} {t6l t6c : Nat} (hn : 0 < n) (hnb : n ≤ 1000000) {Kr K2 : List Value → W} :
    ∀ (f at_ : Nat) (l : List Int) (cut : Bool) (w : World) (q : Int) (a : Option Addr) (c : Nat) (E : List Asn) (j : Nat) (A : Asn), l.length < at_ + f → l.length ≤ 1000000 → Sat w (E ++ F) → (E ++ F)[j]? = some A → Reads A a (vals l) →
      (∀ (w' : World) (a' : Option Addr) (c' : Nat) (z : Int) (l' : List Int) (k' : Nat) (cut' : Bool) (m : Nat) (E' : List Asn) (j' : Nat) (A' : Asn), (l', k', cut') = roundF kinds least n f at_ l cut → m = l'.length →
        Sat w' (E' ++ F) → (E' ++ F)[j']? = some A' → Reads A' a' (vals l') →
        K2 [.int .i64 z, .bool cut', .int .i64 (n : Int), .int .i64 (addW q k'), .int .i64 t7, .slice t6 t6l t6c, .slice a' m c', .int .i64 kinds, .int .i64 least] w') →
      L8_1 Kr K2 [.int .i64 (at_ : Int), .bool cut, .int .i64 (n : Int), .int .i64 q, .int .i64 t7, .slice t6 t6l t6c, .slice a l.length c, .int .i64 kinds, .int .i64 least] w := by
  intro f
  induction f with
  | zero =>
    intro at_ l cut w q a c E j A hf hb hs hj hr hk
    refine u8_1 _ _ _ _ _ _ _ _ _ _ _ _ _ _ _ _ (bcf (by simp; omega) ?_)
    exact hk w a c _ l 0 cut _ E j A rfl rfl hs hj hr
  | succ f ih =>
    intro at_ l cut w q a c E j A hf hb hs hj hr hk
    refine u8_1 _ _ _ _ _ _ _ _ _ _ _ _ _ _ _ _ (bc (fun hlt => ?_) (fun hge => ?_))
    · have hlt' : at_ < l.length := by have : (at_ : Int) < l.length := by simpa using hlt
                                       omega
      refine c11 hs hj hr rfl hb fun a1 c1 w1 m hm hs1 => ⟨_, _, _, rfl, ?_⟩
      have hlen := withoutM_lt hlt' hn
      refine c17 hs1 (i := 0) rfl Sl.reads hm (by omega) ⟨_, rfl, ?_⟩
      refine bc (fun hyes => ?_) (fun hno => ?_)
      · subst hm
        refine ih at_ _ true w1 _ a1 c1 (Sl 3 1 a1 _ c1 _ :: E) 0 _ (by omega) (by omega) hs1 rfl Sl.reads fun w' a' c' z l' k' cut' m E' j' A' hr2 hm hs' hj' hr' => ?_
        refine hk w' a' c' z l' (k' + 1) cut' m E' j' A' ?_ hm hs' hj' hr'
        unfold roundF; rw [if_pos hlt', if_pos hyes, ← hr2]
      · have hw : IntKind.wrap .i64 ((at_ : Int) + (n : Int)) = ((at_ + n : Nat) : Int) := by rw [wrap_small (by omega) (by omega)]; simp
        rw [hw]
        refine ih (at_ + n) l cut w1 _ a c E j A (by omega) hb hs1.tail hj hr fun w' a' c' z l' k' cut' m E' j' A' hr2 hm hs' hj' hr' => ?_
        refine hk w' a' c' z l' (k' + 1) cut' m E' j' A' ?_ hm hs' hj' hr'
        unfold roundF; rw [if_pos hlt', if_neg (by rw [hno]; simp), ← hr2]
    · have hge' : ¬ at_ < l.length := by have : ¬ (at_ : Int) < l.length := by simpa using hge
                                         omega
      refine hk w a c _ l 0 cut _ E j A ?_ rfl hs hj hr
      unfold roundF; rw [if_neg hge']

theorem lp8 {kinds least : Int} {t7 : Int} {t6 : Option Addr} {t6l t6c : Nat} {Kr K0 : List Value → W} :
    ∀ (f n : Nat) (l : List Int) (w : World) (q : Int) (a : Option Addr) (c : Nat) (E : List Asn) (j : Nat) (A : Asn), n + l.length < f → n ≤ 1000000 → l.length ≤ 1000000 → Sat w (E ++ F) → (E ++ F)[j]? = some A → Reads A a (vals l) →
      (∀ (w' : World) (a' : Option Addr) (c' : Nat) (z : Int) (l' : List Int) (k' : Nat) (m : Nat) (E' : List Asn) (j' : Nat) (A' : Asn), (l', k') = leastF kinds least f n l → m = l'.length →
        Sat w' (E' ++ F) → (E' ++ F)[j']? = some A' → Reads A' a' (vals l') →
        K0 [.int .i64 z, .int .i64 (addW q k'), .int .i64 t7, .slice t6 t6l t6c, .slice a' m c', .int .i64 kinds, .int .i64 least] w') →
      L8_0 Kr K0 [.int .i64 (n : Int), .int .i64 q, .int .i64 t7, .slice t6 t6l t6c, .slice a l.length c, .int .i64 kinds, .int .i64 least] w := by
  intro f
  induction f with
  | zero => intro n l w q a c E j A hf; omega
  | succ f ih =>
    intro n l w q a c E j A hf hnb hb hs hj hr hk
    refine u8_0 _ _ _ _ _ _ _ _ _ _ _ _ _ _ (bc (fun hpos => ?_) (fun hz => ?_))
    · have hn : 0 < n := by have : (0 : Int) < (n : Int) := by simpa using hpos
                            omega
      refine lp8a hn hnb (l.length + 1) 0 l false w q a c E j A (by omega) hb hs hj hr fun w1 a1 c1 z1 l1 k1 cut1 m E1 j1 A1 hr1 hm hs1 hj1 hrd1 => ⟨_, _, _, _, _, _, _, _, _, _, _, _, _, rfl, ?_⟩
      subst hm
      have hle : l1.length ≤ l.length := by have := roundF_le kinds least n (l.length + 1) 0 l false; rw [← hr1] at this; exact this
      have halfway : (n ≠ 1 ∨ cut1 = false) → L8_0 Kr K0 [.int .i64 (IntKind.wrap .i64 (Int.tdiv (n : Int) 2)), .int .i64 (addW q k1), .int .i64 t7, .slice t6 t6l t6c, .slice a1 l1.length c1, .int .i64 kinds, .int .i64 least] w1 := fun hc => by
        rw [half n hnb]
        refine ih (n / 2) l1 w1 _ a1 c1 E1 j1 A1 (by omega) (by omega) (by omega) hs1 hj1 hrd1 fun w' a' c' z l' k' m E' j' A' hr2 hm hs' hj' hr' => hk w' a' c' z l' (k1 + k') m E' j' A' ?_ hm hs' hj' hr' |> fun h => by rw [addW_add] at h; exact h
        rw [leastF_round hn hr1, if_pos hc, ← hr2]
      refine bc (fun h1 => ⟨by decide, halfway (.inl ?_)⟩) (fun h1 => bc (fun h2 => ⟨by decide, halfway (.inr (by simpa using h2))⟩) (fun h2 => ?_))
      · intro hn1; subst hn1; simp at h1
      · have hn1 : n = 1 := by have : (n : Int) = 1 := by simpa using h1
                               omega
        have hcut : cut1 = true := by simpa using h2
        have hlt : l1.length < l.length := by
          have := roundF_cut kinds least n hn (l.length + 1) 0 l
          rw [← hr1] at this; exact this hcut
        refine ih n l1 w1 _ a1 c1 E1 j1 A1 (by omega) (by omega) (by omega) hs1 hj1 hrd1 fun w' a' c' z l' k' m E' j' A' hr2 hm hs' hj' hr' => hk w' a' c' z l' (k1 + k') m E' j' A' ?_ hm hs' hj' hr' |> fun h => by rw [addW_add] at h; exact h
        rw [leastF_round hn hr1, if_neg (by rw [hcut]; simp [hn1]), ← hr2]
    · have hn : n = 0 := by have : ¬ (0 : Int) < (n : Int) := by simpa using hz
                            omega
      refine hk w a c _ l 0 _ E j A ?_ rfl hs hj hr
      unfold leastF; rw [if_neg (by omega)]

theorem c8 {A : Asn} {j : Nat} {a : Option Addr} {n c : Nat} {l : List Int} {kinds least : Int} (hs : Sat w F) (hj : F[j]? = some A) (hr : Reads A a (vals l)) (hn : n = l.length) (hb : l.length ≤ 100000)
    (hk : ∀ (w' : World) (a' : Option Addr) (c' m : Nat) (E' : List Asn) (j' : Nat) (A' : Asn), m = (leastM kinds least l).1.length → Sat w' (E' ++ F) → (E' ++ F)[j']? = some A' → Reads A' a' (vals (leastM kinds least l).1) →
      R (.tuple #[.slice a' m c', .int .i64 (addW 0 ((leastM kinds least l).2 + 1))]) w') :
    ClW Try.prog 8 #[.slice a n c, .int .i64 kinds, .int .i64 least] R w := by
  subst hn
  refine w8 _ _ _ _ _ _ _ (c17 hs hj hr rfl (by omega) ⟨_, rfl, ?_⟩)
  have h1 : addW 0 1 = 1 := by decide
  refine bc (fun hno => ?_) (fun hyes => ?_)
  · have hno' : ¬ hasM l kinds least = true := by simpa using hno
    have hm : leastM kinds least l = (l, 0) := by unfold leastM; rw [if_neg hno']
    rw [hm] at hk
    have := hk w a c l.length [] j A rfl hs hj hr
    rwa [show (l, (0 : Nat)).2 + 1 = 1 from rfl, h1] at this
  · have hyes' : hasM l kinds least = true := by simpa using hyes
    have hm : leastM kinds least l = leastF kinds least (2 * l.length + 1) l.length l := by unfold leastM; rw [if_pos hyes']
    rw [hm] at hk
    refine lp8 (2 * l.length + 1) l.length l w 1 a c [] j A (by omega) (by omega) (by omega) hs hj hr fun w' a' c' z l' k' m E' j' A' hr2 hm hs' hj' hr' => ⟨_, _, _, _, _, _, _, _, _, _, _, rfl, ?_⟩
    rw [← hr2] at hk
    have := hk w' a' c' m E' j' A' hm hs' hj' hr'
    rwa [show (l', k').2 + 1 = 1 + k' by show k' + 1 = 1 + k'; omega, addW_add, h1] at this
end
end Go.Proofs.Ytpliocedgiejiaa
