/-
  The pair's laws, walked; and the plain law on what is left.
-/
import Derived.Test.YtpliocedgiejiaaPC1
namespace Go.Proofs.Ytpliocedgiejiaa
open Go
section
variable [Base]

end
section
variable [Base] {w : World} {L F : List Asn} {R : Value → W}

theorem ixh1 {S : World → Prop} (hs : Sat w L) (hS : ∀ w', S w' → Sat w' L) (i : Nat) {A : Asn} {a : Option Addr} {xs : List Value} (hi : L[i]? = some A) (hr : Reads A a xs) {n : Nat} {ii : Int} {u : Value} {k : Value → W}
    (h0 : 0 ≤ ii) (h1 : ii < n) (hu : xs[ii.toNat]? = some u) (hk : k u w) : IxW a n ii (fun x => LhW S (x.add (ii.toNat.mul 1)) k) w := by
  obtain ⟨x, h2, hsp, h3⟩ := (hs.rd i hi hr).cell hu
  refine ⟨x, h2, ⟨h0, h1⟩, u, fun w' h => ?_, hk⟩
  obtain ⟨y, h4, _, h5⟩ := ((hS w' h).rd i hi hr).cell hu
  rw [h2] at h4; cases h4
  rw [show ii.toNat.mul 1 = ii.toNat from Nat.mul_one _]; exact h5

end
section
variable {w : World} {L F : List Asn} {R : Value → W}
theorem awakeM : leastM 32 2 [5, 1, 5, 2, 5] = ([5, 5], 9) ∧ withoutM [5, 1, 5, 2, 5] 1 2 = [5, 2, 5] := by decide +kernel

end
section
variable [Base] {w : World} {L F : List Asn} {R : Value → W}
theorem c5 (hs : Sat w L) (hk : ∀ w', Sat w' L → R (.bool true) w') : ClW Try.prog 5 #[] R w := by
  obtain ⟨hm1, hm2⟩ := awakeM
  refine w5 _ _ ?_
  refine bs elI hs (cs := vals [5, 1, 5, 2, 5]) (by decide) (by kernel_rfl) rfl fun a1 w1 hs => ⟨_, _, _, rfl, ?_⟩
  refine c7 hs (i := 0) (l := [5, 1, 5, 2, 5]) rfl Sl.reads rfl (by decide) fun a2 c2 w2 hs => ⟨_, _, _, rfl, ⟨fun w' => by kernel_rfl, ?_⟩⟩
  refine nb hs fun b w3 hs => ?_
  refine c6 hs (j := 0) rfl Sl.reads rfl (by decide) fun w4 a4 c4 m4 hm4 hs => ⟨_, _, _, _, rfl, ?_⟩
  rw [hm1] at hs hm4 ⊢
  -- b, [5,5], ticks
  refine c10 hs (i := 2) (l := [5, 1, 5, 2, 5]) rfl Sl.reads rfl (by decide) fun a5 d5 w5 m5 hm5 hs => ⟨_, _, _, rfl, ?_⟩
  rw [hm2] at hs hm5
  refine c6nil hs (j := 3) (l := [5, 1, 5, 2, 5]) rfl Sl.reads rfl (by decide) fun w6 a6 c6 m6 hm6 hs => ⟨_, _, _, _, rfl, ?_⟩
  refine bs elI hs (cs := vals [5, 5]) (by decide) (by kernel_rfl) rfl fun a7 w7 hs => ⟨_, _, _, rfl, ?_⟩
  -- [5,5]lit, nil's, [5,2,5], b, [5,5], ticks ..
  refine c9 hs (i := 4) (j := 0) (p := [5, 5]) (q := [5, 5]) rfl Sl.reads rfl Sl.reads hm4 rfl (by decide) fun w8 hs => ⟨_, rfl, bct rfl ?_⟩
  refine lda hs 3 rfl rfl ⟨_, rfl, bct (by decide) ?_⟩
  refine bs elI hs (cs := vals [5, 2, 5]) (by decide) (by kernel_rfl) rfl fun a9 w9 hs => ⟨_, _, _, rfl, ?_⟩
  refine c9 hs (i := 3) (j := 0) (p := [5, 2, 5]) (q := [5, 2, 5]) rfl Sl.reads rfl Sl.reads hm5 rfl (by decide) fun w10 hs => ⟨_, rfl, bct rfl ?_⟩
  exact hk _ hs.tail.tail.tail.tail.tail.tail.tail.tail

theorem c3 {A : Asn} {j : Nat} {a : Option Addr} {n c : Nat} {l : List Int} {kinds count at_ k : Int} (hs : Sat w F) (hj : F[j]? = some A) (hr : Reads A a (vals l)) (hn : n = l.length)
    (hk : ∀ w', Sat w' F → R (.bool true) w') : ClW Try.prog 3 #[.slice a n c, .int .i64 kinds, .int .i64 count, .int .i64 at_, .int .i64 k] R w := by
  subst hn
  refine w3 _ _ _ _ _ _ _ _ _ (c5 hs fun w1 hs => ⟨_, rfl, bcf rfl ?_⟩)
  refine bc (fun _ => hk _ hs) (fun h40 => ?_)
  have hl : l.length ≤ 40 := by have : ¬ ((l.length : Int) > 40) := by simpa using h40
                                omega
  refine ⟨fun w' => by kernel_rfl, nb hs fun b w2 hs => ?_⟩
  refine c7 hs (i := j + 1) hj hr rfl (by omega) fun a3 d3 w3 hs => ⟨_, _, _, rfl, ?_⟩
  have hs := hs.swap
  refine c6 hs (j := 0) rfl Sl.reads rfl (by omega) fun w4 a4 c4 m4 hm4 hs => ⟨_, _, _, _, rfl, ?_⟩
  refine c8 hs (j := j + 3) hj hr rfl (by omega) fun w5 a5 d5 m5 E j5 A5 hm5 hs hj5 hr5 => ⟨_, _, _, _, rfl, ?_⟩
  have hml : (leastM kinds count l).1.length ≤ 40 := by
    unfold leastM
    split
    · have : ∀ (f n : Nat) (l : List Int), (leastF kinds count f n l).1.length ≤ l.length := by
        intro f
        induction f with
        | zero => intro n l; exact Nat.le_refl _
        | succ f ih =>
          intro n l
          unfold leastF
          split
          · dsimp only
            split
            · exact Nat.le_trans (ih _ _) (roundF_le _ _ _ _ _ _ _)
            · exact Nat.le_trans (ih _ _) (roundF_le _ _ _ _ _ _ _)
          · exact Nat.le_refl _
      exact Nat.le_trans (this _ _ _) hl
    · exact hl
  have hE : ∀ i, (E ++ (Cs b 26 [.int .i64 kinds, .int .i64 count, .int .i64 (addW 0 ((leastM kinds count l).2 + 1))] :: Sl 40 1 a4 m4 c4 (tickV (leastM kinds count l).1) :: Sl 40 1 a3 l.length d3 (tickV l) :: F))[E.length + i]? = (Cs b 26 [.int .i64 kinds, .int .i64 count, .int .i64 (addW 0 ((leastM kinds count l).2 + 1))] :: Sl 40 1 a4 m4 c4 (tickV (leastM kinds count l).1) :: Sl 40 1 a3 l.length d3 (tickV l) :: F)[i]? := fun i => by
    rw [List.getElem?_append_right (by omega)]; congr 1; omega
  refine c9 hs (i := E.length + 1) (j := j5) (hE 1) Sl.reads hj5 hr5 hm4 hm5 (by omega) fun w6 hs => ⟨_, rfl, bct (by simp) (bct (by simp) ?_)⟩
  have hs := Sat.dropL hs
  refine lda (show Sat w6 _ from hs) 0 rfl rfl ⟨_, rfl, bct (by simp) ?_⟩
  refine c7 (show Sat w6 _ from hs) (i := j + 3) hj hr rfl (by omega) fun a7 d7 w7 hs => ⟨_, _, _, rfl, ?_⟩
  refine c10 hs (i := 0) rfl Sl.reads rfl (by omega) fun a8 d8 w8 m8 hm8 hs => ⟨_, _, _, rfl, ?_⟩
  refine c11 hs (i := j + 5) hj hr rfl (by omega) fun a9 d9 w9 m9 hm9 hs => ⟨_, _, _, rfl, ?_⟩
  refine c9 hs (i := 1) (j := 0) rfl Sl.reads rfl Sl.reads hm8 hm9 (by have := withoutM_le l at_ k; omega) fun w10 hs => ⟨_, rfl, ?_⟩
  rw [show decide (withoutM l at_ k = withoutM l at_ k) = true by simp]
  exact hk _ hs.tail.tail.tail.tail.tail.tail
end
end Go.Proofs.Ytpliocedgiejiaa
