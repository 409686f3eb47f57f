/-
  PruneLeast, for every input: the statement as it is given, no condition.
-/
import Derived.Test.YtpliocedgiejiaaRows
import Derived.Test.YtpliocedgiejiaaPE0
import Derived.Test.YtpliocedgiejiaaPF1
namespace Go.Proofs.Ytpliocedgiejiaa
open Go Go.ChangeShapes Go.WideShapes Go.ChangeAt Go.RowKit

theorem walk4 {W : World} {a : Option Addr} {n c : Nat} {l : List Int} (hn : n = l.length) (hr : Reads (AllB W) a (vals l)) (kinds count : Int) :
    Calls Try.prog 4 #[.slice a n c, .int .i64 kinds, .int .i64 count] W fun e W' => e = .returned (.bool true) ∧ @Sat ⟨W⟩ W' [AllB W] := by
  letI : Base := ⟨W⟩
  have h := c4 (R := fun v w' => v = .bool true ∧ Sat w' [AllB W]) (w := W) (F := [AllB W]) (j := 0) (kinds := kinds) (count := count) (c := c) (sat_begin W) rfl hr hn (fun w' h => ⟨rfl, h⟩)
  exact Calls.mono h fun e w' ⟨v, he, hv, hs⟩ => ⟨by rw [he, hv], hs⟩

set_option maxRecDepth 100000 in
theorem lifted4 (os : Os) (started : os.Started) (H : Type) (enc : TypeId × Value → H) :
    ReturnsInHanded {} Try.checked os 4 .any (Rows.pruneLeastSpec.pre6 enc Try.prog Try.f4 Rows.pruneLeastRow.domain false) (Rows.pruneLeastSpec.post enc Try.prog Try.f4 false true false false) := by
  refine returnsInHanded_of_change (C := Try.checked) own1 started (by kernel_rfl) Try.func4
    (ChangeSpec.witness6 (enc := enc) (C := Try.checked) false ⟨#[], #[.slice none 0 0, .int .i64 0, .int .i64 0], []⟩ 8 (by kernel_rfl) (by kernel_rfl) (by kernel_rfl) (by kernel_rfl)) ?_
  intro W base args ds gs before hval0 hW _ _
  have hval : ∀ (j : Nat) t v, Try.f4.params[j]? = some t → args[j]? = some v → Value.okWide Try.prog W .any base t v := hval0
  have hW' := hW
  obtain ⟨p, q, hA0, hV, rfl, hfz, hnd⟩ := hW
  have hA : DataW.TrodAll enc Try.prog W 0 (fun _ => true) true Try.f4.params.toList args.toList ds p := hA0
  rw [Try.params4] at hA hval
  obtain ⟨v0, vs0, d0, ds0, p0, q0, hargs, rfl, rfl, h0, r0⟩ := trodAll_cons hA
  obtain ⟨v1, vs1, d1, ds1, p1, q1, rfl, rfl, rfl, h1, r1⟩ := trodAll_cons r0
  obtain ⟨v2, vs2, d2, ds2, p2, q2, rfl, rfl, rfl, h2, r2⟩ := trodAll_cons r1
  obtain ⟨rfl, rfl, rfl⟩ := trodAll_nil r2
  obtain rfl : args = #[v0, v1, v2] := by cases args; simp_all
  obtain ⟨rfl, rfl⟩ := trodVars_none hV
  obtain ⟨a, n, c, l, rfl, hn, hr⟩ := reads_slice (hval 0 22 v0 rfl rfl) h0
  obtain ⟨x1, rfl, rfl, rfl, w1⟩ := open_int Try.underlying3 (hval 1 3 v1 rfl rfl) h1
  obtain ⟨x2, rfl, rfl, rfl, w2⟩ := open_int Try.underlying3 (hval 2 3 v2 rfl rfl) h2
  refine (walk4 hn hr x1 x2).mono fun e W' ⟨he, hs⟩ => ?_
  subst he
  refine ⟨_, rfl, post_kept (f := Try.f4) (s := Rows.pruneLeastSpec) hW' laidOut1 ?_ rfl hs rfl rfl (fun _ _ _ => trodAll_mk1 (shut_bool Try.underlying4 _)) (ok_one (by kernel_rfl) rfl (okWide_bool_mk Try.underlying4 _))⟩
  intro t ht
  rw [Try.params4] at ht
  have ht' : t = 22 ∨ t = 3 := by simpa using ht
  rcases ht' with rfl | rfl <;> exact ⟨by kernel_rfl, by decide +kernel⟩

theorem over4 : Rows.pruneLeastRow.holds Try.pinned (OpenSpec.ofChange Rows.pruneLeastSpec) :=
  OpenClaim.holds_of_wide 4 Try.f4 rfl rfl rfl rfl rfl rfl rfl ⟨rfl, rfl, rfl, rfl, rfl⟩ rfl rfl rfl rfl rfl (by kernel_rfl) Try.func4 (by kernel_rfl)
    (of_decide_eq_true (by kernel_rfl)) (by unfold Func.isWrapper; first | (rw [if_pos (by decide +kernel)]; kernel_rfl) | (rw [if_neg (by decide +kernel)]; exact ⟨rfl, rfl⟩))
    (fun os started H enc _ => lifted4 os started H enc)

/-- what PruneLeast's statement says -/
theorem pruneLeast_holds : Rows.PruneLeastSaid := over4
end Go.Proofs.Ytpliocedgiejiaa
