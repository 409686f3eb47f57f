/-
  PruneExact, for every input.
-/
import Derived.Test.YtpliocedgiejiaaRows
import Derived.Test.YtpliocedgiejiaaXK
import Derived.Test.YtpliocedgiejiaaPD1
namespace Go.Proofs.Ytpliocedgiejiaa
open Go Go.ChangeShapes Go.WideShapes Go.ChangeAt Go.RowKit

theorem own1 : ownKnob Try.prog.godebug = none := by kernel_rfl
theorem laidOut1 : laidOutB Try.prog = true := by kernel_rfl

theorem cells_of_ints {W : World} {a : Addr} {zs : List Int} {len : Nat} (h : ∀ i, i < zs.length → W.cell? (a.add i) = some (.int .i64 (zs.getD i 0))) :
    ∀ j u, (vals (zs.take len))[j]? = some u → W.cell? (a.add j) = some u := by
  intro j u hj
  unfold vals at hj
  rw [List.getElem?_map, List.getElem?_take] at hj
  split at hj
  · cases hz : zs[j]? with
    | none => rw [hz] at hj; cases hj
    | some z =>
      rw [hz] at hj
      have hlt := (List.getElem?_eq_some_iff.1 hz).1
      rw [h j hlt]
      simp only [List.getD, hz, Option.getD_some]
      simpa using hj
  · cases hj

theorem reads_slice {W : World} {H : Type} {enc : TypeId × Value → H} {base b0 : Nat} {held : Bool} {v : Value} {d : DataW H} {p : List MemPlace} {r : Reach} (hval : Value.okWide Try.prog W r b0 22 v)
    (h : DataW.Trod enc Try.prog W base (fun _ => true) held 22 v d p) : ∃ (a : Option Addr) (n c : Nat) (l : List Int), v = .slice a n c ∧ n = l.length ∧ Reads (AllB W) a (vals l) := by
  obtain ⟨a0, n0, c0, rfl⟩ := okWide_slice Try.underlying22 hval
  obtain ⟨fuel, h⟩ := h
  rcases open_ints Try.underlying22 Try.underlying3 (by kernel_rfl) h with ⟨hv, _⟩ | ⟨a, len, cap, zs, hv, _, hlc, _, hlen, _, hcell, _⟩
  · have hv' : [Value.slice a0 n0 c0] = [Value.slice none 0 0] := hv
    cases hv'
    exact ⟨none, 0, 0, [], rfl, rfl, fun h _ j u hj => by cases hj⟩
  · have hv' : [Value.slice a0 n0 c0] = [Value.slice (some a) len cap] := hv
    cases hv'
    simp only [if_true] at hlen
    exact ⟨some a, n0, c0, zs.take n0, rfl, by rw [List.length_take]; omega, reads_all (cells_of_ints (len := n0) hcell)⟩

theorem walk3 {W : World} {a : Option Addr} {n c : Nat} {l : List Int} (hn : n = l.length) (hr : Reads (AllB W) a (vals l)) (kinds count at_ k : Int) :
    Calls Try.prog 3 #[.slice a n c, .int .i64 kinds, .int .i64 count, .int .i64 at_, .int .i64 k] W fun e W' => e = .returned (.bool true) ∧ @Sat ⟨W⟩ W' [AllB W] := by
  letI : Base := ⟨W⟩
  have h := c3 (R := fun v w' => v = .bool true ∧ Sat w' [AllB W]) (w := W) (F := [AllB W]) (j := 0) (kinds := kinds) (count := count) (at_ := at_) (k := k) (c := c) (sat_begin W) rfl hr hn (fun w' h => ⟨rfl, h⟩)
  exact Calls.mono h fun e w' ⟨v, he, hv, hs⟩ => ⟨by rw [he, hv], hs⟩

set_option maxRecDepth 100000 in
theorem lifted3 (os : Os) (started : os.Started) (H : Type) (enc : TypeId × Value → H) :
    ReturnsInHanded {} Try.checked os 3 .any (Rows.pruneExactSpec.pre6 enc Try.prog Try.f3 Rows.pruneExactRow.domain false) (Rows.pruneExactSpec.post enc Try.prog Try.f3 false true false false) := by
  refine returnsInHanded_of_change (C := Try.checked) own1 started (by kernel_rfl) Try.func3
    (ChangeSpec.witness6 (enc := enc) (C := Try.checked) false ⟨#[], #[.slice none 0 0, .int .i64 0, .int .i64 0, .int .i64 0, .int .i64 0], []⟩ 8 (by kernel_rfl) (by kernel_rfl) (by kernel_rfl) (by kernel_rfl)) ?_
  intro W base args ds gs before hval0 hW _ _
  have hval : ∀ (j : Nat) t v, Try.f3.params[j]? = some t → args[j]? = some v → Value.okWide Try.prog W .any base t v := hval0
  have hW' := hW
  obtain ⟨p, q, hA0, hV, rfl, hfz, hnd⟩ := hW
  have hA : DataW.TrodAll enc Try.prog W 0 (fun _ => true) true Try.f3.params.toList args.toList ds p := hA0
  rw [Try.params3] at hA hval
  obtain ⟨v0, vs0, d0, ds0, p0, q0, hargs, rfl, rfl, h0, r0⟩ := trodAll_cons hA
  obtain ⟨v1, vs1, d1, ds1, p1, q1, rfl, rfl, rfl, h1, r1⟩ := trodAll_cons r0
  obtain ⟨v2, vs2, d2, ds2, p2, q2, rfl, rfl, rfl, h2, r2⟩ := trodAll_cons r1
  obtain ⟨v3, vs3, d3, ds3, p3, q3, rfl, rfl, rfl, h3, r3⟩ := trodAll_cons r2
  obtain ⟨v4, vs4, d4, ds4, p4, q4, rfl, rfl, rfl, h4, r4⟩ := trodAll_cons r3
  obtain ⟨rfl, rfl, rfl⟩ := trodAll_nil r4
  obtain rfl : args = #[v0, v1, v2, v3, v4] := by cases args; simp_all
  obtain ⟨rfl, rfl⟩ := trodVars_none hV
  obtain ⟨a, n, c, l, rfl, hn, hr⟩ := reads_slice (hval 0 22 v0 rfl rfl) h0
  obtain ⟨x1, rfl, rfl, rfl, w1⟩ := open_int Try.underlying3 (hval 1 3 v1 rfl rfl) h1
  obtain ⟨x2, rfl, rfl, rfl, w2⟩ := open_int Try.underlying3 (hval 2 3 v2 rfl rfl) h2
  obtain ⟨x3, rfl, rfl, rfl, w3⟩ := open_int Try.underlying3 (hval 3 3 v3 rfl rfl) h3
  obtain ⟨x4, rfl, rfl, rfl, w4⟩ := open_int Try.underlying3 (hval 4 3 v4 rfl rfl) h4
  refine (walk3 hn hr x1 x2 x3 x4).mono fun e W' ⟨he, hs⟩ => ?_
  subst he
  refine ⟨_, rfl, post_kept (f := Try.f3) (s := Rows.pruneExactSpec) hW' laidOut1 ?_ rfl hs rfl rfl (fun _ _ _ => trodAll_mk1 (shut_bool Try.underlying4 _)) (ok_one (by kernel_rfl) rfl (okWide_bool_mk Try.underlying4 _))⟩
  intro t ht
  rw [Try.params3] at ht
  have ht' : t = 22 ∨ t = 3 := by simpa using ht
  rcases ht' with rfl | rfl <;> exact ⟨by kernel_rfl, by decide +kernel⟩

theorem over3 : Rows.pruneExactRow.holds Try.pinned (OpenSpec.ofChange Rows.pruneExactSpec) :=
  OpenClaim.holds_of_wide 3 Try.f3 rfl rfl rfl rfl rfl rfl rfl ⟨rfl, rfl, rfl, rfl, rfl⟩ rfl rfl rfl rfl rfl (by kernel_rfl) Try.func3 (by kernel_rfl)
    (of_decide_eq_true (by kernel_rfl)) (by unfold Func.isWrapper; first | (rw [if_pos (by decide +kernel)]; kernel_rfl) | (rw [if_neg (by decide +kernel)]; exact ⟨rfl, rfl⟩))
    (fun os started H enc _ => lifted3 os started H enc)

/-- what PruneExact's statement says -/
theorem pruneExact_holds : Rows.PruneExactSaid := over3
end Go.Proofs.Ytpliocedgiejiaa
