/-
  How the pair's arguments are opened.
-/
import Derived.Test.YtpliocedgiejiaaRows
import Derived.Test.YtpliocedgiejiaaXK
import Derived.Test.YtpliocedgiejiaaPD1
namespace Go.Proofs.Ytpliocedgiejiaa
open Go Go.ChangeShapes Go.WideShapes Go.ChangeAt Go.RowKit

theorem own1 : ownKnob Try.prog.godebug = none := by kernel_rfl
theorem laidOut1 : laidOutB Try.prog = true := by kernel_rfl

theorem cells_of_ints {W : World} {a : Addr} {zs : List Int} {len : Nat} (h : ∀ i, i < zs.length → W.cell? (a.add i) = some (.int .i64 (zs.getD i 0))) :
    ∀ j u, (vals (zs.take len))[j]? = some u → W.cell? (a.add j) = some u := by
  intro j u hj
  unfold vals at hj
  rw [List.getElem?_map, List.getElem?_take] at hj
  split at hj
  · cases hz : zs[j]? with
    | none => rw [hz] at hj; cases hj
    | some z =>
      rw [hz] at hj
      have hlt := (List.getElem?_eq_some_iff.1 hz).1
      rw [h j hlt]
      simp only [List.getD, hz, Option.getD_some]
      simpa using hj
  · cases hj

theorem reads_slice {W : World} {H : Type} {enc : TypeId × Value → H} {base b0 : Nat} {held : Bool} {v : Value} {d : DataW H} {p : List MemPlace} {r : Reach} (hval : Value.okWide Try.prog W r b0 22 v)
    (h : DataW.Trod enc Try.prog W base (fun _ => true) held 22 v d p) : ∃ (a : Option Addr) (n c : Nat) (l : List Int), v = .slice a n c ∧ n = l.length ∧ Reads (AllB W) a (vals l) := by
  obtain ⟨a0, n0, c0, rfl⟩ := okWide_slice Try.underlying22 hval
  obtain ⟨fuel, h⟩ := h
  rcases open_ints Try.underlying22 Try.underlying3 (by kernel_rfl) h with ⟨hv, _⟩ | ⟨a, len, cap, zs, hv, _, hlc, _, hlen, _, hcell, _⟩
  · have hv' : [Value.slice a0 n0 c0] = [Value.slice none 0 0] := hv
    cases hv'
    exact ⟨none, 0, 0, [], rfl, rfl, fun h _ j u hj => by cases hj⟩
  · have hv' : [Value.slice a0 n0 c0] = [Value.slice (some a) len cap] := hv
    cases hv'
    simp only [if_true] at hlen
    exact ⟨some a, n0, c0, zs.take n0, rfl, by rw [List.length_take]; omega, reads_all (cells_of_ints (len := n0) hcell)⟩

end Go.Proofs.Ytpliocedgiejiaa
