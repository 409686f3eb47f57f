/-
  A law's row: what came in is left as it was, because no old block is touched.
-/
import Derived.Test.YtpliocedgiejiaaXH
import Derived.ProofKit
namespace Go.Proofs.Ytpliocedgiejiaa
open Go Go.ChangeShapes Go.WideShapes Go.ChangeAt Go.RowKit

/-- all blocks of a world, as they are -/
def AllB (W : World) : Asn := fun h => ∀ b o, W.heap[b]? = some o → h b = some o

theorem sat_begin (W : World) : @Sat ⟨W⟩ W [AllB W] :=
  letI : Base := ⟨W⟩
  ⟨⟨fun b => W.heap[b]?, fun _ => none, fun _ => .inr rfl, (fun _ _ e => e), (fun _ _ e => by cases e), (fun _ _ e => e), trivial⟩, rfl, rfl⟩

theorem sat_kept {W W' : World} (h : @Sat ⟨W⟩ W' [AllB W]) : (∀ (b : Nat) (o : Obj), W.heap[b]? = some o → W'.heap[b]? = some o) ∧ W'.os = W.os ∧ W'.output = W.output := by
  letI : Base := ⟨W⟩
  obtain ⟨⟨h1, h2, _, u1, _, a, _⟩, hg⟩ := h
  exact ⟨fun b o e => u1 _ _ (a _ _ e), hg.1, hg.2⟩

theorem reads_all {W : World} {a : Addr} {xs : List Value} (h : ∀ j u, xs[j]? = some u → W.cell? (a.add j) = some u) : Reads (AllB W) (some a) xs := by
  intro h' ha j u hj
  have hc := h j u hj
  obtain ⟨b, o, sp⟩ := a
  have hsp : sp = none := by
    have hlt : 0 < xs.length := by have := (List.getElem?_eq_some_iff.1 hj).1; omega
    have h0 := h 0 xs[0] (List.getElem?_eq_getElem hlt)
    cases sp with
    | none => rfl
    | some q =>
      exfalso
      have e : (⟨b, o, some q⟩ : Addr).add 0 = ⟨b, o, some q⟩ := rfl
      rw [e] at h0
      unfold World.cell? at h0
      split at h0
      · simp at h0
      · cases h0
  subst hsp
  rw [addr_add] at hc
  unfold World.cell? at hc
  cases hb : W.heap[b]? with
  | none => simp only [hb] at hc; cases hc
  | some ob =>
    simp only [hb] at hc
    cases ob with
    | cells cur T fr => exact ⟨b, o, cur, T, fr, rfl, ha _ _ hb, by simpa using hc⟩
    | _ => cases hc

theorem trodAll_kept {H : Type} {enc : TypeId × Value → H} {P : Program} {W W' : World} (hl : laidOutB P = true) (hk : ∀ (b : Nat) (o : Obj), W.heap[b]? = some o → W'.heap[b]? = some o) {sp' : Nat → Bool} :
    ∀ {ts : List TypeId} {vs : List Value} {ds : List (DataW H)} {ps : List MemPlace}, (∀ t ∈ ts, P.readableRec t = true ∧ t < P.types.size) → (∀ x ∈ ps, x.block < W.heap.size) → (∀ x ∈ ps, sp' x.block = true) →
      DataW.TrodAll enc P W 0 (fun _ => true) true ts vs ds ps → DataW.TrodAll enc P W' 0 sp' true ts vs ds ps := by
  intro ts
  induction ts with
  | nil =>
    intro vs ds ps _ _ _ h
    obtain ⟨rfl, rfl, rfl⟩ := trodAll_nil h
    exact h
  | cons t ts ih =>
    intro vs ds ps hr hlt hsp h
    obtain ⟨v, vs', d, ds', p, q, rfl, rfl, rfl, h1, h2⟩ := trodAll_cons h
    have ht := hr t (by simp)
    refine ⟨p, q, ?_, ih (fun t h => hr t (by simp [h])) (fun x hx => hlt x (by simp [hx])) (fun x hx => hsp x (by simp [hx])) h2, rfl⟩
    · refine WideElems.Trod_stays hl ht.1 ht.2 h1 (fun x hx => ?_) (fun x hx => hsp x (by simp [hx]))
      have hb := hlt x (by simp [hx])
      have h1 := hk x.block _ (Array.getElem?_eq_getElem hb)
      have h2 : W'.heap[x.block]? = W.heap[x.block]? := by rw [h1, Array.getElem?_eq_getElem hb]
      cases x with
      | cell b o => unfold World.sameAt; unfold World.cell?; simp only; rw [show W'.heap[b]? = W.heap[b]? from h2]
      | map r => unfold World.sameAt; simp only; exact h2

theorem post_kept {H : Type} {enc : TypeId × Value → H} {P : Program} {f : Func} {s : ChangeSpec} {apart fresh handsOn again : Bool} {W W' : World} {args : Array Value} {v : Value} {ds gs : List (DataW H)} {before : List MemPlace}
    (hW : DataW.Whole enc P f.params.toList s.vars apart W args.toList ds gs before) (hl : laidOutB P = true) (hr : ∀ t ∈ f.params.toList, P.readableRec t = true ∧ t < P.types.size) (hvs : s.vars = [])
    (hs : @Sat ⟨W⟩ W' [AllB W]) (hargs : (s.fn H (ds ++ gs)).args = ds) (hvars : (s.fn H (ds ++ gs)).vars = [])
    (hres : ∀ (b : Nat) (sp : Nat → Bool) (hd : Bool), DataW.TrodAll enc P W' b sp hd f.resultTypes.toList (v.resultList f.resultTypes.size) (s.fn H (ds ++ gs)).results [])
    (hok : ∀ (j : Nat) (t : TypeId) (r : Value), f.resultTypes[j]? = some t → (v.resultList f.resultTypes.size)[j]? = some r → Value.okWide P W' .any 0 t r) :
    s.post enc P f apart fresh handsOn again W args v W' := by
  obtain ⟨hk, hos, hout⟩ := sat_kept hs
  have hlt : ∀ p ∈ before, p.block < W.heap.size := fun p hp => hW.lt p hp
  have hW0 := hW
  obtain ⟨p, q, hA, hV, rfl, hz, hn⟩ := hW
  rw [hvs] at hV
  obtain ⟨hg, hq⟩ := trodVars_none hV
  subst hg; subst hq
  rw [List.append_nil] at hlt hW0 hn hz
  have hv0 : ∀ sp : Nat → Bool, DataW.TrodVars enc P W' sp s.vars (s.fn H (ds ++ [])).vars [] := fun sp => by rw [hvs, hvars]; rfl
  have ha0 : ∀ sp : Nat → Bool, (∀ x ∈ p, sp x.block = true) → DataW.TrodAll enc P W' 0 sp true f.params.toList args.toList (s.fn H (ds ++ [])).args p := fun sp hsp => by
    rw [hargs]; exact trodAll_kept hl hk hr hlt hsp hA
  have hheap : ∀ i, i < W.heap.size → W'.heap[i]? = W.heap[i]? := fun i hi => by rw [hk i _ (Array.getElem?_eq_getElem hi), Array.getElem?_eq_getElem hi]
  refine ⟨ds, [], p, [], p, [], hW0, hres _ _ _, ha0 _ fun x hx => by simpa using hlt x hx, hv0 _, ?_, fun _ => ?_⟩
  · refine ⟨hos, hout, fun i hi => ?_⟩
    rw [hheap i hi]
    cases W.heap[i]? with
    | none => rfl
    | some o => cases o <;> simp
  · refine ⟨hok, _, _, ([] ++ p) ++ [], ⟨[] ++ p, [], trodAll_append (ha0 _ (fun _ _ => rfl)) (hres _ _ _), hv0 _, rfl, ?_, ?_⟩, ?_⟩
    · intro b off hp
      have hp' : MemPlace.cell b off ∈ p := by simpa using hp
      have : W'.frozen? ⟨b, off, none⟩ = W.frozen? ⟨b, off, none⟩ := by
        unfold World.frozen?
        rw [hheap b (hlt _ hp')]
      rw [this]
      exact hz b off hp'
    · intro ha
      simpa using hn ha
    · intro x hx _
      simpa using hx
end Go.Proofs.Ytpliocedgiejiaa
