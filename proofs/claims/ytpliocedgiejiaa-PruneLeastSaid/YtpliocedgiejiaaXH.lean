/-
  Slices that own their row: reading, building, appending, cutting, clearing, making, copying.
-/
import Derived.Test.YtpliocedgiejiaaXG
import Derived.ArgAppend
namespace Go.Proofs.Ytpliocedgiejiaa
open Go
section
variable [Base]

/-- a slice type, its element's type, the element's cells, bytes and zero cells -/
structure El (P : Program) (t e : TypeId) (sz bytes : Nat) (z : List Value) : Prop where
  hu : P.underlying t = some (.slice e)
  hi : (P.info? e).map (fun i => (i.zero.map (·.cells.toList), i.size, i.bytes)) = some (some z, sz, bytes)
  hz : z.length = sz
  pos : 0 < sz

end
section
theorem El.info {P : Program} {t e : TypeId} {sz bytes : Nat} {z : List Value} (h : El P t e sz bytes z) :
    ∃ i v, P.info? e = some i ∧ i.zero = some v ∧ v.cells.toList = z ∧ i.size = sz ∧ i.bytes = bytes ∧ v.cells.size = sz := by
  obtain ⟨i, hi, hx⟩ := Option.map_eq_some_iff.1 h.hi
  simp only [Prod.mk.injEq, Option.map_eq_some_iff] at hx
  obtain ⟨⟨v, hv, hc⟩, hs, hb⟩ := hx
  exact ⟨i, v, hi, hv, hc, hs, hb, by rw [← Array.length_toList, hc]; exact h.hz⟩

end
section
variable [Base]
/-- these cells are read from an address on -/
def RdH (h : Hp) (a : Option Addr) (xs : List Value) : Prop :=
  ∀ j u, xs[j]? = some u → ∃ b o cur T fr, a = some ⟨b, o, none⟩ ∧ h b = some (.cells cur T fr) ∧ cur[o + j]? = some u
abbrev Reads (A : Asn) (a : Option Addr) (xs : List Value) : Prop := ∀ h, A h → RdH h a xs

end
section
theorem RdH.up {h h' : Hp} {a : Option Addr} {xs : List Value} (hr : RdH h a xs) (hh : ∀ b o, h b = some o → h' b = some o) : RdH h' a xs := fun j u hj => by
  obtain ⟨b, o, cur, T, fr, h1, h2, h3⟩ := hr j u hj
  exact ⟨b, o, cur, T, fr, h1, hh _ _ h2, h3⟩

end
section
variable [Base]
theorem Sat.rd {w : World} {L : List Asn} (hs : Sat w L) (i : Nat) {A : Asn} {a : Option Addr} {xs : List Value} (hi : L[i]? = some A) (hr : Reads A a xs) : RdH (fun b => w.heap[b]?) a xs := by
  obtain ⟨⟨h1, h2, hd, u1, u2, x, r⟩, hg⟩ := hs.front i hi
  exact (hr _ x).up u1

end
section
theorem RdH.cell {w : World} {a : Option Addr} {xs : List Value} (h : RdH (fun b => w.heap[b]?) a xs) {j : Nat} {u : Value} (hj : xs[j]? = some u) : ∃ x, a = some x ∧ x.spot = none ∧ w.cell? (x.add j) = some u := by
  obtain ⟨b, o, cur, T, fr, h1, h2, h3⟩ := h j u hj
  refine ⟨_, h1, rfl, ?_⟩
  rw [addr_add]
  unfold World.cell?
  have h2' : w.heap[b]? = some (.cells cur T fr) := h2
  rw [h2']
  exact h3

end
section
variable [Base]
/-- a slice's own row: the cells of its elements, and room behind -/
def Sl (T : TypeId) (sz : Nat) (a : Option Addr) (n c : Nat) (xs : List Value) : Asn := fun h =>
  xs.length = n * sz ∧ ((c = 0 ∧ n = 0) ∨
    ∃ g cur, a = some ⟨g, 0, none⟩ ∧ h g = some (.cells cur T (0, 0)) ∧ n ≤ c ∧ c ≤ maxLen ∧ cur.size = c * sz ∧ cur.toList.take (n * sz) = xs)

end
section
theorem Sl.reads {T : TypeId} {sz n c : Nat} {a : Option Addr} {xs : List Value} : Reads (Sl T sz a n c xs) a xs := fun h hl j u hj => by
  obtain ⟨h1, ⟨h2, h3⟩ | ⟨g, cur, h2, h3, h4, h5, h6, h7⟩⟩ := hl
  · subst h3; rw [Nat.zero_mul] at h1
    rw [List.eq_nil_of_length_eq_zero h1] at hj; cases hj
  · refine ⟨g, 0, cur, T, _, h2, h3, ?_⟩
    rw [← h7, List.getElem?_take] at hj
    split at hj
    · rw [Nat.zero_add, ← Array.getElem?_toList]; exact hj
    · cases hj

end
section
variable [Base]
end
section
theorem Sl.nil (T : TypeId) (sz : Nat) (a : Option Addr) (h : Hp) : Sl T sz a 0 0 [] h := ⟨by simp, .inl ⟨rfl, rfl⟩⟩

end
section
variable [Base]
end
section
/-- of a slice's first elements alone -/
theorem Sl.shrink {T : TypeId} {sz n c m : Nat} {a : Option Addr} {xs : List Value} {h : Hp} (hm : m ≤ n) (hs : Sl T sz a n c xs h) : Sl T sz a m c (xs.take (m * sz)) h := by
  have hmn : m * sz ≤ n * sz := Nat.mul_le_mul_right _ hm
  obtain ⟨h1, h2⟩ := hs
  refine ⟨by rw [List.length_take]; omega, ?_⟩
  rcases h2 with ⟨h2, h3⟩ | ⟨g, cur, h2, h3, h4, h5, h6, h7⟩
  · exact .inl ⟨h2, by omega⟩
  · exact .inr ⟨g, cur, h2, h3, by omega, h5, h6, by rw [← h7, List.take_take, Nat.min_eq_left hmn]⟩

end
section
variable [Base]
theorem Sat.emp {w : World} {L : List Asn} {A : Asn} (hs : Sat w L) (hA : ∀ h, A h) : Sat w (A :: L) :=
  ⟨⟨fun _ => none, fun b => w.heap[b]?, fun _ => .inl rfl, (fun _ _ e => by cases e), (fun _ _ e => e), hA _, hs.1⟩, hs.2⟩

theorem Sat.slNil {w : World} {L : List Asn} (hs : Sat w L) (T : TypeId) (sz : Nat) (a : Option Addr) : Sat w (Sl T sz a 0 0 [] :: L) := hs.emp (Sl.nil T sz a)

theorem Sat.map {w : World} {L : List Asn} (hs : Sat w L) (i : Nat) {A B : Asn} (hi : L[i]? = some A) (hab : ∀ h, A h → B h) : Sat w (L.set i B) :=
  Sat.back i hi (Sat.imp hab (hs.front i hi))

/-- a fact out of an assertion -/
theorem Sat.fact {w : World} {L : List Asn} (hs : Sat w L) (i : Nat) {A : Asn} {p : Prop} (hi : L[i]? = some A) (hab : ∀ h, A h → p) : p := by
  obtain ⟨⟨h1, h2, hd, u1, u2, x, r⟩, hg⟩ := hs.front i hi
  exact hab _ x

end
section
theorem Sl.len {T : TypeId} {sz n c : Nat} {a : Option Addr} {xs : List Value} {h : Hp} (hs : Sl T sz a n c xs h) : xs.length = n * sz := hs.1
end
section
variable [Base]
end
section
theorem Sl.le {T : TypeId} {sz n c : Nat} {a : Option Addr} {xs : List Value} {h : Hp} (hs : Sl T sz a n c xs h) : n ≤ c := by
  obtain ⟨_, ⟨h2, h3⟩ | ⟨g, cur, h2, h3, h4, h5, h6, h7⟩⟩ := hs <;> omega

end
section
variable [Base]
/-- a world that grew by one block and draws, or whose one block has turned -/
theorem Sat.heap {w w' : World} {L : List Asn} (hs : Sat w L) (h : w'.heap = w.heap) (hgl : Gl w → Gl w') : Sat w' L := by
  refine ⟨?_, hgl hs.2⟩; rw [h]; exact hs.1

end
section
variable [Base] {P : Program} {w : World} {L : List Asn}

end
section
variable {P : Program} {w : World} {L : List Asn}
/-- an index of a slice -/
theorem ix {a : Option Addr} {n : Nat} {i : Int} {k : Addr → W} {x : Addr} (ha : a = some x) (h0 : 0 ≤ i) (h1 : i < n) (hk : k x w) : IxW a n i k w := ⟨x, ha, ⟨h0, h1⟩, hk⟩

end
section
variable [Base] {P : Program} {w : World} {L : List Asn}
/-- a load of a cell of a slice that is read -/
theorem ixl (hs : Sat w L) (i : Nat) {A : Asn} {a : Option Addr} {xs : List Value} (hi : L[i]? = some A) (hr : Reads A a xs) {n : Nat} {ii : Int} {sz off : Nat} {u : Value} {k : Value → W}
    (h0 : 0 ≤ ii) (h1 : ii < n) (hu : xs[ii.toNat * sz + off]? = some u) (hk : k u w) :
    IxW a n ii (fun x => LdW ((x.add (ii.toNat * sz)).add off) k) w := by
  obtain ⟨x, h2, hsp, h3⟩ := (hs.rd i hi hr).cell hu
  obtain ⟨b, o, sp⟩ := x
  cases (hsp : sp = none)
  refine ⟨_, h2, ⟨h0, h1⟩, u, ?_, hk⟩
  rw [addr_add, addr_add, Nat.add_assoc, ← addr_add]; exact h3
theorem ixl1 (hs : Sat w L) (i : Nat) {A : Asn} {a : Option Addr} {xs : List Value} (hi : L[i]? = some A) (hr : Reads A a xs) {n : Nat} {ii : Int} {u : Value} {k : Value → W}
    (h0 : 0 ≤ ii) (h1 : ii < n) (hu : xs[ii.toNat]? = some u) (hk : k u w) : IxW a n ii (fun x => LdW (x.add (ii.toNat.mul 1)) k) w := by
  obtain ⟨x, h2, hsp, h3⟩ := (hs.rd i hi hr).cell hu
  exact ⟨x, h2, ⟨h0, h1⟩, u, by rw [show ii.toNat.mul 1 = ii.toNat from Nat.mul_one _]; exact h3, hk⟩

def bsCells (sz n : Nat) (z : List Value) (parts : List (Nat × Value)) : Option (Array Value) :=
  Instr.fill (fun i => some (i * sz, sz)) ((Array.range (n * sz)).map (z.toArray[· % z.length]!)) parts

end
section
variable {P : Program} {w : World} {L : List Asn}
theorem run_bs {t e : TypeId} {sz bytes n : Nat} {z : List Value} (he : El P t e sz bytes z) {parts : Array (Nat × Value)} {cs : Array Value} (hn : n * sz ≤ 2 ^ 24) (hc : bsCells sz n z parts.toList = some cs) (w : World) :
    (Instr.buildSlice t n parts).run P w = .ok (.slice (some ⟨w.heap.size, 0, none⟩) n n) (w.alloc (.cells cs e)) := by
  obtain ⟨i, v, hi, hz, hc1, hs, _, hvs⟩ := he.info
  have hc' : Instr.fill (fun i => some (i * sz, sz)) ((Array.range (n * sz)).map ((if n * sz = 0 then (#[] : Array Value) else v.cells)[· % (if n * sz = 0 then (#[] : Array Value) else v.cells).size]!)) parts.toList = some cs := by
    rw [← hc]; unfold bsCells
    by_cases h0 : n * sz = 0
    · simp only [h0]; congr 1; simp [Array.range_zero']
    · simp only [h0, if_false]
      have : v.cells = z.toArray := by rw [← hc1]
      rw [this]; simp
  by_cases h0 : n * sz = 0
  · simp only [h0, if_true] at hc'
    simp [Instr.buildSlice, run_underlying he.hu, sizeOf, typeInfo, hi, hs, h0, newRow]
    have : Instr.fill (fun i => some (i * sz, sz)) #[] parts.toList = some cs := by rw [← hc']; congr 1; simp [Array.range_zero']
    simp [Array.range_zero', this]
  · simp only [h0, if_false] at hc'
    have hn' : ¬ (2 ^ 24 < n * sz) := by omega
    simp [Instr.buildSlice, run_underlying he.hu, sizeOf, typeInfo, zeroValue, hi, hs, hz, h0, hn', newRow, hc']

end
section
variable [Base] {P : Program} {w : World} {L : List Asn}
/-- a slice literal -/
theorem bs {t e : TypeId} {sz bytes n : Nat} {z : List Value} (he : El P t e sz bytes z) (hs : Sat w L) {parts : Array (Nat × Value)} {cs : List Value} {k : Value → W} (hn : n * sz ≤ 2 ^ 24)
    (hc : bsCells sz n z parts.toList = some cs.toArray) (hl : cs.length = n * sz)
    (hk : ∀ a w', Sat w' (Sl e sz (some a) n n cs :: L) → k (.slice (some a) n n) w') : SvW P (Instr.buildSlice t n parts) k w := by
  have hle : n ≤ n * sz := Nat.le_mul_of_pos_right _ he.pos
  refine ⟨_, _, run_bs he hn hc w, hk _ _ (Sat.imp (fun h hp => ?_) (hs.alloc _))⟩
  exact ⟨hl, .inr ⟨_, _, rfl, hp, Nat.le_refl _, by simp only [maxLen]; omega, by simp [hl], by simp [← hl]⟩⟩

/-- append, whatever the room: the slice owns its row; what is appended is read anywhere -/
theorem apr {t ty e : TypeId} {sz bytes : Nat} {z : List Value} (he : El P t e sz bytes z) (hs : Sat w L) (i : Nat) {a : Option Addr} {n c : Nat} {xs : List Value} (hi : L[i]? = some (Sl e sz a n c xs))
    {ao : Option Addr} {m c' : Nat} {news : List Value} (hnews : RdH (fun b => w.heap[b]?) ao news) (hm : news.length = m * sz) (h1 : ∀ u ∈ news, u.oneCell' = true)
    (h63 : n + m ≤ maxLen) (hb : (n + m) * bytes ≤ 140737488355328) {k : Value → W}
    (hk : ∀ a' c2 w', Sat w' (L.set i (Sl e sz a' (n + m) c2 (xs ++ news))) → (n + m ≤ c → a' = a ∧ c2 = c) → k (.slice a' (n + m) c2) w') :
    SvW P (Builtin.append_ #[t, t] ty #[.slice a n c, .slice ao m c']) k w := by
  obtain ⟨inf, v, hinf, hz, hc1, hsz, hby, hvs⟩ := he.info
  have hpos := he.pos
  subst hsz
  subst hby
  have hl := hs.fact i hi fun h x => x.1
  have hsl := hs.front i hi
  obtain ⟨⟨h1', h2', hd, u1, u2, ⟨_, hx⟩, r⟩, hgl⟩ := hsl
  have done : ∀ {a' c2 w'} (_ : (Builtin.append_ #[t, t] ty #[.slice a n c, .slice ao m c']).run P w = .ok (.slice a' (n + m) c2) w') (_ : Sat w' (L.set i (Sl e inf.size a' (n + m) c2 (xs ++ news)))) (_ : n + m ≤ c → a' = a ∧ c2 = c),
      SvW P (Builtin.append_ #[t, t] ty #[.slice a n c, .slice ao m c']) k w := fun hr hs' hq => ⟨_, _, hr, hk _ _ _ hs' hq⟩
  -- nothing is appended
  by_cases hm0 : m = 0
  · subst hm0
    have hn0 : news = [] := List.eq_nil_of_length_eq_zero (by simpa using hm)
    subst hn0
    have hnc : n ≤ c := by rcases hx with ⟨_, _⟩ | ⟨_, _, _, _, h, _⟩ <;> omega
    have hlc : ∀ (x : Addr), (loadCells x 0).run P w = .ok #[] w := fun x => by simpa using run_loadCells_list (P := P) w x [] (by simp)
    refine done (a' := a) (c2 := c) (w' := w) ?_ ?_ (fun _ => ⟨rfl, rfl⟩)
    · cases a <;> cases ao <;> simp [Builtin.append_, run_underlying he.hu, sizeOf, typeInfo, hinf, Builtin.lenOf, Builtin.firstCells, hnc, storeCells, hlc]
    · have : L.set i (Sl e inf.size a (n + 0) c (xs ++ [])) = L := by
        rw [List.append_nil]
        obtain ⟨hlt, he⟩ := List.getElem?_eq_some_iff.1 hi
        rw [Nat.add_zero, ← he, List.set_getElem_self]
      rw [this]; exact hs
  · have hne : 0 < news.length := by rw [hm]; exact Nat.mul_pos (by omega) hpos
    obtain ⟨u0, hu0⟩ : ∃ u, news[0]? = some u := ⟨news[0], List.getElem?_eq_getElem hne⟩
    obtain ⟨y, hao, _, _⟩ := hnews.cell hu0
    subst hao
    have hn2 : ∀ j u, news[j]? = some u → w.cell? (y.add j) = some u := fun j u hj => by
      obtain ⟨x, hx, _, h⟩ := hnews.cell hj; cases hx; exact h
    have grow : ∀ {g : Addr}, a = some g → (∀ j u, xs[j]? = some u → w.cell? (g.add j) = some u) → c < n + m → SvW P (Builtin.append_ #[t, t] ty #[.slice a n c, .slice (some y) m c']) k w := fun {g} hg holds hgt => by
      subst hg
      have hr := run_append_grow (P := P) w t ty e inf v he.hu hinf hz g n c xs hl holds y m c' news hm hn2 hgt (by simp only [maxLen] at h63; omega) (growslice_fits hgt hb)
      refine done hr (Sat.back i hi (Sat.imp (fun h hp => ?_) ((Sat.drew (hs.front i hi).tail).alloc _))) (fun hle => by omega)
      have hge := grownCap_ge w (n + m) c e
      refine ⟨by rw [List.length_append, hl, hm, ← Nat.add_mul], .inr ⟨_, _, rfl, hp, hge, grownCap_le_maxLen w (n + m) c e h63, ?_, ?_⟩⟩
      · simp only [Array.size_append, List.size_toArray, size_zeroCells, hvs, hl, hm, ← Nat.add_mul]
        congr 1; omega
      · have hll : (xs ++ news).length = (n + m) * inf.size := by rw [List.length_append, hl, hm, ← Nat.add_mul]
        simp only [Array.toList_append]
        rw [← hll]
        exact List.take_left
    rcases hx with ⟨hc0, hn0⟩ | ⟨g, cur, hg, hcur, hnc, hcm, hcs, htk⟩
    · subst hc0; subst hn0
      have hxs : xs = [] := List.eq_nil_of_length_eq_zero (by simpa using hl)
      subst hxs
      cases a with
      | some g => exact grow rfl (fun j u hj => by cases hj) (by omega)
      | none =>
        have hr := run_append_nil (P := P) w t ty e inf v he.hu hinf hz y m c' news hm hn2 (by omega) (by simp only [maxLen] at h63; omega) (by simp only [Nat.zero_add] at hb; omega)
        rw [← Nat.zero_add m] at hr
        refine done (by simpa using hr) (Sat.back i hi (Sat.imp (fun h hp => ?_) ((Sat.drew (hs.front i hi).tail).alloc _))) (fun hle => by omega)
        have hge := grownCap_ge w (0 + m) 0 e
        refine ⟨by simpa using hm, .inr ⟨_, _, rfl, hp, by simpa using hge, by simpa using grownCap_le_maxLen w (0 + m) 0 e h63, ?_, ?_⟩⟩
        · simp only [Array.size_append, List.size_toArray, size_zeroCells, hvs, hm, ← Nat.add_mul]
          simp only [Nat.zero_add] at hge ⊢
          congr 1; omega
        · simp only [Array.toList_append, List.nil_append, Nat.zero_add]
          rw [← hm]
          exact List.take_left
    · have hheap := u1 _ _ hcur
      by_cases hroom : n + m ≤ c
      · subst hg
        have hfit : n * inf.size + news.length ≤ cur.size := by rw [hm, hcs, ← Nat.add_mul]; exact Nat.mul_le_mul_right _ hroom
        have hr := run_append_room (P := P) w t ty e inf he.hu hinf g n c cur hheap y m c' news hm hn2 h1 hroom hfit
        refine done hr ?_ (fun _ => ⟨rfl, rfl⟩)
        -- the block turned
        have hsPt : Sat w (Pt g (.cells cur e (0, 0)) :: L.eraseIdx i) := ⟨⟨h1', h2', hd, u1, u2, hcur, r⟩, hgl⟩
        have := hsPt.turn 0 rfl (setRow_heap w g cur (cur.toList.take (n * inf.size) ++ news ++ cur.toList.drop (n * inf.size + news.length)).toArray e _ hheap) (fun x hx => setRow_other w g x _ hx) (fun h => h)
        refine Sat.back i hi (Sat.imp (fun h hp => ?_) this)
        have hp' : h g = some (.cells _ e (0, 0)) := hp
        refine ⟨by rw [List.length_append, hl, hm, ← Nat.add_mul], .inr ⟨g, _, rfl, hp', hroom, hcm, ?_, ?_⟩⟩
        · simp only [List.size_toArray, List.length_append, List.length_take, List.length_drop, Array.length_toList]
          omega
        · have hll : (xs ++ news).length = (n + m) * inf.size := by rw [List.length_append, hl, hm, ← Nat.add_mul]
          rw [htk, ← hll]
          exact List.take_left
      · refine grow hg (fun j u hj => ?_) (by omega)
        rw [addr_add, Nat.zero_add]
        unfold World.cell?
        have hheap' : w.heap[g]? = some (.cells cur e (0, 0)) := hheap
        rw [hheap']
        rw [← htk, List.getElem?_take] at hj
        split at hj
        · show cur[j]? = some u
          rw [← Array.getElem?_toList]; exact hj
        · cases hj

theorem ap {t ty e : TypeId} {sz bytes : Nat} {z : List Value} (he : El P t e sz bytes z) (hs : Sat w L) (i : Nat) {a : Option Addr} {n c : Nat} {xs : List Value} (hi : L[i]? = some (Sl e sz a n c xs))
    {ao : Option Addr} {m c' : Nat} {news : List Value} (hnews : RdH (fun b => w.heap[b]?) ao news) (hm : news.length = m * sz) (h1 : ∀ u ∈ news, u.oneCell' = true)
    (h63 : n + m ≤ maxLen) (hb : (n + m) * bytes ≤ 140737488355328) {k : Value → W}
    (hk : ∀ a' c2 w', Sat w' (L.set i (Sl e sz a' (n + m) c2 (xs ++ news))) → k (.slice a' (n + m) c2) w') :
    SvW P (Builtin.append_ #[t, t] ty #[.slice a n c, .slice ao m c']) k w :=
  apr he hs i hi hnews hm h1 h63 hb fun a' c2 w' h _ => hk a' c2 w' h

end
section
variable {P : Program} {w : World} {L : List Asn}
theorem length_setL : ∀ (vs cs : List Value) (o : Nat), (setL cs o vs).length = cs.length := by
  intro vs
  induction vs with
  | nil => intro cs o; rfl
  | cons v vs ih => intro cs o; unfold setL; rw [ih, List.length_set]
end
section
variable [Base] {P : Program} {w : World} {L : List Asn}
end
section
variable {P : Program} {w : World} {L : List Asn}
theorem take_setL : ∀ (vs cs : List Value) (o n : Nat), n ≤ o → (setL cs o vs).take n = cs.take n := by
  intro vs
  induction vs with
  | nil => intro cs o n _; rfl
  | cons v vs ih =>
    intro cs o n h
    unfold setL
    rw [ih _ _ _ (by omega)]
    apply List.ext_getElem?
    intro j
    rw [List.getElem?_take, List.getElem?_take]
    split
    · rw [List.getElem?_set_ne (by omega)]
    · rfl

end
section
variable [Base] {P : Program} {w : World} {L : List Asn}
/-- 'clear' of what lies behind a slice's elements -/
theorem clr {t e : TypeId} {sz bytes : Nat} {z : List Value} (he : El P t e sz bytes z) (hz1 : allOne z = true) (hs : Sat w L) (i : Nat) {a : Option Addr} {n c m : Nat} {xs : List Value} (hi : L[i]? = some (Sl e sz a n c xs))
    (hm : n + m ≤ c) {ty : TypeId} {c' : Nat} {k : Value → W} (hk : ∀ w', Sat w' L → k (.tuple #[]) w') : SvW P (Builtin.clear_ #[t] ty #[.slice (subAddr a c n sz) m c']) k w := by
  obtain ⟨inf, v, hinf, hz, hc1, hsz, hby, hvs⟩ := he.info
  by_cases hm0 : m = 0
  · subst hm0
    refine ⟨_, w, ?_, hk w hs⟩
    cases hsa : subAddr a c n sz <;> simp [Builtin.clear_, run_underlying he.hu]
  obtain ⟨⟨h1', h2', hd, u1, u2, ⟨hl, hx⟩, r⟩, hgl⟩ := hs.front i hi
  rcases hx with ⟨hc0, hn0⟩ | ⟨g, cur, hg, hcur, hnc, hcm, hcs, htk⟩
  · omega
  subst hg
  have hsPt : Sat w (Pt g (.cells cur.toList.toArray e (0, 0)) :: L.eraseIdx i) := ⟨⟨h1', h2', hd, u1, u2, hcur, r⟩, hgl⟩
  have hsub : subAddr (some ⟨g, 0, none⟩) c n sz = some ⟨g, n * sz, none⟩ := by
    unfold subAddr
    rw [if_neg (by omega)]
    simp [addr_add]
  rw [hsub]
  have hzl := he.hz
  have hv : v.cells = z.toArray := by rw [← hc1]
  have hzc : (Builtin.zeroCells v.cells m).toList.length = m * sz := by simp [Builtin.zeroCells, hvs]
  have hall : ∀ l : List Value, (∀ u ∈ l, allOne [u] = true) → allOne l = true := by
    intro l
    induction l with
    | nil => intro _; rfl
    | cons x l ih =>
      intro h
      have h1 := h x (by simp)
      have h2 := ih fun u hu => h u (by simp [hu])
      cases x <;> first | (simp [allOne] at h1; done) | (unfold allOne; exact h2)
  have hall2 : ∀ l : List Value, allOne l = true → ∀ u ∈ l, allOne [u] = true := by
    intro l
    induction l with
    | nil => intro _ u hu; cases hu
    | cons x l ih =>
      intro h u hu
      have hx : allOne [x] = true ∧ allOne l = true := by
        cases x <;> first | (simp [allOne] at h; done) | exact ⟨rfl, by simpa [allOne] using h⟩
      rcases List.mem_cons.1 hu with rfl | hu
      · exact hx.1
      · exact ih hx.2 u hu
  have ho : allOne (Builtin.zeroCells v.cells m).toList = true := by
    refine hall _ fun u hu => ?_
    simp only [Builtin.zeroCells, Array.toList_map, List.mem_map] at hu
    obtain ⟨j, _, rfl⟩ := hu
    refine hall2 z hz1 _ ?_
    rw [hv]
    have hpos := he.pos
    simp only [List.getElem!_toArray, List.size_toArray]
    have hlt : j % z.length < z.length := Nat.mod_lt _ (by omega)
    rw [getElem!_pos z _ hlt]
    exact List.getElem_mem _
  have hlt : n * sz + m * sz ≤ c * sz := by rw [← Nat.add_mul]; exact Nat.mul_le_mul_right _ hm
  have hr := run_stN (P := P) (a := ⟨g, n * sz, none⟩) _ 0 w ho (fun j hj => by
    rw [hzc] at hj
    rw [addr_add]
    have hc := hsPt.cell 0 rfl (n * sz + (0 + j))
    refine ⟨⟨_, hc.trans (List.getElem?_eq_getElem (by rw [Array.length_toList, hcs]; omega))⟩, ?_⟩
    exact hsPt.frozen 0 rfl _)
  refine ⟨_, setN w ⟨g, n * sz, none⟩ (Builtin.zeroCells v.cells m).toList 0, ?_, hk _ ?_⟩
  · simp [Builtin.clear_, run_underlying he.hu, zeroValue, typeInfo, hinf, hz, hr, hm0]
  · have := setN_sat (Builtin.zeroCells v.cells m).toList w _ (n * sz) 0 _ 0 hsPt rfl
    have hback := Sat.back i hi (B := Sl e sz (some ⟨g, 0, none⟩) n c xs) (Sat.imp (fun h hp => ?_) this)
    · obtain ⟨hlt', he'⟩ := List.getElem?_eq_some_iff.1 hi
      rw [← he', List.set_getElem_self] at hback
      exact hback
    · have hp' : h g = some (.cells _ e (0, 0)) := hp
      refine ⟨hl, .inr ⟨g, _, rfl, hp', hnc, hcm, by simp [length_setL, hcs], ?_⟩⟩
      show List.take (n * sz) (setL cur.toList (n * sz + 0) _) = xs
      rw [take_setL _ _ _ _ (by omega)]; exact htk

/-- a store into a cell of a slice that owns its row -/
theorem stl {T : TypeId} (hs : Sat w L) (i : Nat) {a : Option Addr} {n c sz off : Nat} {xs : List Value} (hi : L[i]? = some (Sl T sz a n c xs)) {ii : Int} {u : Value} {k : W}
    (h0 : 0 ≤ ii) (h1 : ii < n) (ho : off < sz) (hk : ∀ w', Sat w' (L.set i (Sl T sz a n c (xs.set (ii.toNat * sz + off) u))) → k w') :
    IxW a n ii (fun x => StW ((x.add (ii.toNat * sz)).add off) u k) w := by
  have hlt : ii.toNat * sz + off < n * sz := by
    have h2 : ii.toNat + 1 ≤ n := by omega
    have h3 : (ii.toNat + 1) * sz ≤ n * sz := Nat.mul_le_mul_right _ h2
    rw [Nat.add_mul] at h3; omega
  obtain ⟨⟨h1', h2', hd, u1, u2, ⟨hl, hx⟩, r⟩, hgl⟩ := hs.front i hi
  rcases hx with ⟨_, hn0⟩ | ⟨g, cur, hg, hcur, hnc, hcm, hcs, htk⟩
  · omega
  subst hg
  have hsPt : Sat w (Pt g (.cells cur.toList.toArray T (0, 0)) :: L.eraseIdx i) := ⟨⟨h1', h2', hd, u1, u2, hcur, r⟩, hgl⟩
  have hnc' : n * sz ≤ c * sz := Nat.mul_le_mul_right _ hnc
  refine ⟨_, rfl, ⟨h0, h1⟩, ?_⟩
  dsimp only
  rw [addr_add, addr_add, Nat.zero_add]
  refine st hsPt 0 rfl (by rw [Array.length_toList]; omega) fun w' hs' => hk w' (Sat.back i hi (Sat.imp (fun h hp => ?_) hs'))
  have hp' : h g = some (.cells _ T (0, 0)) := hp
  refine ⟨by rw [List.length_set]; exact hl, .inr ⟨g, _, rfl, hp', hnc, hcm, by simp [hcs], ?_⟩⟩
  rw [← htk, List.take_set]

theorem stl1 {T : TypeId} (hs : Sat w L) (i : Nat) {a : Option Addr} {n c : Nat} {xs : List Value} (hi : L[i]? = some (Sl T 1 a n c xs)) {ii : Int} {u : Value} {k : W}
    (h0 : 0 ≤ ii) (h1 : ii < n) (hk : ∀ w', Sat w' (L.set i (Sl T 1 a n c (xs.set ii.toNat u))) → k w') :
    IxW a n ii (fun x => StW (x.add (ii.toNat.mul 1)) u k) w := by
  have := stl (k := k) (u := u) (off := 0) hs i hi h0 h1 (by decide) (by simpa using hk)
  obtain ⟨x, h2, h3, h4⟩ := this
  refine ⟨x, h2, h3, ?_⟩
  have e : (x.add (ii.toNat * 1)).add 0 = x.add (ii.toNat.mul 1) := by
    show Addr.add (x.add (ii.toNat * 1)) 0 = _
    unfold Addr.add
    simp
  rw [e] at h4; exact h4

/-- 'make' of a slice, full -/
theorem mk {t e : TypeId} {sz bytes : Nat} {z : List Value} (he : El P t e sz bytes z) (hs : Sat w L) {kl kc : IntKind} {l c : Int} {k : Value → W} (h0 : 0 ≤ l) (hlc : l ≤ c) (hb : bytes * c.toNat ≤ 281474976710656) (h63 : c.toNat ≤ maxLen)
    (hk : ∀ a w', Sat w' (Sl e sz (some a) l.toNat c.toNat ((List.replicate l.toNat z).flatten) :: L) → k (.slice (some a) l.toNat c.toNat) w') : SvW P (Instr.makeSlice t (.int kl l) (.int kc c)) k w := by
  obtain ⟨inf, v, hinf, hz, hc1, hsz, hby, hvs⟩ := he.info
  subst hsz
  have hb2 : (inf.bytes : Int) * c ≤ 281474976710656 := by
    rw [hby]
    have h3 : ((bytes * c.toNat : Nat) : Int) ≤ 281474976710656 := by omega
    rwa [Int.natCast_mul, Int.toNat_of_nonneg (by omega)] at h3
  have hr := run_make (P := P) w t e inf v he.hu hinf hz kl kc l c h0 hlc hb2 (by simp only [maxLen] at h63; omega)
  refine ⟨_, _, hr, hk _ _ (Sat.imp (fun h hp => ?_) (hs.alloc _))⟩
  have hzl := he.hz
  have hp' : h w.heap.size = some (.cells (madeCells v.cells (c.toNat * inf.size)) e (0, 0)) := hp
  have hfl : ∀ m : Nat, ((List.replicate m z).flatten).length = m * inf.size := fun m => by simp [List.length_flatten, hzl]
  refine ⟨hfl _, .inr ⟨_, _, rfl, hp', by omega, h63, by simp [madeCells], ?_⟩⟩
  have hpos := he.pos
  apply List.ext_getElem?
  intro j
  rw [List.getElem?_take]
  have hle : l.toNat * inf.size ≤ c.toNat * inf.size := Nat.mul_le_mul_right _ (by omega)
  split
  · rename_i hj
    rw [List.getElem?_eq_getElem (by simp [madeCells]; omega), List.getElem?_eq_getElem (by rw [hfl]; exact hj)]
    congr 1
    have key : ∀ (m j : Nat) (hj : j < ((List.replicate m z).flatten).length), ((List.replicate m z).flatten)[j] = z[j % inf.size]'(by rw [hzl]; exact Nat.mod_lt _ hpos) := by
      intro m
      induction m with
      | zero => intro j hj; simp at hj
      | succ m ih =>
        intro j hj
        simp only [List.replicate_succ, List.flatten_cons] at hj ⊢
        rw [List.getElem_append]
        split
        · rename_i h; congr 1; rw [Nat.mod_eq_of_lt (by omega)]
        · rename_i h
          rw [ih]
          congr 1
          rw [hzl]
          rw [Nat.mod_eq_sub_mod (a := j) (by omega)]
    rw [key]
    have hv : v.cells = z.toArray := by rw [← hc1]
    simp [madeCells, hv, hzl, Nat.mod_lt _ hpos]
  · rename_i hj
    rw [List.getElem?_eq_none (by rw [hfl]; omega)]


/- steps at an address and a place behind it -/
theorem lda {b o j : Nat} {cs : List Value} {T : TypeId} {fr : Nat × Nat} {v : Value} {k : Value → W} (hs : Sat w L) (i : Nat) (hi : L[i]? = some (Pt b (.cells cs.toArray T fr))) (hj : cs[o + j]? = some v) (hk : k v w) :
    LdW (Addr.add ⟨b, o, none⟩ j) k w := by rw [addr_add]; exact ld hs i hi hj hk
theorem sta {b o j : Nat} {cs : List Value} {T : TypeId} {v : Value} {k : W} (hs : Sat w L) (i : Nat) (hi : L[i]? = some (Cs b T cs)) (hj : o + j < cs.length)
    (hk : ∀ w', Sat w' (L.set i (Cs b T (cs.set (o + j) v))) → k w') : StW (Addr.add ⟨b, o, none⟩ j) v k w := by rw [addr_add]; exact st hs i hi hj hk
theorem sna {b o j : Nat} {cs vs : List Value} {T : TypeId} {k : W} (hs : Sat w L) (i : Nat) (hi : L[i]? = some (Cs b T cs)) (hj : o + j + vs.length ≤ cs.length)
    (hk : ∀ w', Sat w' (L.set i (Cs b T (setL cs (o + j) vs))) → k w') : SnW (Addr.add ⟨b, o, none⟩ j) vs k w := by rw [addr_add]; exact sn hs i hi hj hk
theorem lna {b o j n : Nat} {cs : List Value} {T : TypeId} {fr : Nat × Nat} {vs : List Value} {k : Value → W} (hs : Sat w L) (i : Nat) (hi : L[i]? = some (Pt b (.cells cs.toArray T fr)))
    (hn : vs.length = n) (hv : (cs.drop (o + j)).take n = vs) (hk : k (.agg vs.toArray) w) : LnW n (Addr.add ⟨b, o, none⟩ j) k w := by rw [addr_add]; exact ln hs i hi hn hv hk
theorem lh {S : World → Prop} {b o j : Nat} {cs : List Value} {T : TypeId} {fr : Nat × Nat} {v : Value} {k : Value → W} (hS : ∀ w', S w' → Sat w' L) (i : Nat) (hi : L[i]? = some (Pt b (.cells cs.toArray T fr))) (hj : cs[o + j]? = some v) (hk : k v w) :
    LhW S (Addr.add ⟨b, o, none⟩ j) k w := ⟨v, fun w' h => by rw [addr_add]; exact ((hS w' h).cell i hi _).trans hj, hk⟩
end
section
variable {P : Program} {w : World} {L : List Asn}
theorem nc {a : Addr} {k : Addr → W} (h : k a w) : NcW (some a) k w := h
end
section
variable [Base] {P : Program} {w : World} {L : List Asn}
end
section
variable {P : Program} {w : World} {L : List Asn}
theorem rg {k : (World → Prop) → W} (S : World → Prop) (h : S w) (hk : k S w) : RgW k w := ⟨S, h, hk⟩
end
section
variable [Base] {P : Program} {w : World} {L : List Asn}
end
section
variable {P : Program} {w : World} {L : List Asn}
theorem sk {S : World → Prop} {k : (World → Prop) → W} (S' : World → Prop) (h : ∀ x, S' x → S x) (hw : S' w) (hk : k S' w) : SkW S k w := ⟨S', h, hw, hk⟩
end
section
variable [Base] {P : Program} {w : World} {L : List Asn}
end
section
variable {P : Program} {w : World} {L : List Asn}
theorem sk0 {S : World → Prop} {k : (World → Prop) → W} (hw : S w) (hk : k S w) : SkW S k w := ⟨S, fun _ h => h, hw, hk⟩
end
section
variable [Base] {P : Program} {w : World} {L : List Asn}
end
section
variable {P : Program} {w : World} {L : List Asn}
theorem dr {k : W} (h : k w.drew) : DrW k w := h

end
section
variable [Base] {P : Program} {w : World} {L : List Asn}
end
section
variable {P : Program} {w : World} {L : List Asn}
theorem ta_ne {t e d : TypeId} {v z : Value} {ds : TypeDesc} (hu : P.underlying d = some ds) (hni : ∀ ms, ds ≠ .interface ms) (hz : zeroP P d = some z) (hne : t ≠ d) {k : Value → W} (hk : k (.tuple #[z, .bool false]) w) :
    PrW P (Instr.typeAssert (.iface t v) e d true) k w := by
  refine ⟨_, fun w' => ?_, hk⟩
  unfold Instr.typeAssert
  simp only [Sem.run_bind, run_under hu]
  cases ds <;> first
    | exact (hni _ rfl).elim
    | simp [hne, run_zero hz]
end
section
variable [Base] {P : Program} {w : World} {L : List Asn}
end
section
variable {P : Program} {w : World} {L : List Asn}
theorem ta_eq {e d : TypeId} {v : Value} {ds : TypeDesc} (hu : P.underlying d = some ds) (hni : ∀ ms, ds ≠ .interface ms) {k : Value → W} (hk : k (.tuple #[v, .bool true]) w) :
    PrW P (Instr.typeAssert (.iface d v) e d true) k w := by
  refine ⟨_, fun w' => ?_, hk⟩
  unfold Instr.typeAssert
  simp only [Sem.run_bind, run_under hu]
  cases ds <;> first
    | exact (hni _ rfl).elim
    | simp

end
section
variable [Base] {P : Program} {w : World} {L : List Asn}
end
section
variable {P : Program} {w : World} {L : List Asn}
theorem subAddr_zero (a : Option Addr) (c sz : Nat) : subAddr a c 0 sz = a := by
  unfold subAddr
  split
  · rfl
  · cases a <;> simp [Addr.add]

end
section
variable [Base] {P : Program} {w : World} {L : List Asn}
end
section
variable {P : Program} {w : World} {L : List Asn}
theorem Sl.readsFrom {T : TypeId} {sz n c j : Nat} {a : Option Addr} {xs : List Value} {h : Hp} (hl : Sl T sz a n c xs h) : RdH h (subAddr a c j sz) (xs.drop (j * sz)) := by
  intro i u hi
  rw [List.getElem?_drop] at hi
  obtain ⟨b, o, cur, T', fr, h1, h2, h3⟩ := Sl.reads h hl _ _ hi
  have hlt := (List.getElem?_eq_some_iff.1 hi).1
  have hlen := hl.1
  have hle := hl.le
  have hjc : ¬ c = j := by
    intro hcj
    subst hcj
    have : n * sz ≤ c * sz := Nat.mul_le_mul_right _ hle
    omega
  subst h1
  refine ⟨b, o + j * sz, cur, T', fr, ?_, h2, by rw [Nat.add_assoc]; exact h3⟩
  unfold subAddr
  rw [if_neg hjc]
  simp [addr_add]

end
section
variable [Base] {P : Program} {w : World} {L : List Asn}
theorem Sat.rdH {i : Nat} {A : Asn} {a : Option Addr} {xs : List Value} (hs : Sat w L) (hi : L[i]? = some A) (hr : ∀ h, A h → RdH h a xs) : RdH (fun b => w.heap[b]?) a xs := hs.rd i hi hr

end
section
variable {P : Program} {w : World} {L : List Asn}
theorem sl3 {t e : TypeId} {sz bytes : Nat} {z : List Value} (he : El P t e sz bytes z) {a : Option Addr} {n c : Nat} {lo hi mx : Int} {kl kh km : IntKind} {k : Value → W} (h1 : 0 ≤ lo) (h2 : lo ≤ hi) (h3 : hi ≤ mx) (h4 : mx ≤ (c : Int))
    (hk : ∀ v, v = Value.slice (subAddr a mx.toNat lo.toNat sz) (hi.toNat - lo.toNat) (mx.toNat - lo.toNat) → k v w) :
    PrW P (Instr.sliceAt t (.slice a n c) (some (.int kl lo)) (some (.int kh hi)) (some (.int km mx))) k w := by
  obtain ⟨inf, v, hinf, _, _, hsz, _, _⟩ := he.info
  refine ⟨_, fun w' => ?_, hk _ rfl⟩
  have sb : ∀ (k : IntKind) (i : Int) (y : Nat) (code : BoundsCode), 0 ≤ i → i ≤ (y : Int) → ∀ w : World, (Instr.sliceBound (.int k i) y code).run P w = .ok i.toNat w := fun k i y code ha hb w => by
    simp [Instr.sliceBound, asIntOf, ha, hb]
  have r1 := fun code => sb km mx c code (by omega) h4 w'
  have r2 := fun code => sb kh hi mx.toNat code (by omega) (by omega) w'
  have r3 := fun code => sb kl lo hi.toNat code h1 (by omega) w'
  simp [Instr.sliceAt, run_underlying he.hu, Instr.slice, Instr.sliceBounds, sizeOf, typeInfo, hinf, hsz, subAddr, r1, r2, r3]
end
section
variable [Base] {P : Program} {w : World} {L : List Asn}
end
end Go.Proofs.Ytpliocedgiejiaa
