/- Arguments of a law, opened: what its slices hold. No statement of the seat is proved here. -/
import Derived.Test.YtjefojpbglcjhaaLz
namespace Go.VC
open Go Go.Proofs
set_option linter.unusedSimpArgs false

/-- Cells that read as a value of a type. -/
def Rd (P : Program) (W : World) (t : TypeId) (cs : List Value) : Prop :=
  ∃ (H : Type) (enc : TypeId × Value → H) (sp : Nat → Bool) (fuel : Nat) (x : DataW H × List MemPlace), DataW.trod enc P W 0 sp true fuel t cs = some x
theorem Rd.of_trod {H : Type} {enc : TypeId × Value → H} {P : Program} {W : World} {sp : Nat → Bool} {t : TypeId} {v : Value} {d : DataW H} {ps : List MemPlace} (h : DataW.Trod enc P W 0 sp true t v d ps) : Rd P W t v.cells.toList := by
  obtain ⟨fuel, h⟩ := h
  exact ⟨H, enc, sp, fuel, _, h⟩
section
variable {P : Program} {W : World} {t : TypeId} {cs : List Value}
theorem rd_int {k : IntKind} (ht : P.underlying t = some (.int k)) (h : Rd P W t cs) : ∃ n, cs = [.int k n] ∧ k.min ≤ n ∧ n ≤ k.max := by
  obtain ⟨H, enc, sp, fuel, x, h⟩ := h
  obtain ⟨n, h1, _, h2⟩ := DataW.trod_int ht h
  simp only [Lit.wf, Bool.and_eq_true, decide_eq_true_eq] at h2
  exact ⟨n, h1, h2⟩
theorem rd_bool (ht : P.underlying t = some .bool) (h : Rd P W t cs) : ∃ b, cs = [.bool b] := by
  obtain ⟨H, enc, sp, fuel, x, h⟩ := h
  obtain ⟨b, h1, _⟩ := DataW.trod_bool ht h
  exact ⟨b, h1⟩
theorem rd_struct {fs : Array Field} (ht : P.underlying t = some (.struct fs)) (h : Rd P W t cs) : cs.length = P.cellsOf t ∧
    ∀ (i : Nat) (f : Field), fs[i]? = some f → Rd P W f.type ((cs.drop f.offset).take (P.cellsOf f.type)) := by
  obtain ⟨H, enc, sp, fuel, x, h⟩ := h
  obtain ⟨xs, n, _, _, h1, h2, h3⟩ := DataW.trod_struct ht h
  refine ⟨h1, fun i f hf => ?_⟩
  have := h3 i f hf
  have hi : i < xs.length := by rw [h2]; exact (Array.getElem?_eq_some_iff.1 hf).1
  rw [List.getElem?_eq_getElem hi] at this
  exact ⟨H, enc, sp, n, _, this⟩
theorem rd_slice {e : TypeId} (ht : P.underlying t = some (.slice e)) (h : Rd P W t cs) : ∃ (p : Option Addr) (n c : Nat), cs = [.slice p n c] ∧ n ≤ c ∧ c ≤ maxLen ∧ (p = none → n = 0 ∧ c = 0) ∧
    ∀ i, i < n → ∃ a l, p = some a ∧ W.cells? 0 (a.add (i * P.cellsOf e)) (P.cellsOf e) = some l ∧ Rd P W e l := by
  obtain ⟨H, enc, sp, fuel, x, h⟩ := h
  rcases DataW.trod_slice ht h with ⟨h1, _⟩ | ⟨a, len, cap, elems, rest, n, _, h1, _, _, h2, h3, h4, h5, _⟩
  · exact ⟨none, 0, 0, h1, Nat.le_refl _, Nat.zero_le _, fun _ => ⟨rfl, rfl⟩, fun i hi => by omega⟩
  · refine ⟨some a, len, cap, h1, h2, h3, (fun h => by cases h), fun i hi => ?_⟩
    have := h5 i hi
    rw [List.getElem?_eq_getElem (by omega)] at this
    cases hc : W.cells? 0 (a.add (i * P.cellsOf e)) (P.cellsOf e) with
    | none => rw [hc] at this; cases this
    | some l =>
      rw [hc] at this
      exact ⟨a, l, rfl, hc, H, enc, sp, n, _, this⟩
end

/-- The cells of a slice's elements, in what is frozen. -/
def SlAt (F : Frozen) (p : Option Addr) (n z : Nat) (Q : List Value → Prop) : Prop :=
  0 < n → ∃ b o arr ty fr, p = some ⟨b, o, none⟩ ∧ F b = some (.cells arr ty fr) ∧ ∀ i, i < n → o + i * z + z ≤ arr.size ∧ Q ((arr.toList.drop (o + i * z)).take z)

theorem cells_at {W : World} {a : Addr} {z : Nat} {l : List Value} (hz : 0 < z) (h : W.cells? 0 a z = some l) : ∃ arr ty fr, a = ⟨a.block, a.off, none⟩ ∧ W.heap[a.block]? = some (.cells arr ty fr) ∧ a.off + z ≤ arr.size ∧ (arr.toList.drop a.off).take z = l := by
  obtain ⟨_, h2, h3⟩ := World.cells?_some h
  have h0 := h3 0 hz
  have hl0 : l[0]? = some l[0] := List.getElem?_eq_getElem (by omega)
  rw [hl0] at h0
  have e0 : a.add 0 = a := by simp [Addr.add]
  rw [e0] at h0
  have hs : a.spot = none := by
    unfold World.cell? at h0
    split at h0
    · split at h0
      · cases h0
      · rename_i hsp
        simpa using hsp
    · cases h0
  obtain ⟨b, o, s⟩ := a
  simp only at hs
  subst hs
  simp only [World.cell?] at h0
  split at h0
  · rename_i arr ty fr hb
    refine ⟨arr, ty, fr, rfl, hb, ?_, ?_⟩
    · have h1 := h3 (z - 1) (by omega)
      rw [List.getElem?_eq_getElem (by omega), add_off] at h1
      simp only [World.cell?, hb] at h1
      have := (Array.getElem?_eq_some_iff.1 (by simpa using h1)).1
      show o + z ≤ arr.size
      omega
    · apply List.ext_getElem?
      intro i
      rw [List.getElem?_take]
      split
      · rename_i hi
        have h1 := h3 i hi
        rw [add_off] at h1
        simp only [World.cell?, hb] at h1
        rw [List.getElem?_drop, ← h1]
        simp
      · rw [List.getElem?_eq_none (by omega)]
  · cases h0

theorem SlAt.of_rd {P : Program} {W : World} {e : TypeId} {p : Option Addr} {n z : Nat} {Q : List Value → Prop} (hz : 0 < z) (hc : P.cellsOf e = z)
    (h : ∀ i, i < n → ∃ a l, p = some a ∧ W.cells? 0 (a.add (i * P.cellsOf e)) (P.cellsOf e) = some l ∧ Rd P W e l) (hQ : ∀ l, Rd P W e l → Q l) : SlAt (allF W) p n z Q := by
  intro hn
  rw [hc] at h
  obtain ⟨a, l0, rfl, h0, _⟩ := h 0 hn
  have e0 : a.add (0 * z) = a := by simp [Addr.add]
  rw [e0] at h0
  obtain ⟨arr, ty, fr, ha, hb, _, _⟩ := cells_at hz h0
  refine ⟨a.block, a.off, arr, ty, fr, by rw [← ha], hb, fun i hi => ?_⟩
  obtain ⟨a', l, he, h1, h2⟩ := h i hi
  injection he with he
  subst he
  have e1 : a.add (i * z) = ⟨a.block, a.off + i * z, none⟩ := by rw [ha, add_off]
  rw [e1] at h1
  obtain ⟨arr', ty', fr', _, hb', h3, h4⟩ := cells_at hz h1
  simp only at hb' h3 h4
  rw [hb] at hb'
  injection hb' with hb'
  injection hb' with e2 _ _
  subst e2
  exact ⟨h3, by rw [h4]; exact hQ _ h2⟩
/-- Of what each element is, a list. -/
theorem SlAt.list {α : Type} {F : Frozen} {p : Option Addr} {n z : Nat} {R : α → List Value → Prop} (h : SlAt F p n z fun l => ∃ x, R x l) : ∃ xs : List α, xs.length = n ∧
    (0 < n → ∃ b o arr ty fr, p = some ⟨b, o, none⟩ ∧ F b = some (.cells arr ty fr) ∧ ∀ (i : Nat) (x : α), xs[i]? = some x → o + i * z + z ≤ arr.size ∧ R x ((arr.toList.drop (o + i * z)).take z)) := by
  rcases Nat.eq_zero_or_pos n with rfl | hn
  · exact ⟨[], rfl, fun h => by omega⟩
  · obtain ⟨b, o, arr, ty, fr, hp, hF, hQ⟩ := h hn
    have key : ∀ m, m ≤ n → ∃ xs : List α, xs.length = m ∧ ∀ (i : Nat) (x : α), xs[i]? = some x → o + i * z + z ≤ arr.size ∧ R x ((arr.toList.drop (o + i * z)).take z) := by
      intro m
      induction m with
      | zero => exact fun _ => ⟨[], rfl, fun i x h => by simp at h⟩
      | succ m ih =>
        intro hm
        obtain ⟨xs, h1, h2⟩ := ih (by omega)
        obtain ⟨h3, x, h4⟩ := hQ m (by omega)
        refine ⟨xs ++ [x], by simp [h1], fun i y hi => ?_⟩
        rcases Nat.lt_or_ge i m with hl | hl
        · rw [List.getElem?_append_left (by omega)] at hi
          exact h2 i y hi
        · rw [List.getElem?_append_right (by omega)] at hi
          have : i = m := by
            rcases Nat.eq_or_lt_of_le hl with e | e
            · exact e.symm
            · rw [List.getElem?_eq_none (by simp; omega)] at hi; cases hi
          subst this
          rw [h1, Nat.sub_self] at hi
          injection hi with hi
          subst hi
          exact ⟨h3, h4⟩
    obtain ⟨xs, h1, h2⟩ := key n (Nat.le_refl _)
    exact ⟨xs, h1, fun _ => ⟨b, o, arr, ty, fr, hp, hF, h2⟩⟩

end Go.VC
