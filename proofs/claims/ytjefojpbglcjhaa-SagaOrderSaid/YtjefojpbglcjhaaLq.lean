/- Arguments of a law, opened: bytes, plans, events, entries, notes. Written by gen_open.py. No statement of the seat is proved here. -/
import Derived.Test.YtjefojpbglcjhaaLp
import Derived.Test.YtjefojpbglcjhaaPb
import Derived.Test.YtjefojpbglcjhaaSl
namespace Go.VC
open Go Go.Proofs
set_option linter.unusedSimpArgs false
set_option linter.unusedVariables false

section
variable {W : World}
theorem c54 : Try.prog.cellsOf 54 = 3 := by kernel_rfl
theorem c56 : Try.prog.cellsOf 56 = 3 := by kernel_rfl
theorem c58 : Try.prog.cellsOf 58 = 6 := by kernel_rfl
theorem c63 : Try.prog.cellsOf 63 = 11 := by kernel_rfl
theorem rd5 {x : Value} (h : Rd Try.prog W 5 [x]) : ∃ b : UInt8, x = bv b := by
  obtain ⟨n, h1, h2⟩ := rd_int Try.underlying5 h
  injection h1 with h1 _
  have e1 : IntKind.min .u8 = 0 := by decide
  have e2 : IntKind.max .u8 = 255 := by decide
  rw [e1, e2] at h2
  refine ⟨UInt8.ofNat n.toNat, ?_⟩
  rw [h1]
  unfold bv
  congr 1
  have : (UInt8.ofNat n.toNat).toNat = n.toNat := by
    rw [UInt8.toNat_ofNat']
    omega
  rw [this]
  omega
theorem rd_bytes {x : Value} (h : Rd Try.prog W 32 [x]) : ∃ (s : Sl) (bs : List UInt8), x = .slice s.a s.n s.c ∧ BytesAt (allF W) s bs ∧ s.n ≤ s.c ∧ s.c ≤ maxLen := by
  obtain ⟨p, n, c, h1, h2, h3, h4, h5⟩ := rd_slice Try.underlying32 h
  injection h1 with h1 _
  obtain ⟨bs, g1, g2⟩ := (SlAt.of_rd (z := 1) (Q := fun l => ∃ b : UInt8, l = [bv b]) (by decide) c5 h5 fun l hl => by
    obtain ⟨k, ek, _⟩ := rd_int Try.underlying5 hl
    rw [ek] at hl ⊢
    obtain ⟨b, hb⟩ := rd5 hl
    exact ⟨b, by rw [hb]⟩).list (R := fun (b : UInt8) l => l = [bv b])
  refine ⟨⟨p, n, c⟩, bs, h1, ⟨g1, ?_, ?_⟩, h2, h3⟩
  · rcases Nat.eq_zero_or_pos n with rfl | hn
    · have : bs = [] := List.length_eq_zero_iff.1 g1
      rw [this]
      show strD (allF W) p 0 = []
      unfold strD
      split
      · rfl
      · split <;> simp
    · obtain ⟨b, o, arr, ty, fr, rfl, hF, hget⟩ := g2 hn
      show strD (allF W) (some ⟨b, o, none⟩) n = bs.map bv
      simp only [strD, hF]
      apply List.ext_getElem?
      intro i
      rcases Nat.lt_or_ge i n with hi | hi
      · have hx : bs[i]? = some (bs[i]'(by omega)) := List.getElem?_eq_getElem (by omega)
        obtain ⟨k1, k2⟩ := hget i _ hx
        rw [List.getElem?_take, if_pos hi, List.getElem?_drop, List.getElem?_map, hx]
        have k3 := congrArg (fun l => l[0]?) k2
        simp only [List.getElem?_take, List.getElem?_drop] at k3
        simpa using k3
      · rw [List.getElem?_eq_none (by simp; omega), List.getElem?_eq_none (by simp; omega)]
  · rcases Nat.eq_zero_or_pos n with rfl | hn
    · exact .inl rfl
    · obtain ⟨b, o, arr, ty, fr, rfl, hF, hget⟩ := g2 hn
      have hx : bs[n - 1]? = some (bs[n - 1]'(by omega)) := List.getElem?_eq_getElem (by omega)
      obtain ⟨k1, _⟩ := hget _ _ hx
      exact .inr ⟨_, arr, ty, fr, rfl, rfl, hF, by dsimp only; omega⟩
theorem rd_ev {l : List Value} (h : Rd Try.prog W 54 l) : ∃ e : EvR, l = e.vals ∧ i64R e.k ∧ i64R e.st ∧ i64R e.cd := by
  obtain ⟨hl, hf⟩ := rd_struct Try.underlying54 h
  rw [c54] at hl
  obtain ⟨x0, l0, rfl, hl0⟩ := uncons hl
  obtain ⟨x1, l1, rfl, hl1⟩ := uncons hl0
  obtain ⟨x2, l2, rfl, hl2⟩ := uncons hl1
  obtain rfl := unnil hl2
  have f0 : Rd Try.prog W 3 (([x0, x1, x2].drop 0).take (Try.prog.cellsOf 3)) := hf 0 _ rfl
  rw [c3] at f0
  replace f0 : Rd Try.prog W 3 [x0] := f0
  have f1 : Rd Try.prog W 3 (([x0, x1, x2].drop 1).take (Try.prog.cellsOf 3)) := hf 1 _ rfl
  rw [c3] at f1
  replace f1 : Rd Try.prog W 3 [x1] := f1
  have f2 : Rd Try.prog W 3 (([x0, x1, x2].drop 2).take (Try.prog.cellsOf 3)) := hf 2 _ rfl
  rw [c3] at f2
  replace f2 : Rd Try.prog W 3 [x2] := f2
  obtain ⟨n0, rfl, w0⟩ := rd3 f0
  obtain ⟨n1, rfl, w1⟩ := rd3 f1
  obtain ⟨n2, rfl, w2⟩ := rd3 f2
  exact ⟨⟨n0, n1, n2⟩, rfl, w0, w1, w2⟩
theorem rd_work {l : List Value} (h : Rd Try.prog W 56 l) : ∃ (w n : Int) (s : Sl) (bs : List UInt8), l = [.int .i64 w, .int .i64 n, .slice s.a s.n s.c] ∧ i64R w ∧ i64R n ∧ BytesAt (allF W) s bs := by
  obtain ⟨hl, hf⟩ := rd_struct Try.underlying56 h
  rw [c56] at hl
  obtain ⟨x0, l0, rfl, hl0⟩ := uncons hl
  obtain ⟨x1, l1, rfl, hl1⟩ := uncons hl0
  obtain ⟨x2, l2, rfl, hl2⟩ := uncons hl1
  obtain rfl := unnil hl2
  have f0 : Rd Try.prog W 3 (([x0, x1, x2].drop 0).take (Try.prog.cellsOf 3)) := hf 0 _ rfl
  rw [c3] at f0
  replace f0 : Rd Try.prog W 3 [x0] := f0
  have f1 : Rd Try.prog W 3 (([x0, x1, x2].drop 1).take (Try.prog.cellsOf 3)) := hf 1 _ rfl
  rw [c3] at f1
  replace f1 : Rd Try.prog W 3 [x1] := f1
  have f2 : Rd Try.prog W 32 (([x0, x1, x2].drop 2).take (Try.prog.cellsOf 32)) := hf 2 _ rfl
  rw [c32] at f2
  replace f2 : Rd Try.prog W 32 [x2] := f2
  obtain ⟨n0, rfl, w0⟩ := rd3 f0
  obtain ⟨n1, rfl, w1⟩ := rd3 f1
  obtain ⟨s2, b2, rfl, w2, u2, m2⟩ := rd_bytes f2
  exact ⟨n0, n1, s2, b2, rfl, w0, w1, w2⟩
def StepR.wf (s : StepR) : Prop := i64R s.w ∧ i64R s.n ∧ i64R s.tr ∧ i64R s.wt
theorem rd_step {l : List Value} (h : Rd Try.prog W 58 l) : ∃ s : StepR, l = s.vals ∧ BytesAt (allF W) s.nm s.nb ∧ s.wf := by
  obtain ⟨hl, hf⟩ := rd_struct Try.underlying58 h
  rw [c58] at hl
  obtain ⟨x0, l0, rfl, hl0⟩ := uncons hl
  obtain ⟨x1, l1, rfl, hl1⟩ := uncons hl0
  obtain ⟨x2, l2, rfl, hl2⟩ := uncons hl1
  obtain ⟨x3, l3, rfl, hl3⟩ := uncons hl2
  obtain ⟨x4, l4, rfl, hl4⟩ := uncons hl3
  obtain ⟨x5, l5, rfl, hl5⟩ := uncons hl4
  obtain rfl := unnil hl5
  have f0 : Rd Try.prog W 56 (([x0, x1, x2, x3, x4, x5].drop 0).take (Try.prog.cellsOf 56)) := hf 0 _ rfl
  rw [c56] at f0
  replace f0 : Rd Try.prog W 56 [x0, x1, x2] := f0
  have f1 : Rd Try.prog W 3 (([x0, x1, x2, x3, x4, x5].drop 3).take (Try.prog.cellsOf 3)) := hf 1 _ rfl
  rw [c3] at f1
  replace f1 : Rd Try.prog W 3 [x3] := f1
  have f2 : Rd Try.prog W 3 (([x0, x1, x2, x3, x4, x5].drop 4).take (Try.prog.cellsOf 3)) := hf 2 _ rfl
  rw [c3] at f2
  replace f2 : Rd Try.prog W 3 [x4] := f2
  have f3 : Rd Try.prog W 4 (([x0, x1, x2, x3, x4, x5].drop 5).take (Try.prog.cellsOf 4)) := hf 3 _ rfl
  rw [c4] at f3
  replace f3 : Rd Try.prog W 4 [x5] := f3
  obtain ⟨ww, wn, ws, wb, we, ww1, ww2, ww3⟩ := rd_work f0
  obtain ⟨n1, rfl, w1⟩ := rd3 f1
  obtain ⟨n2, rfl, w2⟩ := rd3 f2
  obtain ⟨n3, rfl⟩ := rd4 f3
  exact ⟨⟨ww, wn, ws, wb, n1, n2, n3⟩, by
    injection we with e0 we
    injection we with e1 we
    injection we with e2 _
    rw [e0, e1, e2], ww3, ww1, ww2, w1, w2⟩
theorem rd_plan {x : Value} (h : Rd Try.prog W 44 [x]) : ∃ p n c steps, x = .slice p n c ∧ n ≤ c ∧ c ≤ maxLen ∧ PlanAt (allF W) p n steps ∧ ∀ s ∈ steps, s.wf := by
  obtain ⟨p, n, c, h1, h2, h3, h4, h5⟩ := rd_slice Try.underlying44 h
  injection h1 with h1 _
  obtain ⟨xs, g1, g2⟩ := (SlAt.of_rd (z := 6) (Q := fun l => ∃ s : StepR, l = s.vals ∧ BytesAt (allF W) s.nm s.nb ∧ s.wf) (by decide) c58 h5 fun l hl => rd_step hl).list (R := fun (s : StepR) l => l = s.vals ∧ BytesAt (allF W) s.nm s.nb ∧ s.wf)
  have all : ∀ s ∈ xs, BytesAt (allF W) s.nm s.nb ∧ s.wf := by
    intro s hs
    obtain ⟨i, hi, e⟩ := List.getElem_of_mem hs
    obtain ⟨b, o, arr, ty, fr, e1, e2, e3⟩ := g2 (by omega)
    exact (e3 i s (by rw [List.getElem?_eq_getElem hi, e])).2.2
  refine ⟨p, n, c, xs, h1, h2, h3, ⟨g1, fun hn => ?_, fun s hs => (all s hs).1⟩, fun s hs => (all s hs).2⟩
  obtain ⟨b, o, arr, ty, fr, e1, e2, e3⟩ := g2 hn
  exact ⟨b, o, arr, ty, fr, e1, e2, fun i s hi => ⟨(e3 i s hi).1, (e3 i s hi).2.1⟩⟩
theorem rd_evs {x : Value} (h : Rd Try.prog W 45 [x]) : ∃ p n c evs, x = .slice p n c ∧ n ≤ c ∧ c ≤ maxLen ∧ EvsAt (allF W) p n evs := by
  obtain ⟨p, n, c, h1, h2, h3, h4, h5⟩ := rd_slice Try.underlying45 h
  injection h1 with h1 _
  obtain ⟨xs, g1, g2⟩ := (SlAt.of_rd (z := 3) (Q := fun l => ∃ e : EvR, l = e.vals ∧ i64R e.k ∧ i64R e.st ∧ i64R e.cd) (by decide) c54 h5 fun l hl => rd_ev hl).list (R := fun (e : EvR) l => l = e.vals ∧ i64R e.k ∧ i64R e.st ∧ i64R e.cd)
  refine ⟨p, n, c, xs, h1, h2, h3, g1, fun hn => ?_⟩
  obtain ⟨b, o, arr, ty, fr, e1, e2, e3⟩ := g2 hn
  exact ⟨b, o, arr, ty, fr, e1, e2, fun i e hi => ⟨(e3 i e hi).1, (e3 i e hi).2.1⟩⟩
end
end Go.VC
