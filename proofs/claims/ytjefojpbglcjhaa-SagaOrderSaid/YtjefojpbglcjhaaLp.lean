/- Arguments of a law, opened: notes and acts. No statement of the seat is proved here. -/
import Derived.Test.YtjefojpbglcjhaaLo
import Derived.Test.YtjefojpbglcjhaaRa
namespace Go.VC
open Go Go.Proofs
set_option linter.unusedSimpArgs false
set_option linter.unusedVariables false

theorem uncons {α : Type} {l : List α} {n : Nat} (h : l.length = n + 1) : ∃ x t, l = x :: t ∧ t.length = n := by
  cases l with
  | nil => simp at h
  | cons x t => exact ⟨x, t, rfl, by simpa using h⟩
theorem unnil {α : Type} {l : List α} (h : l.length = 0) : l = [] := List.length_eq_zero_iff.1 h
theorem cells1 {v : Value} {x : Value} (h : v.cells.toList = [x]) (hv : v.oneCell' = true) : v = x := by
  cases v <;> simp [Value.cells, Value.oneCell'] at h hv <;> exact h
def i64R (n : Int) : Prop := -9223372036854775808 ≤ n ∧ n ≤ 9223372036854775807
def u64R (n : Int) : Prop := 0 ≤ n ∧ n < 18446744073709551616
def u32R (n : Int) : Prop := 0 ≤ n ∧ n < 4294967296
theorem i64_of {n : Int} (h : IntKind.min .i64 ≤ n ∧ n ≤ IntKind.max .i64) : i64R n := by
  have e1 : IntKind.min .i64 = -9223372036854775808 := by decide
  have e2 : IntKind.max .i64 = 9223372036854775807 := by decide
  rw [e1, e2] at h
  exact h
theorem u64_of {n : Int} (h : IntKind.min .u64 ≤ n ∧ n ≤ IntKind.max .u64) : u64R n := by
  have e1 : IntKind.min .u64 = 0 := by decide
  have e2 : IntKind.max .u64 = 18446744073709551615 := by decide
  rw [e1, e2] at h
  exact ⟨h.1, by omega⟩
theorem u32_of {n : Int} (h : IntKind.min .u32 ≤ n ∧ n ≤ IntKind.max .u32) : u32R n := by
  have e1 : IntKind.min .u32 = 0 := by decide
  have e2 : IntKind.max .u32 = 4294967295 := by decide
  rw [e1, e2] at h
  exact ⟨h.1, by omega⟩
structure Note.wf (n : Note) : Prop where
  op : i64R n.op
  e : u32R n.e
  p : u32R n.p
  l : u64R n.l
  t : u64R n.t
  o : u32R n.o
  s : i64R n.s
  c : i64R n.c
structure ActR.wf (a : ActR) : Prop where
  kind : i64R a.kind
  tick : i64R a.tick
  ref : i64R a.ref
  n : a.n.wf
section
variable {W : World}
theorem rd3 {x : Value} (h : Rd Try.prog W 3 [x]) : ∃ n, x = .int .i64 n ∧ i64R n := by
  obtain ⟨n, h1, h2⟩ := rd_int Try.underlying3 h
  injection h1 with h1 _
  exact ⟨n, h1, i64_of h2⟩
theorem rd31 {x : Value} (h : Rd Try.prog W 31 [x]) : ∃ n, x = .int .u32 n ∧ u32R n := by
  obtain ⟨n, h1, h2⟩ := rd_int Try.underlying31 h
  injection h1 with h1 _
  exact ⟨n, h1, u32_of h2⟩
theorem rd22 {x : Value} (h : Rd Try.prog W 22 [x]) : ∃ n, x = .int .u64 n ∧ u64R n := by
  obtain ⟨n, h1, h2⟩ := rd_int Try.underlying22 h
  injection h1 with h1 _
  exact ⟨n, h1, u64_of h2⟩
theorem rd4 {x : Value} (h : Rd Try.prog W 4 [x]) : ∃ b, x = .bool b := by
  obtain ⟨n, h1⟩ := rd_bool Try.underlying4 h
  injection h1 with h1 _
  exact ⟨n, h1⟩
theorem c3 : Try.prog.cellsOf 3 = 1 := by kernel_rfl
theorem c4 : Try.prog.cellsOf 4 = 1 := by kernel_rfl
theorem c5 : Try.prog.cellsOf 5 = 1 := by kernel_rfl
theorem c22 : Try.prog.cellsOf 22 = 1 := by kernel_rfl
theorem c31 : Try.prog.cellsOf 31 = 1 := by kernel_rfl
theorem c32 : Try.prog.cellsOf 32 = 1 := by kernel_rfl
theorem c34 : Try.prog.cellsOf 34 = 11 := by kernel_rfl
theorem c41 : Try.prog.cellsOf 41 = 14 := by kernel_rfl
theorem rd32 {x : Value} (h : Rd Try.prog W 32 [x]) : ∃ p n c, x = .slice p n c := by
  obtain ⟨p, n, c, h1, _⟩ := rd_slice Try.underlying32 h
  injection h1 with h1 _
  exact ⟨p, n, c, h1⟩
theorem rd_note {l : List Value} (h : Rd Try.prog W 34 l) : ∃ n : Note, l = n.vals ∧ n.wf := by
  obtain ⟨hl, hf⟩ := rd_struct Try.underlying34 h
  rw [c34] at hl
  obtain ⟨x0, l0, rfl, hl0⟩ := uncons hl
  obtain ⟨x1, l1, rfl, hl1⟩ := uncons hl0
  obtain ⟨x2, l2, rfl, hl2⟩ := uncons hl1
  obtain ⟨x3, l3, rfl, hl3⟩ := uncons hl2
  obtain ⟨x4, l4, rfl, hl4⟩ := uncons hl3
  obtain ⟨x5, l5, rfl, hl5⟩ := uncons hl4
  obtain ⟨x6, l6, rfl, hl6⟩ := uncons hl5
  obtain ⟨x7, l7, rfl, hl7⟩ := uncons hl6
  obtain ⟨x8, l8, rfl, hl8⟩ := uncons hl7
  obtain ⟨x9, l9, rfl, hl9⟩ := uncons hl8
  obtain ⟨x10, l10, rfl, hl10⟩ := uncons hl9
  obtain rfl := unnil hl10
  have f0 : Rd Try.prog W 3 (([x0, x1, x2, x3, x4, x5, x6, x7, x8, x9, x10].drop 0).take (Try.prog.cellsOf 3)) := hf 0 _ rfl
  have f1 : Rd Try.prog W 31 (([x0, x1, x2, x3, x4, x5, x6, x7, x8, x9, x10].drop 1).take (Try.prog.cellsOf 31)) := hf 1 _ rfl
  have f2 : Rd Try.prog W 31 (([x0, x1, x2, x3, x4, x5, x6, x7, x8, x9, x10].drop 2).take (Try.prog.cellsOf 31)) := hf 2 _ rfl
  have f3 : Rd Try.prog W 22 (([x0, x1, x2, x3, x4, x5, x6, x7, x8, x9, x10].drop 3).take (Try.prog.cellsOf 22)) := hf 3 _ rfl
  have f4 : Rd Try.prog W 22 (([x0, x1, x2, x3, x4, x5, x6, x7, x8, x9, x10].drop 4).take (Try.prog.cellsOf 22)) := hf 4 _ rfl
  have f5 : Rd Try.prog W 31 (([x0, x1, x2, x3, x4, x5, x6, x7, x8, x9, x10].drop 5).take (Try.prog.cellsOf 31)) := hf 5 _ rfl
  have f6 : Rd Try.prog W 3 (([x0, x1, x2, x3, x4, x5, x6, x7, x8, x9, x10].drop 6).take (Try.prog.cellsOf 3)) := hf 6 _ rfl
  have f7 : Rd Try.prog W 4 (([x0, x1, x2, x3, x4, x5, x6, x7, x8, x9, x10].drop 7).take (Try.prog.cellsOf 4)) := hf 7 _ rfl
  have f8 : Rd Try.prog W 3 (([x0, x1, x2, x3, x4, x5, x6, x7, x8, x9, x10].drop 8).take (Try.prog.cellsOf 3)) := hf 8 _ rfl
  have f9 : Rd Try.prog W 32 (([x0, x1, x2, x3, x4, x5, x6, x7, x8, x9, x10].drop 9).take (Try.prog.cellsOf 32)) := hf 9 _ rfl
  have f10 : Rd Try.prog W 32 (([x0, x1, x2, x3, x4, x5, x6, x7, x8, x9, x10].drop 10).take (Try.prog.cellsOf 32)) := hf 10 _ rfl
  rw [c3] at f0
  rw [c31] at f1
  rw [c31] at f2
  rw [c22] at f3
  rw [c22] at f4
  rw [c31] at f5
  rw [c3] at f6
  rw [c4] at f7
  rw [c3] at f8
  rw [c32] at f9
  rw [c32] at f10
  obtain ⟨n0, rfl, w0⟩ := rd3 f0
  obtain ⟨n1, rfl, w1⟩ := rd31 f1
  obtain ⟨n2, rfl, w2⟩ := rd31 f2
  obtain ⟨n3, rfl, w3⟩ := rd22 f3
  obtain ⟨n4, rfl, w4⟩ := rd22 f4
  obtain ⟨n5, rfl, w5⟩ := rd31 f5
  obtain ⟨n6, rfl, w6⟩ := rd3 f6
  obtain ⟨n7, rfl⟩ := rd4 f7
  obtain ⟨n8, rfl, w8⟩ := rd3 f8
  obtain ⟨p9, m9, c9, rfl⟩ := rd32 f9
  obtain ⟨p10, m10, c10, rfl⟩ := rd32 f10
  exact ⟨⟨n0, n1, n2, n3, n4, n5, n6, n7, n8, ⟨p9, m9, c9⟩, ⟨p10, m10, c10⟩⟩, rfl, ⟨w0, w1, w2, w3, w4, w5, w6, w8⟩⟩
theorem rd_act {l : List Value} (h : Rd Try.prog W 41 l) : ∃ a : ActR, l = a.vals ∧ a.wf := by
  obtain ⟨hl, hf⟩ := rd_struct Try.underlying41 h
  rw [c41] at hl
  obtain ⟨x0, l0, rfl, hl0⟩ := uncons hl
  obtain ⟨x1, l1, rfl, hl1⟩ := uncons hl0
  obtain ⟨x2, l2, rfl, hl2⟩ := uncons hl1
  have f0 : Rd Try.prog W 3 (((x0 :: x1 :: x2 :: l2).drop 0).take (Try.prog.cellsOf 3)) := hf 0 _ rfl
  have f1 : Rd Try.prog W 3 (((x0 :: x1 :: x2 :: l2).drop 1).take (Try.prog.cellsOf 3)) := hf 1 _ rfl
  have f2 : Rd Try.prog W 3 (((x0 :: x1 :: x2 :: l2).drop 2).take (Try.prog.cellsOf 3)) := hf 2 _ rfl
  have f3 : Rd Try.prog W 34 (((x0 :: x1 :: x2 :: l2).drop 3).take (Try.prog.cellsOf 34)) := hf 3 _ rfl
  rw [c3] at f0
  rw [c3] at f1
  rw [c3] at f2
  rw [c34] at f3
  replace f3 : Rd Try.prog W 34 (l2.take 11) := f3
  rw [List.take_of_length_le (by omega)] at f3
  obtain ⟨n0, rfl, w0⟩ := rd3 f0
  obtain ⟨n1, rfl, w1⟩ := rd3 f1
  obtain ⟨n2, rfl, w2⟩ := rd3 f2
  obtain ⟨n, rfl, w3⟩ := rd_note f3
  exact ⟨⟨n0, n1, n2, n⟩, rfl, ⟨w0, w1, w2, w3⟩⟩
theorem rd_acts {x : Value} (h : Rd Try.prog W 23 [x]) : ∃ p n c acts, x = .slice p n c ∧ n ≤ c ∧ c ≤ maxLen ∧ ActsAt (allF W) p n acts ∧ ∀ a ∈ acts, a.wf := by
  obtain ⟨p, n, c, h1, h2, h3, h4, h5⟩ := rd_slice Try.underlying23 h
  injection h1 with h1 _
  obtain ⟨xs, g1, g2⟩ := (SlAt.of_rd (z := 14) (Q := fun l => ∃ a : ActR, l = a.vals ∧ a.wf) (by decide) c41 h5 fun l hl => rd_act hl).list (R := fun (a : ActR) l => l = a.vals ∧ a.wf)
  refine ⟨p, n, c, xs, h1, h2, h3, ⟨g1, fun hn => ?_⟩, fun a ha => ?_⟩
  · obtain ⟨b, o, arr, ty, fr, e1, e2, e3⟩ := g2 hn
    refine ⟨b, o, arr, ty, fr, e1, e2, fun i a hi => ?_⟩
    obtain ⟨k1, k2, _⟩ := e3 i a hi
    refine ⟨k1, fun k hk => ?_⟩
    rw [← k2, List.getD_eq_getElem?_getD, List.getD_eq_getElem?_getD, List.getElem?_take, if_pos hk, List.getElem?_drop]
  · obtain ⟨i, hi, e⟩ := List.getElem_of_mem ha
    obtain ⟨b, o, arr, ty, fr, e1, e2, e3⟩ := g2 (by omega)
    exact (e3 i a (by rw [List.getElem?_eq_getElem hi, e])).2.2
end
end Go.VC
