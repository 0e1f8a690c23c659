/- A calculus of conditions for the loaded code: ranging over strings; rounds of a loop. No statement of the seat is proved here. -/
import Derived.Test.YtjefojpbglcjhaaVi
import Derived.Lib.OthersKept
import Derived.Laws.RangeString
namespace Go.VC
open Go Go.Lib

theorem sem_range {P : Program} {T : Tab} (hT : T.Ok P) {o : Oper} {s : St} {t : TypeId} {x : Operand} {str : ByteArray} (ho : o.op = .range t x) (hx : val s [] x = some (.a (.v (.string str)))) (ht : T.str t = true) :
    OpSem P o s fun v' s' => ∃ b, s' = s.push b (.it str 0) ∧ v' = .a (.p s.own.length 0) := by
  intro n w0 D a w h
  obtain ⟨e1, e2⟩ := h.val (G := []) trivial hx
  refine ⟨.a (.p s.own.length 0), s.push w.heap.size (.it str 0), { w with heap := w.heap.push ((AB.it str 0).obj (bls s.own)) }, ⟨_, rfl, rfl⟩, ?_, h.new (k := .it str 0) trivial, ?_⟩
  · unfold execOp
    rw [ho]
    have : (AV.a (.v (.string str))).den (bls s.own) = .string str := rfl
    rw [this] at e1
    simp only [e1, Sem.run_bind, run_range_string w t str (hT.str _ ht), Result.andThen_ok, Sem.run_pure, AB.obj]
    have e : w.iter str 0 = { w with heap := w.heap.push (.stringIter str 0) } := rfl
    rw [e]
    congr 2
    simp [St.push, AV.den, A1.den, bls]
  · show s.own.length < (s.own ++ [_]).length
    simp

def sAt (str : ByteArray) (i : Nat) : Nat := (str.data.toList.getD i 0).toNat
theorem sAt_get (str : ByteArray) (i : Nat) (h : i < str.size) : sAt str i = (str[i]'h).toNat := by
  unfold sAt
  have h' : i < str.data.size := h
  rw [List.getD, Array.getElem?_toList, Array.getElem?_eq_getElem h']
  rfl
theorem sem_next {P : Program} {o : Oper} {s : St} {x : Operand} {r b pos : Nat} {str : ByteArray} (ho : o.op = .next x true) (hx : val s [] x = some (.a (.p r 0))) (hr : s.own[r]? = some (b, .it str pos)) (hlt : pos < str.size) (ha : sAt str pos < 128) :
    OpSem P o s fun v' s' => v' = .t [.a (.v (.bool true)), .a (.v (.int .i64 pos)), .a (.v (.int .i32 (sAt str pos)))] ∧ s' = { s with own := s.own.set r (b, .it str (pos + 1)) } := by
  intro n w0 D a w h
  obtain ⟨e1, e2⟩ := h.val (G := []) trivial hx
  have hb : (bls s.own).getD r 0 = b := bls_get hr
  have hobj : w.heap[b]? = some (.stringIter str pos) := h.mem.blk _ _ _ hr (by simp)
  rw [sAt_get str pos hlt] at ha ⊢
  refine ⟨_, _, w.iterAt b str (pos + 1), ⟨rfl, rfl⟩, ?_, h.turn (k' := .it str (pos + 1)) hr (by simp) trivial ?_ ?_ ?_ rfl rfl rfl, ?_⟩
  · unfold execOp
    rw [ho]
    have : (AV.a (.p r 0)).den (bls s.own) = .pointer (some ⟨(bls s.own).getD r 0, 0, none⟩) := rfl
    rw [this, hb] at e1
    simp only [e1, Sem.run_bind, run_next_ascii_at w b str pos _ hobj hlt ha, Result.andThen_ok, Sem.run_pure]
    rfl
  · simp [World.iterAt]
  · intro _
    exact iterAt_heap w b str pos (pos + 1) hobj
  · intro i hi
    show (w.heap.setIfInBounds b _)[i]? = _
    rw [Array.getElem?_setIfInBounds_ne (Ne.symm hi)]
  · intro y hy
    simp only [List.mem_cons, List.not_mem_nil, or_false] at hy
    rcases hy with rfl | rfl | rfl <;> trivial
theorem sem_over {P : Program} {o : Oper} {s : St} {x : Operand} {r b pos : Nat} {str : ByteArray} (ho : o.op = .next x true) (hx : val s [] x = some (.a (.p r 0))) (hr : s.own[r]? = some (b, .it str pos)) (hlt : ¬ pos < str.size) :
    OpSem P o s fun v' s' => v' = .t [.a (.v (.bool false))] ∧ s' = s := by
  intro n w0 D a w h
  obtain ⟨e1, e2⟩ := h.val (G := []) trivial hx
  have hb : (bls s.own).getD r 0 = b := bls_get hr
  have hobj : w.heap[b]? = some (.stringIter str pos) := h.mem.blk _ _ _ hr (by simp)
  refine ⟨_, _, w, ⟨rfl, rfl⟩, ?_, h, ?_⟩
  · unfold execOp
    rw [ho]
    have : (AV.a (.p r 0)).den (bls s.own) = .pointer (some ⟨(bls s.own).getD r 0, 0, none⟩) := rfl
    rw [this, hb] at e1
    simp only [e1, Sem.run_bind, run_next_end_at w b str pos _ hobj hlt, Result.andThen_ok, Sem.run_pure]
    rfl
  · intro y hy
    simp only [List.mem_cons, List.not_mem_nil, or_false] at hy
    subst hy
    trivial

section
variable {P : Program} {T : Tab} {n : Nat} {Q : Exit → St → Prop} {all : List Oper} {d : Option Tmp} {ty : TypeId} {pos : String} {af : Array Edge} {os : List Oper} {k : List It} {s : St}
theorem range_rule (hT : T.Ok P) {t : TypeId} {x : Operand} {str : ByteArray} (fuel : Nat) (hx : val s [] x = some (.a (.v (.string str)))) (ht : T.str t = true)
    (h : ∀ b, putOk n (s.push b (.it str 0)) d ∧ goW P T n Q fuel (.ops all os :: k) ((s.push b (.it str 0)).put d (.a (.p s.own.length 0)))) : stopW P n Q all ⟨d, .range t x, ty, pos, af, none⟩ os k s := by
  refine .step rfl (sem_range hT rfl hx ht) ?_ ?_
  · rintro v' s' ⟨b, rfl, rfl⟩
    exact (h b).1
  · rintro v' s' ⟨b, rfl, rfl⟩
    exact goW_sound hT _ _ _ (h b).2
theorem next_rule (hT : T.Ok P) {x : Operand} {r b i : Nat} {str : ByteArray} (fuel : Nat) (hx : val s [] x = some (.a (.p r 0))) (hr : s.own[r]? = some (b, .it str i)) (ha : ∀ j, j < str.size → sAt str j < 128) (hd : putOk n s d)
    (h1 : i < str.size → goW P T n Q fuel (.ops all os :: k) (({ s with own := s.own.set r (b, .it str (i + 1)) } : St).put d (.t [.a (.v (.bool true)), .a (.v (.int .i64 i)), .a (.v (.int .i32 (sAt str i)))])))
    (h2 : ¬ i < str.size → goW P T n Q fuel (.ops all os :: k) (s.put d (.t [.a (.v (.bool false))]))) : stopW P n Q all ⟨d, .next x true, ty, pos, af, none⟩ os k s := by
  by_cases hlt : i < str.size
  · refine .step rfl (sem_next rfl hx hr hlt (ha i hlt)) ?_ ?_
    · rintro v' s' ⟨rfl, rfl⟩
      cases d with
      | none => trivial
      | some d => exact hd
    · rintro v' s' ⟨rfl, rfl⟩
      exact goW_sound hT _ _ _ (h1 hlt)
  · refine .step rfl (sem_over rfl hx hr hlt) ?_ ?_
    · rintro v' s' ⟨rfl, rfl⟩
      exact hd
    · rintro v' s' ⟨rfl, rfl⟩
      exact goW_sound hT _ _ _ (h2 hlt)

/-! Rounds: a family of conditions, its index falls. -/
def Jof (J : Nat → St → Prop) (s : St) : Prop := ∃ j, J j s
theorem least_of {p : Nat → Prop} : ∀ (n : Nat), p n → ∃ j, p j ∧ ∀ i, p i → j ≤ i := by
  intro n
  induction n using Nat.strongRecOn with
  | _ n ih =>
    intro h
    by_cases hl : ∃ i, i < n ∧ p i
    · obtain ⟨i, h1, h2⟩ := hl
      exact ih i h1 h2
    · refine ⟨n, h, fun i hi => ?_⟩
      rcases Nat.lt_or_ge i n with hlt | hge
      · exact absurd ⟨i, hlt, hi⟩ hl
      · exact hge
open Classical in
noncomputable def jof (J : Nat → St → Prop) (s : St) : Nat := if h : ∃ j, J j s ∧ ∀ i, J i s → j ≤ i then Classical.choose h else 0
theorem jof_spec {J : Nat → St → Prop} {s : St} (h : Jof J s) : J (jof J s) s := by
  obtain ⟨j, hj⟩ := h
  have h' := least_of (p := fun j => J j s) j hj
  unfold jof
  rw [dif_pos h']
  exact (Classical.choose_spec h').1
theorem jof_le {J : Nat → St → Prop} {s : St} {j : Nat} (h : J j s) : jof J s ≤ j := by
  have h' := least_of (p := fun j => J j s) j h
  unfold jof
  rw [dif_pos h']
  exact (Classical.choose_spec h').2 j h
theorem loop_rule (hT : T.Ok P) {b : Code} (J : Nat → St → Prop) (j : Nat) (s3 : St) (h0 : J j s3) (hl : Less s s3) (fuel : Nat) (h : ∀ j s', J j s' → goW P T n Q fuel (.code b :: .lp (Jof J) (jof J) j :: k) s') : RunW P n Q (.code (.loop b) :: k) s :=
  .less hl (.loop (Jof J) (jof J) ⟨j, h0⟩ fun s' hI => goW_sound hT _ _ _ (h _ s' (jof_spec hI)))
theorem lp_rule {J : Nat → St → Prop} {j : Nat} (i : Nat) (s3 : St) (h : J i s3) (hl : Less s s3) (hij : i < j) : RunW P n Q (.lp (Jof J) (jof J) j :: k) s :=
  .less hl (.lp ⟨i, h⟩ (Nat.lt_of_le_of_lt (jof_le h) hij))
end

theorem condW_i {go : List It → St → Prop} {a b : Code} {k : List It} {s : St} {x : Bool} (h1 : x = true → go (.code a :: k) s) (h0 : x = false → go (.code b :: k) s) : condW go a b k s (some (.a (.v (.bool x)))) := ⟨h1, h0⟩

end Go.VC
