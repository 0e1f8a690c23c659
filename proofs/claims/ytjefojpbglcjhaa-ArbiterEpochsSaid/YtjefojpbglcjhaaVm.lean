/- A calculus of conditions for the loaded code: ranging over any string. No statement of the seat is proved here. -/
import Derived.Test.YtjefojpbglcjhaaVl
import Derived.Laws.RangeAny
namespace Go.VC
open Go Go.Lib

theorem sem_next_high {P : Program} {o : Oper} {s : St} {x : Operand} {r b pos : Nat} {str : ByteArray} (ho : o.op = .next x true) (hx : val s [] x = some (.a (.p r 0))) (hr : s.own[r]? = some (b, .it str pos)) (hlt : pos < str.size) (ha : 128 ≤ sAt str pos) :
    OpSem P o s fun v' s' => ∃ (c : Int) (k : Nat), 128 ≤ c ∧ v' = .t [.a (.v (.bool true)), .a (.v (.int .i64 pos)), .a (.v (.int .i32 c))] ∧ s' = { s with own := s.own.set r (b, .it str k) } := by
  intro n w0 D a w h
  obtain ⟨e1, e2⟩ := h.val (G := []) trivial hx
  have hb : (bls s.own).getD r 0 = b := bls_get hr
  have hobj : w.heap[b]? = some (.stringIter str pos) := h.mem.blk _ _ _ hr (by simp)
  have hbl : b < w.heap.size := (Array.getElem?_eq_some_iff.1 hobj).1
  rw [sAt_get str pos hlt] at ha
  obtain ⟨d1, d2⟩ := decode_high str pos hlt ha
  refine ⟨_, _, { w with heap := w.heap.setIfInBounds b (.stringIter str (pos + (Utf8.decode str pos).2)) }, ⟨((Utf8.decode str pos).1 : Int), _, by omega, rfl, rfl⟩, ?_, h.turn (k' := .it str (pos + (Utf8.decode str pos).2)) hr (by simp) trivial ?_ ?_ ?_ rfl rfl rfl, ?_⟩
  · unfold execOp
    rw [ho]
    have : (AV.a (.p r 0)).den (bls s.own) = .pointer (some ⟨(bls s.own).getD r 0, 0, none⟩) := rfl
    rw [this, hb] at e1
    have hg : (getObj b).run P w = .ok (.stringIter str pos) w := by simp [getObj, Sem.run, hobj]
    simp only [e1, Sem.run_bind, Instr.next, Sem.run_pure, Result.andThen_ok, hg, if_pos hlt, setObj, Sem.run]
    simp [goInt, AV.den, P2.den, A1.den, hobj]
  · simp
  · intro _
    simp [AB.obj, hbl]
  · intro i hi
    show (w.heap.setIfInBounds b _)[i]? = _
    rw [Array.getElem?_setIfInBounds_ne (Ne.symm hi)]
  · intro y hy
    simp only [List.mem_cons, List.not_mem_nil, or_false] at hy
    rcases hy with rfl | rfl | rfl <;> trivial
section
variable {P : Program} {T : Tab} {n : Nat} {Q : Exit → St → Prop} {all : List Oper} {d : Option Tmp} {ty : TypeId} {pos : String} {af : Array Edge} {os : List Oper} {k : List It} {s : St}
theorem next_any_rule (hT : T.Ok P) {x : Operand} {r b i : Nat} {str : ByteArray} (fuel : Nat) (hx : val s [] x = some (.a (.p r 0))) (hr : s.own[r]? = some (b, .it str i)) (hd : putOk n s d)
    (h1 : i < str.size → sAt str i < 128 → goW P T n Q fuel (.ops all os :: k) (({ s with own := s.own.set r (b, .it str (i + 1)) } : St).put d (.t [.a (.v (.bool true)), .a (.v (.int .i64 i)), .a (.v (.int .i32 (sAt str i)))])))
    (h3 : i < str.size → 128 ≤ sAt str i → ∀ (c : Int) (j : Nat), 128 ≤ c → goW P T n Q fuel (.ops all os :: k) (({ s with own := s.own.set r (b, .it str j) } : St).put d (.t [.a (.v (.bool true)), .a (.v (.int .i64 i)), .a (.v (.int .i32 c))])))
    (h2 : ¬ i < str.size → goW P T n Q fuel (.ops all os :: k) (s.put d (.t [.a (.v (.bool false))]))) : stopW P n Q all ⟨d, .next x true, ty, pos, af, none⟩ os k s := by
  by_cases hlt : i < str.size
  · rcases Nat.lt_or_ge (sAt str i) 128 with ha | ha
    · refine .step rfl (sem_next rfl hx hr hlt ha) ?_ ?_
      · rintro v' s' ⟨rfl, rfl⟩
        exact hd
      · rintro v' s' ⟨rfl, rfl⟩
        exact goW_sound hT _ _ _ (h1 hlt ha)
    · refine .step rfl (sem_next_high rfl hx hr hlt ha) ?_ ?_
      · rintro v' s' ⟨c, j, _, rfl, rfl⟩
        exact hd
      · rintro v' s' ⟨c, j, hc, rfl, rfl⟩
        exact goW_sound hT _ _ _ (h3 hlt ha c j hc)
  · refine .step rfl (sem_over rfl hx hr hlt) ?_ ?_
    · rintro v' s' ⟨rfl, rfl⟩
      exact hd
    · rintro v' s' ⟨rfl, rfl⟩
      exact goW_sound hT _ _ _ (h2 hlt)
/-- Bytes of one's own, converted to the same type: '[]byte("..")' . -/
theorem sem_convId {o : Oper} (hT : T.Ok P) {x : Operand} {t : TypeId} {r b i m c ty0 : Nat} {lv : List Value} (ho : o.op = .convert t t x) (hx : val s [] x = some (.a (.s r i m c))) (hr : s.own[r]? = some (b, .c ty0 (lv.map .v))) (ht : T.bys t = true) :
    OpSem P o s fun v' s' => v' = .a (.s r i m c) ∧ s' = { s with own := s.own.set r (b, .raw ty0 lv (lv.length, lv.length + 1)) } := by
  intro n w0 D a w h
  obtain ⟨e1, e2⟩ := h.val (G := []) trivial hx
  obtain ⟨e, h1, h2⟩ := hT.bys _ ht
  have hb : (bls s.own).getD r 0 = b := bls_get hr
  have hobj : w.heap[b]? = some (.cells lv.toArray ty0 (0, 0)) := by
    have := h.mem.blk _ _ _ hr (by simp)
    simp only [AB.obj, map_v_den] at this
    exact this
  have hbl : b < w.heap.size := (Array.getElem?_eq_some_iff.1 hobj).1
  refine ⟨.a (.s r i m c), _, w.freeze ⟨b, lv.length, none⟩ 1, ⟨rfl, rfl⟩, ?_, h.turn (k' := .raw ty0 lv (lv.length, lv.length + 1)) hr (by simp) trivial ?_ ?_ ?_ rfl rfl rfl, ?_⟩
  · unfold execOp
    rw [ho]
    have hbl : bls (s.own.set r (b, .raw ty0 lv (lv.length, lv.length + 1))) = bls s.own := bls_set _ _ _ _ _ hr
    have : (AV.a (.s r i m c)).den (bls s.own) = .slice (some ⟨b, i, none⟩) m c := by
      show Value.slice (some ⟨(bls s.own).getD r 0, i, none⟩) m c = _
      rw [hb]
    rw [this] at e1
    show _ = Result.ok (Next.value ((AV.a (.s r i m c)).den (bls (s.own.set r (b, .raw ty0 lv (lv.length, lv.length + 1)))))) _
    rw [hbl, this]
    have hsh : w.shape? b = some (ty0, lv.length) := by simp [World.shape?, hobj]
    have hrun : (convert t t (.slice (some ⟨b, i, none⟩) m c)).run P w = .ok (.slice (some ⟨b, i, none⟩) m c) (w.freeze ⟨b, lv.length, none⟩ 1) := by
      simp [convert, run_underlying' w h1, run_underlying' w h2, markStringish, hsh]
    simp only [e1, Sem.run_bind, hrun, Result.andThen_ok, Sem.run_pure]
  · simp [World.freeze]
  · intro _
    have h10 : ¬ ((1 : Nat) = 0) := by decide
    simp only [World.freeze, if_neg h10]
    rw [Array.getElem?_modify]
    simp [hobj, AB.obj]
  · intro j hj
    simp [World.freeze, Array.getElem?_modify, Ne.symm hj]
  · show r < (s.own.set r _).length
    rw [List.length_set]
    exact (List.getElem?_eq_some_iff.1 hr).1
theorem convId_rule (hT : T.Ok P) {x : Operand} {t : TypeId} {r b i m c ty0 : Nat} {lv : List Value} (hx : val s [] x = some (.a (.s r i m c))) (hr : s.own[r]? = some (b, .c ty0 (lv.map .v))) (ht : T.bys t = true) (hd : putOk n s d) (fuel : Nat)
    (h : goW P T n Q fuel (.ops all os :: k) (({ s with own := s.own.set r (b, .raw ty0 lv (lv.length, lv.length + 1)) } : St).put d (.a (.s r i m c)))) : stopW P n Q all ⟨d, .convert t t x, ty, pos, af, none⟩ os k s := by
  refine .step rfl (sem_convId hT rfl hx hr ht) ?_ ?_
  · rintro v' s' ⟨rfl, rfl⟩
    exact hd
  · rintro v' s' ⟨rfl, rfl⟩
    exact goW_sound hT _ _ _ h
end
end Go.VC
