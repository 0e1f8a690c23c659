/- A calculus of conditions for the loaded code: maps. No statement of the seat is proved here. -/
import Derived.Test.YtjefojpbglcjhaaVj
namespace Go.VC
open Go
set_option linter.unusedSimpArgs false

def keyIs : Value → Value → Bool
  | .int _ a, .int _ b => a == b
  | .string a, .string b => a.toList == b.toList
  | _, _ => false
def sameKind : Value → Value → Bool
  | .int k _, .int k' _ => k == k'
  | .string _, .string _ => true
  | _, _ => false
def kdFits : TypeDesc → Value → Bool
  | .int _, .int _ _ => true
  | .string, .string _ => true
  | _, _ => false
def mapGet : List MapEntry → Value → Value → Value
  | [], _, z => z
  | e :: es, k, z => if keyIs k e.key = true then e.val else mapGet es k z
def mapHas : List MapEntry → Value → Bool
  | [], _ => false
  | e :: es, k => keyIs k e.key || mapHas es k
def allKind (k : Value) : List MapEntry → Bool
  | [] => true
  | e :: es => sameKind k e.key && allKind k es

theorem same_now {kd : TypeDesc} {k x : Value} (h : kdFits kd k = true) (hx : sameKind k x = true) : Instr.sameNow kd k x = some (keyIs k x) := by
  cases kd <;> cases k <;> simp only [kdFits, Bool.false_eq_true] at h <;> cases x <;> simp only [sameKind, Bool.false_eq_true, beq_iff_eq] at hx
  · simp [Instr.sameNow, keyIs, hx]
  · simp [Instr.sameNow, keyIs, beq_toListBytes]
theorem find_now {kd : TypeDesc} {k : Value} (z : Value) (h : kdFits kd k = true) : ∀ (es : List MapEntry) (i : Nat), allKind k es = true →
    (mapHas es k = false → Instr.findNow kd k es i = some none ∧ mapGet es k z = z) ∧ (mapHas es k = true → ∃ j, Instr.findNow kd k es i = some (some (j, mapGet es k z)))
  | [], i, _ => ⟨fun _ => ⟨rfl, rfl⟩, fun h => (by cases h)⟩
  | e :: es, i, ha => by
    simp only [allKind, Bool.and_eq_true] at ha
    have hs := same_now h ha.1
    obtain ⟨g1, g2⟩ := find_now z h es (i + 1) ha.2
    simp only [mapHas, mapGet, Instr.findNow, hs]
    cases hk : keyIs k e.key with
    | true => exact ⟨fun h => (by simp at h), fun _ => ⟨i, by simp⟩⟩
    | false =>
      simp only [Bool.false_or, Bool.false_eq_true, if_false]
      exact ⟨g1, g2⟩
theorem check_key {P : Program} {w : World} {kt : TypeId} {kd : TypeDesc} {k : Value} (hk : P.underlying kt = some kd) (h : kdFits kd k = true) (e : Bool) : (Instr.checkKey e 10000 kt k).run P w = .ok () w := by
  show (Instr.checkKey e (9999 + 1) kt k).run P w = _
  rw [Instr.checkKey]
  simp only [Sem.run_bind, run_underlying' w hk, Result.andThen_ok]
  cases kd <;> cases k <;> simp only [kdFits, Bool.false_eq_true] at h <;> rfl

theorem sem_makeMap {P : Program} {o : Oper} {s : St} {t : TypeId} (ho : o.op = .makeMap t none) : OpSem P o s fun v' s' => ∃ b, s' = s.push b (.mp [] 0) ∧ v' = .a (.m s.own.length) := by
  intro n w0 D a w h
  refine ⟨.a (.m s.own.length), s.push w.heap.size (.mp [] 0), { w with heap := w.heap.push ((AB.mp [] 0).obj (bls s.own)) }, ⟨_, rfl, rfl⟩, ?_, h.new (k := .mp [] 0) trivial, ?_⟩
  · unfold execOp
    rw [ho]
    have e : (Instr.makeMap t none).run P w = .ok (.map (some w.heap.size)) { w with heap := w.heap.push (.map #[] 0) } := rfl
    simp only [Option.map_none, Sem.run_bind, e, Result.andThen_ok, Sem.run_pure, AB.obj]
    congr 2
    simp [St.push, AV.den, A1.den, bls]
  · show s.own.length < (s.own ++ [_]).length
    simp
theorem sem_insert {P : Program} {o : Oper} {s : St} {t kt et : TypeId} {kd : TypeDesc} {m x y : Operand} {r b clock : Nat} {es : List MapEntry} {k v : Value} (ho : o.op = .insert t m x y ∨ o.op = .mapUpdate t m x y) (hm : val s [] m = some (.a (.m r)))
    (hx : val s [] x = some (.a (.v k))) (hy : val s [] y = some (.a (.v v))) (hr : s.own[r]? = some (b, .mp es clock)) (ht : P.underlying t = some (.map kt et)) (hk : P.underlying kt = some kd) (hf : kdFits kd k = true)
    (ha : allKind k es = true) (hn : mapHas es k = false) : OpSkip P o s fun s' => s' = { s with own := s.own.set r (b, .mp (es ++ [MapEntry.mk k v clock]) (clock + 1)) } := by
  intro n w0 D a w h
  obtain ⟨e1, _⟩ := h.val (G := []) trivial hm
  obtain ⟨e2, _⟩ := h.val (G := []) trivial hx
  obtain ⟨e3, _⟩ := h.val (G := []) trivial hy
  have hb : (bls s.own).getD r 0 = b := bls_get hr
  have hobj : w.heap[b]? = some (.map es.toArray clock) := h.mem.blk _ _ _ hr (by simp)
  have hlt : b < w.heap.size := (Array.getElem?_eq_some_iff.1 hobj).1
  refine ⟨_, { w with heap := w.heap.setIfInBounds b (.map (es ++ [MapEntry.mk k v clock]).toArray (clock + 1)) }, rfl, ?_, h.turn (k' := .mp (es ++ [MapEntry.mk k v clock]) (clock + 1)) hr (by simp) trivial ?_ ?_ ?_ rfl rfl rfl⟩
  · have d1 : (AV.a (.m r)).den (bls s.own) = .map (some ((bls s.own).getD r 0)) := rfl
    have d2 : (AV.a (.v k)).den (bls s.own) = k := rfl
    have d3 : (AV.a (.v v)).den (bls s.own) = v := rfl
    rw [d1, hb] at e1
    rw [d2] at e2
    rw [d3] at e3
    have hfind := ((find_now undef hf es 0 ha).1 hn).1
    have hfk : (Instr.findKey kt k es).run P w = .ok none w := by simp [Instr.findKey, run_underlying' w hk, hfind]
    have key : (Instr.mapUpdate t (.map (some b)) k v).run P w = .ok () { w with heap := w.heap.setIfInBounds b (.map (es ++ [MapEntry.mk k v clock]).toArray (clock + 1)) } := by
      simp only [Instr.mapUpdate, Sem.run_bind, run_underlying' w ht, Result.andThen_ok, getObj, Sem.run, hobj, check_key hk hf, List.toList_toArray, hfk, setObj, Sem.run_pure]
      simp
    unfold execOp
    rcases ho with ho | ho <;> rw [ho] <;> simp only [e1, e2, e3, Sem.run_bind, key, Result.andThen_ok] <;> rfl
  · simp
  · intro _
    simp [AB.obj, hlt]
  · intro i hi
    show (w.heap.setIfInBounds b _)[i]? = _
    rw [Array.getElem?_setIfInBounds_ne (Ne.symm hi)]
theorem sem_lookup {P : Program} {o : Oper} {s : St} {t kt et : TypeId} {kd : TypeDesc} {m x : Operand} {r b clock : Nat} {es : List MapEntry} {k z : Value} {ti : TypeInfo} (ho : o.op = .lookup t m x true) (hm : val s [] m = some (.a (.m r)))
    (hx : val s [] x = some (.a (.v k))) (hr : s.own[r]? = some (b, .mp es clock)) (ht : P.underlying t = some (.map kt et)) (hk : P.underlying kt = some kd) (hf : kdFits kd k = true) (ha : allKind k es = true)
    (hi : P.info? et = some ti) (hz : ti.zero = some z) : OpSem P o s fun v' s' => v' = .t [.a (.v (mapGet es k z)), .a (.v (.bool (mapHas es k)))] ∧ s' = s := by
  intro n w0 D a w h
  obtain ⟨e1, _⟩ := h.val (G := []) trivial hm
  obtain ⟨e2, _⟩ := h.val (G := []) trivial hx
  have hb : (bls s.own).getD r 0 = b := bls_get hr
  have hobj : w.heap[b]? = some (.map es.toArray clock) := h.mem.blk _ _ _ hr (by simp)
  refine ⟨_, _, w, ⟨rfl, rfl⟩, ?_, h, ?_⟩
  · have d1 : (AV.a (.m r)).den (bls s.own) = .map (some ((bls s.own).getD r 0)) := rfl
    have d2 : (AV.a (.v k)).den (bls s.own) = k := rfl
    rw [d1, hb] at e1
    rw [d2] at e2
    obtain ⟨g1, g2⟩ := find_now z hf es 0 ha
    unfold execOp
    rw [ho]
    have hg : (getObj b).run P w = .ok (.map es.toArray clock) w := by simp [getObj, Sem.run, hobj]
    simp only [e1, e2, Instr.lookup, Sem.run_bind, run_underlying' w ht, Result.andThen_ok, hg, Sem.run_pure, check_key hk hf, List.toList_toArray]
    cases hh : mapHas es k with
    | true =>
      obtain ⟨j, hj⟩ := g2 hh
      have hfk : (Instr.findKey kt k es).run P w = .ok (some (j, mapGet es k z)) w := by simp [Instr.findKey, run_underlying' w hk, hj]
      simp [hfk, AV.den, P2.den, A1.den]
    | false =>
      obtain ⟨h1, h2⟩ := g1 hh
      have hfk : (Instr.findKey kt k es).run P w = .ok none w := by simp [Instr.findKey, run_underlying' w hk, h1]
      simp [hfk, h2, zeroValue, typeInfo, run_program, hi, hz, AV.den, P2.den, A1.den]
  · intro y hy
    simp only [List.mem_cons, List.not_mem_nil, or_false] at hy
    rcases hy with rfl | rfl <;> trivial

section
variable {P : Program} {T : Tab} {n : Nat} {Q : Exit → St → Prop} {all : List Oper} {d : Option Tmp} {ty : TypeId} {pos : String} {af : Array Edge} {os : List Oper} {k : List It} {s : St}
theorem makeMap_rule (hT : T.Ok P) {t : TypeId} (fuel : Nat) (h : ∀ b, putOk n (s.push b (.mp [] 0)) d ∧ goW P T n Q fuel (.ops all os :: k) ((s.push b (.mp [] 0)).put d (.a (.m s.own.length)))) : stopW P n Q all ⟨d, .makeMap t none, ty, pos, af, none⟩ os k s := by
  refine .step rfl (sem_makeMap rfl) ?_ ?_
  · rintro v' s' ⟨b, rfl, rfl⟩
    exact (h b).1
  · rintro v' s' ⟨b, rfl, rfl⟩
    exact goW_sound hT _ _ _ (h b).2
theorem insert_rule (hT : T.Ok P) {t kt et : TypeId} {kd : TypeDesc} {m x y : Operand} {r b clock : Nat} {es : List MapEntry} {kk v : Value} (hm : val s [] m = some (.a (.m r))) (hx : val s [] x = some (.a (.v kk))) (hy : val s [] y = some (.a (.v v)))
    (hr : s.own[r]? = some (b, .mp es clock)) (ht : P.underlying t = some (.map kt et)) (hk : P.underlying kt = some kd) (hf : kdFits kd kk = true) (ha : allKind kk es = true) (hn : mapHas es kk = false) (fuel : Nat)
    (h : goW P T n Q fuel (.ops all os :: k) { s with own := s.own.set r (b, .mp (es ++ [MapEntry.mk kk v clock]) (clock + 1)) }) : stopW P n Q all ⟨none, .insert t m x y, ty, pos, af, none⟩ os k s := by
  refine .stepS rfl rfl (sem_insert (.inl rfl) hm hx hy hr ht hk hf ha hn) ?_
  rintro s' rfl
  exact goW_sound hT _ _ _ h
theorem update_rule (hT : T.Ok P) {t kt et : TypeId} {kd : TypeDesc} {m x y : Operand} {r b clock : Nat} {es : List MapEntry} {kk v : Value} (hm : val s [] m = some (.a (.m r))) (hx : val s [] x = some (.a (.v kk))) (hy : val s [] y = some (.a (.v v)))
    (hr : s.own[r]? = some (b, .mp es clock)) (ht : P.underlying t = some (.map kt et)) (hk : P.underlying kt = some kd) (hf : kdFits kd kk = true) (ha : allKind kk es = true) (hn : mapHas es kk = false) (fuel : Nat)
    (h : goW P T n Q fuel (.ops all os :: k) { s with own := s.own.set r (b, .mp (es ++ [MapEntry.mk kk v clock]) (clock + 1)) }) : stopW P n Q all ⟨none, .mapUpdate t m x y, ty, pos, af, none⟩ os k s := by
  refine .stepS rfl rfl (sem_insert (.inr rfl) hm hx hy hr ht hk hf ha hn) ?_
  rintro s' rfl
  exact goW_sound hT _ _ _ h
theorem lookup_rule (hT : T.Ok P) {t kt et : TypeId} {kd : TypeDesc} {m x : Operand} {r b clock : Nat} {es : List MapEntry} {kk z : Value} (hm : val s [] m = some (.a (.m r))) (hx : val s [] x = some (.a (.v kk)))
    (hr : s.own[r]? = some (b, .mp es clock)) (ht : P.underlying t = some (.map kt et)) (hk : P.underlying kt = some kd) (hf : kdFits kd kk = true) (ha : allKind kk es = true) (hz : (P.info? et).map (·.zero) = some (some z)) (hd : putOk n s d) (fuel : Nat)
    (h : goW P T n Q fuel (.ops all os :: k) (s.put d (.t [.a (.v (mapGet es kk z)), .a (.v (.bool (mapHas es kk)))]))) : stopW P n Q all ⟨d, .lookup t m x true, ty, pos, af, none⟩ os k s := by
  obtain ⟨ti, hi, hz⟩ : ∃ ti, P.info? et = some ti ∧ ti.zero = some z := by
    cases h : P.info? et with
    | none => rw [h] at hz; cases hz
    | some ti => rw [h] at hz; exact ⟨ti, rfl, by simpa using hz⟩
  refine .step rfl (sem_lookup rfl hm hx hr ht hk hf ha hi hz) ?_ ?_
  · rintro v' s' ⟨rfl, rfl⟩
    exact hd
  · rintro v' s' ⟨rfl, rfl⟩
    exact goW_sound hT _ _ _ h
end

end Go.VC
