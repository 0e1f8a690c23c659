/- A calculus of conditions for the loaded code: operations that make own blocks, or write them. No statement of the seat is proved here. -/
import Derived.Test.YtjefojpbglcjhaaVc
namespace Go.VC
open Go

theorem holds_own {s : St} {o : Own} {F : Frozen} {G : List (Nat × Bool)} : holds { s with own := o, F := F } G ↔ holds s G := by
  rw [holds_iff, holds_iff]
  exact Iff.rfl
theorem Rel.new {n : Nat} {w0 : World} {D : Dm} {s : St} {a : Act} {w : World} (h : Rel n w0 D s a w) {k : AB} (hk : k.ok s.own.length) :
    Rel n w0 D { s with own := s.own ++ [(w.heap.size, k)] } a { w with heap := w.heap.push (k.obj (bls s.own)) } := by
  have hag : Agree s.own.length (bls s.own) (bls (s.own ++ [(w.heap.size, k)])) := by
    rw [bls_append, ← bls_length s.own]
    exact agree_append _ _
  have hle : s.own.length ≤ (s.own ++ [(w.heap.size, k)]).length := by simp
  refine ⟨h.mem.new hk, h.dn, h.sz, ?_, ?_, ?_, ?_, h.fd⟩
  · intro j v hj
    obtain ⟨h1, h2, h3⟩ := h.sl j v hj
    exact ⟨h1, h2.trans (AV.den_agree hag h3).symm, AV.ok_mono h3 hle⟩
  · intro j v G hj hg
    obtain ⟨h1, h2, h3, h4⟩ := h.gl j v G hj hg
    rw [show holds { s with own := s.own ++ [(w.heap.size, k)] } G ↔ holds s G from holds_own]
    exact ⟨h1, fun hh => ⟨(h2 hh).1.trans (AV.den_agree hag (h2 hh).2).symm, AV.ok_mono (h2 hh).2 hle⟩, h3, h4⟩
  · intro r b k' hr
    rcases Nat.lt_or_ge r s.own.length with hl | hl
    · rw [List.getElem?_append_left hl] at hr
      exact h.may r b k' hr
    · rw [List.getElem?_append_right hl] at hr
      rcases Nat.eq_zero_or_pos (r - s.own.length) with h0 | h0
      · rw [h0] at hr
        simp at hr
        rw [← hr.1]
        exact .inr h.fr.size
      · rw [List.getElem?_eq_none (by simp; omega)] at hr
        cases hr
  · refine ⟨h.fr.os, h.fr.tape, h.fr.output, ?_, ?_⟩
    · have := h.fr.size
      show w0.heap.size ≤ (w.heap.push _).size
      rw [Array.size_push]
      omega
    · intro j hj hd
      have := h.fr.size
      show (w.heap.push _)[j]? = _
      rw [Array.getElem?_push, if_neg (by omega)]
      exact h.fr.block j hj hd

theorem Rel.turn {n : Nat} {w0 : World} {D : Dm} {s : St} {a : Act} {w w' : World} (h : Rel n w0 D s a w) {r b : Nat} {k k' : AB} (hr : s.own[r]? = some (b, k)) (hd : k ≠ .dead) (hk' : k'.ok s.own.length)
    (hsz : w'.heap.size = w.heap.size) (hb : k' ≠ .dead → w'.heap[b]? = some (k'.obj (bls s.own))) (ho : ∀ i, i ≠ b → w'.heap[i]? = w.heap[i]?)
    (hos : w'.os = w.os) (htp : w'.tape = w.tape) (hout : w'.output = w.output) :
    Rel n w0 D { s with own := s.own.set r (b, k') } a w' := by
  have hbl : bls (s.own.set r (b, k')) = bls s.own := bls_set _ _ _ _ _ hr
  have hlen : (s.own.set r (b, k')).length = s.own.length := List.length_set
  refine ⟨h.mem.turn hr hd hk' hsz hb ho, h.dn, h.sz, ?_, ?_, ?_, ?_, h.fd⟩
  · intro j v hj
    simp only [hbl, hlen]
    exact h.sl j v hj
  · intro j v G hj hg
    rw [show holds { s with own := s.own.set r (b, k') } G ↔ holds s G from holds_own]
    simp only [hbl, hlen]
    exact h.gl j v G hj hg
  · intro r1 b1 k1 h1
    rw [List.getElem?_set] at h1
    by_cases e : r = r1
    · subst e
      rw [if_pos rfl] at h1
      split at h1
      · injection h1 with h1
        injection h1 with h2 h3
        rw [← h2]
        exact h.may _ _ _ hr
      · cases h1
    · rw [if_neg e] at h1
      exact h.may _ _ _ h1
  · refine ⟨hos.trans h.fr.os, htp.trans h.fr.tape, hout.trans h.fr.output, by rw [hsz]; exact h.fr.size, ?_⟩
    intro j hj hdj
    have : j ≠ b := fun e => by
      rcases h.may _ _ _ hr with h1 | h1
      · exact hdj (e ▸ h1)
      · omega
    rw [ho j this]
    exact h.fr.block j hj hdj

/-- A draw turns nothing that is told of. -/
theorem MRel.drew {own : Own} {F : Frozen} {w : World} (h : MRel own F w) (d : Nat) : MRel own F { w with drawn := d } := ⟨h.blk, h.lt, h.inj, h.wf, h.fz, h.ap⟩
def cellsOf : AV → Option (List A1)
  | .a x => if x.one = true then some [x] else none
  | .g l => some l
  | .t _ => none
theorem A1.den_cells {x : A1} (h : x.one = true) (bl : List Nat) : (x.den bl).cells = #[x.den bl] := by
  cases x with
  | v x => cases x <;> first | rfl | (simp [A1.one] at h)
  | _ => rfl
theorem A1.den_one {x : A1} (h : x.one = true) (bl : List Nat) : (x.den bl).oneCell' = true := by
  cases x with
  | v x => cases x <;> first | rfl | (simp [A1.one] at h)
  | _ => rfl
theorem cellsOf_den {v : AV} {l : List A1} (h : cellsOf v = some l) (bl : List Nat) : (v.den bl).cells = (l.map (A1.den bl)).toArray := by
  cases v with
  | a x =>
    simp only [cellsOf] at h
    split at h
    · rename_i hx
      injection h with h
      subst h
      exact A1.den_cells hx bl
    · cases h
  | g l' => simp only [cellsOf] at h; injection h with h; subst h; rfl
  | t _ => cases h
theorem cellsOf_ok {v : AV} {l : List A1} (h : cellsOf v = some l) {n : Nat} (hv : v.ok n) : ∀ x ∈ l, x.ok n := by
  cases v with
  | a x =>
    simp only [cellsOf] at h
    split at h
    · injection h with h
      subst h
      intro y hy
      rw [List.mem_singleton] at hy
      subst hy
      exact hv
    · cases h
  | g l' => simp only [cellsOf] at h; injection h with h; subst h; exact hv
  | t _ => cases h

/-- A new block at the end. -/
def St.push (s : St) (b : Nat) (k : AB) : St := { s with own := s.own ++ [(b, k)] }

theorem sem_box {P : Program} {o : Oper} {s : St} {t : TypeId} {x : Operand} {v : AV} {l : List A1} (ho : o.op = .box t x) (hv : val s [] x = some v) (hl : cellsOf v = some l) :
    OpSem P o s fun v' s' => ∃ b, s' = s.push b (.c t l) ∧ v' = .a (.p s.own.length 0) := by
  intro n w0 D a w h
  obtain ⟨e1, e2⟩ := h.val (G := []) trivial hv
  refine ⟨.a (.p s.own.length 0), s.push w.heap.size (.c t l), { w with heap := w.heap.push ((AB.c t l).obj (bls s.own)) }, ⟨_, rfl, rfl⟩, ?_, h.new (cellsOf_ok hl e2), ?_⟩
  · unfold execOp
    rw [ho]
    simp only [e1, Sem.run_bind, Instr.box, newVar, newRow, run_newObj, Result.andThen_ok, Sem.run_pure, cellsOf_den hl, AB.obj]
    congr 2
    simp [St.push, AV.den, A1.den, bls]
  · show s.own.length < (s.own ++ [_]).length
    simp

theorem map_v_den (bl : List Nat) (l : List Value) : (l.map A1.v).map (A1.den bl) = l := by
  rw [List.map_map]
  have : (A1.den bl) ∘ A1.v = id := rfl
  rw [this, List.map_id]

theorem sem_alloc {P : Program} {T : Tab} (hT : T.Ok P) {o : Oper} {s : St} {t : TypeId} {l : List Value} {bb : Bool} (ho : o.op = .alloc t) (hz : T.zero t = some (l, bb)) :
    OpSem P o s fun v' s' => ∃ b, s' = s.push b (.c t (l.map .v)) ∧ v' = .a (.p s.own.length 0) := by
  intro n w0 D a w h
  obtain ⟨i, h1, h2⟩ := hT.zero _ _ _ hz
  have hk : (AB.c t (l.map .v)).ok s.own.length := fun x hx => by
    obtain ⟨y, _, rfl⟩ := List.mem_map.1 hx
    trivial
  refine ⟨.a (.p s.own.length 0), s.push w.heap.size (.c t (l.map .v)), { w with heap := w.heap.push ((AB.c t (l.map .v)).obj (bls s.own)) }, ⟨_, rfl, rfl⟩, ?_, h.new hk, ?_⟩
  · unfold execOp
    rw [ho]
    have hzero : ∃ z, i.zero = some z ∧ z.cells = l.toArray := by
      cases bb with
      | true =>
        rw [if_pos rfl] at h2
        exact ⟨_, h2, rfl⟩
      | false =>
        rw [if_neg (by simp)] at h2
        obtain ⟨x, rfl, hx, h1c⟩ := h2
        refine ⟨x, hx, ?_⟩
        cases x <;> first | rfl | (simp [Value.oneCell'] at h1c)
    obtain ⟨z, hz1, hz2⟩ := hzero
    simp only [Sem.run_bind, Instr.alloc, zeroValue, typeInfo, run_program, Result.andThen_ok, h1, Sem.run_pure, hz1, newVar, newRow, run_newObj, hz2, AB.obj, map_v_den]
    congr 2
    simp [St.push, AV.den, A1.den, bls]
  · show s.own.length < (s.own ++ [_]).length
    simp

/-- Cells laid over cells. -/
def splice {α : Type} (l : List α) (i : Nat) (c : List α) : List α := l.take i ++ c ++ l.drop (i + c.length)

theorem splice_nil {α : Type} (l : List α) (i : Nat) : splice l i [] = l := by simp [splice]
theorem splice_cons {α : Type} (l : List α) (i : Nat) (x : α) (c : List α) (h : i + (c.length + 1) ≤ l.length) : splice l i (x :: c) = splice (l.set i x) (i + 1) c := by
  unfold splice
  have h1 : (l.set i x).take (i + 1) = l.take i ++ [x] := by
    rw [List.take_succ_eq_append_getElem (by simp; omega)]
    simp [List.take_set_of_le]
  have h2 : (l.set i x).drop (i + 1 + c.length) = l.drop (i + (x :: c).length) := by
    rw [List.drop_set_of_lt (by omega)]
    congr 1
    simp
    omega
  rw [h1, h2]
  simp
theorem splice_map {α β : Type} (f : α → β) (l : List α) (i : Nat) (c : List α) : (splice l i c).map f = splice (l.map f) i (c.map f) := by
  simp [splice, List.map_take, List.map_drop]
theorem splice_length {α : Type} (l : List α) (i : Nat) (c : List α) (h : i + c.length ≤ l.length) : (splice l i c).length = l.length := by
  simp [splice]; omega
theorem splice_mem {α : Type} {l : List α} {i : Nat} {c : List α} {x : α} (h : x ∈ splice l i c) : x ∈ l ∨ x ∈ c := by
  simp only [splice, List.mem_append] at h
  rcases h with (h | h) | h
  · exact .inl (List.mem_of_mem_take h)
  · exact .inr h
  · exact .inl (List.mem_of_mem_drop h)

theorem run_storeCells {P : Program} {b ty : Nat} : ∀ (vs : List Value) (l : List Value) (i j : Nat) (w : World), w.heap[b]? = some (.cells l.toArray ty (0, 0)) → i + j + vs.length ≤ l.length →
    (∀ v ∈ vs, v.oneCell' = true) → ∃ w', (storeCells ⟨b, i, none⟩ vs j).run P w = .ok () w' ∧ w'.heap[b]? = some (.cells (splice l (i + j) vs).toArray ty (0, 0)) ∧ (∀ k, k ≠ b → w'.heap[k]? = w.heap[k]?) ∧
      w'.heap.size = w.heap.size ∧ w'.os = w.os ∧ w'.tape = w.tape ∧ w'.output = w.output
  | [], l, i, j, w, hw, _, _ => ⟨w, rfl, by rw [splice_nil]; exact hw, fun _ _ => rfl, rfl, rfl, rfl, rfl⟩
  | v :: vs, l, i, j, w, hw, hle, h1 => by
    have hlt : i + j < l.length := by simp at hle; omega
    have hc : w.cell? ⟨b, i + j, none⟩ = some l[i + j] := by rw [cell_of_row w b _ _ ty (0, 0) hw]; simp [hlt]
    have hf : w.frozen? ⟨b, i + j, none⟩ = false := frozen_of_row w b _ _ ty hw
    have hw2 : (w.setCell ⟨b, i + j, none⟩ v).heap[b]? = some (.cells (l.set (i + j) v).toArray ty (0, 0)) := by
      rw [heap_setCell_same w b (i + j) _ ty v hw]
      simp
    obtain ⟨w', hr, hb, hk, hs, ho, ht, hu⟩ := run_storeCells (P := P) vs (l.set (i + j) v) i (j + 1) (w.setCell ⟨b, i + j, none⟩ v) hw2 (by simp at hle ⊢; omega) (fun x hx => h1 x (List.mem_cons_of_mem _ hx))
    refine ⟨w', ?_, ?_, ?_, ?_, ?_, ?_, ?_⟩
    · rw [storeCells, Sem.run_bind, add_off, run_store P w _ v _ (h1 v (List.mem_cons_self ..)), hc]
      simp only [hf, Bool.false_eq_true, if_false, Result.andThen_ok]
      exact hr
    · rw [hb, splice_cons l (i + j) v vs (by simp at hle; omega)]
      rfl
    · intro k hne
      rw [hk k hne]
      exact heap_setCell_other w _ k v hne
    · rw [hs]; simp
    · rw [ho]; rfl
    · rw [ht]; rfl
    · rw [hu]; rfl

def sizeZ (z : Option (Option Nat)) : Option Nat := match z with | some none => some 1 | some (some n) => some n | none => none
theorem Tab.Ok.size {P : Program} {T : Tab} (hT : T.Ok P) {t n : Nat} (h : sizeZ (T.sz t) = some n) : ∃ i, P.info? t = some i ∧ i.size = n := by
  cases hz : T.sz t with
  | none => rw [hz] at h; cases h
  | some z =>
    cases z with
    | none => rw [hz] at h; injection h with h; obtain ⟨_, i, _, _, h1, h2⟩ := hT.sz1 _ hz; exact ⟨i, h1, by omega⟩
    | some m => rw [hz] at h; injection h with h; obtain ⟨_, i, _, _, h1, h2⟩ := hT.szn _ _ hz; exact ⟨i, h1, by omega⟩

/-- A store into an own block of known cells. -/
theorem sem_store {P : Program} {T : Tab} (hT : T.Ok P) {o : Oper} {s : St} {t : TypeId} {x y : Operand} {v : AV} {r i b ty : Nat} {l c : List A1} (ho : o.op = .store t x y) (hx : val s [] x = some (.a (.p r i)))
    (hv : val s [] y = some v) (hr : s.own[r]? = some (b, .c ty l)) (hc : cellsOf v = some c) (hz : sizeZ (T.sz t) = some c.length) (hle : i + c.length ≤ l.length) (h1 : ∀ x ∈ c, x.one = true) :
    OpSkip P o s fun s' => s' = { s with own := s.own.set r (b, .c ty (splice l i c)) } := by
  intro n w0 D a w h
  obtain ⟨e1, e2⟩ := h.val (G := []) trivial hx
  obtain ⟨e3, e4⟩ := h.val (G := []) trivial hv
  obtain ⟨ti, t1, t2⟩ := hT.size hz
  have hb : (bls s.own).getD r 0 = b := bls_get hr
  have hobj := h.mem.blk _ _ _ hr (by simp)
  obtain ⟨w', w1, w2, w3, w4, w5, w6, w7⟩ := run_storeCells (P := P) (b := b) (ty := ty) (c.map (A1.den (bls s.own))) (l.map (A1.den (bls s.own))) i 0 w hobj (by simpa using hle) (fun v hv => by
    obtain ⟨x, hx, rfl⟩ := List.mem_map.1 hv
    exact A1.den_one (h1 x hx) _)
  refine ⟨_, w', rfl, ?_, h.turn (k' := .c ty (splice l i c)) hr (by simp) ?_ w4 ?_ w3 w5 w6 w7⟩
  · unfold execOp
    rw [ho]
    simp only [e1, e3]
    have : (AV.a (.p r i)).den (bls s.own) = .pointer (some ⟨(bls s.own).getD r 0, i, none⟩) := rfl
    rw [this, hb]
    simp only [Sem.run_bind, Instr.storeAt, Instr.sureAddr, Sem.run_pure, Result.andThen_ok, storeVar, run_sizeOf' w t1, cellsOf_den hc, t2]
    rw [if_neg (by simp)]
    simp only [Result.andThen_ok, w1]
  · intro x hx
    rcases splice_mem hx with hx | hx
    · exact h.mem.wf _ _ _ hr x hx
    · exact cellsOf_ok hc e4 x hx
  · intro _
    rw [w2]
    simp only [AB.obj, splice_map, Nat.add_zero]

/-! A struct that is built. -/
def fillO (bld : List (Nat × Nat)) (cells : List A1) : List (Nat × Option AV) → Option (List A1)
  | [] => some cells
  | (i, some v) :: rest => match bld[i]?, cellsOf v with
    | some (off, size), some cs => if cs.length = size ∧ off + size ≤ cells.length then fillO bld (splice cells off cs) rest else none
    | _, _ => none
  | (_, none) :: _ => none
def partsO (s : St) (l : List (Nat × Operand)) : List (Nat × Option AV) := l.map fun x => (x.1, val s [] x.2)
def buildO (T : Tab) (s : St) (t : TypeId) (parts : List (Nat × Operand)) : Option (List A1) :=
  match T.bld t, T.zero t with
  | some b, some (z, true) => fillO b (z.map .v) (partsO s parts)
  | _, _ => none

theorem foldl_set (cs : List Value) : ∀ (off k : Nat) (l : List Value), off + k + cs.length ≤ l.length →
    (cs.zipIdx k).foldl (fun (cs : Array Value) (x : Value × Nat) => cs.setIfInBounds (off + x.2) x.1) l.toArray = (splice l (off + k) cs).toArray := by
  induction cs with
  | nil => intro off k l _; simp [splice_nil]
  | cons c cs ih =>
    intro off k l h
    simp only [List.zipIdx_cons, List.foldl_cons]
    have h' : off + (k + 1) + cs.length ≤ (l.set (off + k) c).length := by simp at h ⊢; omega
    have := ih off (k + 1) (l.set (off + k) c) h'
    rw [splice_cons l (off + k) c cs (by simp at h; omega)]
    rw [show off + k + 1 = off + (k + 1) from by omega, ← this]
    congr 1
    simp

theorem fill_ok {bl : List Nat} {bld : List (Nat × Nat)} {n : Nat} : ∀ (parts : List (Nat × Option AV)) (cells l : List A1) (vs : List (Nat × Value)), fillO bld cells parts = some l →
    (∀ x ∈ cells, x.ok n) → (parts.length = vs.length) → (∀ (j i : Nat) (v : AV), parts[j]? = some (i, some v) → vs[j]? = some (i, v.den bl) ∧ v.ok n) →
    Instr.fill (fun i => bld[i]?) (cells.map (A1.den bl)).toArray vs = some (l.map (A1.den bl)).toArray ∧ ∀ x ∈ l, x.ok n := by
  intro parts
  induction parts with
  | nil =>
    intro cells l vs h hc hl _
    simp only [fillO, Option.some.injEq] at h
    subst h
    cases vs with
    | nil => exact ⟨rfl, hc⟩
    | cons _ _ => simp at hl
  | cons p parts ih =>
    intro cells l vs h hc hl hv
    obtain ⟨i, ov⟩ := p
    cases ov with
    | none => simp only [fillO] at h; cases h
    | some v =>
      simp only [fillO] at h
      split at h
      · rename_i off size cs hb hcs
        split at h
        · rename_i hcond
          cases vs with
          | nil => simp at hl
          | cons u vs =>
            obtain ⟨hu, hvok⟩ := hv 0 i v rfl
            simp only [List.getElem?_cons_zero, Option.some.injEq] at hu
            subst hu
            have hd := cellsOf_den hcs bl
            obtain ⟨r1, r2⟩ := ih (splice cells off cs) l vs h (fun x hx => by
              rcases splice_mem hx with hx | hx
              · exact hc x hx
              · exact cellsOf_ok hcs hvok x hx) (by simpa using hl) (fun j i' v' hj => hv (j + 1) i' v' hj)
            refine ⟨?_, r2⟩
            simp only [Instr.fill, hb, hd]
            rw [if_neg (by simp [hcond.1]; omega)]
            rw [← r1, splice_map]
            congr 1
            have := foldl_set (cs.map (A1.den bl)) off 0 (cells.map (A1.den bl)) (by simp; omega)
            rw [Nat.add_zero] at this
            rw [← this]
            simp
        · cases h
      · cases h

end Go.VC
