/- A calculus of conditions for the loaded code: the reckoning. No statement of the seat is proved here. -/
import Derived.Test.YtjefojpbglcjhaaVf
namespace Go.VC
open Go

/-- A struct that is built. -/
theorem build_run {P : Program} {T : Tab} (hT : T.Ok P) {o : Oper} {s : St} {G : List (Nat × Bool)} (hG : holds s G) {t : TypeId} {parts : Array (Nat × Operand)} {l : List A1} (ho : o.op = .build t parts)
    (hl : (match T.bld t, T.zero t with | some b, some (z, true) => fillO b (z.map .v) (parts.toList.map fun x => (x.1, val s G x.2)) | _, _ => none) = some l)
    {n : Nat} {w0 : World} {D : Dm} {a : Act} {w : World} (h : Rel n w0 D s a w) : (∀ w', (execOp a.eval o).run P w' = .ok (.value ((AV.g l).den (bls s.own))) w') ∧ (AV.g l).ok s.own.length := by
  split at hl
  · rename_i b z hb hz
    obtain ⟨fs, f1, f2, f3⟩ := hT.bld _ _ hb
    obtain ⟨i, z1, z2⟩ := hT.zero _ _ _ hz
    rw [if_pos rfl] at z2
    have hparts : ∀ x ∈ parts.toList, ∃ v, val s G x.2 = some v := by
      have : ∀ (ps : List (Nat × Operand)) (cells l : List A1), fillO b cells (ps.map fun x => (x.1, val s G x.2)) = some l → ∀ x ∈ ps, ∃ v, val s G x.2 = some v := by
        intro ps
        induction ps with
        | nil => intro _ _ _ x hx; cases hx
        | cons p ps ih =>
          intro cells l h x hx
          simp only [List.map_cons] at h
          cases hp : val s G p.2 with
          | none => rw [hp] at h; simp only [fillO] at h; cases h
          | some v =>
            rw [hp] at h
            simp only [fillO] at h
            split at h
            · split at h
              · rcases List.mem_cons.1 hx with rfl | hx
                · exact ⟨v, hp⟩
                · exact ih _ _ h x hx
              · cases h
            · cases h
      exact this _ _ _ hl
    have key := fill_ok (bl := bls s.own) (n := s.own.length) (parts.toList.map fun x => (x.1, val s G x.2)) (z.map .v) l (parts.toList.map fun x => (x.1, a.eval x.2)) hl
      (fun x hx => by obtain ⟨y, _, rfl⟩ := List.mem_map.1 hx; trivial) (by simp)
      (fun j i v hj => by
        rw [List.getElem?_map] at hj ⊢
        cases hp : parts.toList[j]? with
        | none => rw [hp] at hj; cases hj
        | some p =>
          rw [hp] at hj
          simp only [Option.map_some, Option.some.injEq, Prod.mk.injEq] at hj ⊢
          obtain ⟨e1, e2⟩ := h.val hG hj.2
          exact ⟨⟨hj.1, e1⟩, e2⟩)
    rw [map_v_den] at key
    refine ⟨fun w => ?_, key.2⟩
    unfold execOp
    rw [ho]
    have hplaces : (fs.mapM fun f => do pure (f.offset, ← sizeOf f.type) : Sem (Array (Nat × Nat))).run P w = .ok b.toArray w := by
      have : ∀ (l : List Field), (∀ f ∈ l, ∃ i, P.info? f.type = some i) → (l.mapM (fun f => do pure (f.offset, ← sizeOf f.type) : Field → Sem (Nat × Nat))).run P w = .ok (l.map fun f => (f.offset, ((P.info? f.type).map (·.size)).getD 0)) w := by
        intro l
        induction l with
        | nil => intro _; rfl
        | cons f l ih =>
          intro hf
          obtain ⟨i, hi⟩ := hf f (List.mem_cons_self ..)
          rw [List.mapM_cons]
          simp only [Sem.run_bind, run_sizeOf' w hi, Result.andThen_ok, Sem.run_pure, ih (fun g hg => hf g (List.mem_cons_of_mem _ hg)), List.map_cons, hi, Option.map_some, Option.getD_some]
      have h2 := this fs.toList (fun f hf => f3 f (by simpa using hf))
      rw [f2] at h2
      have e : fs = fs.toList.toArray := by simp
      rw [e, List.mapM_toArray]
      simp only [Sem.run_map, h2, Result.andThen_ok]
    have hpl : (fun i : Nat => b.toArray[i]?) = fun i : Nat => b[i]? := by funext i; simp
    simp only [Sem.run_bind, Instr.build, zeroValue, typeInfo, run_program, Result.andThen_ok, z1, Sem.run_pure, z2, Value.cells, run_underlying' w f1, hplaces, hpl]
    have hm : (parts.map fun x => (x.1, a.eval x.2)).toList = parts.toList.map fun x => (x.1, a.eval x.2) := by simp
    rw [hm, key.1]
    rfl
  · cases hl

theorem sem_build {P : Program} {T : Tab} (hT : T.Ok P) {o : Oper} {s : St} {G : List (Nat × Bool)} (hG : holds s G) {t : TypeId} {parts : Array (Nat × Operand)} {l : List A1} (ho : o.op = .build t parts)
    (hl : (match T.bld t, T.zero t with | some b, some (z, true) => fillO b (z.map .v) (parts.toList.map fun x => (x.1, val s G x.2)) | _, _ => none) = some l) :
    OpSem P o s fun v' s' => v' = .g l ∧ s' = s := by
  intro n w0 D a w h
  obtain ⟨g1, g2⟩ := build_run hT hG ho hl h
  exact ⟨.g l, s, w, ⟨rfl, rfl⟩, g1 w, h, g2⟩
theorem build_hold {P : Program} {T : Tab} (hT : T.Ok P) {o : Oper} {s : St} {G : List (Nat × Bool)} (hG : holds s G) {t : TypeId} {parts : Array (Nat × Operand)} {l : List A1} {Lo : List (Nat × (Nat × Obj))} {F0 : Frozen} (ho : o.op = .build t parts)
    (hl : (match T.bld t, T.zero t with | some b, some (z, true) => fillO b (z.map .v) (parts.toList.map fun x => (x.1, val s G x.2)) | _, _ => none) = some l) : OpHold P o s Lo F0 (.g l) := by
  intro n w0 D a w h
  obtain ⟨g1, g2⟩ := build_run hT hG ho hl h
  exact ⟨g2, fun w' _ => g1 w'⟩

/-- A slice that is built. -/
def places (z : Nat) : Nat → Nat → List (Nat × Nat)
  | 0, _ => []
  | n + 1, i => (i * z, z) :: places z n (i + 1)
def reps {α : Type} (l : List α) : Nat → List α
  | 0 => []
  | n + 1 => l ++ reps l n
theorem places_get {z i : Nat} : ∀ {n k : Nat}, i < n → (places z n k)[i]? = some ((k + i) * z, z) := by
  induction i with
  | zero =>
    intro n k h
    cases n with
    | zero => omega
    | succ n => simp [places]
  | succ i ih =>
    intro n k h
    cases n with
    | zero => omega
    | succ n =>
      simp only [places, List.getElem?_cons_succ]
      rw [ih (by omega)]
      congr 2
      congr 1
      omega
theorem places_none {z i : Nat} : ∀ {n k : Nat}, n ≤ i → (places z n k)[i]? = none := by
  induction i with
  | zero =>
    intro n k h
    cases n with
    | zero => rfl
    | succ n => omega
  | succ i ih =>
    intro n k h
    cases n with
    | zero => rfl
    | succ n =>
      simp only [places, List.getElem?_cons_succ]
      exact ih (by omega)
theorem reps_length {α : Type} (l : List α) (n : Nat) : (reps l n).length = n * l.length := by
  induction n with
  | zero => simp [reps]
  | succ n ih => simp [reps, ih, Nat.succ_mul]; omega
theorem reps_get {α : Type} (l : List α) : ∀ (n i : Nat), i < n * l.length → (reps l n)[i]? = l[i % l.length]? := by
  intro n
  induction n with
  | zero => intro i h; simp at h
  | succ n ih =>
    intro i h
    simp only [reps]
    rw [Nat.succ_mul] at h
    rcases Nat.lt_or_ge i l.length with hi | hi
    · rw [List.getElem?_append_left hi, Nat.mod_eq_of_lt hi]
    · rw [List.getElem?_append_right hi, ih _ (by omega), ← Nat.mod_eq_sub_mod hi]
theorem zeros_eq (lz : List Value) (n : Nat) (hl : 0 < lz.length) : ((Array.range (n * lz.length)).map (fun i => lz.toArray[i % lz.toArray.size]!)) = (reps lz n).toArray := by
  apply Array.ext'
  rw [Array.toList_map, Array.toList_range]
  apply List.ext_getElem?
  intro i
  rw [List.getElem?_map]
  rcases Nat.lt_or_ge i (n * lz.length) with hi | hi
  · rw [List.getElem?_range hi]
    show some (lz.toArray[i % lz.toArray.size]!) = (reps lz n)[i]?
    rw [reps_get lz n i hi]
    have hm : i % lz.length < lz.length := Nat.mod_lt _ hl
    have hs : lz.toArray.size = lz.length := by simp
    rw [hs, List.getElem?_eq_getElem hm]
    simp [hm]
  · rw [List.getElem?_eq_none (by simpa using hi), List.getElem?_eq_none (by rw [reps_length]; exact hi)]
    rfl
def bslO (T : Tab) (s : St) (t : TypeId) (len : Nat) (parts : List (Nat × Operand)) : Option (TypeId × List A1) :=
  match T.sl t with
  | some (e, z) => match T.zero e with
    | some (lz, _) => if lz.length = z ∧ 0 < z ∧ len * z ≤ 16777216 then (fillO (places z len 0) (reps (lz.map .v) len) (parts.map fun x => (x.1, val s [] x.2))).map fun l => (e, l) else none
    | none => none
  | none => none
theorem reps_map {α β : Type} (f : α → β) (l : List α) (n : Nat) : (reps l n).map f = reps (l.map f) n := by
  induction n with
  | zero => rfl
  | succ n ih => simp [reps, ih]
theorem fillO_some {bld : List (Nat × Nat)} {s : St} {G : List (Nat × Bool)} : ∀ (ps : List (Nat × Operand)) (cells l : List A1), fillO bld cells (ps.map fun x => (x.1, val s G x.2)) = some l → ∀ x ∈ ps, ∃ v, val s G x.2 = some v := by
  intro ps
  induction ps with
  | nil => intro _ _ _ x hx; cases hx
  | cons p ps ih =>
    intro cells l h x hx
    simp only [List.map_cons] at h
    cases hp : val s G p.2 with
    | none => rw [hp] at h; simp only [fillO] at h; cases h
    | some v =>
      rw [hp] at h
      simp only [fillO] at h
      split at h
      · split at h
        · rcases List.mem_cons.1 hx with rfl | hx
          · exact ⟨v, hp⟩
          · exact ih _ _ h x hx
        · cases h
      · cases h
theorem sem_buildSlice {P : Program} {T : Tab} (hT : T.Ok P) {o : Oper} {s : St} {t : TypeId} {len : Nat} {parts : Array (Nat × Operand)} {e : TypeId} {l : List A1} (ho : o.op = .buildSlice t len parts) (hl : bslO T s t len parts.toList = some (e, l)) :
    OpSem P o s fun v' s' => ∃ b, s' = s.push b (.c e l) ∧ v' = .a (.s s.own.length 0 len len) := by
  unfold bslO at hl
  split at hl
  · rename_i e' z hsl
    split at hl
    · rename_i lz bb hz
      split at hl
      · rename_i hc
        obtain ⟨hlen, hz0, h24⟩ := hc
        cases hf : fillO (places z len 0) (reps (lz.map .v) len) (parts.toList.map fun x => (x.1, val s [] x.2)) with
        | none => rw [hf] at hl; cases hl
        | some l' =>
          rw [hf] at hl
          simp only [Option.map_some, Option.some.injEq, Prod.mk.injEq] at hl
          obtain ⟨rfl, rfl⟩ := hl
          intro n w0 D a w h
          obtain ⟨i, s1, s2, s3⟩ := hT.sl _ _ _ hsl
          obtain ⟨i', z1, z2⟩ := hT.zero _ _ _ hz
          have hzero : ∃ z, i'.zero = some z ∧ z.cells = lz.toArray := by
            cases bb with
            | true =>
              rw [if_pos rfl] at z2
              exact ⟨_, z2, rfl⟩
            | false =>
              rw [if_neg (by simp)] at z2
              obtain ⟨x, rfl, hx, h1c⟩ := z2
              refine ⟨x, hx, ?_⟩
              cases x <;> first | rfl | (simp [Value.oneCell'] at h1c)
          obtain ⟨zv, zv1, zv2⟩ := hzero
          have hsome := fillO_some _ _ _ hf
          have key := fill_ok (bl := bls s.own) (n := s.own.length) (parts.toList.map fun x => (x.1, val s [] x.2)) (reps (lz.map .v) len) l' (parts.toList.map fun x => (x.1, a.eval x.2)) hf
            (fun x hx => by
              rw [← reps_map] at hx
              obtain ⟨y, _, rfl⟩ := List.mem_map.1 hx
              trivial) (by simp)
            (fun j i v hj => by
              rw [List.getElem?_map] at hj ⊢
              cases hp : parts.toList[j]? with
              | none => rw [hp] at hj; cases hj
              | some p =>
                rw [hp] at hj
                simp only [Option.map_some, Option.some.injEq, Prod.mk.injEq] at hj ⊢
                obtain ⟨e1, e2⟩ := h.val (G := []) trivial hj.2
                exact ⟨⟨hj.1, e1⟩, e2⟩)
          rw [← reps_map, map_v_den] at key
          refine ⟨.a (.s s.own.length 0 len len), s.push w.heap.size (.c e' l'), { w with heap := w.heap.push ((AB.c e' l').obj (bls s.own)) }, ⟨_, rfl, rfl⟩, ?_, h.new key.2, ?_⟩
          · unfold execOp
            rw [ho]
            have hpl : Instr.fill (fun i => some (i * z, z)) (reps lz len).toArray (parts.toList.map fun x => (x.1, a.eval x.2)) = some (l'.map (A1.den (bls s.own))).toArray := by
              have gen : ∀ (vs : List (Nat × Value)) (cs r : Array Value), Instr.fill (fun i => (places z len 0)[i]?) cs vs = some r → Instr.fill (fun i => some (i * z, z)) cs vs = some r := by
                intro vs
                induction vs with
                | nil => intro cs r h; exact h
                | cons x vs ih =>
                  intro cs r h
                  obtain ⟨j, v⟩ := x
                  simp only [Instr.fill] at h ⊢
                  rcases Nat.lt_or_ge j len with hj | hj
                  · rw [places_get hj] at h
                    simp only [Nat.zero_add] at h
                    split at h
                    · cases h
                    · rename_i hn
                      rw [if_neg hn]
                      exact ih _ _ h
                  · rw [places_none hj] at h
                    cases h
              exact gen _ _ _ key.1
            have hm : (parts.map fun x => (x.1, a.eval x.2)).toList = parts.toList.map fun x => (x.1, a.eval x.2) := by simp
            have h24' : ¬ (len * z > 2 ^ 24) := by simpa using h24
            have hr : (Array.range (len * i.size)).map (fun j => lz.toArray[j % lz.toArray.size]!) = (reps lz len).toArray := by
              rw [s3, ← hlen]
              exact zeros_eq lz len (by omega)
            by_cases h0 : len * z = 0
            · have hlen0 : len = 0 := by
                rcases Nat.eq_zero_or_pos len with e | e
                · exact e
                · have := Nat.mul_pos e hz0; omega
              subst hlen0
              simp only [Sem.run_bind, Instr.buildSlice, run_underlying' w s1, Result.andThen_ok, run_sizeOf' w s2, s3, Nat.zero_mul, hm]
              simp only [reps] at hpl
              have e0 : ∀ f : Nat → Value, (Array.range 0).map f = #[] := fun f => by simp
              have e1 : ¬ ((0 : Nat) > 2 ^ 24) := by simp
              simp only [e0, hpl, if_neg e1, if_true, Sem.run_pure, Result.andThen_ok, newRow, Sem.run_bind, run_newObj]
              simp [St.push, AV.den, A1.den, bls, AB.obj]
            · simp only [Sem.run_bind, Instr.buildSlice, run_underlying' w s1, Result.andThen_ok, run_sizeOf' w s2, s3, hm, if_neg h24', if_neg h0, zeroValue, typeInfo, run_program, z1, zv1, Sem.run_pure, zv2]
              rw [s3] at hr
              simp only [hr, hpl, newRow, run_newObj, Sem.run_bind, Result.andThen_ok, Sem.run_pure]
              simp [St.push, AV.den, A1.den, bls, AB.obj]
          · show s.own.length < (s.own ++ [_]).length
            simp
      · cases hl
    · cases hl
  · cases hl
section
variable (P : Program) (T : Tab) (n : Nat) (Q : Exit → St → Prop)

def condW (go : List It → St → Prop) (a b : Code) (k : List It) (s : St) : Option AV → Prop
  | some (.a (.v (.bool x))) => (x = true → go (.code a :: k) s) ∧ (x = false → go (.code b :: k) s)
  | _ => False
def exitW (go : List It → St → Prop) (s : St) : Option (List It) → Prop
  | some k => go k s
  | none => False
def stopW (all : List Oper) (o : Oper) (os : List Oper) (k : List It) (s : St) : Prop := RunW P n Q (.ops all (o :: os) :: k) s
def evU (go : List It → St → Prop) (all : List Oper) (o : Oper) (os : List Oper) (k : List It) (s : St) (side : Prop) : Option AV → Prop
  | some v => (putOk n s o.dst ∧ side) ∧ go (.ops all os :: k) (s.put o.dst v)
  | none => stopW P n Q all o os k s
def evG (go : List It → St → Prop) (all : List Oper) (o : Oper) (os : List Oper) (k : List It) (s : St) (G : List (Nat × Bool)) (side : Prop) : Option AV → Prop
  | some v => (gputOk n s o.dst G ∧ (holds s G → side)) ∧ go (.ops all os :: k) (s.gput o.dst v G)
  | none => stopW P n Q all o os k s
def newW (go : List It → St → Prop) (all : List Oper) (o : Oper) (os : List Oper) (k : List It) (s : St) (t : TypeId) : Option (List A1) → Prop
  | some l => ∀ b, putOk n (s.push b (.c t l)) o.dst ∧ go (.ops all os :: k) ((s.push b (.c t l)).put o.dst (.a (.p s.own.length 0)))
  | none => False
def newS (go : List It → St → Prop) (all : List Oper) (o : Oper) (os : List Oper) (k : List It) (s : St) (len : Nat) : Option (TypeId × List A1) → Prop
  | some (e, l) => ∀ b, putOk n (s.push b (.c e l)) o.dst ∧ go (.ops all os :: k) ((s.push b (.c e l)).put o.dst (.a (.s s.own.length 0 len len)))
  | none => False
def allOne : List A1 → Bool
  | [] => true
  | x :: t => if x.one = true then allOne t else false
theorem allOne_spec : ∀ {l : List A1}, allOne l = true → ∀ x ∈ l, x.one = true
  | [], _, x, hx => by cases hx
  | y :: t, h, x, hx => by
    simp only [allOne] at h
    split at h
    · rename_i hy
      rcases List.mem_cons.1 hx with rfl | hx
      · exact hy
      · exact allOne_spec h x hx
    · cases h
def stW (go : List It → St → Prop) (all : List Oper) (o : Oper) (os : List Oper) (k : List It) (s : St) (z : Option Nat) (r i : Nat) : Option (Nat × AB) → Option (List A1) → Prop
  | some (b, .c ty l), some c => (z = some c.length ∧ i + c.length ≤ l.length ∧ allOne c = true ∧ o.dst = none) ∧ go (.ops all os :: k) { s with own := s.own.set r (b, .c ty (splice l i c)) }
  | _, _ => stopW P n Q all o os k s
def storeW (go : List It → St → Prop) (all : List Oper) (o : Oper) (os : List Oper) (k : List It) (s : St) (z : Option Nat) : Option AV → Option AV → Prop
  | some (.a (.p r i)), some v => stW P n Q go all o os k s z r i s.own[r]? (cellsOf v)
  | _, _ => stopW P n Q all o os k s
def bldO (T : Tab) (s : St) (G : List (Nat × Bool)) (t : TypeId) (parts : List (Nat × Operand)) : Option (List A1) :=
  match T.bld t, T.zero t with | some b, some (z, true) => fillO b (z.map .v) (parts.map fun x => (x.1, val s G x.2)) | _, _ => none
def zeroO : Option (List Value × Bool) → Option (List A1)
  | some (l, _) => some (l.map .v)
  | none => none
def opU (go : List It → St → Prop) (all : List Oper) (o : Oper) (os : List Oper) (k : List It) (s : St) : Op → Prop
  | .box t x => newW n go all o os k s t ((val s [] x).bind cellsOf)
  | .alloc t => newW n go all o os k s t (zeroO (T.zero t))
  | .build t ps => evU P n Q go all o os k s True ((bldO T s [] t ps.toList).map .g)
  | .buildSlice t len ps => newS n go all o os k s len (bslO T s t len ps.toList)
  | .store t x y => storeW P n Q go all o os k s (sizeZ (T.sz t)) (val s [] x) (val s [] y)
  | op => evU P n Q go all o os k s (sideP T s [] op) (evP T s [] op)
def opGd (go : List It → St → Prop) (all : List Oper) (o : Oper) (os : List Oper) (k : List It) (s : St) (G : List (Nat × Bool)) : Op → Prop
  | .build t ps => evG P n Q go all o os k s G True ((bldO T s G t ps.toList).map .g)
  | op => evG P n Q go all o os k s G (sideP T s G op) (evP T s G op)
def opC (go : List It → St → Prop) (all : List Oper) (o : Oper) (os : List Oper) (k : List It) (s : St) (g : Option (Nat × Bool)) : Option (List (Nat × Bool)) → Prop
  | some [] => g = none ∧ opU P T n Q go all o os k s o.op
  | some (g :: G) => opGd P T n Q go all o os k s (g :: G) o.op
  | none => False

/-- The next operation of a region that draws its order, one that only reads, taken first. -/
def drEv (go : List It → St → Prop) (l : List Oper) (head : List Bool) (Lo : List (Nat × (Nat × Obj))) (F0 : Frozen) (li : Array Bool) (i : Nat) (r : Sc) (k : List It) (s : St) (o : Oper) : List (Nat × Bool) → Option AV → Prop
  | [], some v => (o.guard = none ∧ sideP T s [] o.op) ∧ putOk n s o.dst ∧ go (.dr l head Lo F0 (li.setIfInBounds i true) true r :: k) (s.put o.dst v)
  | g :: G, some v => (gputOk n s o.dst (g :: G) ∧ (holds s (g :: G) → sideP T s (g :: G) o.op)) ∧ go (.dr l head Lo F0 (li.setIfInBounds i true) true r :: k) (s.gput o.dst v (g :: G))
  | _, none => False
def evD (T : Tab) (s : St) (G : List (Nat × Bool)) : Op → Option AV
  | .build t ps => (bldO T s G t ps.toList).map .g
  | op => evP T s G op
def drCh (go : List It → St → Prop) (l : List Oper) (head : List Bool) (Lo : List (Nat × (Nat × Obj))) (F0 : Frozen) (li : Array Bool) (i : Nat) (r : Sc) (k : List It) (s : St) (o : Oper) : Option (List (Nat × Bool)) → Prop
  | some G => heldO s G Lo F0 o.op ∧ drEv T n go l head Lo F0 li i r k s o G (evD T s G o.op)
  | none => False
def drTk (go : List It → St → Prop) (l : List Oper) (head : List Bool) (Lo : List (Nat × (Nat × Obj))) (F0 : Frozen) (li : Array Bool) (ok : Bool) (i : Nat) (r : Sc) (k : List It) (s : St) : Option Oper → Prop
  | some o => ok = true ∧ drCh T n go l head Lo F0 li i r k s o (chain s l o.guard)
  | none => False
def drOn (go : List It → St → Prop) (l : List Oper) (head : List Bool) (Lo : List (Nat × (Nat × Obj))) (F0 : Frozen) (li : Array Bool) (i : Nat) (r : Sc) (k : List It) (s : St) : Option Oper → Prop
  | some o => go (.ops l [o] :: (if head.getD i false = true then [.hold Lo F0] else []) ++ .dr l head Lo F0 (li.setIfInBounds i true) (head.getD i false) r :: k) s
  | none => False

def goW : Nat → List It → St → Prop
  | 0, k, s => RunW P n Q k s
  | _ + 1, [], s => Q .normal s
  | f + 1, .code c :: k, s => match c with
    | .skip => goW f k s
    | .label _ => goW f k s
    | .seq a b => goW f (.code a :: .code b :: k) s
    | .scope b => goW f (.code b :: .sc :: k) s
    | .block id b => goW f (.code b :: .blk id :: k) s
    | .exit id => exitW (goW f) s (exitIt id k)
    | .ret => Q .ret s
    | .cond c a b => condW (goW f) a b k s (val s [] c)
    | .region id ops d => if d = true then RunW P n Q (.code (.region id ops d) :: k) s else goW f (.ops ops.toList ops.toList :: .clr :: k) s
    | c => RunW P n Q (.code c :: k) s
  | f + 1, .blk _ :: k, s => goW f k s
  | f + 1, .sc :: k, s => goW f k s
  | f + 1, .clr :: k, s => goW f k { s with gl := [], gs := [] }
  | f + 1, .hold Lo F0 :: k, s => HoldIn s Lo F0 ∧ goW f k s
  | f + 1, .dr l head Lo F0 li ok sc :: k, s => match sc with
    | .done => goW f k s
    | .take i r => drTk T n (goW f) l head Lo F0 li ok i r k s l[i]?
    | .one i r => drOn (goW f) l head Lo F0 li i r k s l[i]?
    | .two i j r q => drOn (goW f) l head Lo F0 li i r k s l[i]? ∧ drOn (goW f) l head Lo F0 li j q k s l[j]?
  | f + 1, .ops _ [] :: k, s => goW f k s
  | f + 1, .ops all (o :: os) :: k, s => opC P T n Q (goW f) all o os k s o.guard (chain s all o.guard)
  | _ + 1, .lp I m m0 :: k, s => RunW P n Q (.lp I m m0 :: k) s
end

theorem evD_hold {P : Program} {T : Tab} (hT : T.Ok P) {s : St} {G : List (Nat × Bool)} (hG : holds s G) {o : Oper} {v : AV} {Lo : List (Nat × (Nat × Obj))} {F0 : Frozen} (hside : sideP T s G o.op) (hv : evD T s G o.op = some v) (hh : heldO s G Lo F0 o.op) : OpHold P o s Lo F0 v := by
  unfold evD at hv
  split at hv
  · rename_i t ps ho
    cases hb : bldO T s G t ps.toList with
    | none => rw [hb] at hv; cases hv
    | some l =>
      rw [hb] at hv
      simp only [Option.map_some, Option.some.injEq] at hv
      subst hv
      exact build_hold hT hG ho hb
  · exact evP_hold hT hG hside hv hh
theorem evU_sound {P : Program} {n : Nat} {Q : Exit → St → Prop} {go : List It → St → Prop} (ih : ∀ k s, go k s → RunW P n Q k s) {all : List Oper} {o : Oper} {os : List Oper} {k : List It} {s : St} {v : Option AV} {side : Prop} (hg : o.guard = none)
    (hs : ∀ u, side → v = some u → OpSem P o s fun v' s' => v' = u ∧ s' = s) (h : evU P n Q go all o os k s side v) : RunW P n Q (.ops all (o :: os) :: k) s := by
  cases v with
  | none => exact h
  | some u =>
    exact .step hg (hs u h.1.2 rfl) (fun v' s' ⟨e1, e2⟩ => by subst e1 e2; exact h.1.1) (fun v' s' ⟨e1, e2⟩ => by subst e1 e2; exact ih _ _ h.2)
theorem evG_sound {P : Program} {n : Nat} {Q : Exit → St → Prop} {go : List It → St → Prop} (ih : ∀ k s, go k s → RunW P n Q k s) {all : List Oper} {o : Oper} {os : List Oper} {k : List It} {s : St} {v : Option AV} {G : List (Nat × Bool)} {side : Prop} (hG : chain s all o.guard = some G)
    (hs : ∀ u, side → v = some u → holds s G → OpSem P o s fun v' s' => v' = u ∧ s' = s) (h : evG P n Q go all o os k s G side v) : RunW P n Q (.ops all (o :: os) :: k) s := by
  cases v with
  | none => exact h
  | some u => exact .gpure hG (fun hh => hs u (h.1.2 hh) rfl hh) h.1.1 (ih _ _ h.2)
theorem sem_pure {P : Program} {T : Tab} (hT : T.Ok P) {o : Oper} {s : St} {G : List (Nat × Bool)} (hG : holds s G) {v : AV} (hside : sideP T s G o.op) (hv : evP T s G o.op = some v) : OpSem P o s fun v' s' => v' = v ∧ s' = s :=
  fun _ _ _ _ w h => ⟨v, s, w, ⟨rfl, rfl⟩, (evP_ok hT h hG hside hv).1, h, (evP_ok hT h hG hside hv).2⟩

theorem goW_sound {P : Program} {T : Tab} (hT : T.Ok P) {n : Nat} {Q : Exit → St → Prop} : ∀ (f : Nat) (k : List It) (s : St), goW P T n Q f k s → RunW P n Q k s := by
  intro f
  induction f with
  | zero => intro k s h; exact h
  | succ f ih =>
    intro k s h
    match k, h with
    | [], h => exact .nil h
    | .code c :: k, h =>
      cases c with
      | skip => exact .skip (ih _ _ h)
      | label l => exact .label (ih _ _ h)
      | seq a b => exact .seq (ih _ _ h)
      | scope b => exact .scope (ih _ _ h)
      | block id b => exact .block (ih _ _ h)
      | exit id =>
        simp only [goW] at h
        cases he : exitIt id k with
        | none => rw [he] at h; exact h.elim
        | some k' => rw [he] at h; exact .exit he (ih _ _ h)
      | ret => exact .ret h
      | cond c a b =>
        simp only [goW] at h
        unfold condW at h
        split at h
        · rename_i x hx
          exact .cond hx (fun e => ih _ _ (h.1 e)) (fun e => ih _ _ (h.2 e))
        · exact h.elim
      | region id ops d =>
        simp only [goW] at h
        split at h
        · exact h
        · rename_i hd
          have hd' : d = false := by simpa using hd
          subst hd'
          have : ops = ops.toList.toArray := by simp
          rw [this]
          exact .region (ih _ _ h)
      | loop b => exact h
      | rangeFunc f ps a b => exact h
      | goto l => exact h
      | refuse why => exact h
    | .blk _ :: k, h => exact .blk (ih _ _ h)
    | .sc :: k, h => exact .sc (ih _ _ h)
    | .lp I m m0 :: k, h => exact h
    | .clr :: k, h => exact .clr (ih _ _ h)
    | .hold Lo F0 :: k, h => exact .hold h.1 (ih _ _ h.2)
    | .dr l head Lo F0 li ok sc :: k, h =>
      cases sc with
      | done => exact .drDone (ih _ _ h)
      | take i r =>
        simp only [goW] at h
        cases ho : l[i]? with
        | none => rw [ho] at h; exact h.elim
        | some o =>
          rw [ho] at h
          obtain ⟨rfl, h⟩ := h
          cases hc : chain s l o.guard with
          | none => rw [hc] at h; exact h.elim
          | some G =>
            rw [hc] at h
            obtain ⟨hheld, h⟩ := h
            cases hv : evD T s G o.op with
            | none => rw [hv] at h; cases G <;> exact h.elim
            | some v =>
              rw [hv] at h
              cases G with
              | nil => exact .drTake ho h.1.1 (evD_hold hT (G := []) trivial h.1.2 hv hheld) h.2.1 (ih _ _ h.2.2)
              | cons g G => exact .drTakeG ho hc (fun hG => evD_hold hT hG (h.1.2 hG) hv hheld) h.1.1 (ih _ _ h.2)
      | one i r =>
        simp only [goW] at h
        cases ho : l[i]? with
        | none => rw [ho] at h; exact h.elim
        | some o => rw [ho] at h; exact .drOne ho (ih _ _ h)
      | two i j r q =>
        simp only [goW] at h
        cases ho : l[i]? with
        | none => rw [ho] at h; exact h.1.elim
        | some o =>
          cases ho' : l[j]? with
          | none => rw [ho'] at h; exact h.2.elim
          | some o' =>
            rw [ho, ho'] at h
            exact .drTwo ho ho' (ih _ _ h.1) (ih _ _ h.2)
    | .ops all [] :: k, h => exact .ops0 (ih _ _ h)
    | .ops all (o :: os) :: k, h =>
      simp only [goW] at h
      cases hc : chain s all o.guard with
      | none => rw [hc] at h; exact h.elim
      | some G =>
        rw [hc] at h
        cases G with
        | cons g G =>
          simp only [opC] at h
          unfold opGd at h
          split at h
          · rename_i t ps ho
            exact evG_sound ih hc (fun u _ hu hG => by
              cases hb : bldO T s (g :: G) t ps.toList with
              | none => rw [hb] at hu; cases hu
              | some l =>
                rw [hb] at hu
                simp only [Option.map_some, Option.some.injEq] at hu
                subst hu
                exact sem_build hT hG ho hb) h
          · exact evG_sound ih hc (fun u hsd hu hG => sem_pure hT hG hsd hu) h
        | nil =>
          simp only [opC] at h
          obtain ⟨hg, h⟩ := h
          unfold opU at h
          split at h
          · rename_i t x ho
            cases hv : val s [] x with
            | none => rw [hv] at h; exact h.elim
            | some v =>
              rw [hv] at h
              simp only [Option.bind_some] at h
              cases hl : cellsOf v with
              | none => rw [hl] at h; exact h.elim
              | some l =>
                rw [hl] at h
                refine .step hg (sem_box ho hv hl) ?_ ?_
                · rintro v' s' ⟨b, rfl, rfl⟩
                  exact (h b).1
                · rintro v' s' ⟨b, rfl, rfl⟩
                  exact ih _ _ (h b).2
          · rename_i t ho
            cases hz : T.zero t with
            | none => rw [hz] at h; exact h.elim
            | some z =>
              obtain ⟨l, bb⟩ := z
              rw [hz] at h
              refine .step hg (sem_alloc hT ho hz) ?_ ?_
              · rintro v' s' ⟨b, rfl, rfl⟩
                exact (h b).1
              · rintro v' s' ⟨b, rfl, rfl⟩
                exact ih _ _ (h b).2
          · rename_i t ps ho
            exact evU_sound ih hg (fun u _ hu => by
              cases hb : bldO T s [] t ps.toList with
              | none => rw [hb] at hu; cases hu
              | some l =>
                rw [hb] at hu
                simp only [Option.map_some, Option.some.injEq] at hu
                subst hu
                exact sem_build hT (G := []) trivial ho hb) h
          · rename_i t len ps ho
            cases hb : bslO T s t len ps.toList with
            | none => rw [hb] at h; exact h.elim
            | some el =>
              obtain ⟨e, l⟩ := el
              rw [hb] at h
              refine .step hg (sem_buildSlice hT ho hb) ?_ ?_
              · rintro v' s' ⟨b, rfl, rfl⟩
                exact (h b).1
              · rintro v' s' ⟨b, rfl, rfl⟩
                exact ih _ _ (h b).2
          · rename_i t x y ho
            unfold storeW at h
            split at h
            · rename_i r i v hx hy
              unfold stW at h
              split at h
              · rename_i b ty l c hr hcv
                obtain ⟨⟨h1, h2, h3, h4⟩, h5⟩ := h
                refine .stepS hg h4 (sem_store hT ho hx hy hr hcv h1 h2 (allOne_spec h3)) ?_
                rintro s' rfl
                exact ih _ _ h5
              · exact h
            · exact h
          · exact evU_sound ih hg (fun u hsd hu => sem_pure hT (G := []) trivial hsd hu) h

end Go.VC
