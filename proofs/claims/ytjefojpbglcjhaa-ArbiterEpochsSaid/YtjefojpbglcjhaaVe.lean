/- A calculus of conditions for the loaded code: what a call does, told by its own blocks; a call within a function; less that is known. No statement of the seat is proved here. -/
import Derived.Test.YtjefojpbglcjhaaVd
namespace Go.VC
open Go

/-! Other numbers for own blocks. -/
def A1.ren (ρ : Nat → Nat) : A1 → A1
  | .v x => .v x
  | .p r i => .p (ρ r) i
  | .s r i n c => .s (ρ r) i n c
  | .m r => .m (ρ r)
  | .fn f caps => .fn f (caps.map fun x => (ρ x.1, x.2))
def P2.ren (ρ : Nat → Nat) : P2 → P2
  | .a x => .a (x.ren ρ)
  | .g l => .g (l.map (A1.ren ρ))
def AV.ren (ρ : Nat → Nat) : AV → AV
  | .a x => .a (x.ren ρ)
  | .g l => .g (l.map (A1.ren ρ))
  | .t l => .t (l.map (P2.ren ρ))
def AB.ren (ρ : Nat → Nat) : AB → AB
  | .c ty l => .c ty (l.map (A1.ren ρ))
  | k => k

/-- The blocks that numbers below n have in bl are the ones that their new numbers have in bl'. -/
def Fits (n : Nat) (ρ : Nat → Nat) (bl bl' : List Nat) : Prop := ∀ r, r < n → bl'.getD (ρ r) 0 = bl.getD r 0
theorem A1.den_ren {n : Nat} {ρ : Nat → Nat} {bl bl' : List Nat} (h : Fits n ρ bl bl') {x : A1} (hx : x.ok n) : (x.ren ρ).den bl' = x.den bl := by
  cases x with
  | v x => rfl
  | p r i => simp only [A1.ren, A1.den]; rw [h r hx]
  | s r i a b => simp only [A1.ren, A1.den]; rw [h r hx]
  | m r => simp only [A1.ren, A1.den]; rw [h r hx]
  | fn f caps =>
    simp only [A1.ren, A1.den, List.map_map]
    congr 2
    refine List.map_congr_left fun y hy => ?_
    simp only [Function.comp]
    rw [h y.1 (hx y hy)]
theorem map_den_ren {n : Nat} {ρ : Nat → Nat} {bl bl' : List Nat} (h : Fits n ρ bl bl') {l : List A1} (hl : ∀ x ∈ l, x.ok n) : (l.map (A1.ren ρ)).map (A1.den bl') = l.map (A1.den bl) := by
  rw [List.map_map]
  exact List.map_congr_left fun x hx => A1.den_ren h (hl x hx)
theorem P2.den_ren {n : Nat} {ρ : Nat → Nat} {bl bl' : List Nat} (h : Fits n ρ bl bl') {x : P2} (hx : x.ok n) : (x.ren ρ).den bl' = x.den bl := by
  cases x with
  | a x => exact A1.den_ren h hx
  | g l => simp only [P2.ren, P2.den]; rw [map_den_ren h hx]
theorem AV.den_ren {n : Nat} {ρ : Nat → Nat} {bl bl' : List Nat} (h : Fits n ρ bl bl') {x : AV} (hx : x.ok n) : (x.ren ρ).den bl' = x.den bl := by
  cases x with
  | a x => exact A1.den_ren h hx
  | g l => simp only [AV.ren, AV.den]; rw [map_den_ren h hx]
  | t l =>
    simp only [AV.ren, AV.den, List.map_map]
    congr 2
    exact List.map_congr_left fun x hx' => P2.den_ren h (hx x hx')
theorem AB.obj_ren {n : Nat} {ρ : Nat → Nat} {bl bl' : List Nat} (h : Fits n ρ bl bl') {x : AB} (hx : x.ok n) : (x.ren ρ).obj bl' = x.obj bl := by
  cases x with
  | c ty l => simp only [AB.ren, AB.obj]; rw [map_den_ren h hx]
  | raw ty l fr => rfl
  | it s p => rfl
  | mp es cl => rfl
  | dead => rfl
theorem A1.ok_ren {n m : Nat} {ρ : Nat → Nat} (h : ∀ r, r < n → ρ r < m) {x : A1} (hx : x.ok n) : (x.ren ρ).ok m := by
  cases x with
  | fn f caps =>
    intro y hy
    simp only [List.mem_map] at hy
    obtain ⟨z, hz, rfl⟩ := hy
    exact h _ (hx z hz)
  | v x => trivial
  | p r i => exact h _ hx
  | s r i a b => exact h _ hx
  | m r => exact h _ hx
theorem map_ok_ren {n m : Nat} {ρ : Nat → Nat} (h : ∀ r, r < n → ρ r < m) {l : List A1} (hl : ∀ x ∈ l, x.ok n) : ∀ x ∈ l.map (A1.ren ρ), x.ok m := by
  intro y hy
  obtain ⟨z, hz, rfl⟩ := List.mem_map.1 hy
  exact A1.ok_ren h (hl z hz)
theorem P2.ok_ren {n m : Nat} {ρ : Nat → Nat} (h : ∀ r, r < n → ρ r < m) {x : P2} (hx : x.ok n) : (x.ren ρ).ok m := by
  cases x with
  | a x => exact A1.ok_ren h hx
  | g l => exact map_ok_ren h hx
theorem AV.ok_ren {n m : Nat} {ρ : Nat → Nat} (h : ∀ r, r < n → ρ r < m) {x : AV} (hx : x.ok n) : (x.ren ρ).ok m := by
  cases x with
  | a x => exact A1.ok_ren h hx
  | g l => exact map_ok_ren h hx
  | t l =>
    intro y hy
    obtain ⟨z, hz, rfl⟩ := List.mem_map.1 hy
    exact P2.ok_ren h (hx z hz)
theorem AB.ok_ren {n m : Nat} {ρ : Nat → Nat} (h : ∀ r, r < n → ρ r < m) {x : AB} (hx : x.ok n) : (x.ren ρ).ok m := by
  cases x with
  | c ty l => exact map_ok_ren h hx
  | _ => trivial
theorem AB.ren_dead {ρ : Nat → Nat} {x : AB} (h : x.ren ρ = .dead) : x = .dead := by
  cases x <;> simp [AB.ren] at h ⊢

/-- What a call does: its arguments by own blocks; Q tells of the result, of the own blocks behind it (those that were stay ahead), and of what is frozen. -/
def Con (P : Program) (f : FuncId) (vs : List AV) (own : Own) (F : Frozen) (Q : AV → Own → Frozen → Prop) : Prop :=
  ∀ w, MRel own F w → Calls P f (vs.map (AV.den (bls own))).toArray w fun e w' => ∃ v own' F', e = .returned (v.den (bls own')) ∧ Q v own' F' ∧ MRel own' F' w' ∧ v.ok own'.length ∧
    (∀ (r b : Nat) (k : AB), own[r]? = some (b, k) → ∃ k', own'[r]? = some (b, k')) ∧ (∀ (r b : Nat) (k : AB), own'[r]? = some (b, k) → own.length ≤ r → w.heap.size ≤ b ∨ ∃ (r' : Nat) (k' : AB), own[r']? = some (b, k')) ∧
    Fr w (fun b => ∃ (r : Nat) (k : AB), own[r]? = some (b, k)) w' ∧ (∀ b o, F b = some o → F' b = some o) ∧ (∀ b, F' b ≠ none → F b ≠ none ∨ w.heap.size ≤ b ∨ ∃ (r : Nat) (k : AB), own[r]? = some (b, k))

theorem Con.mono {P : Program} {f : FuncId} {vs : List AV} {own : Own} {F : Frozen} {Q Q' : AV → Own → Frozen → Prop} (h : Con P f vs own F Q) (hq : ∀ v o F', Q v o F' → Q' v o F') : Con P f vs own F Q' :=
  fun w hw => (h w hw).mono fun _ _ ⟨v, o, F', h1, h2, h3⟩ => ⟨v, o, F', h1, hq _ _ _ h2, h3⟩

/-- The new numbers: those of σ, then the ones from m on. -/
def rho (σ : List Nat) (m : Nat) (i : Nat) : Nat := match σ[i]? with | some r => r | none => m + (i - σ.length)
/-- What own blocks hold behind a call that had those of σ. -/
def setAll (ρ : Nat → Nat) : Own → List Nat → Own → Own
  | own, [], _ => own
  | own, r :: σ, (b, k) :: t => setAll ρ (own.set r (b, k.ren ρ)) σ t
  | own, _ :: _, [] => own
def St.merge (s : St) (σ : List Nat) (own' : Own) (F' : Frozen) : St :=
  { s with own := setAll (rho σ s.own.length) s.own σ own' ++ (own'.drop σ.length).map (fun x => (x.1, x.2.ren (rho σ s.own.length))), F := F' }

theorem setAll_length (ρ : Nat → Nat) : ∀ (own : Own) (σ : List Nat) (t : Own), (setAll ρ own σ t).length = own.length
  | own, [], t => by cases t <;> rfl
  | own, r :: σ, (b, k) :: t => by rw [setAll, setAll_length ρ _ σ t, List.length_set]
  | own, _ :: _, [] => rfl
theorem setAll_other (ρ : Nat → Nat) {r : Nat} : ∀ (own : Own) (σ : List Nat) (t : Own), r ∉ σ → (setAll ρ own σ t)[r]? = own[r]?
  | own, [], t, _ => by cases t <;> rfl
  | own, r' :: σ, (b, k) :: t, h => by
    rw [setAll, setAll_other ρ _ σ t (fun hx => h (List.mem_cons_of_mem _ hx)), List.getElem?_set, if_neg (fun e => h (by rw [e]; exact List.mem_cons_self ..))]
  | own, _ :: _, [], _ => rfl
theorem setAll_in (ρ : Nat → Nat) {r b : Nat} {k : AB} : ∀ (own : Own) (σ : List Nat) (t : Own) (i : Nat), σ.Nodup → σ[i]? = some r → t[i]? = some (b, k) → r < own.length → (setAll ρ own σ t)[r]? = some (b, k.ren ρ)
  | own, [], t, i, _, h, _, _ => by simp at h
  | own, r' :: σ, (b', k') :: t, 0, hn, h, ht, hl => by
    simp only [List.getElem?_cons_zero, Option.some.injEq, Prod.mk.injEq] at h ht
    obtain ⟨rfl, rfl⟩ := ht
    subst h
    rw [setAll, setAll_other ρ _ σ t (List.nodup_cons.1 hn).1, List.getElem?_set, if_pos rfl, if_pos hl]
  | own, r' :: σ, (b', k') :: t, i + 1, hn, h, ht, hl => by
    rw [setAll]
    exact setAll_in ρ _ σ t i (List.nodup_cons.1 hn).2 (by simpa using h) (by simpa using ht) (by rw [List.length_set]; exact hl)
  | own, _ :: _, [], i, _, _, ht, _ => by simp at ht

theorem rho_in {σ : List Nat} {m i r : Nat} (h : σ[i]? = some r) : rho σ m i = r := by simp [rho, h]
theorem rho_out {σ : List Nat} {m i : Nat} (h : σ.length ≤ i) : rho σ m i = m + (i - σ.length) := by
  simp [rho, List.getElem?_eq_none h]

theorem call_value (P : Program) (f : FuncId) (fn : Func) (hf : P.funcs[f]? = some fn) (hb : fn.body.isSome = true) (hn : (fn.name == "runtime.NumGoroutine") = false) (args : Array Value) (w : World) :
    (callFunc f args).run P w = .ok (.enter f args) w := by
  have hb' : fn.body.isNone = false := by cases h : fn.body with | none => rw [h] at hb; cases hb | some _ => rfl
  unfold callFunc
  simp only [Sem.run_bind, run_program, Result.andThen_ok, hf, hn, hb', Bool.false_eq_true, if_false]
  rfl

def vals (s : St) (G : List (Nat × Bool)) : List Operand → Option (List AV)
  | [] => some []
  | x :: t => match val s G x, vals s G t with
    | some a, some l => some (a :: l)
    | _, _ => none
theorem vals_spec {n : Nat} {w0 : World} {D : Dm} {s : St} {a : Act} {w : World} (h : Rel n w0 D s a w) {G : List (Nat × Bool)} (hG : holds s G) : ∀ {xs : List Operand} {vs : List AV}, vals s G xs = some vs →
    xs.map a.eval = vs.map (AV.den (bls s.own)) ∧ ∀ v ∈ vs, v.ok s.own.length
  | [], vs, hv => by simp only [vals, Option.some.injEq] at hv; subst hv; exact ⟨rfl, fun v hv => by cases hv⟩
  | x :: xs, vs, hv => by
    simp only [vals] at hv
    split at hv
    · rename_i v l h1 h2
      injection hv with hv
      subst hv
      obtain ⟨e1, e2⟩ := h.val hG h1
      obtain ⟨g1, g2⟩ := vals_spec h hG h2
      refine ⟨by simp [e1, g1], fun y hy => ?_⟩
      rcases List.mem_cons.1 hy with rfl | hy
      · exact e2
      · exact g2 y hy
    · cases hv

/-- The part of a state's own blocks that a call is handed. -/
theorem MRel.part {own own0 : Own} {F : Frozen} {w : World} (h : MRel own F w) {σ : List Nat} (hn : σ.Nodup) {ρ : Nat → Nat} (hρ : ∀ i, i < own0.length → σ[i]? = some (ρ i))
    (h0 : ∀ (i b : Nat) (k : AB), own0[i]? = some (b, k) → own[ρ i]? = some (b, k.ren ρ) ∧ k.ok own0.length) : MRel own0 F w ∧ Fits own0.length ρ (bls own0) (bls own) := by
  have hfit : Fits own0.length ρ (bls own0) (bls own) := by
    intro i hi
    have : own0[i]? = some (own0[i].1, own0[i].2) := List.getElem?_eq_getElem hi
    rw [bls_get this, bls_get (h0 _ _ _ this).1]
  have hlt : ∀ {i b : Nat} {k : AB}, own0[i]? = some (b, k) → i < own0.length := fun hi => (List.getElem?_eq_some_iff.1 hi).1
  refine ⟨⟨?_, ?_, ?_, ?_, h.fz, ?_⟩, hfit⟩
  · intro i b k hi hd
    obtain ⟨h1, h2⟩ := h0 _ _ _ hi
    rw [h.blk _ _ _ h1 (fun e => hd (AB.ren_dead e)), AB.obj_ren hfit h2]
  · intro i b k hi
    exact h.lt _ _ _ (h0 _ _ _ hi).1
  · intro i j b k k' hi hj d1 d2
    have e := h.inj _ _ _ _ _ (h0 _ _ _ hi).1 (h0 _ _ _ hj).1 (fun e => d1 (AB.ren_dead e)) (fun e => d2 (AB.ren_dead e))
    have h1 := hρ i (hlt hi)
    have h2 := hρ j (hlt hj)
    rw [e] at h1
    obtain ⟨l1, g1⟩ := List.getElem?_eq_some_iff.1 h1
    obtain ⟨l2, g2⟩ := List.getElem?_eq_some_iff.1 h2
    exact (List.getElem_inj hn).1 (g1.trans g2.symm)
  · intro i b k hi
    exact (h0 _ _ _ hi).2
  · intro i b k hi hd
    exact h.ap _ _ _ (h0 _ _ _ hi).1 (fun e => hd (AB.ren_dead e))


/-- The result's and the blocks' places in the state behind a call. -/
theorem merge_spec {n : Nat} {w0 : World} {D : Dm} {s : St} {a : Act} {w w' : World} (h : Rel n w0 D s a w) {σ : List Nat} {own0 own' : Own} {F' : Frozen} (hn : σ.Nodup) (hlen : σ.length = own0.length) (hlive : ∀ (i b : Nat) (k : AB), own0[i]? = some (b, k) → k ≠ .dead)
    (h0 : ∀ (i b : Nat) (k : AB), own0[i]? = some (b, k) → s.own[rho σ s.own.length i]? = some (b, k.ren (rho σ s.own.length)))
    (hm : MRel own' F' w') (hpre : ∀ (r b : Nat) (k : AB), own0[r]? = some (b, k) → ∃ k', own'[r]? = some (b, k'))
    (hnew : ∀ (r b : Nat) (k : AB), own'[r]? = some (b, k) → own0.length ≤ r → w.heap.size ≤ b ∨ ∃ (r' : Nat) (k' : AB), own0[r']? = some (b, k')) (hfr : Fr w (fun b => ∃ (r : Nat) (k : AB), own0[r]? = some (b, k)) w')
    (hF : ∀ b, F' b ≠ none → s.F b ≠ none ∨ w.heap.size ≤ b ∨ ∃ (r : Nat) (k : AB), own0[r]? = some (b, k)) :
    Rel n w0 D (s.merge σ own' F') a w' ∧ Fits own'.length (rho σ s.own.length) (bls own') (bls (s.merge σ own' F').own) ∧ ∀ r, r < own'.length → rho σ s.own.length r < (s.merge σ own' F').own.length := by
  have hρ : ∃ ρ, ρ = rho σ s.own.length := ⟨_, rfl⟩
  obtain ⟨ρ, hρ⟩ := hρ
  have hM : ∃ M, M = (s.merge σ own' F').own := ⟨_, rfl⟩
  obtain ⟨M, hM⟩ := hM
  rw [← hρ, ← hM]
  rw [← hρ] at h0
  have hMd : M = setAll ρ s.own σ own' ++ (own'.drop σ.length).map (fun x => (x.1, x.2.ren ρ)) := by rw [hM, hρ]; rfl
  have hsl : (setAll ρ s.own σ own').length = s.own.length := setAll_length _ _ _ _
  have hle : own0.length ≤ own'.length := by
    rcases Nat.eq_zero_or_pos own0.length with e | e
    · omega
    · have h1 : own0[own0.length - 1]? = some (own0[own0.length - 1].1, own0[own0.length - 1].2) := List.getElem?_eq_getElem (by omega)
      obtain ⟨k', h2⟩ := hpre _ _ _ h1
      have := (List.getElem?_eq_some_iff.1 h2).1
      omega
  have hMl : M.length = s.own.length + (own'.length - own0.length) := by
    rw [hMd, List.length_append, hsl, List.length_map, List.length_drop, hlen]
  have hin : ∀ {i r : Nat}, σ[i]? = some r → ρ i = r := fun hi => by rw [hρ]; exact rho_in hi
  have hlow : ∀ {i : Nat}, i < own0.length → ∃ r, σ[i]? = some r ∧ ρ i = r ∧ r < s.own.length := by
    intro i hi
    have h1 : σ[i]? = some σ[i] := List.getElem?_eq_getElem (by omega)
    refine ⟨_, h1, hin h1, ?_⟩
    have h2 : own0[i]? = some (own0[i].1, own0[i].2) := List.getElem?_eq_getElem hi
    have h3 := h0 _ _ _ h2
    rw [hin h1] at h3
    exact (List.getElem?_eq_some_iff.1 h3).1
  -- what stands at a place
  have atIn : ∀ {i b : Nat} {k : AB}, i < own0.length → own'[i]? = some (b, k) → M[ρ i]? = some (b, k.ren ρ) := by
    intro i b k hi hk
    obtain ⟨r, h1, h2, h3⟩ := hlow hi
    rw [h2, hMd, List.getElem?_append_left (by rw [hsl]; exact h3)]
    exact setAll_in ρ _ _ _ i hn h1 hk h3
  have atNew : ∀ {i b : Nat} {k : AB}, own0.length ≤ i → own'[i]? = some (b, k) → M[ρ i]? = some (b, k.ren ρ) := by
    intro i b k hi hk
    have e : ρ i = s.own.length + (i - σ.length) := by rw [hρ]; exact rho_out (by omega)
    rw [e, hMd, List.getElem?_append_right (by rw [hsl]; omega), hsl, Nat.add_sub_cancel_left, List.getElem?_map, List.getElem?_drop, show σ.length + (i - σ.length) = i from by omega, hk]
    rfl
  have atAll : ∀ {i b : Nat} {k : AB}, own'[i]? = some (b, k) → M[ρ i]? = some (b, k.ren ρ) := by
    intro i b k hk
    rcases Nat.lt_or_ge i own0.length with hi | hi
    · exact atIn hi hk
    · exact atNew hi hk
  -- where something of a place comes from
  have from_ : ∀ {r b : Nat} {k : AB}, M[r]? = some (b, k) → (∃ i k', own'[i]? = some (b, k') ∧ k = k'.ren ρ ∧ r = ρ i ∧ (i < own0.length ∨ (own0.length ≤ i ∧ s.own.length ≤ r))) ∨ (r ∉ σ ∧ r < s.own.length ∧ s.own[r]? = some (b, k)) := by
    intro r b k hr
    rw [hMd] at hr
    rcases Nat.lt_or_ge r s.own.length with hl | hl
    · rw [List.getElem?_append_left (by rw [hsl]; exact hl)] at hr
      by_cases hmem : r ∈ σ
      · obtain ⟨i, hi, e⟩ := List.getElem_of_mem hmem
        have h1 : σ[i]? = some r := by rw [List.getElem?_eq_getElem hi, e]
        have hi' : i < own0.length := by omega
        have h2 : own'[i]? = some (own'[i].1, own'[i].2) := List.getElem?_eq_getElem (by omega)
        have h3 := setAll_in ρ _ _ _ i hn h1 h2 hl
        rw [h3] at hr
        injection hr with hr
        injection hr with e1 e2
        exact .inl ⟨i, own'[i].2, by rw [h2, e1], e2.symm, (hin h1).symm, .inl hi'⟩
      · rw [setAll_other ρ _ _ _ hmem] at hr
        exact .inr ⟨hmem, hl, hr⟩
    · rw [List.getElem?_append_right (by rw [hsl]; exact hl), hsl, List.getElem?_map, List.getElem?_drop] at hr
      cases h1 : own'[σ.length + (r - s.own.length)]? with
      | none => rw [h1] at hr; cases hr
      | some x =>
        rw [h1] at hr
        simp only [Option.map_some, Option.some.injEq, Prod.mk.injEq] at hr
        refine .inl ⟨σ.length + (r - s.own.length), x.2, by rw [h1, ← hr.1], hr.2.symm, ?_, .inr ⟨by omega, hl⟩⟩
        rw [hρ, rho_out (by omega)]
        omega
  have hfit : Fits own'.length ρ (bls own') (bls M) := by
    intro i hi
    have h2 : own'[i]? = some (own'[i].1, own'[i].2) := List.getElem?_eq_getElem hi
    rw [bls_get h2, bls_get (atAll h2)]
  have hlt : ∀ r, r < own'.length → ρ r < M.length := by
    intro r hr
    have h2 : own'[r]? = some (own'[r].1, own'[r].2) := List.getElem?_eq_getElem hr
    exact (List.getElem?_eq_some_iff.1 (atAll h2)).1
  have hfirst : ∀ {i b : Nat} {k : AB}, i < own0.length → own'[i]? = some (b, k) → ∃ k0, own0[i]? = some (b, k0) ∧ s.own[ρ i]? = some (b, k0.ren ρ) := by
    intro i b k hi hk
    have h1 : own0[i]? = some (own0[i].1, own0[i].2) := List.getElem?_eq_getElem hi
    obtain ⟨k', h2⟩ := hpre _ _ _ h1
    rw [hk] at h2
    injection h2 with h2
    injection h2 with e1 e2
    rw [← e1] at h1
    exact ⟨_, h1, h0 _ _ _ h1⟩
  have hag : Agree s.own.length (bls s.own) (bls M) := by
    intro r hr
    have h1 : s.own[r]? = some (s.own[r].1, s.own[r].2) := List.getElem?_eq_getElem hr
    have h2 : M[r]? = some (M[r].1, M[r].2) := List.getElem?_eq_getElem (by rw [hMl]; omega)
    rw [bls_get h1, bls_get h2]
    rcases from_ h2 with ⟨i, k', h3, _, h5, h6⟩ | ⟨_, _, h3⟩
    · rcases h6 with h6 | ⟨_, h6⟩
      · obtain ⟨k0, _, h8⟩ := hfirst h6 h3
        rw [← h5, h1] at h8
        injection h8 with h8
        injection h8 with e1 _
        exact e1.symm
      · omega
    · rw [h1] at h3
      injection h3 with h3
      injection h3 with e1 _
      exact e1.symm
  have hkeep : ∀ {r b : Nat} {k : AB}, r ∉ σ → s.own[r]? = some (b, k) → k ≠ .dead → ¬ ∃ (i : Nat) (k : AB), own0[i]? = some (b, k) := by
    rintro r b k hmem hr hk ⟨i, k0, hi⟩
    have h1 := h0 _ _ _ hi
    have e := h.mem.inj _ _ _ _ _ hr h1 hk (fun e => hlive _ _ _ hi (AB.ren_dead e))
    obtain ⟨r', h2, h3, _⟩ := hlow (List.getElem?_eq_some_iff.1 hi).1
    exact hmem (by rw [e, h3]; exact List.mem_of_getElem? h2)
  have hmrel : MRel M F' w' := by
    refine ⟨?_, ?_, ?_, ?_, hm.fz, ?_⟩
    · intro r b k hr hd
      rcases from_ hr with ⟨i, k', h1, h2, h3, h4⟩ | ⟨h1, h2, h3⟩
      · have hd' : k' ≠ .dead := fun e => hd (by rw [h2, e]; rfl)
        rw [hm.blk _ _ _ h1 hd', h2, AB.obj_ren hfit (hm.wf _ _ _ h1)]
      · rw [hfr.block b (h.mem.lt _ _ _ h3) (hkeep h1 h3 hd), h.mem.blk _ _ _ h3 hd, AB.obj_agree hag (h.mem.wf _ _ _ h3)]
    · intro r b k hr
      rcases from_ hr with ⟨i, k', h1, _⟩ | ⟨_, _, h3⟩
      · exact hm.lt _ _ _ h1
      · exact Nat.lt_of_lt_of_le (h.mem.lt _ _ _ h3) hfr.size
    · intro r r' b k k' hr hr' d1 d2
      have mixed : ∀ {r1 r2 i : Nat} {k1 k2 : AB}, own'[i]? = some (b, k1) → r1 = ρ i → (i < own0.length ∨ (own0.length ≤ i ∧ s.own.length ≤ r1)) → r2 ∉ σ → s.own[r2]? = some (b, k2) → k2 ≠ .dead → r1 = r2 := by
        intro r1 r2 i k1 k2 h1 h2 h3 h4 h5 h6
        rcases h3 with h3 | ⟨h3, _⟩
        · obtain ⟨k0, g1, _⟩ := hfirst h3 h1
          exact absurd ⟨_, _, g1⟩ (hkeep h4 h5 h6)
        · rcases hnew _ _ _ h1 h3 with g | g
          · have := h.mem.lt _ _ _ h5
            omega
          · exact absurd g (hkeep h4 h5 h6)
      rcases from_ hr with ⟨i, k1, h1, h2, h3, h4⟩ | ⟨h1, _, h3⟩ <;> rcases from_ hr' with ⟨j, k2, g1, g2, g3, g4⟩ | ⟨g1, _, g3⟩
      · rw [h3, g3, hm.inj _ _ _ _ _ h1 g1 (fun e => d1 (by rw [h2, e]; rfl)) (fun e => d2 (by rw [g2, e]; rfl))]
      · exact mixed h1 h3 h4 g1 g3 d2
      · exact (mixed g1 g3 g4 h1 h3 d1).symm
      · exact h.mem.inj _ _ _ _ _ h3 g3 d1 d2
    · intro r b k hr
      rcases from_ hr with ⟨i, k', h1, h2, _⟩ | ⟨_, _, h3⟩
      · rw [h2]
        exact AB.ok_ren hlt (hm.wf _ _ _ h1)
      · exact AB.ok_mono (h.mem.wf _ _ _ h3) (by rw [hMl]; omega)
    · intro r b k hr hd
      rcases from_ hr with ⟨i, k', h1, h2, _⟩ | ⟨h1, _, h3⟩
      · exact hm.ap _ _ _ h1 (fun e => hd (by rw [h2, e]; rfl))
      · cases hb : F' b with
        | none => rfl
        | some o =>
          rcases hF b (by rw [hb]; simp) with g | g | g
          · exact absurd (h.mem.ap _ _ _ h3 hd) g
          · have := h.mem.lt _ _ _ h3
            omega
          · exact absurd g (hkeep h1 h3 hd)
  refine ⟨⟨by rw [← hM]; exact hmrel, h.dn, h.sz, ?_, ?_, ?_, ?_, ?_⟩, hfit, hlt⟩
  · intro k v hk
    obtain ⟨g1, g2, g3⟩ := h.sl k v hk
    rw [← hM]
    exact ⟨g1, g2.trans (AV.den_agree hag g3).symm, AV.ok_mono g3 (by rw [hMl]; omega)⟩
  · intro k v G hk hg
    obtain ⟨g1, g2, g3, g4⟩ := h.gl k v G hk hg
    rw [← hM]
    rw [show holds (s.merge σ own' F') G ↔ holds s G from holds_own]
    exact ⟨g1, fun hh => ⟨(g2 hh).1.trans (AV.den_agree hag (g2 hh).2).symm, AV.ok_mono (g2 hh).2 (by rw [hMl]; omega)⟩, g3, g4⟩
  · intro r b k hr
    rw [← hM] at hr
    rcases from_ hr with ⟨i, k', h1, _, h3, h4⟩ | ⟨_, _, h3⟩
    · rcases h4 with h4 | ⟨h4, _⟩
      · obtain ⟨k0, _, g2⟩ := hfirst h4 h1
        exact h.may _ _ _ g2
      · rcases hnew _ _ _ h1 h4 with g | ⟨r', k0, g⟩
        · have := h.fr.size
          exact .inr (by omega)
        · exact h.may _ _ _ (h0 _ _ _ g)
    · exact h.may _ _ _ h3
  · refine h.fr.trans hfr fun b hb hx => ?_
    obtain ⟨i, k, hi⟩ := hx
    rcases h.may _ _ _ (h0 _ _ _ hi) with g | g
    · exact g
    · omega
  · intro b hb
    rcases hF b hb with g | g | ⟨i, k, g⟩
    · exact h.fd b g
    · exact .inr (.inr (Nat.le_trans h.fr.size g))
    · exact .inr (h.may _ _ _ (h0 _ _ _ g))

theorem sem_call {P : Program} {o : Oper} {s : St} {f : FuncId} {fn : Func} {cargs : Array Operand} {ts : Array TypeId} {vs : List AV} {own0 : Own} {R : AV → Own → Frozen → Prop} (ho : o.op = .call ⟨.value (.func f), cargs, ts⟩)
    (hf : P.funcs[f]? = some fn) (hb : fn.body.isSome = true) (hnm : (fn.name == "runtime.NumGoroutine") = false) (σ : List Nat) (hn : σ.Nodup) (hlen : σ.length = own0.length) {G : List (Nat × Bool)} (hG : holds s G)
    (hargs : vals s G cargs.toList = some (vs.map (AV.ren (rho σ s.own.length)))) (hvs : ∀ v ∈ vs, v.ok own0.length)
    (h0 : σ.map (fun r => s.own[r]?) = own0.map fun x => some (x.1, x.2.ren (rho σ s.own.length))) (hok : ∀ x ∈ own0, x.2.ok own0.length) (hlive : ∀ x ∈ own0, x.2 ≠ .dead) (hc : Con P f vs own0 s.F R) :
    OpCall P o s fun v' s' => ∃ v own' F', R v own' F' ∧ (∀ b o, s.F b = some o → F' b = some o) ∧ v' = v.ren (rho σ s.own.length) ∧ s' = s.merge σ own' F' := by
  intro n w0 D a w h
  have hlow : ∀ (i b : Nat) (k : AB), own0[i]? = some (b, k) → σ[i]? = some (rho σ s.own.length i) ∧ s.own[rho σ s.own.length i]? = some (b, k.ren (rho σ s.own.length)) := by
    intro i b k hi
    have hi' := (List.getElem?_eq_some_iff.1 hi).1
    have h1 : σ[i]? = some σ[i] := List.getElem?_eq_getElem (by omega)
    have h2 := congrArg (fun l => l[i]?) h0
    simp only [List.getElem?_map, h1, hi, Option.map_some, Option.some.injEq] at h2
    rw [rho_in h1]
    exact ⟨h1, h2⟩
  obtain ⟨hmr, hfit⟩ := h.mem.part hn (ρ := rho σ s.own.length) (own0 := own0) (fun i hi => by
    have h1 : own0[i]? = some (own0[i].1, own0[i].2) := List.getElem?_eq_getElem hi
    exact (hlow _ _ _ h1).1) (fun i b k hi => ⟨(hlow _ _ _ hi).2, hok _ (List.mem_of_getElem? hi)⟩)
  obtain ⟨g1, _⟩ := vals_spec h hG hargs
  refine ⟨f, (vs.map (AV.den (bls own0))).toArray, ?_, (hc w hmr).mono ?_⟩
  · unfold execOp
    rw [ho]
    simp only [Sem.run_bind, resolve, Deferred.ofValue, Act.eval, Sem.run_pure, Result.andThen_ok, invoke]
    have e : cargs.map a.eval ++ #[] = (vs.map (AV.den (bls own0))).toArray := by
      rw [Array.append_empty]
      apply Array.ext'
      rw [Array.toList_map, g1, List.map_map]
      exact List.map_congr_left fun v hv => AV.den_ren hfit (hvs v hv)
    have key := call_value P f fn hf hb hnm (vs.map (AV.den (bls own0))).toArray w
    rw [← e] at key ⊢
    simpa using key
  · rintro e w' ⟨v, own', F', rfl, hR, hm, hvok, hpre, hnew, hfr, hF, hF'⟩
    obtain ⟨m1, m2, m3⟩ := merge_spec h hn hlen (fun i b k hi => hlive _ (List.mem_of_getElem? hi)) (fun i b k hi => (hlow _ _ _ hi).2) hm hpre hnew hfr hF'
    exact ⟨v.ren (rho σ s.own.length), s.merge σ own' F', by rw [AV.den_ren m2 hvok], ⟨v, own', F', hR, hF, rfl, rfl⟩, m1, AV.ok_ren m3 hvok⟩

end Go.VC
