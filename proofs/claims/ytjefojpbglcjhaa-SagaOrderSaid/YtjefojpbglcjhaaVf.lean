/- A calculus of conditions for the loaded code: from a function's body to what a call of it does; less that is known. No statement of the seat is proved here. -/
import Derived.Test.YtjefojpbglcjhaaVe
namespace Go.VC
open Go

/-! Results. -/
def p2 : AV → Option P2
  | .a x => some (.a x)
  | .g l => some (.g l)
  | .t _ => none
theorem p2_den {v : AV} {x : P2} (h : p2 v = some x) (bl : List Nat) : v.den bl = x.den bl := by
  cases v <;> simp only [p2, Option.some.injEq, reduceCtorEq] at h <;> (subst h; rfl)
theorem p2_ok {v : AV} {x : P2} (h : p2 v = some x) {n : Nat} (hv : v.ok n) : x.ok n := by
  cases v <;> simp only [p2, Option.some.injEq, reduceCtorEq] at h <;> (subst h; exact hv)
def blkC (i : Nat) (z : Option (Option Nat)) : Option (Nat × AB) → Option AV
  | some (_, .c _ l) => cellsO i z l
  | _ => none
def loadC (own : Own) (z : Option (Option Nat)) : Option AV → Option AV
  | some (.a (.p r i)) => blkC i z own[r]?
  | _ => none
def res1 (T : Tab) (s : St) : ResultVar → Option P2
  | .tmp t => (look s.sl t).bind p2
  | .cell t ty => (loadC s.own (T.sz ty) (look s.sl t)).bind p2
def resL (T : Tab) (s : St) : List ResultVar → Option (List P2)
  | [] => some []
  | x :: t => match res1 T s x, resL T s t with
    | some a, some l => some (a :: l)
    | _, _ => none
def resV : List P2 → AV
  | [x] => x.av
  | l => .t l

theorem run_loadAt {P : Program} (t : TypeId) (ad : Addr) (w : World) : (Instr.loadAt t (.pointer (some ad))).run P w = (loadVar t ad).run P w := by
  simp [Instr.loadAt, Instr.sureAddr]
theorem loadO_run {P : Program} {T : Tab} (hT : T.Ok P) {n : Nat} {w0 : World} {D : Dm} {s : St} {a : Act} {w : World} (h : Rel n w0 D s a w) {t : TypeId} {x u : AV} (hx : x.ok s.own.length)
    (hl : loadC s.own (T.sz t) (some x) = some u) : ∃ ad, x.den (bls s.own) = .pointer (some ad) ∧ (loadVar t ad).run P w = .ok (u.den (bls s.own)) w ∧ u.ok s.own.length := by
  unfold loadC at hl
  split at hl
  · rename_i r i hx'
    injection hx' with hx'
    subst hx'
    refine ⟨⟨(bls s.own).getD r 0, i, none⟩, rfl, ?_⟩
    unfold blkC at hl
    split at hl
    · rename_i b ty l hr
      have hb : (bls s.own).getD r 0 = b := bls_get hr
      have hwf := h.mem.wf _ _ _ hr
      rw [hb]
      cases hz : T.sz t with
      | none => rw [hz] at hl; cases hl
      | some z =>
        cases z with
        | none =>
          rw [hz] at hl
          simp only [cellsO] at hl
          obtain ⟨d, ti, h1, h2, _, _⟩ := hT.sz1 _ hz
          cases hli : l[i]? with
          | none => rw [hli] at hl; cases hl
          | some y =>
            rw [hli] at hl
            simp only [Option.map_some, Option.some.injEq] at hl
            subst hl
            have hc : w.cell? ⟨b, i, none⟩ = some (y.den (bls s.own)) := by rw [cell_of_own h.mem hr, hli]; rfl
            refine ⟨?_, hwf y (List.mem_of_getElem? hli)⟩
            rw [← run_loadAt]
            exact run_loadVar1 w h1 h2 hc
        | some m =>
          rw [hz] at hl
          simp only [cellsO] at hl
          obtain ⟨d, ti, h1, h2, h3, h4⟩ := hT.szn _ _ hz
          split at hl
          · rename_i hle
            injection hl with hl
            subst hl
            have hlen : (((l.drop i).take m).map (A1.den (bls s.own))).length = ti.size := by
              rw [h4]; simp; omega
            refine ⟨?_, fun y hy => hwf y (List.mem_of_mem_drop (List.mem_of_mem_take hy))⟩
            rw [← run_loadAt, run_loadVarN (a := ⟨b, i, none⟩) w h1 h2 h3 hlen (fun j v hj => ?_)]
            · rfl
            · rw [add_off, cell_of_own h.mem hr]
              rw [List.getElem?_map, List.getElem?_take] at hj
              split at hj
              · rw [List.getElem?_drop] at hj
                exact hj
              · cases hj
          · cases hl
    · cases hl
  · cases hl

def resF (a : Act) : ResultVar → Sem Value
  | .tmp t => pure (a.tmps.getD t undef)
  | .cell b t => do loadVar t (← asAddr (a.tmps.getD b undef))
theorem results_eq (fn : Func) (a : Act) : results fn a.tmps = (do let vs ← fn.results.mapM (resF a); pure (if h : vs.size = 1 then vs[0] else .tuple vs)) := by
  unfold results
  congr 1
theorem res1_ok {P : Program} {T : Tab} (hT : T.Ok P) {n : Nat} {w0 : World} {D : Dm} {s : St} {a : Act} {w : World} (h : Rel n w0 D s a w) {x : ResultVar} {p : P2} (hx : res1 T s x = some p) :
    (resF a x).run P w = .ok (p.den (bls s.own)) w ∧ p.ok s.own.length := by
  cases x with
  | tmp t =>
    simp only [res1] at hx
    cases hl : look s.sl t with
    | none => rw [hl] at hx; cases hx
    | some v =>
      rw [hl] at hx
      simp only [Option.bind_some] at hx
      obtain ⟨_, h2, h3⟩ := h.sl _ _ hl
      simp only [resF, Sem.run_pure, h2, p2_den hx]
      exact ⟨trivial, p2_ok hx h3⟩
  | cell t ty =>
    simp only [res1] at hx
    cases hl : look s.sl t with
    | none => rw [hl] at hx; simp [loadC] at hx
    | some v =>
      rw [hl] at hx
      obtain ⟨_, h2, h3⟩ := h.sl _ _ hl
      cases hu : loadC s.own (T.sz ty) (some v) with
      | none => rw [hu] at hx; cases hx
      | some u =>
        rw [hu] at hx
        simp only [Option.bind_some] at hx
        obtain ⟨ad, e1, e2, e3⟩ := loadO_run hT h h3 hu
        simp only [resF, h2, e1, asAddr, Sem.run_bind, Sem.run_pure, Result.andThen_ok, e2, p2_den hx]
        exact ⟨trivial, p2_ok hx e3⟩

theorem run_mapM_list {P : Program} {α : Type} (f : α → Sem Value) : ∀ (l : List α) (vs : List Value) (w : World), l.length = vs.length → (∀ (i : Nat) (x : α) (v : Value), l[i]? = some x → vs[i]? = some v → (f x).run P w = .ok v w) →
    (l.mapM f).run P w = .ok vs w
  | [], [], w, _, _ => rfl
  | x :: l, v :: vs, w, hlen, h => by
    rw [List.mapM_cons]
    have h1 := h 0 x v rfl rfl
    have h2 := run_mapM_list f l vs w (by simpa using hlen) (fun i y u hy hu => h (i + 1) y u hy hu)
    simp only [Sem.run_bind, h1, Result.andThen_ok, h2, Sem.run_pure]
  | [], _ :: _, _, hlen, _ => by simp at hlen
  | _ :: _, [], _, hlen, _ => by simp at hlen

theorem resL_ok {P : Program} {T : Tab} (hT : T.Ok P) {n : Nat} {w0 : World} {D : Dm} {s : St} {a : Act} {w : World} (h : Rel n w0 D s a w) : ∀ {xs : List ResultVar} {l : List P2}, resL T s xs = some l →
    xs.length = l.length ∧ (∀ p ∈ l, p.ok s.own.length) ∧ ∀ (i : Nat) (x : ResultVar) (p : P2), xs[i]? = some x → l[i]? = some p → res1 T s x = some p
  | [], l, hl => by
    simp only [resL, Option.some.injEq] at hl
    subst hl
    exact ⟨rfl, fun p hp => (by cases hp), fun i x p hx => (by simp at hx)⟩
  | x :: xs, l, hl => by
    simp only [resL] at hl
    split at hl
    · rename_i p l' h1 h2
      injection hl with hl
      subst hl
      obtain ⟨g1, g2, g3⟩ := resL_ok hT h h2
      refine ⟨by simp [g1], ?_, ?_⟩
      · intro q hq
        rcases List.mem_cons.1 hq with rfl | hq
        · exact (res1_ok hT h h1).2
        · exact g2 q hq
      · intro i y q hy hq
        cases i with
        | zero =>
          simp only [List.getElem?_cons_zero, Option.some.injEq] at hy hq
          subst hy hq
          exact h1
        | succ i => exact g3 i y q (by simpa using hy) (by simpa using hq)
    · cases hl

theorem results_ok {P : Program} {T : Tab} (hT : T.Ok P) {n : Nat} {w0 : World} {D : Dm} {s : St} {a : Act} {w : World} (h : Rel n w0 D s a w) {fn : Func} {rs : List ResultVar} (hrs : fn.results = rs.toArray) {l : List P2} (hl : resL T s rs = some l) :
    (results fn a.tmps).run P w = .ok ((resV l).den (bls s.own)) w ∧ (resV l).ok s.own.length := by
  obtain ⟨g1, g2, g3⟩ := resL_ok hT h hl
  have hm := run_mapM_list (P := P) (resF a) rs (l.map (P2.den (bls s.own))) w (by simpa using g1)
    (fun i x v hx hv => by
      rw [List.getElem?_map] at hv
      cases hp : l[i]? with
      | none => rw [hp] at hv; cases hv
      | some p =>
        rw [hp] at hv
        simp only [Option.map_some, Option.some.injEq] at hv
        subst hv
        exact (res1_ok hT h (g3 i x p hx hp)).1)
  constructor
  · rw [results_eq, hrs, List.mapM_toArray]
    simp only [Sem.run_bind, Sem.run_map, hm, Result.andThen_ok, Sem.run_pure]
    match l, g2 with
    | [], _ => rfl
    | [.a x], _ => rfl
    | [.g x], _ => rfl
    | p :: q :: t, _ =>
      rw [dif_neg (by simp)]
      rfl
  · match l, g2 with
    | [], _ => exact fun x hx => (by cases hx)
    | [.a x], g => exact g _ (List.mem_singleton.2 rfl)
    | [.g x], g => exact g _ (List.mem_singleton.2 rfl)
    | p :: q :: t, g => exact g

/-! Less that is known. -/
theorem Less.trans {s s2 s3 : St} (h : Less s s2) (h' : Less s2 s3) : Less s s3 := fun n w0 D a w hr => h' n w0 D a w (h n w0 D a w hr)

def tau (τ : List Nat) (i : Nat) : Nat := τ.getD i 0
/-- What is known of slots in s3 is known in s, under other numbers. -/
def slIn (s : St) (τ : List Nat) (m : Nat) : List (Nat × AV) → Prop
  | [] => True
  | (k, v) :: t => (look s.sl k = some (v.ren (tau τ)) ∧ v.ok m) ∧ slIn s τ m t
theorem slIn_look {s : St} {τ : List Nat} {m : Nat} {k : Nat} {v : AV} : ∀ {l : List (Nat × AV)}, slIn s τ m l → look l k = some v → look s.sl k = some (v.ren (tau τ)) ∧ v.ok m
  | [], _, h => by cases h
  | (k', v') :: t, h, hl => by
    simp only [look] at hl
    split at hl
    · rename_i e
      subst e
      injection hl with hl
      subst hl
      exact h.1
    · exact slIn_look h.2 hl
/-- The same of own blocks: τ says where they stand in s. -/
def ownIn (s : St) (τ0 : List Nat) (m : Nat) : List Nat → Own → Prop
  | [], [] => True
  | r :: τ, (b, k) :: t => (∃ k0, s.own[r]? = some (b, k0) ∧ (k = .dead ∨ k0 = k.ren (tau τ0)) ∧ k.ok m) ∧ ownIn s τ0 m τ t
  | _, _ => False
theorem ownIn_get {s : St} {τ0 : List Nat} {m : Nat} : ∀ {τ : List Nat} {o : Own}, ownIn s τ0 m τ o → τ.length = o.length ∧ ∀ (i b : Nat) (k : AB), o[i]? = some (b, k) → ∃ r k0, τ[i]? = some r ∧ s.own[r]? = some (b, k0) ∧ (k = .dead ∨ k0 = k.ren (tau τ0)) ∧ k.ok m
  | [], [], _ => ⟨rfl, fun i b k h => (by simp at h)⟩
  | r :: τ, (b, k) :: t, h => by
    obtain ⟨⟨k0, h1, h2, h3⟩, h4⟩ := h
    obtain ⟨g1, g2⟩ := ownIn_get h4
    refine ⟨by simp [g1], fun i b' k' hi => ?_⟩
    cases i with
    | zero =>
      simp only [List.getElem?_cons_zero, Option.some.injEq, Prod.mk.injEq] at hi
      obtain ⟨rfl, rfl⟩ := hi
      exact ⟨r, k0, rfl, h1, h2, h3⟩
    | succ i =>
      obtain ⟨r', k0', e1, e2⟩ := g2 i b' k' (by simpa using hi)
      exact ⟨r', k0', by simpa using e1, e2⟩
  | [], _ :: _, h => h.elim
  | _ :: _, [], h => h.elim

theorem less_covers {s s3 : St} (τ : List Nat) (hn : τ.Nodup) (hsl : slIn s τ s3.own.length s3.sl) (hown : ownIn s τ s3.own.length τ s3.own) (hgl : s3.gl = []) (hF : ∀ b o, s3.F b = some o → s.F b = some o) : Less s s3 := by
  intro n w0 D a w h
  obtain ⟨hlen, hget⟩ := ownIn_get hown
  have ht : ∀ {i r : Nat}, τ[i]? = some r → tau τ i = r := fun hi => by simp [tau, List.getD, hi]
  have hfit : Fits s3.own.length (tau τ) (bls s3.own) (bls s.own) := by
    intro i hi
    have h1 : s3.own[i]? = some (s3.own[i].1, s3.own[i].2) := List.getElem?_eq_getElem hi
    obtain ⟨r, k0, h2, h3, _⟩ := hget _ _ _ h1
    rw [bls_get h1, ht h2, bls_get h3]
  refine ⟨⟨?_, ?_, ?_, ?_, ?_, ?_⟩, h.dn, h.sz, ?_, ?_, ?_, h.fr, fun b hb => h.fd b (fun e => hb (by
    cases hs : s3.F b with
    | none => rfl
    | some o => rw [hF b o hs] at e; cases e))⟩
  · intro i b k hi hd
    obtain ⟨r, k0, h2, h3, h4, h5⟩ := hget _ _ _ hi
    rcases h4 with h4 | h4
    · exact absurd h4 hd
    · rw [h.mem.blk _ _ _ h3 (fun e => hd (AB.ren_dead (h4.symm.trans e))), h4, AB.obj_ren hfit h5]
  · intro i b k hi
    obtain ⟨r, k0, h2, h3, _⟩ := hget _ _ _ hi
    exact h.mem.lt _ _ _ h3
  · intro i j b k k' hi hj d1 d2
    obtain ⟨r, k0, h2, h3, h4, _⟩ := hget _ _ _ hi
    obtain ⟨r', k0', h2', h3', h4', _⟩ := hget _ _ _ hj
    have e := h.mem.inj _ _ _ _ _ h3 h3' (fun e => h4.elim (fun g => d1 g) fun g => d1 (AB.ren_dead (g.symm.trans e))) (fun e => h4'.elim (fun g => d2 g) fun g => d2 (AB.ren_dead (g.symm.trans e)))
    subst e
    obtain ⟨l1, g1⟩ := List.getElem?_eq_some_iff.1 h2
    obtain ⟨l2, g2⟩ := List.getElem?_eq_some_iff.1 h2'
    exact (List.getElem_inj hn).1 (g1.trans g2.symm)
  · intro i b k hi
    obtain ⟨r, k0, h2, h3, h4, h5⟩ := hget _ _ _ hi
    exact h5
  · intro b o hb
    exact h.mem.fz _ _ (hF b o hb)
  · intro i b k hi hd
    obtain ⟨r, k0, h2, h3, h4, h5⟩ := hget _ _ _ hi
    rcases h4 with h4 | h4
    · exact absurd h4 hd
    · have := h.mem.ap _ _ _ h3 (fun e => hd (AB.ren_dead (h4.symm.trans e)))
      cases hb : s3.F b with
      | none => rfl
      | some o => rw [hF _ _ hb] at this; cases this
  · intro k v hk
    obtain ⟨h1, h2⟩ := slIn_look hsl hk
    obtain ⟨g1, g2, _⟩ := h.sl _ _ h1
    exact ⟨g1, g2.trans (AV.den_ren hfit h2), h2⟩
  · intro k v G _ hg
    rw [hgl] at hg
    cases hg
  · intro i b k hi
    obtain ⟨r, k0, h2, h3, _⟩ := hget _ _ _ hi
    exact h.may _ _ _ h3

/-- An own block that will not be written any more is frozen. -/
theorem less_freeze {s : St} {r b : Nat} {k : AB} (hr : s.own[r]? = some (b, k)) (hd : k ≠ .dead) :
    Less s { s with own := s.own.set r (b, .dead), F := fun x => if x = b then some (k.obj (bls s.own)) else s.F x } := by
  intro n w0 D a w h
  have h1 := h.turn (k' := .dead) (w' := w) hr hd trivial rfl (fun e => absurd rfl e) (fun _ _ => rfl) rfl rfl rfl
  refine ⟨⟨h1.mem.blk, h1.mem.lt, h1.mem.inj, h1.mem.wf, ?_, ?_⟩, h1.dn, h1.sz, h1.sl, ?_, h1.may, h1.fr, fun b' hb' => by
    dsimp only at hb'
    split at hb'
    · rename_i e
      subst e
      exact .inr (h.may _ _ _ hr)
    · exact h.fd b' hb'⟩
  · intro b' o hb
    dsimp only at hb
    split at hb
    · rename_i e
      subst e
      injection hb with hb
      subst hb
      exact h.mem.blk _ _ _ hr hd
    · exact h.mem.fz _ _ hb
  · intro r' b' k' hr' hd'
    have hne : b' ≠ b := fun e => by
      subst e
      have h2 : (s.own.set r (b', .dead))[r]? = some (b', .dead) := by
        rw [List.getElem?_set, if_pos rfl, if_pos (List.getElem?_eq_some_iff.1 hr).1]
      have hr2 : (s.own.set r (b', .dead))[r']? = some (b', k') := hr'
      by_cases e : r = r'
      · subst e
        rw [h2] at hr2
        injection hr2 with hr2
        injection hr2 with _ e2
        exact hd' e2.symm
      · rw [List.getElem?_set, if_neg e] at hr2
        exact e (h.mem.inj _ _ _ _ _ hr hr2 hd hd')
    show (if b' = b then _ else s.F b') = none
    rw [if_neg hne]
    exact h1.mem.ap _ _ _ hr' hd'
  · intro k' v G hk hg
    have := h1.gl k' v G hk hg
    rw [show holds { s with own := s.own.set r (b, .dead), F := fun x => if x = b then some (k.obj (bls s.own)) else s.F x } G ↔ holds { s with own := s.own.set r (b, .dead) } G from Iff.trans holds_own holds_own.symm]
    exact this

/-! From a body to a contract. -/
def enumFrom : Nat → List AV → List (Nat × AV)
  | _, [] => []
  | i, v :: t => (i, v) :: enumFrom (i + 1) t
theorem look_enum {k : Nat} {v : AV} : ∀ {i : Nat} {l : List AV}, look (enumFrom i l) k = some v → i ≤ k ∧ l[k - i]? = some v
  | _, [], h => by cases h
  | i, x :: t, h => by
    simp only [enumFrom, look] at h
    split at h
    · rename_i e
      subst e
      injection h with h
      subst h
      exact ⟨Nat.le_refl _, by simp⟩
    · rename_i e
      obtain ⟨h1, h2⟩ := look_enum h
      refine ⟨by omega, ?_⟩
      rw [show k - i = (k - (i + 1)) + 1 from by omega]
      simpa using h2
/-- Own blocks that were stay ahead. -/
def preO : Own → Own → Prop
  | [], _ => True
  | (b, _) :: t, (b', _) :: t' => b = b' ∧ preO t t'
  | _ :: _, [] => False
theorem preO_get : ∀ {o o' : Own}, preO o o' → ∀ (r b : Nat) (k : AB), o[r]? = some (b, k) → ∃ k', o'[r]? = some (b, k')
  | [], _, _, r, b, k, h => by simp at h
  | (b0, k0) :: t, (b1, k1) :: t', h, 0, b, k, hr => by
    simp only [List.getElem?_cons_zero, Option.some.injEq, Prod.mk.injEq] at hr
    obtain ⟨rfl, rfl⟩ := hr
    exact ⟨k1, by rw [h.1]; rfl⟩
  | (b0, k0) :: t, (b1, k1) :: t', h, r + 1, b, k, hr => by
    obtain ⟨k', hk'⟩ := preO_get h.2 r b k (by simpa using hr)
    exact ⟨k', by simpa using hk'⟩
  | _ :: _, [], h, _, _, _, _ => h.elim

/-- What must hold where a body ends. -/
def QF (T : Tab) (rs : List ResultVar) (own : Own) (F : Frozen) (R : AV → Own → Frozen → Prop) (e : Exit) (s : St) : Prop :=
  (match e with | .normal => True | .ret => True | _ => False) ∧
  ∃ l, resL T s rs = some l ∧ ∃ τ v own2, (τ.Nodup ∧ ownIn s τ own2.length τ own2) ∧ (resV l = v.ren (tau τ) ∧ v.ok own2.length) ∧ preO own own2 ∧ (∀ b o, F b = some o → s.F b = some o) ∧ R v own2 s.F

theorem con_run {P : Program} {T : Tab} (hT : T.Ok P) {f : FuncId} {fn : Func} {c : Code} {rs : List ResultVar} {vs : List AV} {own : Own} {F : Frozen} {R : AV → Own → Frozen → Prop} (hf : P.funcs[f]? = some fn) (hb : fn.body = some c) (hrs : fn.results = rs.toArray)
    (hnt : vs.length ≤ fn.ntmps) (hok : ∀ v ∈ vs, v.ok own.length) (h : RunW P fn.ntmps (QF T rs own F R) [.code c] ⟨enumFrom 0 vs, [], [], own, F⟩) : Con P f vs own F R := by
  intro w hw
  refine calls_of_wp hf hb ?_
  have hrel : Rel fn.ntmps w ⟨fun b => ∃ (r : Nat) (k : AB), own[r]? = some (b, k), fun b => F b ≠ none⟩ ⟨enumFrom 0 vs, [], [], own, F⟩
      { tmps := (vs.map (AV.den (bls own))).toArray ++ Array.replicate (fn.ntmps - (vs.map (AV.den (bls own))).toArray.size) undef, defers := [] } w := by
    refine ⟨hw, rfl, by simp; omega, ?_, fun k v G _ hg => (by cases hg), fun r b k hr => .inl ⟨r, k, hr⟩, Fr.refl _ _, fun b hb => .inl hb⟩
    intro k v hk
    obtain ⟨_, h2⟩ := look_enum hk
    rw [Nat.sub_zero] at h2
    have hl := (List.getElem?_eq_some_iff.1 h2).1
    refine ⟨by omega, ?_, hok v (List.mem_of_getElem? h2)⟩
    rw [Array.getD_eq_getD_getElem?, Array.getElem?_append_left (by simpa using hl)]
    simp [h2]
  have := h.sound w ⟨fun b => ∃ (r : Nat) (k : AB), own[r]? = some (b, k), fun b => F b ≠ none⟩ _ _ hrel
  refine wp_mono this fun e a w' hp => ?_
  obtain ⟨_, s, hr, hq, l, hl, τ, v, own2, ⟨hn, hown⟩, ⟨hv, hvok⟩, hpre, hF, hR⟩ := hp
  obtain ⟨r1, r2⟩ := results_ok hT hr hrs hl
  obtain ⟨hlen, hget⟩ := ownIn_get hown
  -- the state that keeps what the result needs
  have hless := less_covers (s := s) (s3 := ⟨[], [], [], own2, s.F⟩) τ hn trivial hown rfl (fun _ _ h => h) _ _ _ _ _ hr
  have hfit : Fits own2.length (tau τ) (bls own2) (bls s.own) := by
    intro i hi
    have h1 : own2[i]? = some (own2[i].1, own2[i].2) := List.getElem?_eq_getElem hi
    obtain ⟨r, k0, h2, h3, _⟩ := hget _ _ _ h1
    have : tau τ i = r := by simp [tau, List.getD, h2]
    rw [bls_get h1, this, bls_get h3]
  have hgoal : ∃ v' own' F', (Ending.returned ((resV l).den (bls s.own))) = .returned (AV.den (bls own') v') ∧ R v' own' F' ∧ MRel own' F' w' ∧ v'.ok own'.length ∧
      (∀ (r b : Nat) (k : AB), own[r]? = some (b, k) → ∃ k', own'[r]? = some (b, k')) ∧ (∀ (r b : Nat) (k : AB), own'[r]? = some (b, k) → own.length ≤ r → w.heap.size ≤ b ∨ ∃ (r' : Nat) (k' : AB), own[r']? = some (b, k')) ∧
      Fr w (fun b => ∃ (r : Nat) (k : AB), own[r]? = some (b, k)) w' ∧ (∀ b o, F b = some o → F' b = some o) ∧ (∀ b, F' b ≠ none → F b ≠ none ∨ w.heap.size ≤ b ∨ ∃ (r : Nat) (k : AB), own[r]? = some (b, k)) := by
    refine ⟨v, own2, s.F, by rw [hv, AV.den_ren hfit hvok], hR, hless.mem, hvok, preO_get hpre, ?_, hr.fr, hF, ?_⟩
    · intro r b k hr' hle
      rcases hless.may _ _ _ hr' with ⟨r0, k0, g⟩ | g
      · exact .inr ⟨_, _, g⟩
      · exact .inl g
    · intro b hb
      rcases hr.fd b hb with g | g | g
      · exact .inl g
      · exact .inr (.inr g)
      · exact .inr (.inl g)
  cases e with
  | normal => exact ⟨hr.dn, _, r1, hgoal⟩
  | ret => exact ⟨hr.dn, _, r1, hgoal⟩
  | exit _ => exact hq.elim
  | goto _ => exact hq.elim
  | panic _ => exact hq.elim
  | outgrown => exact hq.elim

end Go.VC
