/- A calculus of conditions for the loaded code: own blocks that are frozen, and what leads to them then; what is forgotten of a call. No statement of the seat is proved here. -/
import Derived.Test.YtjefojpbglcjhaaVm
namespace Go.VC
open Go
set_option linter.unusedSimpArgs false

/-- A cell, told by its value where it leads to a block of rs. -/
def A1.lit (rs bl : List Nat) : A1 → A1
  | .v x => .v x
  | .p r i => if rs.contains r = true then .v ((A1.p r i).den bl) else .p r i
  | .s r i n c => if rs.contains r = true then .v ((A1.s r i n c).den bl) else .s r i n c
  | .m r => .m r
  | .fn f caps => .fn f caps
def P2.lit (rs bl : List Nat) : P2 → P2
  | .a x => .a (x.lit rs bl)
  | .g l => .g (l.map (A1.lit rs bl))
def AV.lit (rs bl : List Nat) : AV → AV
  | .a x => .a (x.lit rs bl)
  | .g l => .g (l.map (A1.lit rs bl))
  | .t l => .t (l.map (P2.lit rs bl))
def AB.lit (rs bl : List Nat) : AB → AB
  | .c ty l => .c ty (l.map (A1.lit rs bl))
  | .raw ty l fr => .raw ty l fr
  | .it s p => .it s p
  | .mp es cl => .mp es cl
  | .dead => .dead
theorem A1.lit_den {rs bl : List Nat} (x : A1) : (x.lit rs bl).den bl = x.den bl := by
  cases x <;> simp only [A1.lit] <;> first | rfl | (split <;> rfl)
theorem A1.lit_ok {rs bl : List Nat} {n : Nat} {x : A1} (h : x.ok n) : (x.lit rs bl).ok n := by
  cases x <;> simp only [A1.lit] <;> first | exact h | (split <;> first | exact h | trivial)
theorem map_lit_den {rs bl : List Nat} (l : List A1) : (l.map (A1.lit rs bl)).map (A1.den bl) = l.map (A1.den bl) := by
  rw [List.map_map]
  exact List.map_congr_left fun x _ => A1.lit_den x
theorem map_lit_ok {rs bl : List Nat} {n : Nat} {l : List A1} (h : ∀ x ∈ l, x.ok n) : ∀ x ∈ l.map (A1.lit rs bl), x.ok n := by
  intro x hx
  obtain ⟨y, hy, rfl⟩ := List.mem_map.1 hx
  exact A1.lit_ok (h y hy)
theorem P2.lit_den {rs bl : List Nat} (x : P2) : (x.lit rs bl).den bl = x.den bl := by
  cases x with
  | a x => exact A1.lit_den x
  | g l => simp only [P2.lit, P2.den, map_lit_den]
theorem P2.lit_ok {rs bl : List Nat} {n : Nat} {x : P2} (h : x.ok n) : (x.lit rs bl).ok n := by
  cases x with
  | a x => exact A1.lit_ok h
  | g l => exact map_lit_ok h
theorem AV.lit_den {rs bl : List Nat} (x : AV) : (x.lit rs bl).den bl = x.den bl := by
  cases x with
  | a x => exact A1.lit_den x
  | g l => simp only [AV.lit, AV.den, map_lit_den]
  | t l =>
    simp only [AV.lit, AV.den, List.map_map]
    congr 2
    exact List.map_congr_left fun x _ => P2.lit_den x
theorem AV.lit_ok {rs bl : List Nat} {n : Nat} {x : AV} (h : x.ok n) : (x.lit rs bl).ok n := by
  cases x with
  | a x => exact A1.lit_ok h
  | g l => exact map_lit_ok h
  | t l =>
    intro x hx
    obtain ⟨y, hy, rfl⟩ := List.mem_map.1 hx
    exact P2.lit_ok (h y hy)
theorem AB.lit_obj {rs bl : List Nat} (x : AB) : (x.lit rs bl).obj bl = x.obj bl := by
  cases x <;> simp only [AB.lit, AB.obj, map_lit_den]
theorem AB.lit_ok {rs bl : List Nat} {n : Nat} {x : AB} (h : x.ok n) : (x.lit rs bl).ok n := by
  cases x <;> simp only [AB.lit] <;> first | exact h | exact map_lit_ok h
theorem AB.lit_dead {rs bl : List Nat} {x : AB} (h : x ≠ .dead) : x.lit rs bl ≠ .dead := by
  cases x <;> simp_all [AB.lit]
def litSl (rs bl : List Nat) : List (Nat × AV) → List (Nat × AV)
  | [] => []
  | (k, v) :: t => (k, v.lit rs bl) :: litSl rs bl t
def litOwn (rs bl : List Nat) : Nat → Own → Own
  | _, [] => []
  | i, (b, k) :: t => (b, if rs.contains i = true then .dead else k.lit rs bl) :: litOwn rs bl (i + 1) t
theorem look_lit {rs bl : List Nat} {k : Nat} {v : AV} : ∀ {l : List (Nat × AV)}, look (litSl rs bl l) k = some v → ∃ u, look l k = some u ∧ v = u.lit rs bl
  | [], h => by cases h
  | (j, u) :: t, h => by
    simp only [litSl, look] at h ⊢
    split at h
    · rename_i e
      injection h with h
      exact ⟨u, by rw [if_pos e], h.symm⟩
    · rename_i e
      rw [if_neg e]
      exact look_lit h
theorem litOwn_len {rs bl : List Nat} : ∀ {i : Nat} {o : Own}, (litOwn rs bl i o).length = o.length
  | _, [] => rfl
  | i, (b, k) :: t => by simp [litOwn, litOwn_len]
theorem litOwn_get {rs bl : List Nat} {r b : Nat} {k : AB} : ∀ {i : Nat} {o : Own}, (litOwn rs bl i o)[r]? = some (b, k) → ∃ k0, o[r]? = some (b, k0) ∧ (rs.contains (i + r) = true ∧ k = .dead ∨ rs.contains (i + r) = false ∧ k = k0.lit rs bl) := by
  induction r with
  | zero =>
    intro i o h
    cases o with
    | nil => simp [litOwn] at h
    | cons x t =>
      obtain ⟨b', k'⟩ := x
      simp only [litOwn, List.getElem?_cons_zero, Option.some.injEq, Prod.mk.injEq] at h
      obtain ⟨rfl, rfl⟩ := h
      refine ⟨k', rfl, ?_⟩
      rw [Nat.add_zero]
      cases hc : rs.contains i <;> simp
  | succ r ih =>
    intro i o h
    cases o with
    | nil => simp [litOwn] at h
    | cons x t =>
      obtain ⟨b', k'⟩ := x
      simp only [litOwn, List.getElem?_cons_succ] at h
      obtain ⟨k0, h1, h2⟩ := ih h
      refine ⟨k0, by simpa using h1, ?_⟩
      rw [show i + (r + 1) = i + 1 + r from by omega]
      exact h2
theorem litOwn_bls {rs bl : List Nat} : ∀ {i : Nat} {o : Own}, bls (litOwn rs bl i o) = bls o
  | _, [] => rfl
  | i, (b, k) :: t => by
    have := litOwn_bls (rs := rs) (bl := bl) (i := i + 1) (o := t)
    simp only [bls, litOwn, List.map_cons] at this ⊢
    rw [this]
/-- What is frozen, with blocks of one's own. -/
def frzMore (s : St) : List Nat → Frozen
  | [] => s.F
  | r :: t => fun x => match s.own[r]? with
    | some (b, k) => if x = b then some (k.obj (bls s.own)) else frzMore s t x
    | none => frzMore s t x
def liveAll (s : St) : List Nat → Prop
  | [] => True
  | r :: t => (match s.own[r]? with | some (_, k) => k ≠ .dead | none => False) ∧ liveAll s t
theorem liveAll_get {s : St} {r : Nat} : ∀ {rs : List Nat}, liveAll s rs → r ∈ rs → ∃ b k, s.own[r]? = some (b, k) ∧ k ≠ .dead
  | [], _, h => by cases h
  | q :: t, h, hr => by
    rcases List.mem_cons.1 hr with rfl | hr
    · have h1 := h.1
      split at h1
      · rename_i b k hk
        exact ⟨b, k, hk, h1⟩
      · exact h1.elim
    · exact liveAll_get h.2 hr
theorem frzMore_cases {s : St} {x : Nat} : ∀ (rs : List Nat), (∃ r ∈ rs, ∃ k, s.own[r]? = some (x, k) ∧ frzMore s rs x = some (k.obj (bls s.own))) ∨ ((∀ r ∈ rs, ∀ k, s.own[r]? ≠ some (x, k)) ∧ frzMore s rs x = s.F x)
  | [] => .inr ⟨(fun r hr => by cases hr), rfl⟩
  | q :: t => by
    simp only [frzMore]
    split
    · rename_i b k hk
      split
      · rename_i e
        subst e
        exact .inl ⟨q, List.mem_cons_self .., k, hk, rfl⟩
      · rename_i e
        rcases frzMore_cases (s := s) (x := x) t with ⟨r, hr, k', h1, h2⟩ | ⟨h1, h2⟩
        · exact .inl ⟨r, List.mem_cons_of_mem _ hr, k', h1, h2⟩
        · refine .inr ⟨fun r hr k' hk' => ?_, h2⟩
          rcases List.mem_cons.1 hr with rfl | hr
          · rw [hk] at hk'
            injection hk' with hk'
            injection hk' with e1 _
            exact e e1.symm
          · exact h1 r hr k' hk'
    · rename_i hk
      rcases frzMore_cases (s := s) (x := x) t with ⟨r, hr, k', h1, h2⟩ | ⟨h1, h2⟩
      · exact .inl ⟨r, List.mem_cons_of_mem _ hr, k', h1, h2⟩
      · refine .inr ⟨fun r hr k' hk' => ?_, h2⟩
        rcases List.mem_cons.1 hr with rfl | hr
        · rw [hk] at hk'; cases hk'
        · exact h1 r hr k' hk'
/-- The state in which the blocks of rs are frozen. -/
def St.fz (s : St) (rs : List Nat) (F' : Frozen) : St := ⟨litSl rs (bls s.own) s.sl, [], [], litOwn rs (bls s.own) 0 s.own, F'⟩
theorem less_fz {s : St} {rs : List Nat} (hl : liveAll s rs) : Less s (s.fz rs (frzMore s rs)) := by
  intro n w0 D a w h
  have hbl : bls (litOwn rs (bls s.own) 0 s.own) = bls s.own := litOwn_bls
  have hlen : (litOwn rs (bls s.own) 0 s.own).length = s.own.length := litOwn_len
  refine ⟨⟨?_, ?_, ?_, ?_, ?_, ?_⟩, h.dn, h.sz, ?_, fun k v G _ hg => (by cases hg), ?_, h.fr, fun b hb => ?_⟩
  · intro r b k hr hd
    show w.heap[b]? = some (k.obj (bls (litOwn rs (bls s.own) 0 s.own)))
    rw [hbl]
    obtain ⟨k0, h1, ⟨_, rfl⟩ | ⟨_, rfl⟩⟩ := litOwn_get hr
    · exact absurd rfl hd
    · rw [AB.lit_obj]
      exact h.mem.blk _ _ _ h1 (fun e => hd (by rw [e]; rfl))
  · intro r b k hr
    obtain ⟨k0, h1, _⟩ := litOwn_get hr
    exact h.mem.lt _ _ _ h1
  · intro r r' b k k' hr hr' d d'
    obtain ⟨k0, h1, g1⟩ := litOwn_get hr
    obtain ⟨k1, h2, g2⟩ := litOwn_get hr'
    have e0 : k0 ≠ .dead := by
      rcases g1 with ⟨_, e⟩ | ⟨_, e⟩
      · exact absurd e d
      · intro e'; rw [e'] at e; exact d e
    have e1 : k1 ≠ .dead := by
      rcases g2 with ⟨_, e⟩ | ⟨_, e⟩
      · exact absurd e d'
      · intro e'; rw [e'] at e; exact d' e
    exact h.mem.inj _ _ _ _ _ h1 h2 e0 e1
  · intro r b k hr
    show k.ok (litOwn rs (bls s.own) 0 s.own).length
    rw [hlen]
    obtain ⟨k0, h1, ⟨_, rfl⟩ | ⟨_, rfl⟩⟩ := litOwn_get hr
    · trivial
    · exact AB.lit_ok (h.mem.wf _ _ _ h1)
  · intro b o hb
    rcases frzMore_cases (s := s) (x := b) rs with ⟨r, hr, k, h1, h2⟩ | ⟨_, h2⟩
    · have hb' : frzMore s rs b = some o := hb
      rw [h2] at hb'
      injection hb' with hb'
      subst hb'
      obtain ⟨b', k', g1, g2⟩ := liveAll_get hl hr
      rw [h1] at g1
      injection g1 with g1
      injection g1 with e1 e2
      subst e1 e2
      exact h.mem.blk _ _ _ h1 g2
    · have hb' : frzMore s rs b = some o := hb
      rw [h2] at hb'
      exact h.mem.fz _ _ hb'
  · intro r b k hr hd
    obtain ⟨k0, h1, ⟨_, rfl⟩ | ⟨hc, rfl⟩⟩ := litOwn_get hr
    · exact absurd rfl hd
    · have hk0 : k0 ≠ .dead := fun e => hd (by rw [e]; rfl)
      show frzMore s rs b = none
      rcases frzMore_cases (s := s) (x := b) rs with ⟨r', hr', k', g1, g2⟩ | ⟨_, g2⟩
      · exfalso
        obtain ⟨b', k'', e1, e2⟩ := liveAll_get hl hr'
        rw [g1] at e1
        injection e1 with e1
        injection e1 with e1 e3
        subst e1 e3
        have := h.mem.inj _ _ _ _ _ h1 g1 hk0 e2
        subst this
        rw [Nat.zero_add] at hc
        have : rs.contains r = true := List.contains_iff_mem.2 hr'
        rw [hc] at this
        cases this
      · rw [g2]
        exact h.mem.ap _ _ _ h1 hk0
  · intro k v hk
    obtain ⟨u, h1, rfl⟩ := look_lit hk
    obtain ⟨g1, g2, g3⟩ := h.sl _ _ h1
    refine ⟨g1, ?_, ?_⟩
    · show _ = (u.lit rs (bls s.own)).den (bls (litOwn rs (bls s.own) 0 s.own))
      rw [hbl, AV.lit_den]
      exact g2
    · show AV.ok (litOwn rs (bls s.own) 0 s.own).length _
      rw [hlen]
      exact AV.lit_ok g3
  · intro r b k hr
    obtain ⟨k0, h1, _⟩ := litOwn_get hr
    exact h.may _ _ _ h1
  · have hb' : frzMore s rs b ≠ none := hb
    rcases frzMore_cases (s := s) (x := b) rs with ⟨r, _, k, h1, _⟩ | ⟨_, h2⟩
    · exact .inr (h.may _ _ _ h1)
    · rw [h2] at hb'
      exact h.fd b hb'
theorem frz_facts {s : St} {w : World} (h : MRel s.own s.F w) {rs : List Nat} (hl : liveAll s rs) : (∀ b o, s.F b = some o → frzMore s rs b = some o) ∧ ∀ (r b : Nat) (k : AB), r ∈ rs → s.own[r]? = some (b, k) → frzMore s rs b = some (k.obj (bls s.own)) := by
  refine ⟨fun b o hb => ?_, fun r b k hr hk => ?_⟩
  · rcases frzMore_cases (s := s) (x := b) rs with ⟨r, hr, k, h1, h2⟩ | ⟨_, h2⟩
    · obtain ⟨b', k', g1, g2⟩ := liveAll_get hl hr
      rw [h1] at g1
      injection g1 with g1
      injection g1 with e1 e2
      subst e1 e2
      have := h.ap _ _ _ h1 g2
      rw [hb] at this
      cases this
    · rw [h2]; exact hb
  · rcases frzMore_cases (s := s) (x := b) rs with ⟨r', hr', k', h1, h2⟩ | ⟨h1, _⟩
    · obtain ⟨b1, k1, g1, g2⟩ := liveAll_get hl hr'
      rw [h1] at g1
      injection g1 with g1
      injection g1 with e1 e2
      subst e1 e2
      obtain ⟨b2, k2, g3, g4⟩ := liveAll_get hl hr
      rw [hk] at g3
      injection g3 with g3
      injection g3 with e1 e2
      subst e1 e2
      have := h.inj _ _ _ _ _ hk h1 g4 g2
      subst this
      rw [hk] at h1
      injection h1 with h1
      injection h1 with _ e
      subst e
      exact h2
    · exact absurd hk (h1 r hr k)
def frzFacts (s : St) (F' : Frozen) : List Nat → Prop
  | [] => True
  | r :: t => (match s.own[r]? with | some (b, k) => F' b = some (k.obj (bls s.own)) | none => True) ∧ frzFacts s F' t
theorem frzFacts_of {s : St} {F' : Frozen} : ∀ {rs : List Nat}, (∀ (r b : Nat) (k : AB), r ∈ rs → s.own[r]? = some (b, k) → F' b = some (k.obj (bls s.own))) → frzFacts s F' rs
  | [], _ => trivial
  | r :: t, h => by
    refine ⟨?_, frzFacts_of fun r' b k hr' => h r' b k (List.mem_cons_of_mem _ hr')⟩
    split
    · rename_i b k hk
      exact h r b k (List.mem_cons_self ..) hk
    · trivial
section
variable {P : Program} {T : Tab} {n : Nat} {Q : Exit → St → Prop} {all : List Oper} {o : Oper} {os : List Oper} {k : List It} {s : St}
theorem know_rule (hg : o.guard = none) (h : (∃ w, MRel s.own s.F w) → RunW P n Q (.ops all (o :: os) :: k) s) : stopW P n Q all o os k s := by
  by_cases hx : ∃ w, MRel s.own s.F w
  · exact h hx
  · refine .step hg (R := fun _ _ => False) ?_ ?_ ?_
    · intro m w0 D a w hr
      exact absurd ⟨w, hr.mem⟩ hx
    · rintro _ _ ⟨⟩
    · rintro _ _ ⟨⟩
/-- Own blocks are frozen; from here on they are read as what was there. -/
theorem freeze_rule (hT : T.Ok P) (rs : List Nat) (hg : o.guard = none) (hl : liveAll s rs) (fuel : Nat)
    (h : ∀ F', (∀ b o, s.F b = some o → F' b = some o) → frzFacts s F' rs → goW P T n Q fuel (.ops all (o :: os) :: k) (s.fz rs F')) : stopW P n Q all o os k s := by
  refine know_rule hg fun ⟨w, hw⟩ => ?_
  obtain ⟨h1, h2⟩ := frz_facts hw hl
  exact .less (less_fz hl) (goW_sound hT _ _ _ (h _ h1 (frzFacts_of h2)))
/-- The end of a body that hands back own blocks, and froze others. -/
theorem QF.mkF {rs : List ResultVar} {own : Own} {F : Frozen} {R : AV → Own → Frozen → Prop} {e : Exit} {s : St} {l : List P2} (τ : List Nat) (v : AV) (own2 : Own) (hl : resL T s rs = some l) (he : e = .ret ∨ e = .normal) (hn : τ.Nodup)
    (hown : ownIn s τ own2.length τ own2) (hv : resV l = v.ren (tau τ)) (hok : v.ok own2.length) (hpre : preO own own2) (hF : ∀ b o, F b = some o → s.F b = some o) (hR : R v own2 s.F) : QF T rs own F R e s :=
  ⟨by rcases he with rfl | rfl <;> trivial, l, hl, τ, v, own2, ⟨hn, hown⟩, ⟨hv, hok⟩, hpre, hF, hR⟩
/-- What was frozen meanwhile is forgotten. -/
theorem Con.forget {f : FuncId} {vs : List AV} {own : Own} {F : Frozen} {R : AV → Own → Prop} (h : Con P f vs own F fun v o _ => R v o) : Con P f vs own F fun v o F' => R v o ∧ F' = F := by
  intro w hw
  refine (h w hw).mono ?_
  rintro e w' ⟨v, own', F', h1, h2, h3, h4, h5, h6, h7, h8, h9⟩
  refine ⟨v, own', F, h1, ⟨h2, rfl⟩, ⟨h3.blk, h3.lt, h3.inj, h3.wf, fun b o hb => h3.fz _ _ (h8 b o hb), fun r b k hr hd => ?_⟩, h4, h5, h6, h7, fun _ _ hb => hb, fun b hb => .inl hb⟩
  have := h3.ap _ _ _ hr hd
  cases hF : F b with
  | none => rfl
  | some o => rw [h8 b o hF] at this; cases this
theorem setAll_same (ρ : Nat → Nat) : ∀ (own : Own) (σ : List Nat) (t : Own), σ.map (fun r => own[r]?) = t.map (fun x => some (x.1, x.2.ren ρ)) → setAll ρ own σ t = own
  | own, [], t, _ => by cases t <;> rfl
  | own, r :: σ, [], h => by simp at h
  | own, r :: σ, (b, k) :: t, h => by
    simp only [List.map_cons, List.cons.injEq] at h
    have e : own.set r (b, k.ren ρ) = own := by
      apply List.ext_getElem?
      intro i
      rw [List.getElem?_set]
      split
      · rename_i hi
        subst hi
        split
        · exact h.1.symm
        · rename_i hl
          rw [List.getElem?_eq_none (by omega)]
      · rfl
    rw [setAll, e]
    exact setAll_same ρ own σ t h.2
theorem merge_same (s : St) (σ : List Nat) (own0 : Own) (hlen : σ.length = own0.length) (h0 : σ.map (fun r => s.own[r]?) = own0.map fun x => some (x.1, x.2.ren (rho σ s.own.length))) : s.merge σ own0 s.F = s := by
  unfold St.merge
  rw [setAll_same _ _ _ _ h0, hlen, List.drop_length]
  simp
/-- A call under guards of what leaves its own blocks as they are. -/
theorem gcallK_rule (hT : T.Ok P) {d : Option Tmp} {f : FuncId} {cargs : Array Operand} {ts : Array TypeId} {ty : TypeId} {pos : String} {af : Array Edge} {fn : Func} {vs : List AV} {own0 : Own} {V : AV} {g : Option (Nat × Bool)} {G : List (Nat × Bool)} (σ : List Nat) (hG : chain s all g = some G)
    (hc : holds s G → Con P f vs own0 s.F fun v o F' => v = V ∧ o = own0 ∧ F' = s.F) (hf : P.funcs[f]? = some fn) (hb : fn.body.isSome = true) (hnm : (fn.name == "runtime.NumGoroutine") = false)
    (hn : σ.Nodup) (hlen : σ.length = own0.length) (hargs : vals s G cargs.toList = some (vs.map (AV.ren (rho σ s.own.length)))) (hvs : ∀ v ∈ vs, v.ok own0.length)
    (h0 : σ.map (fun r => s.own[r]?) = own0.map fun x => some (x.1, x.2.ren (rho σ s.own.length))) (hok : ∀ x ∈ own0, x.2.ok own0.length) (hlive : ∀ x ∈ own0, x.2 ≠ .dead) (hgin : gputOk n s d G) (fuel : Nat)
    (h : goW P T n Q fuel (.ops all os :: k) (s.gput d (V.ren (rho σ s.own.length)) G)) :
    stopW P n Q all ⟨d, .call ⟨.value (.func f), cargs, ts⟩, ty, pos, af, g⟩ os k s := by
  refine .gcallP (v := V.ren (rho σ s.own.length)) hG (fun hh => ?_) hgin (goW_sound hT _ _ _ h)
  intro m w0 D a w hr
  obtain ⟨f', args, e1, e2⟩ := sem_call (o := ⟨d, .call ⟨.value (.func f), cargs, ts⟩, ty, pos, af, g⟩) rfl hf hb hnm σ hn hlen hh hargs hvs h0 hok hlive (hc hh) m w0 D a w hr
  refine ⟨f', args, e1, e2.mono ?_⟩
  rintro e w' ⟨v, s', g1, ⟨v1, own', F', ⟨rfl, rfl, rfl⟩, hF, rfl, rfl⟩, g3⟩
  rw [merge_same s σ own' hlen h0] at g1 g3
  exact ⟨_, s, g1, ⟨rfl, rfl⟩, g3⟩
/-- The end of a body that froze blocks of its own, and hands back none. -/
theorem QF.zF {rs : List ResultVar} {F : Frozen} {R : AV → Own → Frozen → Prop} {e : Exit} {s : St} (l : List P2) (hl : resL T s rs = some l) (he : e = .ret ∨ e = .normal)
    (hren : resV l = (resV l).ren (tau [])) (hok : (resV l).ok 0) (hF : ∀ b o, F b = some o → s.F b = some o) (hR : R (resV l) [] s.F) : QF T rs [] F R e s := by
  refine ⟨by rcases he with rfl | rfl <;> trivial, l, hl, [], resV l, [], ⟨by simp, trivial⟩, ⟨hren, hok⟩, trivial, hF, hR⟩
end
end Go.VC
