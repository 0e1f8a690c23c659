/- A calculus of conditions for the loaded code: calls in the reckoning; ends of bodies. No statement of the seat is proved here. -/
import Derived.Test.YtjefojpbglcjhaaVh
namespace Go.VC
open Go

theorem QF.mk' {T : Tab} {rs : List ResultVar} {own : Own} {F : Frozen} {R : AV → Own → Frozen → Prop} {e : Exit} {s : St} {l : List P2} (τ : List Nat) (v : AV) (own2 : Own) (hl : resL T s rs = some l) (he : e = .ret ∨ e = .normal) (hn : τ.Nodup)
    (hown : ownIn s τ own2.length τ own2) (hv : resV l = v.ren (tau τ)) (hok : v.ok own2.length) (hpre : preO own own2) (hF : s.F = F) (hR : R v own2 F) : QF T rs own F R e s := by
  subst hF
  refine ⟨?_, l, hl, τ, v, own2, ⟨hn, hown⟩, ⟨hv, hok⟩, hpre, fun _ _ h => h, hR⟩
  rcases he with rfl | rfl <;> trivial
/-- The end of a body that leaves nothing behind it, and hands back no own block. -/
theorem QF.z {T : Tab} {rs : List ResultVar} {F : Frozen} {R : AV → Own → Frozen → Prop} {e : Exit} {s : St} (l : List P2) (hl : resL T s rs = some l) (he : e = .ret ∨ e = .normal)
    (hren : resV l = (resV l).ren (tau [])) (hok : (resV l).ok 0) (hF : s.F = F) (hR : R (resV l) [] F) : QF T rs [] F R e s :=
  QF.mk' [] (resV l) [] hl he (by simp) trivial hren hok trivial hF hR

section
variable {P : Program} {T : Tab} {n : Nat} {Q : Exit → St → Prop} {all : List Oper} {d : Option Tmp} {f : FuncId} {cargs : Array Operand} {ts : Array TypeId} {ty : TypeId} {pos : String} {af : Array Edge} {os : List Oper} {k : List It} {s : St}
theorem call_rule (hT : T.Ok P) {fn : Func} {vs : List AV} {own0 : Own} {R : AV → Own → Frozen → Prop} (σ : List Nat) (hc : Con P f vs own0 s.F R) (hf : P.funcs[f]? = some fn) (hb : fn.body.isSome = true) (hnm : (fn.name == "runtime.NumGoroutine") = false)
    (hn : σ.Nodup) (hlen : σ.length = own0.length) (hargs : vals s [] cargs.toList = some (vs.map (AV.ren (rho σ s.own.length)))) (hvs : ∀ v ∈ vs, v.ok own0.length)
    (h0 : σ.map (fun r => s.own[r]?) = own0.map fun x => some (x.1, x.2.ren (rho σ s.own.length))) (hok : ∀ x ∈ own0, x.2.ok own0.length) (hlive : ∀ x ∈ own0, x.2 ≠ .dead) (hnin : putOk n s d) (fuel : Nat)
    (h : ∀ v own' F', R v own' F' → (∀ b o, s.F b = some o → F' b = some o) → goW P T n Q fuel (.ops all os :: k) ((s.merge σ own' F').put d (v.ren (rho σ s.own.length)))) :
    stopW P n Q all ⟨d, .call ⟨.value (.func f), cargs, ts⟩, ty, pos, af, none⟩ os k s := by
  refine .stepC rfl (sem_call rfl hf hb hnm σ hn hlen (G := []) trivial hargs hvs h0 hok hlive hc) ?_ ?_
  · rintro v' s' ⟨v, own', F', hR, hF, rfl, rfl⟩
    exact hnin
  · rintro v' s' ⟨v, own', F', hR, hF, rfl, rfl⟩
    exact goW_sound hT _ _ _ (h v own' F' hR hF)
theorem merge_nil (s : St) : s.merge [] [] s.F = s := by
  unfold St.merge
  simp [setAll]
/-- A call of what only reckons, of own blocks none. -/
theorem call0 (hT : T.Ok P) {fn : Func} {vs : List AV} {V : AV} (hc : Con P f vs [] s.F fun v o F' => v = V ∧ o = [] ∧ F' = s.F) (hf : P.funcs[f]? = some fn) (hb : fn.body.isSome = true) (hnm : (fn.name == "runtime.NumGoroutine") = false)
    (hargs : vals s [] cargs.toList = some (vs.map (AV.ren (rho [] s.own.length)))) (hvs : ∀ v ∈ vs, v.ok 0) (hnin : putOk n s d) (fuel : Nat)
    (h : goW P T n Q fuel (.ops all os :: k) (s.put d (V.ren (rho [] s.own.length)))) :
    stopW P n Q all ⟨d, .call ⟨.value (.func f), cargs, ts⟩, ty, pos, af, none⟩ os k s := by
  refine .stepC rfl (sem_call (own0 := []) rfl hf hb hnm [] (by simp) rfl (G := []) trivial hargs hvs rfl (fun x hx => (by cases hx)) (fun x hx => (by cases hx)) hc) ?_ ?_
  · rintro v' s' ⟨v, own', F', ⟨rfl, rfl, rfl⟩, hF, rfl, rfl⟩
    exact hnin
  · rintro v' s' ⟨v, own', F', ⟨rfl, rfl, rfl⟩, hF, rfl, rfl⟩
    rw [merge_nil]
    exact goW_sound hT _ _ _ h
/-- The same under guards. -/
theorem gcall0 (hT : T.Ok P) {fn : Func} {vs : List AV} {V : AV} {g : Option (Nat × Bool)} {G : List (Nat × Bool)} (hc : holds s G → Con P f vs [] s.F fun v o F' => v = V ∧ o = [] ∧ F' = s.F) (hG : chain s all g = some G) (hf : P.funcs[f]? = some fn) (hb : fn.body.isSome = true) (hnm : (fn.name == "runtime.NumGoroutine") = false)
    (hargs : vals s G cargs.toList = some (vs.map (AV.ren (rho [] s.own.length)))) (hvs : ∀ v ∈ vs, v.ok 0) (hgin : gputOk n s d G) (fuel : Nat)
    (h : goW P T n Q fuel (.ops all os :: k) (s.gput d (V.ren (rho [] s.own.length)) G)) :
    stopW P n Q all ⟨d, .call ⟨.value (.func f), cargs, ts⟩, ty, pos, af, g⟩ os k s := by
  refine .gcallP (v := V.ren (rho [] s.own.length)) hG (fun hh => ?_) hgin (goW_sound hT _ _ _ h)
  intro m w0 D a w hr
  obtain ⟨f', args, e1, e2⟩ := sem_call (own0 := []) (o := ⟨d, .call ⟨.value (.func f), cargs, ts⟩, ty, pos, af, g⟩) rfl hf hb hnm [] (by simp) rfl hh hargs hvs rfl (fun x hx => (by cases hx)) (fun x hx => (by cases hx)) (hc hh) m w0 D a w hr
  refine ⟨f', args, e1, e2.mono ?_⟩
  rintro e w' ⟨v, s', g1, ⟨v1, own', F', ⟨rfl, rfl, rfl⟩, hF, rfl, rfl⟩, g3⟩
  rw [merge_nil] at g1 g3
  exact ⟨_, s, g1, ⟨rfl, rfl⟩, g3⟩
theorem gcall_rule (hT : T.Ok P) {fn : Func} {vs : List AV} {own0 : Own} {R : AV → Own → Frozen → Prop} {g : Option (Nat × Bool)} {G : List (Nat × Bool)} (σ : List Nat) (hG : chain s all g = some G) (hc : holds s G → Con P f vs own0 s.F R) (hf : P.funcs[f]? = some fn) (hb : fn.body.isSome = true) (hnm : (fn.name == "runtime.NumGoroutine") = false)
    (hn : σ.Nodup) (hlen : σ.length = own0.length) (hargs : vals s G cargs.toList = some (vs.map (AV.ren (rho σ s.own.length)))) (hvs : ∀ v ∈ vs, v.ok own0.length)
    (h0 : σ.map (fun r => s.own[r]?) = own0.map fun x => some (x.1, x.2.ren (rho σ s.own.length))) (hok : ∀ x ∈ own0, x.2.ok own0.length) (hlive : ∀ x ∈ own0, x.2 ≠ .dead) (hnin : putOk n s d) (hgin : gputOk n s d G) (fuel : Nat)
    (h1 : holds s G → ∀ v own' F', R v own' F' → (∀ b o, s.F b = some o → F' b = some o) → goW P T n Q fuel (.ops all os :: k) ((s.merge σ own' F').put d (v.ren (rho σ s.own.length))))
    (h2 : ¬ holds s G → goW P T n Q fuel (.ops all os :: k) (s.gput d (.a (.v undef)) G)) :
    stopW P n Q all ⟨d, .call ⟨.value (.func f), cargs, ts⟩, ty, pos, af, g⟩ os k s := by
  refine .gcall (R := fun v' s' => holds s G ∧ ∃ v own' F', R v own' F' ∧ (∀ b o, s.F b = some o → F' b = some o) ∧ v' = v.ren (rho σ s.own.length) ∧ s' = s.merge σ own' F') hG ?_ ?_ (fun _ => hgin) ?_ ?_
  · intro hh m w0 D a w hr
    obtain ⟨f', args, e1, e2⟩ := sem_call (o := ⟨d, .call ⟨.value (.func f), cargs, ts⟩, ty, pos, af, g⟩) rfl hf hb hnm σ hn hlen hh hargs hvs h0 hok hlive (hc hh) m w0 D a w hr
    exact ⟨f', args, e1, e2.mono fun e w' ⟨v, s', g1, g2, g3⟩ => ⟨v, s', g1, ⟨hh, g2⟩, g3⟩⟩
  · rintro v' s' _ ⟨_, v, own', F', hR, hF, rfl, rfl⟩
    exact hnin
  · rintro v' s' hh ⟨_, v, own', F', hR, hF, rfl, rfl⟩
    exact goW_sound hT _ _ _ (h1 hh v own' F' hR hF)
  · exact fun hh => goW_sound hT _ _ _ (h2 hh)
end


/-- What own blocks hold, told of the world. -/
def loOf (s : St) : List Nat → List (Nat × (Nat × Obj))
  | [] => []
  | r :: t => match s.own[r]? with
    | some (b, k) => (r, (b, k.obj (bls s.own))) :: loOf s t
    | none => loOf s t
theorem draw_rule {P : Program} {T : Tab} (hT : T.Ok P) {n : Nat} {Q : Exit → St → Prop} {k : List It} {s : St} {id : Nat} {l : List Oper} (hm : P.follows .mixedOrders = true) (hs : List Nat) (head : List Bool) (sc : Sc) (hsc : scB l head sc = true) (fuel : Nat)
    (h : goW P T n Q fuel (.hold (loOf s hs) s.F :: .dr l head (loOf s hs) s.F (Array.replicate l.length false) true sc :: .clr :: k) s) : RunW P n Q (.code (.region id l.toArray true) :: k) s :=
  .draw hm head (loOf s hs) sc hsc (goW_sound hT _ _ _ h)

end Go.VC
