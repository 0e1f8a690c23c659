/- From a law's contract to its row: what is alike in every law. No statement of the seat is proved here. -/
import Derived.Test.YtjefojpbglcjhaaVt
import Derived.Test.YtjefojpbglcjhaaRows
import Derived.ProofKit
import Derived.OpenShut
import Derived.Carry
namespace Go.VC
open Go Go.Proofs Go.ChangeShapes Go.WideShapes Go.ChangeAt Go.RowKit
set_option linter.unusedSimpArgs false

section
variable {H : Type} {enc : TypeId × Value → H} {P : Program}
theorem trodAll_stays (hl : laidOutB P = true) {W W' : World} {sp : Nat → Bool} : ∀ (ts : List TypeId) (vs : List Value) (ds : List (DataW H)) (ps : List MemPlace), (∀ t ∈ ts, P.readableRec t = true ∧ t < P.types.size) →
    DataW.TrodAll enc P W 0 (fun _ => true) true ts vs ds ps → (∀ p ∈ ps, W.sameAt W' p) → (∀ p ∈ ps, sp p.block = true) → DataW.TrodAll enc P W' 0 sp true ts vs ds ps
  | [], vs, ds, ps, _, h, _, _ => by
    obtain ⟨rfl, rfl, rfl⟩ := trodAll_nil h
    exact rfl
  | t :: ts, vs, ds, ps, ht, h, hs, hp => by
    obtain ⟨v, vs', d, ds', p, q, rfl, rfl, rfl, h1, h2⟩ := trodAll_cons h
    obtain ⟨hr, hrow⟩ := ht t (List.mem_cons_self ..)
    exact trodAll_cons_mk (WideElems.Trod_stays hl hr hrow h1 (fun x hx => hs x (List.mem_append_left _ hx)) (fun x hx => hp x (List.mem_append_left _ hx)))
      (trodAll_stays hl ts vs' ds' q (fun t ht' => ht t (List.mem_cons_of_mem _ ht')) h2 (fun x hx => hs x (List.mem_append_right _ hx)) (fun x hx => hp x (List.mem_append_right _ hx)))

theorem law_post (hl : laidOutB P = true) {f : Func} {s : ChangeSpec} {W W' : World} {args : Array Value} {ds gs : List (DataW H)} {before : List MemPlace} (hv : s.vars = []) (hres : (s.fn H (ds ++ gs)).results = [.lit (.bool true)]) (ha : (s.fn H (ds ++ gs)).args = ds)
    (hvs : (s.fn H (ds ++ gs)).vars = []) {tb : TypeId} (hrt : f.resultTypes = #[tb]) (hb : P.underlying tb = some .bool) (hread : ∀ t ∈ f.params.toList, P.readableRec t = true ∧ t < P.types.size)
    (hW : DataW.Whole enc P f.params.toList s.vars false W args.toList ds gs before) (hbel : Below W.heap.size W W') : s.post enc P f false true false false W args (.bool true) W' := by
  have hlt : ∀ p ∈ before, p.block < W.heap.size := hW.lt
  have hW' := hW
  obtain ⟨p, q, h1, h2, rfl, _, _⟩ := hW
  rw [hv] at h2
  obtain ⟨rfl, rfl⟩ := trodVars_none h2
  rw [List.append_nil] at hlt
  refine ⟨ds, [], p ++ [], [], p, [], hW', ?_, ?_, ?_, hbel.frame _, fun h => by cases h⟩
  · rw [hres, hrt]
    exact trodAll_cons_mk (shut_bool hb _) trodAll_mk0
  · rw [ha]
    exact trodAll_stays hl _ _ _ _ hread h1 (fun x hx => hbel.same (hlt x hx)) (fun x hx => by simpa using hlt x hx)
  · rw [hvs, hv]
    exact rfl
end

theorem below_of_fr {W W' : World} {own : Own} (h : Fr W (fun b => ∃ (r : Nat) (k : AB), own[r]? = some (b, k)) W') (ho : own = []) : Below W.heap.size W W' := by
  subst ho
  exact ⟨h.os, h.tape, h.output, h.size, fun k hk => h.block k hk (by rintro ⟨r, k', hr⟩; simp at hr)⟩

/-- The frozen blocks of a law: all that is there. -/
def allF (W : World) : Frozen := fun b => W.heap[b]?
theorem law_calls {P : Program} {f : FuncId} {vs : List AV} {W : World} (h : Con P f vs [] (allF W) fun v o F' => v = .a (.v (.bool true)) ∧ o = [] ∧ F' = allF W) :
    Calls P f (vs.map (AV.den [])).toArray W fun e w' => e = .returned (.bool true) ∧ Below W.heap.size W w' := by
  have hm : MRel [] (allF W) W := ⟨fun r b k hr => (by simp at hr), fun r b k hr => (by simp at hr), fun r r' b k k' hr => (by simp at hr), fun r b k hr => (by simp at hr), fun b o hb => hb, fun r b k hr => (by simp at hr)⟩
  refine (h W hm).mono ?_
  rintro e w' ⟨v, own', F', rfl, ⟨rfl, rfl, rfl⟩, _, _, _, _, hfr, _⟩
  exact ⟨rfl, below_of_fr hfr rfl⟩

theorem law_calls' {P : Program} {f : FuncId} {vs : List AV} {W : World} {R : Frozen → Prop} (h : Con P f vs [] (allF W) fun v o F' => v = .a (.v (.bool true)) ∧ o = [] ∧ R F') :
    Calls P f (vs.map (AV.den [])).toArray W fun e w' => e = .returned (.bool true) ∧ Below W.heap.size W w' := by
  have hm : MRel [] (allF W) W := ⟨fun r b k hr => (by simp at hr), fun r b k hr => (by simp at hr), fun r r' b k k' hr => (by simp at hr), fun r b k hr => (by simp at hr), fun b o hb => hb, fun r b k hr => (by simp at hr)⟩
  refine (h W hm).mono ?_
  rintro e w' ⟨v, own', F', rfl, ⟨rfl, rfl, _⟩, _, _, _, _, hfr, _⟩
  exact ⟨rfl, below_of_fr hfr rfl⟩
theorem okWide_slice1 {P : Program} {t e : TypeId} {w : World} {r : Reach} {base : Nat} {v : Value} (ht : P.underlying t = some (.slice e)) (h : Value.okWide P w r base t v) : ∃ x, v.cells.toList = [x] ∧ v = x := by
  obtain ⟨p, n, c, e⟩ : ∃ p n c, v = .slice p n c := okWide_slice ht h
  rw [e]
  exact ⟨_, rfl, rfl⟩
theorem okWide_agg {P : Program} {t : TypeId} {fs : Array Field} {w : World} {r : Reach} {base : Nat} {v : Value} (ht : P.underlying t = some (.struct fs)) (h : Value.okWide P w r base t v) : ∃ cs, v = .agg cs ∧ cs.size = P.cellsOf t := by
  unfold Value.okWide at h
  rw [ht] at h
  obtain ⟨cs, h1, h2, _⟩ := h
  exact ⟨cs, h1, h2⟩

end Go.VC
