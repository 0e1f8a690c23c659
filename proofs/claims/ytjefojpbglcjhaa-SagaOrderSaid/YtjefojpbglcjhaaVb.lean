/- A calculus of conditions for the loaded code: states, what is to be done, and that what is shown of states holds of the machine. No statement of the seat is proved here. -/
import Derived.Test.YtjefojpbglcjhaaVa
import Derived.LoopN
import Derived.Scope
import Derived.OrdersHeld
namespace Go.VC
open Go

def look {α : Type} : List (Nat × α) → Nat → Option α
  | [], _ => none
  | (k, v) :: t, j => if k = j then some v else look t j
/-- Operation j waits for operation i, in every mode. -/
def Region.waitsOn (l : List Oper) (j i : Nat) : Bool :=
  match l[j]? with
  | some o => o.after.any fun e => Go.Region.binds .any e && e.on == i
  | none => true
def nin (d : Nat) : List Nat → Bool
  | [] => true
  | x :: t => if x = d then false else nin d t
theorem nin_spec {d : Nat} : ∀ {l : List Nat}, nin d l = true → ∀ x ∈ l, x ≠ d
  | [], _, x, hx => by cases hx
  | y :: t, h, x, hx => by
    unfold nin at h
    split at h
    · cases h
    · rename_i hne
      rcases List.mem_cons.1 hx with rfl | hx
      · exact hne
      · exact nin_spec h x hx

/-- What is known: slots; slots that hold something under a guard; the slots that are guards; own blocks; what is frozen. -/
structure St where
  sl : List (Nat × AV)
  gl : List (Nat × (AV × List (Nat × Bool)))
  gs : List Nat
  own : Own
  F : Frozen

def boolOf (s : St) (d : Nat) : Option Bool :=
  match look s.sl d with
  | some (.a (.v (.bool b))) => some b
  | some _ => none
  | none => match look s.gl d with
    | some (.a (.v (.bool b)), _) => some b
    | _ => none
/-- The guards of a chain say what they must. -/
def holds (s : St) : List (Nat × Bool) → Prop
  | [] => True
  | (d, b) :: t => boolOf s d = some b ∧ holds s t
theorem holds_iff {s : St} : ∀ {G : List (Nat × Bool)}, holds s G ↔ ∀ x ∈ G, boolOf s x.1 = some x.2
  | [] => ⟨fun _ _ h => (by cases h), fun _ => trivial⟩
  | (d, b) :: t => by
    simp only [holds, List.mem_cons, holds_iff (G := t)]
    constructor
    · rintro ⟨h1, h2⟩ x (rfl | hx)
      · exact h1
      · exact h2 x hx
    · intro h
      exact ⟨h (d, b) (.inl rfl), fun x hx => h x (.inr hx)⟩

/-- Of the world at the begin: which blocks may turn; which were frozen. -/
structure Dm where
  d : Nat → Prop
  e : Nat → Prop
structure Rel (n : Nat) (w0 : World) (D : Dm) (s : St) (a : Act) (w : World) : Prop where
  mem : MRel s.own s.F w
  dn : a.defers = []
  sz : a.tmps.size = n
  sl : ∀ (k : Nat) (v : AV), look s.sl k = some v → k < n ∧ a.tmps.getD k undef = v.den (bls s.own) ∧ v.ok s.own.length
  gl : ∀ (k : Nat) (v : AV) (G : List (Nat × Bool)), look s.sl k = none → look s.gl k = some (v, G) →
    k < n ∧ (holds s G → a.tmps.getD k undef = v.den (bls s.own) ∧ v.ok s.own.length) ∧ (¬ holds s G → a.tmps.getD k undef = undef) ∧ ∀ x ∈ G, x.1 ∈ s.gs
  may : ∀ (r b : Nat) (k : AB), s.own[r]? = some (b, k) → D.d b ∨ w0.heap.size ≤ b
  fr : Fr w0 D.d w
  fd : ∀ b, s.F b ≠ none → D.e b ∨ D.d b ∨ w0.heap.size ≤ b

def has (d : Nat) (b : Bool) : List (Nat × Bool) → Bool
  | [] => false
  | (d', b') :: t => if d' = d then (if b' = b then true else has d b t) else has d b t
def sub : List (Nat × Bool) → List (Nat × Bool) → Bool
  | [], _ => true
  | (d, b) :: t, G => if has d b G = true then sub t G else false
theorem has_spec {d : Nat} {b : Bool} : ∀ {G : List (Nat × Bool)}, has d b G = true → (d, b) ∈ G
  | [], h => by cases h
  | (d', b') :: t, h => by
    simp only [has] at h
    split at h
    · rename_i e
      split at h
      · rename_i e'
        subst e e'
        exact List.mem_cons_self ..
      · exact List.mem_cons_of_mem _ (has_spec h)
    · exact List.mem_cons_of_mem _ (has_spec h)
theorem sub_spec {s : St} : ∀ {G G' : List (Nat × Bool)}, sub G G' = true → holds s G' → holds s G
  | [], _, _, _ => trivial
  | (d, b) :: t, G', h, hG => by
    simp only [sub] at h
    split at h
    · rename_i hh
      exact ⟨holds_iff.1 hG _ (has_spec hh), sub_spec h hG⟩
    · cases h

/-- An operand's value, under a chain of guards. -/
def val (s : St) (G : List (Nat × Bool)) : Operand → Option AV
  | .tmp t => match look s.sl t with
    | some v => some v
    | none => match look s.gl t with
      | some (v, G') => if sub G' G = true then some v else none
      | none => none
  | .const x => some (.a (.v x))
  | .func f => some (.a (.fn f []))
  | .global _ => none

theorem Rel.val {n : Nat} {w0 : World} {D : Dm} {s : St} {a : Act} {w : World} (h : Rel n w0 D s a w) {G : List (Nat × Bool)} (hG : holds s G) {x : Operand} {v : AV}
    (hv : val s G x = some v) : a.eval x = v.den (bls s.own) ∧ v.ok s.own.length := by
  cases x with
  | tmp t =>
    simp only [VC.val] at hv
    split at hv
    · rename_i v' hl
      injection hv with hv
      subst hv
      exact ⟨(h.sl t _ hl).2.1, (h.sl t _ hl).2.2⟩
    · rename_i hl
      split at hv
      · rename_i v' G' hg
        split at hv
        · rename_i hs
          injection hv with hv
          subst hv
          exact (h.gl t _ _ hl hg).2.1 (sub_spec hs hG)
        · cases hv
      · cases hv
  | const x => simp only [VC.val] at hv; injection hv with hv; subst hv; exact ⟨rfl, trivial⟩
  | func f => simp only [VC.val] at hv; injection hv with hv; subst hv; exact ⟨rfl, fun x hx => by cases hx⟩
  | global g => simp only [VC.val] at hv; cases hv

theorem AV.den_bool {bl : List Nat} {v : AV} {b : Bool} : v = .a (.v (.bool b)) → v.den bl = .bool b := fun h => by subst h; rfl

/-- The chain of an operation's guards. -/
def chain (s : St) (all : List Oper) : Option (Nat × Bool) → Option (List (Nat × Bool))
  | none => some []
  | some (j, b) => match (all[j]?).bind (·.dst) with
    | none => none
    | some d => match look s.sl d with
      | some (.a (.v (.bool _))) => some [(d, b)]
      | some _ => none
      | none => match look s.gl d with
        | some (.a (.v (.bool _)), G) => some ((d, b) :: G)
        | _ => none

theorem Rel.wanted {n : Nat} {w0 : World} {D : Dm} {s : St} {a : Act} {w : World} (h : Rel n w0 D s a w) {all : List Oper} {o : Oper} {G : List (Nat × Bool)}
    (hG : chain s all o.guard = some G) : (holds s G → Region.wanted o (yielded all.toArray a.tmps) = true) ∧ (¬ holds s G → Region.wanted o (yielded all.toArray a.tmps) = false) := by
  cases hg : o.guard with
  | none =>
    rw [hg] at hG
    simp only [chain, Option.some.injEq] at hG
    subst hG
    exact ⟨fun _ => by simp [Region.wanted, hg], fun hn => absurd trivial hn⟩
  | some jb =>
    obtain ⟨j, b⟩ := jb
    rw [hg] at hG
    simp only [chain] at hG
    split at hG
    · cases hG
    · rename_i d hd
      have key : yielded all.toArray a.tmps j = (match (a.tmps[d]? : Option Value) with | some (.bool b) => some b | _ => none) := by
        have hd' : ((all.toArray[j]?).bind (·.dst)) = some d := by simpa using hd
        unfold yielded
        rw [hd']
        rfl
      have hget : ∀ {v : Value}, d < n → a.tmps.getD d undef = v → a.tmps[d]? = some v := by
        intro v hlt hv
        have : d < a.tmps.size := by rw [h.sz]; exact hlt
        rw [Array.getElem?_eq_getElem this]
        rw [Array.getD_eq_getD_getElem?, Array.getElem?_eq_getElem this] at hv
        exact congrArg some hv
      split at hG
      · rename_i v hl
        injection hG with hG
        subst hG
        obtain ⟨hlt, hv, _⟩ := h.sl _ _ hl
        have hb : boolOf s d = some v := by simp [boolOf, hl]
        have hy : yielded all.toArray a.tmps j = some v := by rw [key, hget hlt hv]; rfl
        simp only [holds, hb, and_true, Option.some.injEq]
        simp only [Region.wanted, hg, hy]
        constructor
        · intro e; simp [e]
        · intro e; simp [e]
      · cases hG
      · rename_i hl
        split at hG
        · rename_i v G' hgl
          injection hG with hG
          subst hG
          obtain ⟨hlt, h1, h0, _⟩ := h.gl _ _ _ hl hgl
          have hb : boolOf s d = some v := by simp [boolOf, hl, hgl]
          by_cases hh : holds s G'
          · have hy : yielded all.toArray a.tmps j = some v := by rw [key, hget hlt (h1 hh).1]; rfl
            simp only [holds, hb, hh, and_true, Option.some.injEq]
            simp only [Region.wanted, hg, hy]
            constructor
            · intro e; simp [e]
            · intro e; simp [e]
          · have hy : yielded all.toArray a.tmps j = none := by rw [key, hget hlt (h0 hh)]; rfl
            simp only [holds, hh, and_false]
            simp [Region.wanted, hg, hy]
        · cases hG

theorem getD_put_same {a : Act} {d : Nat} {v : Value} (h : d < a.tmps.size) : (a.put (some d) v).tmps.getD d undef = v := by
  simp [Act.put, Array.getD_eq_getD_getElem?, h]
theorem getD_put_other {a : Act} {d k : Nat} {v : Value} (h : d ≠ k) : (a.put (some d) v).tmps.getD k undef = a.tmps.getD k undef := by
  simp [Act.put, Array.getD_eq_getD_getElem?, h]

/-- A value comes into a slot. -/
def St.put (s : St) (d : Option Tmp) (v : AV) : St := match d with | some d => { s with sl := (d, v) :: s.sl } | none => s
def putOk (n : Nat) (s : St) (d : Option Tmp) : Prop := match d with | some d => d < n ∧ nin d s.gs = true | none => True

theorem boolOf_put {s : St} {d : Nat} {v : AV} {k : Nat} (h : d ≠ k) : boolOf { s with sl := (d, v) :: s.sl } k = boolOf s k := by
  simp [boolOf, look, h]
theorem holds_put {s : St} {d : Nat} {v : AV} {G : List (Nat × Bool)} (h : ∀ x ∈ G, x.1 ≠ d) : holds { s with sl := (d, v) :: s.sl } G ↔ holds s G := by
  rw [holds_iff, holds_iff]
  refine forall_congr' fun x => forall_congr' fun hx => ?_
  rw [boolOf_put (Ne.symm (h x hx))]

theorem Rel.put {n : Nat} {w0 : World} {D : Dm} {s : St} {a : Act} {w : World} (h : Rel n w0 D s a w) {d : Option Tmp} {v : AV} (hd : putOk n s d) (hv : v.ok s.own.length) :
    Rel n w0 D (s.put d v) (a.put d (v.den (bls s.own))) w := by
  cases d with
  | none => exact h
  | some d =>
    obtain ⟨hlt, hn⟩ := hd
    have hfree := nin_spec hn
    have hsz : (a.put (some d) (v.den (bls s.own))).tmps.size = n := by simp [Act.put, h.sz]
    refine ⟨h.mem, by simpa [Act.put] using h.dn, hsz, ?_, ?_, h.may, h.fr, h.fd⟩
    · intro k v' hk
      simp only [St.put, look] at hk
      split at hk
      · rename_i e
        subst e
        injection hk with hk
        subst hk
        exact ⟨hlt, getD_put_same (by rw [h.sz]; exact hlt), hv⟩
      · rename_i e
        obtain ⟨h1, h2, h3⟩ := h.sl k v' hk
        exact ⟨h1, by rw [getD_put_other e]; exact h2, h3⟩
    · intro k v' G hk hg
      simp only [St.put, look] at hk
      split at hk
      · cases hk
      · rename_i e
        obtain ⟨h1, h2, h3, h4⟩ := h.gl k v' G hk hg
        have hne : ∀ x ∈ G, x.1 ≠ d := fun x hx => hfree _ (h4 x hx)
        simp only [St.put, holds_put hne, getD_put_other e]
        exact ⟨h1, h2, h3, h4⟩

/-- A value comes into a slot, under guards. -/
def St.gput (s : St) (d : Option Tmp) (v : AV) (G : List (Nat × Bool)) : St := match d with | some d => { s with gl := (d, (v, G)) :: s.gl, gs := G.map Prod.fst ++ s.gs } | none => s
def gputOk (n : Nat) (s : St) (d : Option Tmp) (G : List (Nat × Bool)) : Prop := match d with | some d => d < n ∧ nin d s.gs = true ∧ nin d (G.map Prod.fst) = true ∧ look s.sl d = none | none => True

theorem boolOf_gput {s : St} {d : Nat} {x : AV × List (Nat × Bool)} {gs : List Nat} {k : Nat} (h : d ≠ k) : boolOf { s with gl := (d, x) :: s.gl, gs := gs } k = boolOf s k := by
  simp [boolOf, look, h]
theorem holds_gput {s : St} {d : Nat} {x : AV × List (Nat × Bool)} {gs : List Nat} {G : List (Nat × Bool)} (h : ∀ x ∈ G, x.1 ≠ d) : holds { s with gl := (d, x) :: s.gl, gs := gs } G ↔ holds s G := by
  rw [holds_iff, holds_iff]
  refine forall_congr' fun y => forall_congr' fun hy => ?_
  rw [boolOf_gput (Ne.symm (h y hy))]

theorem Rel.gput {n : Nat} {w0 : World} {D : Dm} {s : St} {a : Act} {w : World} (h : Rel n w0 D s a w) {d : Option Tmp} {v : AV} {G : List (Nat × Bool)} (hd : gputOk n s d G) {u : Value}
    (h1 : holds s G → u = v.den (bls s.own) ∧ v.ok s.own.length) (h0 : ¬ holds s G → u = undef) :
    Rel n w0 D (s.gput d v G) (a.put d u) w := by
  cases d with
  | none => exact h
  | some d =>
    obtain ⟨hlt, hn, hnG, hsl⟩ := hd
    have hfree := nin_spec hn
    have hfreeG : ∀ x ∈ G, x.1 ≠ d := fun x hx => nin_spec hnG _ (List.mem_map_of_mem hx)
    have hsz : (a.put (some d) u).tmps.size = n := by simp [Act.put, h.sz]
    refine ⟨h.mem, by simpa [Act.put] using h.dn, hsz, ?_, ?_, h.may, h.fr, h.fd⟩
    · intro k v' hk
      have hk' : look s.sl k = some v' := hk
      have e : d ≠ k := fun e => by subst e; rw [hsl] at hk'; cases hk'
      obtain ⟨g1, g2, g3⟩ := h.sl k v' hk'
      exact ⟨g1, by rw [getD_put_other e]; exact g2, g3⟩
    · intro k v' G' hk hg
      simp only [St.gput, look] at hg
      split at hg
      · rename_i e
        subst e
        injection hg with hg
        injection hg with hg1 hg2
        subst hg1 hg2
        refine ⟨hlt, ?_, ?_, ?_⟩
        · intro hh
          rw [getD_put_same (by rw [h.sz]; exact hlt)]
          exact h1 ((holds_gput hfreeG).1 hh)
        · intro hh
          rw [getD_put_same (by rw [h.sz]; exact hlt)]
          exact h0 (fun x => hh ((holds_gput hfreeG).2 x))
        · intro x hx
          exact List.mem_append.2 (.inl (List.mem_map_of_mem hx))
      · rename_i e
        obtain ⟨g1, g2, g3, g4⟩ := h.gl k v' G' hk hg
        have hne : ∀ x ∈ G', x.1 ≠ d := fun x hx => hfree _ (g4 x hx)
        simp only [St.gput, holds_gput hne, getD_put_other e]
        exact ⟨g1, g2, g3, fun x hx => List.mem_append.2 (.inr (g4 x hx))⟩

/-- The guards of a region are forgotten. -/
theorem Rel.ungl {n : Nat} {w0 : World} {D : Dm} {s : St} {a : Act} {w : World} (h : Rel n w0 D s a w) : Rel n w0 D { s with gl := [], gs := [] } a w :=
  ⟨h.mem, h.dn, h.sz, h.sl, fun k v G _ hg => (by cases hg), h.may, h.fr, h.fd⟩

/-- How the operations of a region that draws its order are gone through: which one is taken first, or any of those that may come up. -/
inductive Sc where
  | done
  | take (i : Nat) (r : Sc)
  | one (i : Nat) (r : Sc)
  | two (i j : Nat) (r q : Sc)
  deriving Inhabited
def Sc.depth : Sc → Nat
  | .done => 0
  | .take _ r => r.depth + 1
  | .one _ r => r.depth + 1
  | .two _ _ r q => max r.depth q.depth + 1
def plainOp : Op → Bool
  | .select _ _ => false
  | _ => true
/-- The walk through a region fits its edges: 'head': the operations ahead of the last ones, which wait for all of them. -/
def Sc.fits (l : List Oper) (head : List Bool) : Array Bool → Sc → Bool
  | listed, .done => (Region.ready .any l.toArray listed).isEmpty
  | listed, .take i r => head.getD i false && Region.free .any l.toArray listed i && (Region.ready .any l.toArray listed).contains i && r.fits l head (listed.setIfInBounds i true)
  | listed, .one i r => (Region.ready .any l.toArray listed) == [i] && r.fits l head (listed.setIfInBounds i true)
  | listed, .two i j r q => (Region.ready .any l.toArray listed) == [i, j] && r.fits l head (listed.setIfInBounds i true) && q.fits l head (listed.setIfInBounds j true)
/-- Each of the last operations waits for each of the others. -/
def tailB (l : List Oper) (head : List Bool) : Bool :=
  decide (head.length ≤ l.length) && (List.range l.length).all fun j => head.getD j false || (List.range l.length).all fun i => !head.getD i false || Region.waitsOn l j i
def scB (l : List Oper) (head : List Bool) (sc : Sc) : Bool :=
  Region.noSelect l.toArray && tailB l head && decide (sc.depth ≤ l.length) && sc.fits l head (Array.replicate l.length false)

def HoldS (Lo : List (Nat × (Nat × Obj))) (F0 : Frozen) (w : World) : Prop := (∀ x ∈ Lo, w.heap[x.2.1]? = some x.2.2) ∧ ∀ b o, F0 b = some o → w.heap[b]? = some o

/-- Whatever order is picked from here on; behind each of the head's operations S holds. -/
def wpAnyV (P : Program) (ops : Array Oper) (Q : Exit → Act → World → Prop) (head : List Bool) (S : World → Prop) : Nat → Array Bool → Act → World → Prop
  | 0, listed, a, w => Region.ready .any ops listed = [] ∧ Q .normal a w
  | fuel + 1, listed, a, w =>
    (Region.ready .any ops listed = [] → Q .normal a w) ∧
    ∀ i ∈ Region.ready .any ops listed, wpOp P ops Q i (fun a' w' => (head.getD i false = true → S w') ∧ wpAnyV P ops Q head S fuel (listed.setIfInBounds i true) a' w') a w
theorem wpAny_of_V {P : Program} {ops : Array Oper} {Q : Exit → Act → World → Prop} {head : List Bool} {S : World → Prop} : ∀ (fuel : Nat) (listed : Array Bool) (a : Act) (w : World), wpAnyV P ops Q head S fuel listed a w → wpAny P .any ops Q fuel listed a w
  | 0, _, _, _, h => h
  | fuel + 1, _, _, _, h => ⟨h.1, fun i hi => wpOp_mono (fun a' w' h' => wpAny_of_V fuel _ a' w' h'.2) (h.2 i hi)⟩

theorem wpAnyV_first {P : Program} {ops : Array Oper} {Q : Exit → Act → World → Prop} {head : List Bool} {S : World → Prop} {i : Nat} {oi : Oper} {v : Value} (hi : ops[i]? = some oi) (hsel : ∀ (j : Nat) (o : Oper) cs b, ops[j]? = some o → o.op ≠ .select cs b)
    (hQ : ∀ c a w, Q (.panic c) (a.put oi.dst v) w → Q (.panic c) a w) (hh : head.getD i false = true)
    (htail : ∀ (j : Nat) (oj : Oper), ops[j]? = some oj → head.getD j false = false → ∃ e ∈ oj.after, Region.binds .any e = true ∧ e.on = i) :
    ∀ (fuel : Nat) (listed : Array Bool) (a : Act) (w : World),
      (∀ j oj, ops[j]? = some oj → j ≠ i → listed.getD j true = false → (∀ e ∈ oj.after, Region.binds .any e = true → e.on ≠ i) → oi.apart ops oj = true) →
      i ∈ Region.ready .any ops listed → YieldsIf P ops S oi v a → S w →
      wpAnyV P ops Q head S fuel (listed.setIfInBounds i true) (a.put oi.dst v) w → wpAnyV P ops Q head S (fuel + 1) listed a w := by
  intro fuel
  induction fuel with
  | zero =>
    intro listed a w _ hr hy hS H
    refine ⟨fun h => (by rw [h] at hr; cases hr), fun j hj => ?_⟩
    by_cases hji : j = i
    · subst hji; exact hy.wpOp hi hS ⟨fun _ => hS, H⟩
    · have := ready_mono hj hji
      rw [H.1] at this
      cases this
  | succ fuel ih =>
    intro listed a w hfree hr hy hS H
    refine ⟨fun h => (by rw [h] at hr; cases hr), fun j hj => ?_⟩
    by_cases hji : j = i
    · subst hji; exact hy.wpOp hi hS ⟨fun _ => hS, H⟩
    · have h1 := H.2 j (ready_mono hj hji)
      obtain ⟨hjun, oj, hoj, hall⟩ := mem_ready.1 hj
      have hnot : ∀ e ∈ oj.after, Region.binds .any e = true → e.on ≠ i := fun e he hb heq => by
        have h1 := hall e he hb
        have h0 := (mem_ready.1 hr).1
        rw [heq] at h1
        rcases Nat.lt_or_ge i listed.size with h' | h'
        · simp [h'] at h0 h1; rw [h0] at h1; cases h1
        · simp [Array.getElem?_eq_none h'] at h1
      have hjh : head.getD j false = true := by
        cases hb : head.getD j false with
        | true => rfl
        | false =>
          obtain ⟨e, he, hb', heq⟩ := htail j oj hoj hb
          exact absurd heq (hnot e he hb')
      have h2 := wpOp_putIf hoj (hfree j oj hoj hji hjun hnot) (fun cs b => hsel i oi cs b hi) (fun cs b => hsel j oj cs b hoj) hQ hy h1
      have hfree' : ∀ k ok, ops[k]? = some ok → k ≠ i → (listed.setIfInBounds j true).getD k true = false →
          (∀ e ∈ ok.after, Region.binds .any e = true → e.on ≠ i) → oi.apart ops ok = true := fun k ok hk hki hun hno => by
        refine hfree k ok hk hki ?_ hno
        by_cases hjk : j = k
        · subst hjk; exact hjun
        · rw [getD_set_ne true hjk] at hun; exact hun
      refine wpOp_mono (fun a' w' h3 => ⟨h3.2.1, ih (listed.setIfInBounds j true) a' w' hfree' (ready_mono hr (Ne.symm hji)) h3.1 (h3.2.1 hjh) ?_⟩) h2
      rw [Array.setIfInBounds_comm _ _ hji]
      exact h3.2.2

/-! What is to be done. -/
inductive It where
  | code (c : Code)
  | blk (id : Nat)
  | sc
  | ops (all l : List Oper)
  | clr
  | hold (Lo : List (Nat × (Nat × Obj))) (F0 : Frozen)
  | dr (l : List Oper) (head : List Bool) (Lo : List (Nat × (Nat × Obj))) (F0 : Frozen) (listed : Array Bool) (ok : Bool) (sc : Sc)
  | lp (I : St → Prop) (m : St → Nat) (m0 : Nat)

def exitIt (id : Nat) : List It → Option (List It)
  | [] => none
  | .blk i :: k => if i = id then some k else exitIt id k
  | .code _ :: k => exitIt id k
  | .sc :: k => exitIt id k
  | .ops _ _ :: k => exitIt id k
  | .clr :: k => exitIt id k
  | .hold _ _ :: k => exitIt id k
  | .dr _ _ _ _ _ _ _ :: k => exitIt id k
  | .lp _ _ _ :: k => exitIt id k

section
variable (P : Program) (n : Nat) (w0 : World) (D : Dm)
def post : List It → (Exit → St → Prop) → Exit → Act → World → Prop
  | [], Q => fun e a w => (match e with | .panic _ => False | _ => True) ∧ ∃ s, Rel n w0 D s a w ∧ Q e s
  | .code c :: k, Q => fun e a w => match e with
    | .normal => c.wp P (post k Q) a w
    | e => post k Q e a w
  | .blk id :: k, Q => fun e a w => match e with
    | .exit i => if i = id then post k Q .normal a w else post k Q (.exit i) a w
    | e => post k Q e a w
  | .sc :: k, Q => fun e a w => match e with
    | .goto _ => False
    | e => post k Q e a w
  | .ops all l :: k, Q => fun e a w => match e with
    | .normal => wpList P all.toArray (post k Q) l a w
    | e => post k Q e a w
  | .clr :: k, Q => post k Q
  | .hold Lo F0 :: k, Q => fun e a w => match e with
    | .normal => HoldS Lo F0 w ∧ post k Q .normal a w
    | e => post k Q e a w
  | .dr l head Lo F0 listed ok sc :: k, Q => fun e a w => match e with
    | .normal => Region.noSelect l.toArray = true → tailB l head = true → sc.fits l head listed = true → (ok = true → HoldS Lo F0 w) → ∀ fuel, sc.depth ≤ fuel → wpAnyV P l.toArray (post k Q) head (HoldS Lo F0) fuel listed a w
    | e => post k Q e a w
  | .lp I m m0 :: k, Q => fun e a w => match e with
    | .normal => ∃ s, Rel n w0 D s a w ∧ I s ∧ m s < m0
    | e => post k Q e a w

theorem post_ret {Q : Exit → St → Prop} {s : St} {a : Act} {w : World} (h : Rel n w0 D s a w) (hq : Q .ret s) : ∀ k, post P n w0 D k Q .ret a w
  | [] => ⟨trivial, s, h, hq⟩
  | .code _ :: k => post_ret h hq k
  | .blk _ :: k => post_ret h hq k
  | .sc :: k => post_ret h hq k
  | .ops _ _ :: k => post_ret h hq k
  | .clr :: k => post_ret h hq k
  | .hold _ _ :: k => post_ret h hq k
  | .dr _ _ _ _ _ _ _ :: k => post_ret h hq k
  | .lp _ _ _ :: k => post_ret h hq k

theorem post_exit {Q : Exit → St → Prop} {id : Nat} {a : Act} {w : World} : ∀ (k k' : List It), exitIt id k = some k' → post P n w0 D k' Q .normal a w → post P n w0 D k Q (.exit id) a w
  | [], _, h, _ => by cases h
  | .code _ :: k, k', h, hp => post_exit k k' h hp
  | .sc :: k, k', h, hp => post_exit k k' h hp
  | .ops _ _ :: k, k', h, hp => post_exit k k' h hp
  | .clr :: k, k', h, hp => post_exit k k' h hp
  | .hold _ _ :: k, k', h, hp => post_exit k k' h hp
  | .dr _ _ _ _ _ _ _ :: k, k', h, hp => post_exit k k' h hp
  | .lp _ _ _ :: k, k', h, hp => post_exit k k' h hp
  | .blk i :: k, k', h, hp => by
    simp only [exitIt] at h
    simp only [post]
    by_cases e : i = id
    · rw [if_pos e] at h
      injection h with h
      subst h
      rw [if_pos e.symm]
      exact hp
    · rw [if_neg e] at h
      rw [if_neg (Ne.symm e)]
      exact post_exit k k' h hp
end

theorem post_nopanic {P : Program} {n : Nat} {w0 : World} {D : Dm} {Q : Exit → St → Prop} {c : List PanicEntry} {a : Act} {w : World} : ∀ k, ¬ post P n w0 D k Q (.panic c) a w
  | [], h => h.1
  | .code _ :: k, h => post_nopanic k h
  | .blk _ :: k, h => post_nopanic k h
  | .sc :: k, h => post_nopanic k h
  | .ops _ _ :: k, h => post_nopanic k h
  | .clr :: k, h => post_nopanic k h
  | .hold _ _ :: k, h => post_nopanic k h
  | .dr _ _ _ _ _ _ _ :: k, h => post_nopanic k h
  | .lp _ _ _ :: k, h => post_nopanic k h

/-- What an operation does: from any world in which the state lies, a value and a state of which R tells. -/
def OpSem (P : Program) (o : Oper) (s : St) (R : AV → St → Prop) : Prop :=
  ∀ (n : Nat) (w0 : World) (D : Dm) (a : Act) (w : World), Rel n w0 D s a w →
    ∃ v s' w', R v s' ∧ (execOp a.eval o).run P w = .ok (.value (v.den (bls s'.own))) w' ∧ Rel n w0 D s' a w' ∧ v.ok s'.own.length
/-- The same of one that yields nothing. -/
def OpSkip (P : Program) (o : Oper) (s : St) (R : St → Prop) : Prop :=
  ∀ (n : Nat) (w0 : World) (D : Dm) (a : Act) (w : World), Rel n w0 D s a w →
    ∃ s' w', R s' ∧ (execOp a.eval o).run P w = .ok .skip w' ∧ Rel n w0 D s' a w'
/-- The same of a call. -/
def OpCall (P : Program) (o : Oper) (s : St) (R : AV → St → Prop) : Prop :=
  ∀ (n : Nat) (w0 : World) (D : Dm) (a : Act) (w : World), Rel n w0 D s a w →
    ∃ f args, (execOp a.eval o).run P w = .ok (.enter f args) w ∧ Calls P f args w fun e w' =>
      ∃ v s', e = .returned (v.den (bls s'.own)) ∧ R v s' ∧ Rel n w0 D s' a w' ∧ v.ok s'.own.length

/-- An operation that yields its value in every world that holds what is told of it. -/
def OpHold (P : Program) (o : Oper) (s : St) (Lo : List (Nat × (Nat × Obj))) (F0 : Frozen) (v : AV) : Prop :=
  ∀ (n : Nat) (w0 : World) (D : Dm) (a : Act) (w : World), Rel n w0 D s a w → v.ok s.own.length ∧ ∀ w', HoldS Lo F0 w' → (execOp a.eval o).run P w' = .ok (.value (v.den (bls s.own))) w'
/-- What is held is known. -/
def holdE (s : St) : List (Nat × (Nat × Obj)) → Prop
  | [] => True
  | (r, (b, o)) :: t => (match s.own[r]? with | some (b', k) => b' = b ∧ k ≠ .dead ∧ k.obj (bls s.own) = o | none => False) ∧ holdE s t
def HoldIn (s : St) (Lo : List (Nat × (Nat × Obj))) (F0 : Frozen) : Prop := holdE s Lo ∧ ∀ b o, F0 b = some o → s.F b = some o
theorem holdE_spec {s : St} : ∀ {Lo : List (Nat × (Nat × Obj))}, holdE s Lo → ∀ x ∈ Lo, ∃ (k : AB), s.own[x.1]? = some (x.2.1, k) ∧ k ≠ .dead ∧ k.obj (bls s.own) = x.2.2
  | [], _, x, hx => by cases hx
  | (r, (b, o)) :: t, h, x, hx => by
    rcases List.mem_cons.1 hx with rfl | hx
    · have h1 := h.1
      split at h1
      · rename_i b' k hk
        obtain ⟨rfl, h2, h3⟩ := h1
        exact ⟨k, hk, h2, h3⟩
      · exact h1.elim
    · exact holdE_spec h.2 x hx

/-- Less is known. -/
def Less (s s3 : St) : Prop := ∀ (n : Nat) (w0 : World) (D : Dm) (a : Act) (w : World), Rel n w0 D s a w → Rel n w0 D s3 a w

inductive RunW (P : Program) (n : Nat) (Q : Exit → St → Prop) : List It → St → Prop
  | nil {s} (h : Q .normal s) : RunW P n Q [] s
  | ret {k s} (h : Q .ret s) : RunW P n Q (.code .ret :: k) s
  | skip {k s} (h : RunW P n Q k s) : RunW P n Q (.code .skip :: k) s
  | label {k s l} (h : RunW P n Q k s) : RunW P n Q (.code (.label l) :: k) s
  | seq {k s a b} (h : RunW P n Q (.code a :: .code b :: k) s) : RunW P n Q (.code (.seq a b) :: k) s
  | scope {k s b} (h : RunW P n Q (.code b :: .sc :: k) s) : RunW P n Q (.code (.scope b) :: k) s
  | sc {k s} (h : RunW P n Q k s) : RunW P n Q (.sc :: k) s
  | block {k s id b} (h : RunW P n Q (.code b :: .blk id :: k) s) : RunW P n Q (.code (.block id b) :: k) s
  | blk {k s id} (h : RunW P n Q k s) : RunW P n Q (.blk id :: k) s
  | exit {k k' s id} (he : exitIt id k = some k') (h : RunW P n Q k' s) : RunW P n Q (.code (.exit id) :: k) s
  | cond {k s c a b x} (hc : val s [] c = some (.a (.v (.bool x)))) (h1 : x = true → RunW P n Q (.code a :: k) s) (h0 : x = false → RunW P n Q (.code b :: k) s) : RunW P n Q (.code (.cond c a b) :: k) s
  | region {k s id l} (h : RunW P n Q (.ops l l :: .clr :: k) s) : RunW P n Q (.code (.region id l.toArray false) :: k) s
  | ops0 {k s all} (h : RunW P n Q k s) : RunW P n Q (.ops all [] :: k) s
  | clr {k s} (h : RunW P n Q k { s with gl := [], gs := [] }) : RunW P n Q (.clr :: k) s
  | hold {k s Lo F0} (hh : HoldIn s Lo F0) (h : RunW P n Q k s) : RunW P n Q (.hold Lo F0 :: k) s
  | draw {k s id l} (hm : P.follows .mixedOrders = true) (head : List Bool) (Lo : List (Nat × (Nat × Obj))) (sc : Sc) (hsc : scB l head sc = true) (h : RunW P n Q (.hold Lo s.F :: .dr l head Lo s.F (Array.replicate l.length false) true sc :: .clr :: k) s) : RunW P n Q (.code (.region id l.toArray true) :: k) s
  | drDone {k s l head Lo F0 listed ok} (h : RunW P n Q k s) : RunW P n Q (.dr l head Lo F0 listed ok .done :: k) s
  | drTake {k s l head Lo F0 listed i r o v} (hi : l[i]? = some o) (hg : o.guard = none) (hs : OpHold P o s Lo F0 v) (hp : putOk n s o.dst) (h : RunW P n Q (.dr l head Lo F0 (listed.setIfInBounds i true) true r :: k) (s.put o.dst v)) :
      RunW P n Q (.dr l head Lo F0 listed true (.take i r) :: k) s
  | drTakeG {k s l head Lo F0 listed i r o v G} (hi : l[i]? = some o) (hG : chain s l o.guard = some G) (hs : holds s G → OpHold P o s Lo F0 v) (hp : gputOk n s o.dst G) (h : RunW P n Q (.dr l head Lo F0 (listed.setIfInBounds i true) true r :: k) (s.gput o.dst v G)) :
      RunW P n Q (.dr l head Lo F0 listed true (.take i r) :: k) s
  | drOne {k s l head Lo F0 listed ok i r o} (hi : l[i]? = some o) (h : RunW P n Q (.ops l [o] :: (if head.getD i false = true then [.hold Lo F0] else []) ++ .dr l head Lo F0 (listed.setIfInBounds i true) (head.getD i false) r :: k) s) :
      RunW P n Q (.dr l head Lo F0 listed ok (.one i r) :: k) s
  | drTwo {k s l head Lo F0 listed ok i j r q o o'} (hi : l[i]? = some o) (hj : l[j]? = some o') (h : RunW P n Q (.ops l [o] :: (if head.getD i false = true then [.hold Lo F0] else []) ++ .dr l head Lo F0 (listed.setIfInBounds i true) (head.getD i false) r :: k) s)
      (h' : RunW P n Q (.ops l [o'] :: (if head.getD j false = true then [.hold Lo F0] else []) ++ .dr l head Lo F0 (listed.setIfInBounds j true) (head.getD j false) q :: k) s) : RunW P n Q (.dr l head Lo F0 listed ok (.two i j r q) :: k) s
  | step {k s all o os R} (hg : o.guard = none) (hs : OpSem P o s R) (hp : ∀ v s', R v s' → putOk n s' o.dst) (h : ∀ v s', R v s' → RunW P n Q (.ops all os :: k) (s'.put o.dst v)) : RunW P n Q (.ops all (o :: os) :: k) s
  | stepS {k s all o os R} (hg : o.guard = none) (hd : o.dst = none) (hs : OpSkip P o s R) (h : ∀ s', R s' → RunW P n Q (.ops all os :: k) s') : RunW P n Q (.ops all (o :: os) :: k) s
  | stepC {k s all o os R} (hg : o.guard = none) (hs : OpCall P o s R) (hp : ∀ v s', R v s' → putOk n s' o.dst) (h : ∀ v s', R v s' → RunW P n Q (.ops all os :: k) (s'.put o.dst v)) : RunW P n Q (.ops all (o :: os) :: k) s
  | gpure {k s all o os G v} (hG : chain s all o.guard = some G) (hs : holds s G → OpSem P o s fun v' s' => v' = v ∧ s' = s) (hd : gputOk n s o.dst G)
      (h : RunW P n Q (.ops all os :: k) (s.gput o.dst v G)) : RunW P n Q (.ops all (o :: os) :: k) s
  | gcall {k s all o os G R} (hG : chain s all o.guard = some G) (hs : holds s G → OpCall P o s R)
      (hp : ∀ v s', holds s G → R v s' → putOk n s' o.dst) (hp0 : ¬ holds s G → gputOk n s o.dst G)
      (h1 : ∀ v s', holds s G → R v s' → RunW P n Q (.ops all os :: k) (s'.put o.dst v))
      (h0 : ¬ holds s G → RunW P n Q (.ops all os :: k) (s.gput o.dst (.a (.v undef)) G)) : RunW P n Q (.ops all (o :: os) :: k) s
  | gcallP {k s all o os G v} (hG : chain s all o.guard = some G) (hs : holds s G → OpCall P o s fun v' s' => v' = v ∧ s' = s) (hd : gputOk n s o.dst G)
      (h : RunW P n Q (.ops all os :: k) (s.gput o.dst v G)) : RunW P n Q (.ops all (o :: os) :: k) s
  | loop {k s b} (I : St → Prop) (m : St → Nat) (h0 : I s) (h : ∀ s', I s' → RunW P n Q (.code b :: .lp I m (m s') :: k) s') : RunW P n Q (.code (.loop b) :: k) s
  | lp {k s I m m0} (hI : I s) (hm : m s < m0) : RunW P n Q (.lp I m m0 :: k) s
  | less {k s s3} (hl : Less s s3) (h : RunW P n Q k s3) : RunW P n Q k s

theorem wpList_ok {P : Program} {ops : Array Oper} {Q : Exit → Act → World → Prop} {o : Oper} {os : List Oper} {a : Act} {w : World} (hw : Region.wanted o (yielded ops a.tmps) = true)
    (h : o.wp P a w (wpList P ops Q os) Q) : wpList P ops Q (o :: os) a w := by
  unfold wpList
  rw [if_pos hw]
  exact .inl h
theorem wpList_off {P : Program} {ops : Array Oper} {Q : Exit → Act → World → Prop} {o : Oper} {os : List Oper} {a : Act} {w : World} (hw : Region.wanted o (yielded ops a.tmps) = false)
    (h : wpList P ops Q os (a.put o.dst undef) w) : wpList P ops Q (o :: os) a w := by
  unfold wpList
  rw [if_neg (by rw [hw]; simp)]
  exact h

theorem Rel.holdS {n : Nat} {w0 : World} {D : Dm} {s : St} {a : Act} {w : World} (h : Rel n w0 D s a w) {Lo : List (Nat × (Nat × Obj))} {F0 : Frozen} (hh : HoldIn s Lo F0) : HoldS Lo F0 w := by
  refine ⟨fun x hx => ?_, fun b o hb => h.mem.fz _ _ (hh.2 b o hb)⟩
  obtain ⟨k, h1, h2, h3⟩ := holdE_spec hh.1 x hx
  rw [h.mem.blk _ _ _ h1 h2, h3]
theorem Rel.drew {n : Nat} {w0 : World} {D : Dm} {s : St} {a : Act} {w : World} (h : Rel n w0 D s a w) (d : Nat) : Rel n w0 D s a { w with drawn := d } :=
  ⟨⟨h.mem.blk, h.mem.lt, h.mem.inj, h.mem.wf, h.mem.fz, h.mem.ap⟩, h.dn, h.sz, h.sl, h.gl, h.may, ⟨h.fr.os, h.fr.tape, h.fr.output, h.fr.size, h.fr.block⟩, h.fd⟩
theorem tailB_spec {l : List Oper} {head : List Bool} (h : tailB l head = true) {i : Nat} (hi : head.getD i false = true) (j : Nat) (oj : Oper) (hj : l.toArray[j]? = some oj) (hf : head.getD j false = false) : ∃ e ∈ oj.after, Go.Region.binds .any e = true ∧ e.on = i := by
  unfold tailB at h
  rw [Bool.and_eq_true, List.all_eq_true] at h
  obtain ⟨hlen, h⟩ := h
  have hj' : l[j]? = some oj := by simpa using hj
  have hjl := (List.getElem?_eq_some_iff.1 hj').1
  have h1 := h j (List.mem_range.2 hjl)
  rw [hf, Bool.false_or, List.all_eq_true] at h1
  rcases Nat.lt_or_ge i l.length with hl | hl
  · have h2 := h1 i (List.mem_range.2 hl)
    rw [hi, Bool.not_true, Bool.false_or] at h2
    unfold Region.waitsOn at h2
    rw [hj'] at h2
    obtain ⟨e, he, hb⟩ := Array.any_eq_true'.1 h2
    simp only [Bool.and_eq_true, beq_iff_eq] at hb
    exact ⟨e, he, hb⟩
  · exfalso
    have hlen' : head.length ≤ l.length := by simpa using hlen
    rw [List.getD, List.getElem?_eq_none (by omega)] at hi
    cases hi
theorem Oper.wp_mono2 {P : Program} {o : Oper} {a : Act} {w : World} {K K' : Act → World → Prop} {Q Q' : Exit → Act → World → Prop} (h : ∀ a w, K a w → K' a w) (hq : ∀ e a w, e ≠ .normal → Q e a w → Q' e a w)
    (hh : o.wp P a w K Q) : o.wp P a w K' Q' := by
  unfold Oper.wp at *
  generalize (execOp a.eval o).run P w = r at *
  cases r with
  | ok n w' =>
    cases n <;> simp only [Oper.upon] at hh ⊢ <;>
      first
        | exact h _ _ hh
        | exact Calls.mono hh (fun e w'' he => by
            cases e with
            | returned v => exact h _ _ he
            | panicked c => exact hq _ _ _ (by simp) he
            | outgrown => obtain ⟨a, w, he⟩ := he; exact ⟨a, w, hq _ _ _ (by simp) he⟩)
        | exact Rows.mono hh (fun _ _ he => h _ _ he)
  | halt x w' => cases x <;> simp only [Oper.upon] at hh ⊢ <;> first | exact hh | exact hq _ _ _ (by simp) hh
theorem wpOp_of_ops {P : Program} {n : Nat} {w0 : World} {D : Dm} {Q : Exit → St → Prop} {k : List It} {l : List Oper} {head head' : List Bool} {Lo Lo' : List (Nat × (Nat × Obj))} {F0 F0' : Frozen} {li : Array Bool} {sc : Sc} {i : Nat} {o : Oper} (hi : l[i]? = some o) {a : Act} {w : World} {K : Act → World → Prop}
    (h : post P n w0 D (.ops l [o] :: (if head.getD i false = true then [.hold Lo F0] else []) ++ .dr l head' Lo' F0' li (head.getD i false) sc :: k) Q .normal a w)
    (hK : ∀ a w, (head.getD i false = true → HoldS Lo F0 w) → post P n w0 D (.dr l head' Lo' F0' li (head.getD i false) sc :: k) Q .normal a w → K a w) : wpOp P l.toArray (post P n w0 D k Q) i (fun a' w' => (head.getD i false = true → HoldS Lo F0 w') ∧ K a' w') a w := by
  have hi' : l.toArray[i]? = some o := by simpa using hi
  have key : ∀ (Q' : Exit → Act → World → Prop), (∀ e a w, e ≠ .normal → Q' e a w → post P n w0 D k Q e a w) → (∀ a w, Q' .normal a w → (head.getD i false = true → HoldS Lo F0 w) ∧ K a w) → wpList P l.toArray Q' [o] a w →
      wpOp P l.toArray (post P n w0 D k Q) i (fun a' w' => (head.getD i false = true → HoldS Lo F0 w') ∧ K a' w') a w := by
    intro Q' h1 h2 hw
    unfold wpOp
    rw [hi']
    dsimp only
    unfold wpList at hw
    split at hw
    · rename_i hwant
      rw [if_pos hwant]
      rcases hw with hw | ⟨ha, a1, w1, hw⟩
      · exact .inl (Oper.wp_mono2 (fun a w hx => h2 a w hx) h1 hw)
      · exact .inr ⟨ha, a1, w1, h1 _ _ _ (by simp) hw⟩
    · rename_i hwant
      rw [if_neg hwant]
      exact h2 _ _ hw
  cases hh : head.getD i false with
  | true =>
    rw [hh, if_pos rfl] at h
    rw [hh] at key hK
    refine key (post P n w0 D (.hold Lo F0 :: .dr l head' Lo' F0' li true sc :: k) Q) ?_ ?_ h
    · intro e a w he hq
      cases e <;> first | exact absurd rfl he | exact hq
    · intro a w hq
      exact ⟨fun _ => hq.1, hK a w (fun _ => hq.1) hq.2⟩
  | false =>
    rw [hh, if_neg (by simp)] at h
    rw [hh] at key hK
    refine key (post P n w0 D (.dr l head' Lo' F0' li false sc :: k) Q) ?_ ?_ h
    · intro e a w he hq
      cases e <;> first | exact absurd rfl he | exact hq
    · intro a w hq
      exact ⟨fun hx => (by simp at hx), hK a w (fun hx => (by simp at hx)) hq⟩
theorem RunW.sound {P : Program} {n : Nat} {Q : Exit → St → Prop} {k : List It} {s : St} (h : RunW P n Q k s) (w0 : World) (D : Dm) :
    ∀ a w, Rel n w0 D s a w → post P n w0 D k Q .normal a w := by
  induction h with
  | nil h => exact fun a w hr => ⟨trivial, _, hr, h⟩
  | ret h => exact fun a w hr => wp_ret (post_ret P n w0 D hr h _)
  | skip _ ih => exact fun a w hr => wp_skip (ih a w hr)
  | label _ ih => exact fun a w hr => wp_label (ih a w hr)
  | seq _ ih =>
    intro a w hr
    refine wp_seq (wp_mono (ih a w hr) fun e a w h => ?_)
    cases e <;> exact h
  | scope _ ih =>
    intro a w hr
    refine wp_scope_straight (wp_mono (ih a w hr) fun e a w h => ?_)
    cases e <;> exact h
  | sc _ ih => exact fun a w hr => ih a w hr
  | block _ ih =>
    intro a w hr
    refine wp_block (wp_mono (ih a w hr) fun e a w h => ?_)
    cases e <;> exact h
  | blk _ ih => exact fun a w hr => ih a w hr
  | exit he _ ih => exact fun a w hr => wp_exit (post_exit P n w0 D _ _ he (ih a w hr))
  | cond hc _ _ ih1 ih0 =>
    intro a w hr
    exact wp_cond_split (hr.val (G := []) trivial hc).1 (fun e => ih1 e a w hr) (fun e => ih0 e a w hr)
  | region _ ih => exact fun a w hr => wp_region_lit (ih a w hr)
  | @ops0 k s all _ ih =>
    intro a w hr
    show wpList P all.toArray (post P n w0 D k Q) [] a w
    exact wpList_nil (ih a w hr)
  | clr _ ih => exact fun a w hr => ih a w hr.ungl
  | hold hh _ ih => exact fun a w hr => ⟨hr.holdS hh, ih a w hr⟩
  | @draw k s id l hm head Lo sc hsc _ ih =>
    intro a w hr
    obtain ⟨hS, hd⟩ := ih a { w with drawn := w.drawn + 1 } (hr.drew _)
    unfold scB at hsc
    simp only [Bool.and_eq_true, decide_eq_true_eq] at hsc
    have h1 := hd hsc.1.1.1 hsc.1.1.2 hsc.2 (fun _ => hS) l.length hsc.1.2
    have h2 := wpAny_of_V _ _ _ _ h1
    refine wp_region_any hm ?_
    rw [List.size_toArray]
    exact h2
  | @drDone k s l head Lo F0 listed ok _ ih =>
    intro a w hr hns htl hfit hok fuel _
    simp only [Sc.fits, List.isEmpty_iff] at hfit
    cases fuel with
    | zero => exact ⟨hfit, ih a w hr⟩
    | succ fuel => exact ⟨fun _ => ih a w hr, by rw [hfit]; simp⟩
  | @drTake k s l head Lo F0 listed i r o v hi hg hs hp _ ih =>
    intro a w hr hns htl hfit hok fuel hle
    simp only [Sc.fits, Bool.and_eq_true] at hfit
    simp only [Sc.depth] at hle
    obtain ⟨fuel, rfl⟩ : ∃ m, fuel = m + 1 := ⟨fuel - 1, by omega⟩
    obtain ⟨hv, hrun⟩ := hs n w0 D a w hr
    have hi' : l.toArray[i]? = some o := by simpa using hi
    refine wpAnyV_first (v := v.den (bls s.own)) hi' (Region.noSelect_spec hns) (fun c a w h => absurd h (post_nopanic _)) hfit.1.1.1 (tailB_spec htl hfit.1.1.1) fuel listed a w (Region.free_spec hi' hfit.1.1.2) (by simpa using hfit.1.2) (.inl ⟨by simp [Region.wanted, hg], hrun⟩) (hok rfl) ?_
    exact ih _ _ (hr.put hp hv) hns htl hfit.2 (fun _ => hok rfl) fuel (by omega)
  | @drTakeG k s l head Lo F0 listed i r o v G hi hG hs hp _ ih =>
    intro a w hr hns htl hfit hok fuel hle
    simp only [Sc.fits, Bool.and_eq_true] at hfit
    simp only [Sc.depth] at hle
    obtain ⟨fuel, rfl⟩ : ∃ m, fuel = m + 1 := ⟨fuel - 1, by omega⟩
    have hi' : l.toArray[i]? = some o := by simpa using hi
    by_cases hhG : holds s G
    · obtain ⟨hv, hrun⟩ := hs hhG n w0 D a w hr
      refine wpAnyV_first (v := v.den (bls s.own)) hi' (Region.noSelect_spec hns) (fun c a w h => absurd h (post_nopanic _)) hfit.1.1.1 (tailB_spec htl hfit.1.1.1) fuel listed a w (Region.free_spec hi' hfit.1.1.2) (by simpa using hfit.1.2) (.inl ⟨(hr.wanted hG).1 hhG, hrun⟩) (hok rfl) ?_
      exact ih _ _ (hr.gput hp (fun _ => ⟨rfl, hv⟩) (fun hn => absurd hhG hn)) hns htl hfit.2 (fun _ => hok rfl) fuel (by omega)
    · refine wpAnyV_first (v := undef) hi' (Region.noSelect_spec hns) (fun c a w h => absurd h (post_nopanic _)) hfit.1.1.1 (tailB_spec htl hfit.1.1.1) fuel listed a w (Region.free_spec hi' hfit.1.1.2) (by simpa using hfit.1.2) (.inr ⟨(hr.wanted hG).2 hhG, rfl⟩) (hok rfl) ?_
      exact ih _ _ (hr.gput hp (fun hx => absurd hx hhG) (fun _ => rfl)) hns htl hfit.2 (fun _ => hok rfl) fuel (by omega)
  | @drOne k s l head Lo F0 listed ok i r o hi _ ih =>
    intro a w hr hns htl hfit hok fuel hle
    simp only [Sc.fits, Bool.and_eq_true, beq_iff_eq] at hfit
    simp only [Sc.depth] at hle
    obtain ⟨fuel, rfl⟩ : ∃ m, fuel = m + 1 := ⟨fuel - 1, by omega⟩
    refine ⟨fun h => (by rw [hfit.1] at h; cases h), fun j hj => ?_⟩
    rw [hfit.1, List.mem_singleton] at hj
    subst hj
    exact wpOp_of_ops hi (ih a w hr) (fun a' w' hS h => h hns htl hfit.2 hS fuel (by omega))
  | @drTwo k s l head Lo F0 listed ok i j r q o o' hi hj _ _ ih ih' =>
    intro a w hr hns htl hfit hok fuel hle
    simp only [Sc.fits, Bool.and_eq_true, beq_iff_eq] at hfit
    simp only [Sc.depth] at hle
    obtain ⟨fuel, rfl⟩ : ∃ m, fuel = m + 1 := ⟨fuel - 1, by omega⟩
    refine ⟨fun h => (by rw [hfit.1.1] at h; cases h), fun x hx => ?_⟩
    rw [hfit.1.1] at hx
    simp only [List.mem_cons, List.not_mem_nil, or_false] at hx
    rcases hx with rfl | rfl
    · exact wpOp_of_ops hi (ih a w hr) (fun a' w' hS h => h hns htl hfit.1.2 hS fuel (by omega))
    · exact wpOp_of_ops hj (ih' a w hr) (fun a' w' hS h => h hns htl hfit.2 hS fuel (by omega))
  | @step k s all o os R hg hs hp _ ih =>
    intro a w hr
    obtain ⟨v, s', w', hR, hrun, hr', hv⟩ := hs n w0 D a w hr
    refine wpList_ok (by simp [Region.wanted, hg]) ?_
    unfold Oper.wp
    rw [hrun, Oper.upon_value]
    exact ih v s' hR _ _ (hr'.put (hp v s' hR) hv)
  | @stepS k s all o os R hg hd hs _ ih =>
    intro a w hr
    obtain ⟨s', w', hR, hrun, hr'⟩ := hs n w0 D a w hr
    refine wpList_ok (by simp [Region.wanted, hg]) ?_
    unfold Oper.wp
    rw [hrun, Oper.upon_skip, hd]
    exact ih s' hR _ _ hr'
  | @stepC k s all o os R hg hs hp _ ih =>
    intro a w hr
    obtain ⟨f, args, hrun, hc⟩ := hs n w0 D a w hr
    refine wpList_ok (by simp [Region.wanted, hg]) ?_
    unfold Oper.wp
    rw [hrun, Oper.upon_enter]
    refine hc.mono fun e w' ⟨v, s', he, hR, hr', hv⟩ => ?_
    subst he
    exact ih v s' hR _ _ (hr'.put (hp v s' hR) hv)
  | @gpure k s all o os G v hG hs hd _ ih =>
    intro a w hr
    by_cases hh : holds s G
    · obtain ⟨v', s', w', ⟨rfl, rfl⟩, hrun, hr', hv⟩ := hs hh n w0 D a w hr
      refine wpList_ok ((hr.wanted hG).1 hh) ?_
      unfold Oper.wp
      rw [hrun, Oper.upon_value]
      exact ih _ _ (hr'.gput hd (fun _ => ⟨rfl, hv⟩) (fun hn => absurd hh hn))
    · exact wpList_off ((hr.wanted hG).2 hh) (ih _ _ (hr.gput hd (fun hx => absurd hx hh) (fun _ => rfl)))
  | @gcall k s all o os G R hG hs hp hp0 _ _ ih1 ih0 =>
    intro a w hr
    by_cases hh : holds s G
    · obtain ⟨f, args, hrun, hc⟩ := hs hh n w0 D a w hr
      refine wpList_ok ((hr.wanted hG).1 hh) ?_
      unfold Oper.wp
      rw [hrun, Oper.upon_enter]
      refine hc.mono fun e w' ⟨v, s', he, hR, hr', hv⟩ => ?_
      subst he
      exact ih1 v s' hh hR _ _ (hr'.put (hp v s' hh hR) hv)
    · exact wpList_off ((hr.wanted hG).2 hh) (ih0 hh _ _ (hr.gput (hp0 hh) (fun hx => absurd hx hh) (fun _ => rfl)))
  | @gcallP k s all o os G v hG hs hd _ ih =>
    intro a w hr
    by_cases hh : holds s G
    · obtain ⟨f, args, hrun, hc⟩ := hs hh n w0 D a w hr
      refine wpList_ok ((hr.wanted hG).1 hh) ?_
      unfold Oper.wp
      rw [hrun, Oper.upon_enter]
      refine hc.mono fun e w' ⟨v', s', he, ⟨e1, e2⟩, hr', hv⟩ => ?_
      subst he e1 e2
      exact ih _ _ (hr'.gput hd (fun _ => ⟨rfl, hv⟩) (fun hn => absurd hh hn))
    · exact wpList_off ((hr.wanted hG).2 hh) (ih _ _ (hr.gput hd (fun hx => absurd hx hh) (fun _ => rfl)))
  | @loop k s b I m h0 _ ih =>
    intro a w hr
    have key : ∀ (N : Nat) (s : St) (a : Act) (w : World), I s → m s < N → Rel n w0 D s a w → Code.rounds P b (post P n w0 D k Q) N a w := by
      intro N
      induction N with
      | zero => intro s a w _ hm; omega
      | succ N ihN =>
        intro s a w hI hm hr
        rw [rounds_succ]
        refine wp_mono (ih s hI a w hr) fun e a' w' h => ?_
        cases e with
        | normal =>
          obtain ⟨s', hr', hI', hm'⟩ := h
          exact ihN s' a' w' hI' (by omega) hr'
        | _ => exact h
    exact wp_loop_rounds _ (key (m s + 1) s a w h0 (by omega) hr)
  | lp hI hm => exact fun a w hr => ⟨_, hr, hI, hm⟩
  | less hl _ ih => exact fun a w hr => ih a w (hl n w0 D a w hr)

end Go.VC
