/- A calculus of conditions for the loaded code: values, own blocks, and how they lie in a world. No statement of the seat is proved here. -/
import Derived.Calls
import Derived.Tactics
namespace Go.VC
open Go

/-- One cell's value: 'v': any value of its own; 'p', 's', 'm': a pointer, a slice, a map that leads to an own block, by its number in the list of own blocks. -/
inductive A1 where
  | v (x : Value)
  | p (r i : Nat)
  | s (r i len cap : Nat)
  | m (r : Nat)
  | fn (f : FuncId) (caps : List (Nat × Nat))
  deriving Inhabited
inductive P2 where
  | a (x : A1)
  | g (l : List A1)
  deriving Inhabited
inductive AV where
  | a (x : A1)
  | g (l : List A1)
  | t (l : List P2)
  deriving Inhabited
/-- What an own block holds. -/
inductive AB where
  | c (ty : TypeId) (l : List A1)
  | raw (ty : TypeId) (l : List Value) (fr : Nat × Nat)
  | it (s : ByteArray) (pos : Nat)
  | mp (es : List MapEntry) (clock : Nat)
  | dead
  deriving Inhabited

abbrev Own := List (Nat × AB)
abbrev Frozen := Nat → Option Obj
def bls (o : Own) : List Nat := o.map Prod.fst

def A1.den (bl : List Nat) : A1 → Value
  | .v x => x
  | .p r i => .pointer (some ⟨bl.getD r 0, i, none⟩)
  | .s r i n c => .slice (some ⟨bl.getD r 0, i, none⟩) n c
  | .m r => .map (some (bl.getD r 0))
  | .fn f caps => .func (.func f) #[] (caps.map fun (r, i) => Value.pointer (some ⟨bl.getD r 0, i, none⟩)).toArray
def P2.den (bl : List Nat) : P2 → Value
  | .a x => x.den bl
  | .g l => .agg (l.map (A1.den bl)).toArray
def AV.den (bl : List Nat) : AV → Value
  | .a x => x.den bl
  | .g l => .agg (l.map (A1.den bl)).toArray
  | .t l => .tuple (l.map (P2.den bl)).toArray
def AB.obj (bl : List Nat) : AB → Obj
  | .c ty l => .cells (l.map (A1.den bl)).toArray ty (0, 0)
  | .raw ty l fr => .cells l.toArray ty fr
  | .it s p => .stringIter s p
  | .mp es cl => .map es.toArray cl
  | .dead => .cells #[] 0 (0, 0)

def A1.ok (n : Nat) : A1 → Prop
  | .v _ => True
  | .p r _ => r < n
  | .s r _ _ _ => r < n
  | .m r => r < n
  | .fn _ caps => ∀ x ∈ caps, x.1 < n
def P2.ok (n : Nat) : P2 → Prop
  | .a x => x.ok n
  | .g l => ∀ x ∈ l, x.ok n
def AV.ok (n : Nat) : AV → Prop
  | .a x => x.ok n
  | .g l => ∀ x ∈ l, x.ok n
  | .t l => ∀ x ∈ l, x.ok n
def AB.ok (n : Nat) : AB → Prop
  | .c _ l => ∀ x ∈ l, x.ok n
  | _ => True

/-- A value of one cell. -/
def A1.one : A1 → Bool
  | .v (.agg _) => false
  | .v (.tuple _) => false
  | _ => true

theorem A1.ok_mono {n n' : Nat} {x : A1} (h : x.ok n) (hn : n ≤ n') : x.ok n' := by
  cases x <;> simp only [A1.ok] at * <;> first | exact trivial | omega | (intro y hy; have := h y hy; omega)
theorem P2.ok_mono {n n' : Nat} {x : P2} (h : x.ok n) (hn : n ≤ n') : x.ok n' := by
  cases x with
  | a x => exact A1.ok_mono h hn
  | g l => exact fun y hy => A1.ok_mono (h y hy) hn
theorem AV.ok_mono {n n' : Nat} {x : AV} (h : x.ok n) (hn : n ≤ n') : x.ok n' := by
  cases x with
  | a x => exact A1.ok_mono h hn
  | g l => exact fun y hy => A1.ok_mono (h y hy) hn
  | t l => exact fun y hy => P2.ok_mono (h y hy) hn
theorem AB.ok_mono {n n' : Nat} {x : AB} (h : x.ok n) (hn : n ≤ n') : x.ok n' := by
  cases x <;> simp only [AB.ok] at * <;> first | exact fun y hy => A1.ok_mono (h y hy) hn | exact trivial

/-- Two lists of block numbers that agree on the first n. -/
def Agree (n : Nat) (bl bl' : List Nat) : Prop := ∀ r, r < n → bl'.getD r 0 = bl.getD r 0
theorem A1.den_agree {n : Nat} {bl bl' : List Nat} (ha : Agree n bl bl') {x : A1} (h : x.ok n) : x.den bl' = x.den bl := by
  cases x with
  | v x => rfl
  | p r i => simp only [A1.den]; rw [ha r h]
  | s r i a b => simp only [A1.den]; rw [ha r h]
  | m r => simp only [A1.den]; rw [ha r h]
  | fn f caps =>
    simp only [A1.den]
    congr 2
    refine List.map_congr_left fun y hy => ?_
    obtain ⟨r, i⟩ := y
    dsimp only
    rw [ha r (h _ hy)]
theorem map_den_agree {n : Nat} {bl bl' : List Nat} (ha : Agree n bl bl') {l : List A1} (h : ∀ x ∈ l, x.ok n) : l.map (A1.den bl') = l.map (A1.den bl) :=
  List.map_congr_left fun x hx => A1.den_agree ha (h x hx)
theorem P2.den_agree {n : Nat} {bl bl' : List Nat} (ha : Agree n bl bl') {x : P2} (h : x.ok n) : x.den bl' = x.den bl := by
  cases x with
  | a x => exact A1.den_agree ha h
  | g l => simp only [P2.den]; rw [map_den_agree ha h]
theorem AV.den_agree {n : Nat} {bl bl' : List Nat} (ha : Agree n bl bl') {x : AV} (h : x.ok n) : x.den bl' = x.den bl := by
  cases x with
  | a x => exact A1.den_agree ha h
  | g l => simp only [AV.den]; rw [map_den_agree ha h]
  | t l => simp only [AV.den]; rw [List.map_congr_left fun x hx => P2.den_agree ha (h x hx)]
theorem AB.obj_agree {n : Nat} {bl bl' : List Nat} (ha : Agree n bl bl') {x : AB} (h : x.ok n) : x.obj bl' = x.obj bl := by
  cases x with
  | c ty l => simp only [AB.obj]; rw [map_den_agree ha h]
  | raw ty l fr => rfl
  | it s p => rfl
  | mp es cl => rfl
  | dead => rfl

/-- How own blocks and frozen ones lie in a world. -/
structure MRel (own : Own) (F : Frozen) (w : World) : Prop where
  blk : ∀ (r b : Nat) (k : AB), own[r]? = some (b, k) → k ≠ .dead → w.heap[b]? = some (k.obj (bls own))
  lt : ∀ (r b : Nat) (k : AB), own[r]? = some (b, k) → b < w.heap.size
  inj : ∀ (r r' b : Nat) (k k' : AB), own[r]? = some (b, k) → own[r']? = some (b, k') → k ≠ .dead → k' ≠ .dead → r = r'
  wf : ∀ (r b : Nat) (k : AB), own[r]? = some (b, k) → k.ok own.length
  fz : ∀ b o, F b = some o → w.heap[b]? = some o
  ap : ∀ (r b : Nat) (k : AB), own[r]? = some (b, k) → k ≠ .dead → F b = none

/-- Of what was there in w0, only blocks in D may have turned. -/
structure Fr (w0 : World) (D : Nat → Prop) (w : World) : Prop where
  os : w.os = w0.os
  tape : w.tape = w0.tape
  output : w.output = w0.output
  size : w0.heap.size ≤ w.heap.size
  block : ∀ k, k < w0.heap.size → ¬ D k → w.heap[k]? = w0.heap[k]?

theorem Fr.refl (w : World) (D : Nat → Prop) : Fr w D w := ⟨rfl, rfl, rfl, Nat.le_refl _, fun _ _ _ => rfl⟩
theorem Fr.trans {w0 w1 w2 : World} {D D' : Nat → Prop} (h : Fr w0 D w1) (h' : Fr w1 D' w2) (hD : ∀ k, k < w0.heap.size → D' k → D k) : Fr w0 D w2 :=
  ⟨h'.os.trans h.os, h'.tape.trans h.tape, h'.output.trans h.output, Nat.le_trans h.size h'.size,
    fun k hk hd => (h'.block k (Nat.lt_of_lt_of_le hk h.size) (fun hx => hd (hD k hk hx))).trans (h.block k hk hd)⟩

theorem bls_length (o : Own) : (bls o).length = o.length := by simp [bls]
theorem bls_append (o o' : Own) : bls (o ++ o') = bls o ++ bls o' := by simp [bls]
theorem bls_get {o : Own} {r b : Nat} {k : AB} (h : o[r]? = some (b, k)) : (bls o).getD r 0 = b := by
  simp [bls, List.getD, h]
theorem agree_append (bl x : List Nat) : Agree bl.length bl (bl ++ x) := fun r hr => by
  simp [List.getD, List.getElem?_append_left hr]
theorem bls_set (o : Own) (r b : Nat) (k k' : AB) (h : o[r]? = some (b, k)) : bls (o.set r (b, k')) = bls o := by
  unfold bls
  apply List.ext_getElem?
  intro i
  simp only [List.getElem?_map, List.getElem?_set]
  by_cases hi : r = i
  · subst hi
    simp [h]
    rw [List.getElem?_eq_some_iff] at h
    obtain ⟨hl, _⟩ := h
    simp [hl]
  · simp [hi]

/-- A new block. -/
theorem MRel.new {own : Own} {F : Frozen} {w : World} (h : MRel own F w) {k : AB} (hk : k.ok own.length) :
    MRel (own ++ [(w.heap.size, k)]) F { w with heap := w.heap.push (k.obj (bls own)) } := by
  have hag : Agree own.length (bls own) (bls (own ++ [(w.heap.size, k)])) := by
    rw [bls_append, ← bls_length own]
    exact agree_append _ _
  have split : ∀ {r b k'}, (own ++ [(w.heap.size, k)])[r]? = some (b, k') → (r < own.length ∧ own[r]? = some (b, k')) ∨ (r = own.length ∧ b = w.heap.size ∧ k' = k) := by
    intro r b k' hr
    rcases Nat.lt_or_ge r own.length with hl | hl
    · exact .inl ⟨hl, by rwa [List.getElem?_append_left hl] at hr⟩
    · rw [List.getElem?_append_right hl] at hr
      rcases Nat.eq_zero_or_pos (r - own.length) with h0 | h0
      · rw [h0] at hr
        simp at hr
        exact .inr ⟨by omega, hr.1.symm, hr.2.symm⟩
      · rw [List.getElem?_eq_none (by simp; omega)] at hr
        cases hr
  refine ⟨?_, ?_, ?_, ?_, ?_, ?_⟩
  · intro r b k' hr hd
    rcases split hr with ⟨hl, hr'⟩ | ⟨rfl, rfl, rfl⟩
    · have hb := h.lt _ _ _ hr'
      show (w.heap.push _)[b]? = _
      rw [Array.getElem?_push, if_neg (by omega), h.blk _ _ _ hr' hd, AB.obj_agree hag (h.wf _ _ _ hr')]
    · show (w.heap.push _)[w.heap.size]? = _
      rw [Array.getElem?_push, if_pos rfl, AB.obj_agree hag hk]
  · intro r b k' hr
    show b < (w.heap.push _).size
    rw [Array.size_push]
    rcases split hr with ⟨_, hr'⟩ | ⟨_, rfl, _⟩
    · have := h.lt _ _ _ hr'; omega
    · omega
  · intro r r' b k1 k2 hr hr' d1 d2
    rcases split hr with ⟨hl, h1⟩ | ⟨rfl, rfl, rfl⟩ <;> rcases split hr' with ⟨hl', h2⟩ | ⟨rfl, e, rfl⟩
    · exact h.inj _ _ _ _ _ h1 h2 d1 d2
    · have := h.lt _ _ _ h1; omega
    · have := h.lt _ _ _ h2; omega
    · rfl
  · intro r b k' hr
    rw [List.length_append]
    rcases split hr with ⟨_, hr'⟩ | ⟨_, _, rfl⟩
    · exact AB.ok_mono (h.wf _ _ _ hr') (by omega)
    · exact AB.ok_mono hk (by omega)
  · intro b o hb
    have h1 := h.fz b o hb
    have hlt : b < w.heap.size := by
      rcases Nat.lt_or_ge b w.heap.size with hl | hl
      · exact hl
      · rw [Array.getElem?_eq_none hl] at h1; cases h1
    show (w.heap.push _)[b]? = _
    rw [Array.getElem?_push, if_neg (by omega), h1]
  · intro r b k' hr hd
    rcases split hr with ⟨_, hr'⟩ | ⟨_, rfl, _⟩
    · exact h.ap _ _ _ hr' hd
    · cases hF : F w.heap.size with
      | none => rfl
      | some o =>
        have h1 := h.fz _ _ hF
        rw [Array.getElem?_eq_none (Nat.le_refl _)] at h1
        cases h1

/-- An own block turns: w' differs from w in block b alone. -/
theorem MRel.turn {own : Own} {F : Frozen} {w w' : World} (h : MRel own F w) {r b : Nat} {k k' : AB} (hr : own[r]? = some (b, k)) (hd : k ≠ .dead) (hk' : k'.ok own.length)
    (hsz : w'.heap.size = w.heap.size) (hb : k' ≠ .dead → w'.heap[b]? = some (k'.obj (bls own))) (ho : ∀ i, i ≠ b → w'.heap[i]? = w.heap[i]?) : MRel (own.set r (b, k')) F w' := by
  have hbl : bls (own.set r (b, k')) = bls own := bls_set _ _ _ _ _ hr
  have split : ∀ {r1 b1 k1}, (own.set r (b, k'))[r1]? = some (b1, k1) → (r1 = r ∧ b1 = b ∧ k1 = k') ∨ (r1 ≠ r ∧ own[r1]? = some (b1, k1)) := by
    intro r1 b1 k1 h1
    rw [List.getElem?_set] at h1
    by_cases e : r = r1
    · subst e
      rw [if_pos rfl] at h1
      split at h1
      · injection h1 with h1
        injection h1 with h2 h3
        exact .inl ⟨rfl, h2.symm, h3.symm⟩
      · cases h1
    · rw [if_neg e] at h1
      exact .inr ⟨fun e' => e e'.symm, h1⟩
  refine ⟨?_, ?_, ?_, ?_, ?_, ?_⟩
  · intro r1 b1 k1 h1 hd1
    rw [hbl]
    rcases split h1 with ⟨rfl, rfl, rfl⟩ | ⟨hne, h2⟩
    · exact hb hd1
    · have : b1 ≠ b := fun e => hne (h.inj r1 r b k1 k (e ▸ h2) hr hd1 hd)
      rw [ho b1 this]
      exact h.blk _ _ _ h2 hd1
  · intro r1 b1 k1 h1
    rw [hsz]
    rcases split h1 with ⟨rfl, rfl, rfl⟩ | ⟨_, h2⟩
    · exact h.lt _ _ _ hr
    · exact h.lt _ _ _ h2
  · intro r1 r2 b1 k1 k2 h1 h2 d1 d2
    rcases split h1 with ⟨rfl, rfl, rfl⟩ | ⟨hn1, h1'⟩ <;> rcases split h2 with ⟨rfl, e, rfl⟩ | ⟨hn2, h2'⟩
    · rfl
    · exact absurd (h.inj _ _ _ _ _ hr h2' hd d2) (Ne.symm hn2)
    · subst e; exact absurd (h.inj _ _ _ _ _ h1' hr d1 hd) hn1
    · exact h.inj _ _ _ _ _ h1' h2' d1 d2
  · intro r1 b1 k1 h1
    rw [List.length_set]
    rcases split h1 with ⟨rfl, rfl, rfl⟩ | ⟨_, h2⟩
    · exact hk'
    · exact h.wf _ _ _ h2
  · intro b1 o hb1
    have : b1 ≠ b := fun e => by
      have := h.ap _ _ _ hr hd
      rw [← e, hb1] at this
      cases this
    rw [ho b1 this]
    exact h.fz _ _ hb1
  · intro r1 b1 k1 h1 hd1
    rcases split h1 with ⟨rfl, rfl, rfl⟩ | ⟨_, h2⟩
    · exact h.ap _ _ _ hr hd
    · exact h.ap _ _ _ h2 hd1

end Go.VC
