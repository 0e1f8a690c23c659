/- A calculus of conditions for the loaded code: a table of types out of lists. No statement of the seat is proved here. -/
import Derived.Test.YtjefojpbglcjhaaVg
namespace Go.VC
open Go

/-- Of struct types each field's place, its cells if it is an aggregate, its size; and so on. -/
structure TabL where
  st : List (Nat × List (Nat × Option Nat × Nat))
  one : List Nat
  agg : List (Nat × Nat)
  zero : List (Nat × (List Value × Bool))
  ints : List (Nat × IntKind)
  sl : List (Nat × (Nat × Nat))
  str : List Nat
  ptr : List Nat
  boolT : List Nat
  flat : List (Nat × List (Option IntKind))
  bys : List Nat
  arr : List (Nat × (Nat × Nat))

def TabL.tab (L : TabL) : Tab where
  fld t f := (look L.st t).bind fun l => (l[f]?).bind fun x => if x.2.2 = 0 then none else some x.1
  part t f := (look L.st t).bind fun l => (l[f]?).map fun x => (x.1, x.2.1)
  sz t := if L.one.contains t = true then some none else (look L.agg t).map some
  zero t := look L.zero t
  conv t u := if (look L.ints t).isSome = true then look L.ints u else none
  sl t := look L.sl t
  str t := L.str.contains t
  bld t := (look L.st t).map fun l => l.map fun x => (x.1, x.2.2)
  ptr t := L.ptr.contains t
  boolT t := L.boolT.contains t
  flat t := look L.flat t
  bys t := L.bys.contains t
  arr t := look L.arr t

def stB (P : Program) (x : Nat × List (Nat × Option Nat × Nat)) : Bool :=
  match P.underlying x.1 with
  | some (.struct fs) => fs.toList.length == x.2.length && (fs.toList.zip x.2).all fun y =>
    y.1.offset == y.2.1 && match P.info? y.1.type, P.underlying y.1.type with
      | some ti, some d => ti.size == y.2.2.2 && (match y.2.2.1 with | none => !isAggD d | some n => isAggD d && n == ti.size)
      | _, _ => false
  | _ => false
def oneB (P : Program) (t : Nat) : Bool :=
  match P.info? t, P.underlying t with
  | some ti, some d => !isAggD d && ti.size == 1
  | _, _ => false
def aggB (P : Program) (x : Nat × Nat) : Bool :=
  match P.info? x.1, P.underlying x.1 with
  | some ti, some d => isAggD d && ti.size == x.2
  | _, _ => false
def intB (P : Program) (x : Nat × IntKind) : Bool :=
  match P.underlying x.1 with
  | some (.int k) => k == x.2
  | _ => false
def slB (P : Program) (x : Nat × (Nat × Nat)) : Bool :=
  match P.underlying x.1, P.info? x.2.1 with
  | some (.slice e), some ti => e == x.2.1 && ti.size == x.2.2
  | _, _ => false
def strB (P : Program) (t : Nat) : Bool :=
  match P.underlying t with
  | some .string => true
  | _ => false
def ptrB (P : Program) (t : Nat) : Bool :=
  match P.underlying t with
  | some (.pointer _) => true
  | _ => false
def boolB (P : Program) (t : Nat) : Bool :=
  match P.underlying t with
  | some .bool => true
  | _ => false
def flatB (P : Program) (x : Nat × List (Option IntKind)) : Bool :=
  match P.underlying x.1 with
  | some (.struct fs) => !P.stoodInHeld x.1 && !P.eqGuardType P.depth x.1 && fs.toList.length == x.2.length && ((fs.toList.zip x.2).zipIdx).all fun y =>
    y.1.1.name != "_" && y.1.1.offset == y.2 && match y.1.2, P.underlying y.1.1.type with
      | some k, some (.int k') => k' == k
      | none, some .bool => true
      | _, _ => false
  | _ => false
def bysB (P : Program) (t : Nat) : Bool :=
  match P.underlying t with
  | some (.slice e) => match P.underlying e with
    | some (.int .u8) => true
    | _ => false
  | _ => false
def arrB (P : Program) (x : Nat × (Nat × Nat)) : Bool :=
  match P.underlying x.1 with
  | some (.array n e) => n == x.2.1 && match P.info? e with
    | some ti => ti.size == x.2.2
    | none => false
  | _ => false
def zeroE (P : Program) (x : Nat × (List Value × Bool)) : Prop :=
  (P.info? x.1).map (·.zero) = some (if x.2.2 = true then some (.agg x.2.1.toArray) else x.2.1.head?) ∧ (x.2.2 = false → ∃ v, x.2.1 = [v] ∧ v.oneCell' = true)
def TabL.okB (P : Program) (L : TabL) : Bool :=
  L.st.all (stB P) && L.one.all (oneB P) && L.agg.all (aggB P) && L.ints.all (intB P) && L.sl.all (slB P) && L.str.all (strB P) && L.ptr.all (ptrB P) && L.boolT.all (boolB P) && L.flat.all (flatB P) && L.bys.all (bysB P) && L.arr.all (arrB P)

theorem TabL.ok {P : Program} {L : TabL} (h : L.okB P = true) (hz : ∀ x ∈ L.zero, zeroE P x) : L.tab.Ok P := by
  unfold TabL.okB at h
  simp only [Bool.and_eq_true, List.all_eq_true] at h
  obtain ⟨⟨⟨⟨⟨⟨⟨⟨⟨⟨h1, h2⟩, h3⟩, h4⟩, h5⟩, h6⟩, h7⟩, h8⟩, h9⟩, h10⟩, h11⟩ := h
  have hst : ∀ {t : Nat} {l : List (Nat × Option Nat × Nat)}, look L.st t = some l → ∃ fs, P.underlying t = some (.struct fs) ∧ fs.toList.length = l.length ∧
      ∀ (i : Nat) (f : Field) (x : Nat × Option Nat × Nat), fs[i]? = some f → l[i]? = some x → f.offset = x.1 ∧ ∃ ti d, P.info? f.type = some ti ∧ P.underlying f.type = some d ∧ ti.size = x.2.2 ∧
        (match x.2.1 with | none => isAggD d = false | some n => isAggD d = true ∧ ti.size = n) := by
    intro t l ht
    have hb := h1 _ (look_mem' ht)
    unfold stB at hb
    dsimp only at hb
    split at hb
    · rename_i fs hu
      simp only [Bool.and_eq_true, List.all_eq_true, beq_iff_eq] at hb
      refine ⟨fs, hu, hb.1, fun i f x hf hx => ?_⟩
      have hf' : fs.toList[i]? = some f := by simpa using hf
      have hmem : (f, x) ∈ fs.toList.zip l := by
        apply List.mem_of_getElem? (i := i)
        rw [List.getElem?_zip_eq_some]
        exact ⟨hf', hx⟩
      have := hb.2 _ hmem
      refine ⟨this.1, ?_⟩
      have h7 := this.2
      split at h7
      · rename_i ti d hti hd
        simp only [Bool.and_eq_true, beq_iff_eq] at h7
        refine ⟨ti, d, hti, hd, h7.1, ?_⟩
        cases hx2 : x.2.1 with
        | none => have := h7.2; rw [hx2] at this; simpa using this
        | some m => have := h7.2; rw [hx2] at this; simp only [Bool.and_eq_true, beq_iff_eq] at this; exact ⟨this.1, this.2.symm⟩
      · cases h7
    · cases hb
  have hone : ∀ {t : Nat}, L.one.contains t = true → ∃ d i, P.underlying t = some d ∧ isAggD d = false ∧ P.info? t = some i ∧ i.size = 1 := by
    intro t ht
    have hb := h2 t (by simpa using ht)
    unfold oneB at hb
    split at hb
    · rename_i ti d hti hd
      simp only [Bool.and_eq_true, beq_iff_eq] at hb
      exact ⟨d, ti, hd, by simpa using hb.1, hti, hb.2⟩
    · cases hb
  have hint : ∀ {t : Nat} {k : IntKind}, look L.ints t = some k → P.underlying t = some (.int k) := by
    intro t k ht
    have hb := h4 _ (look_mem' ht)
    unfold intB at hb
    dsimp only at hb
    split at hb
    · rename_i k' hu
      simp only [beq_iff_eq] at hb
      rw [hu, hb]
    · cases hb
  refine ⟨?_, ?_, ?_, ?_, ?_, ?_, ?_, ?_, ?_, ?_, ?_, ?_, ?_, ?_, ?_⟩
  · intro t f o h
    simp only [TabL.tab] at h
    cases hl : look L.st t with
    | none => rw [hl] at h; cases h
    | some l =>
      rw [hl] at h
      simp only [Option.bind_some] at h
      cases hx : l[f]? with
      | none => rw [hx] at h; cases h
      | some x =>
        rw [hx] at h
        simp only [Option.bind_some] at h
        split at h
        · cases h
        · rename_i hne
          injection h with h
          obtain ⟨fs, g1, g2, g3⟩ := hst hl
          have hlt : f < fs.size := by
            have := (List.getElem?_eq_some_iff.1 hx).1
            rw [Array.length_toList] at g2
            omega
          have hf : fs[f]? = some fs[f] := Array.getElem?_eq_getElem hlt
          obtain ⟨e1, ti, d, e2, e3, e4, _⟩ := g3 f _ x hf hx
          exact ⟨fs, _, ti, g1, hf, by rw [e1, h], e2, by rw [e4]; exact hne⟩
  · intro t f o h
    simp only [TabL.tab] at h
    cases hl : look L.st t with
    | none => rw [hl] at h; cases h
    | some l =>
      rw [hl] at h
      simp only [Option.bind_some] at h
      cases hx : l[f]? with
      | none => rw [hx] at h; cases h
      | some x =>
        rw [hx] at h
        simp only [Option.map_some, Option.some.injEq, Prod.mk.injEq] at h
        obtain ⟨fs, g1, g2, g3⟩ := hst hl
        have hlt : f < fs.size := by
          have := (List.getElem?_eq_some_iff.1 hx).1
          rw [Array.length_toList] at g2
          omega
        have hf : fs[f]? = some fs[f] := Array.getElem?_eq_getElem hlt
        obtain ⟨e1, ti, d, e2, e3, e4, e5⟩ := g3 f _ x hf hx
        rw [h.2] at e5
        exact ⟨fs, _, d, g1, hf, by rw [e1, h.1], e3, e5⟩
  · intro t f o m h
    simp only [TabL.tab] at h
    cases hl : look L.st t with
    | none => rw [hl] at h; cases h
    | some l =>
      rw [hl] at h
      simp only [Option.bind_some] at h
      cases hx : l[f]? with
      | none => rw [hx] at h; cases h
      | some x =>
        rw [hx] at h
        simp only [Option.map_some, Option.some.injEq, Prod.mk.injEq] at h
        obtain ⟨fs, g1, g2, g3⟩ := hst hl
        have hlt : f < fs.size := by
          have := (List.getElem?_eq_some_iff.1 hx).1
          rw [Array.length_toList] at g2
          omega
        have hf : fs[f]? = some fs[f] := Array.getElem?_eq_getElem hlt
        obtain ⟨e1, ti, d, e2, e3, e4, e5⟩ := g3 f _ x hf hx
        rw [h.2] at e5
        exact ⟨fs, _, d, ti, g1, hf, by rw [e1, h.1], e3, e5.1, e2, e5.2⟩
  · intro t h
    simp only [TabL.tab] at h
    split at h
    · rename_i hc
      exact hone hc
    · cases hl : look L.agg t with
      | none => rw [hl] at h; cases h
      | some m => rw [hl] at h; cases h
  · intro t m h
    simp only [TabL.tab] at h
    split at h
    · cases h
    · cases hl : look L.agg t with
      | none => rw [hl] at h; cases h
      | some m' =>
        rw [hl] at h
        simp only [Option.map_some, Option.some.injEq] at h
        subst h
        have hb := h3 _ (look_mem' hl)
        unfold aggB at hb
        dsimp only at hb
        split at hb
        · rename_i ti d hti hd
          simp only [Bool.and_eq_true, beq_iff_eq] at hb
          exact ⟨d, ti, hd, hb.1, hti, hb.2⟩
        · cases hb
  · intro t l b h
    obtain ⟨g1, g2⟩ := hz _ (look_mem' h)
    dsimp only at g1 g2
    cases hi : P.info? t with
    | none => rw [hi] at g1; cases g1
    | some i =>
      rw [hi] at g1
      simp only [Option.map_some, Option.some.injEq] at g1
      refine ⟨i, rfl, ?_⟩
      cases b with
      | true => rw [if_pos rfl]; rw [if_pos rfl] at g1; exact g1
      | false =>
        rw [if_neg (by simp)]
        rw [if_neg (by simp)] at g1
        obtain ⟨v, e1, e2⟩ := g2 rfl
        exact ⟨v, e1, by rw [g1, e1]; rfl, e2⟩
  · intro t u k h
    simp only [TabL.tab] at h
    split at h
    · rename_i hs
      obtain ⟨k', hk'⟩ := Option.isSome_iff_exists.1 hs
      exact ⟨_, hint hk', hint h⟩
    · cases h
  · intro t e m h
    have hb := h5 _ (look_mem' h)
    unfold slB at hb
    dsimp only at hb
    split at hb
    · rename_i e' ti hu hti
      simp only [Bool.and_eq_true, beq_iff_eq] at hb
      exact ⟨ti, by rw [hu, hb.1], hti, hb.2⟩
    · cases hb
  · intro t h
    have hb := h6 t (by simpa [TabL.tab] using h)
    unfold strB at hb
    split at hb
    · assumption
    · cases hb
  · intro t h
    have hb := h7 t (by simpa [TabL.tab] using h)
    unfold ptrB at hb
    split at hb
    · exact ⟨_, by assumption⟩
    · cases hb
  · intro t h
    have hb := h8 t (by simpa [TabL.tab] using h)
    unfold boolB at hb
    split at hb
    · assumption
    · cases hb
  · intro t l h
    have hb := h9 _ (look_mem' h)
    unfold flatB at hb
    dsimp only at hb
    split at hb
    · rename_i fs hu
      simp only [Bool.and_eq_true, List.all_eq_true, beq_iff_eq, Bool.not_eq_true'] at hb
      obtain ⟨⟨⟨g1, g2⟩, g3⟩, g4⟩ := hb
      refine ⟨fs, hu, g1, g2, g3, fun i f x hf hx => ?_⟩
      have hmem : ((f, x), i) ∈ (fs.toList.zip l).zipIdx := by
        rw [List.mem_zipIdx_iff_getElem?]
        simp only [List.getElem?_zip_eq_some]
        exact ⟨hf, hx⟩
      obtain ⟨⟨e1, e2⟩, e3⟩ := g4 _ hmem
      dsimp only at e1 e2 e3
      refine ⟨by simpa using e1, e2, ?_⟩
      split at e3
      · rename_i k k' e4
        simp only [beq_iff_eq] at e3
        rw [e4, e3]
      · assumption
      · cases e3
    · cases hb
  · intro t h
    have hb := h10 t (by simpa [TabL.tab] using h)
    unfold bysB at hb
    split at hb
    · rename_i e hu
      split at hb
      · exact ⟨e, hu, by assumption⟩
      · cases hb
    · cases hb
  · intro t n z h
    have hb := h11 _ (look_mem' h)
    unfold arrB at hb
    dsimp only at hb
    split at hb
    · rename_i m e hu
      rw [Bool.and_eq_true] at hb
      obtain ⟨g1, g2⟩ := hb
      split at g2
      · rename_i ti hti
        simp only [beq_iff_eq] at g1 g2
        exact ⟨e, ti, by rw [hu, g1], hti, g2⟩
      · cases g2
    · cases hb
  · intro t l h
    simp only [TabL.tab] at h
    cases hl : look L.st t with
    | none => rw [hl] at h; cases h
    | some l' =>
      rw [hl] at h
      simp only [Option.map_some, Option.some.injEq] at h
      obtain ⟨fs, g1, g2, g3⟩ := hst hl
      refine ⟨fs, g1, ?_, ?_⟩
      · rw [← h]
        apply List.ext_getElem?
        intro i
        simp only [List.getElem?_map]
        rcases Nat.lt_or_ge i l'.length with hlt | hge
        · have hx : l'[i]? = some l'[i] := List.getElem?_eq_getElem hlt
          have hlt' : i < fs.size := by rw [Array.length_toList] at g2; omega
          have hf : fs[i]? = some fs[i] := Array.getElem?_eq_getElem hlt'
          have hf' : fs.toList[i]? = some fs[i] := by simp
          obtain ⟨e1, ti, d, e2, e3, e4, _⟩ := g3 i _ _ hf hx
          rw [hf', hx]
          simp [e1, e2, e4]
        · rw [List.getElem?_eq_none hge, List.getElem?_eq_none (by omega)]
          rfl
      · intro f hf
        obtain ⟨i, hi, e⟩ := Array.getElem_of_mem hf
        have hf' : fs[i]? = some f := by rw [Array.getElem?_eq_getElem hi, e]
        have hlt : i < l'.length := by rw [Array.length_toList] at g2; omega
        obtain ⟨_, ti, _, e2, _⟩ := g3 i f _ hf' (List.getElem?_eq_getElem hlt)
        exact ⟨ti, e2⟩

end Go.VC
