/- A calculus of conditions for the loaded code: append; stores into rows; own blocks that move. No statement of the seat is proved here. -/
import Derived.Test.YtjefojpbglcjhaaVk
import Derived.Deep.AppendSrc
import Derived.Laws.AppendOwn
namespace Go.VC
open Go
set_option linter.unusedSimpArgs false

/-- An own block is told of at the end of the list; where it was told of it is dead. -/
theorem MRel.move {own : Own} {F : Frozen} {w : World} (h : MRel own F w) {r b : Nat} {k : AB} (hr : own[r]? = some (b, k)) (hd : k ≠ .dead) : MRel (own.set r (b, .dead) ++ [(b, k)]) F w := by
  have hlt : r < own.length := (List.getElem?_eq_some_iff.1 hr).1
  have split : ∀ {r1 b1 k1}, (own.set r (b, .dead) ++ [(b, k)])[r1]? = some (b1, k1) → (r1 = own.length ∧ b1 = b ∧ k1 = k) ∨ (r1 < own.length ∧ r1 = r ∧ b1 = b ∧ k1 = .dead) ∨ (r1 < own.length ∧ r1 ≠ r ∧ own[r1]? = some (b1, k1)) := by
    intro r1 b1 k1 h1
    rcases Nat.lt_or_ge r1 own.length with hl | hl
    · rw [List.getElem?_append_left (by rw [List.length_set]; exact hl), List.getElem?_set] at h1
      by_cases e : r = r1
      · rw [if_pos e, if_pos (by omega)] at h1
        injection h1 with h1
        injection h1 with h2 h3
        exact .inr (.inl ⟨hl, e.symm, h2.symm, h3.symm⟩)
      · rw [if_neg e] at h1
        exact .inr (.inr ⟨hl, fun e' => e e'.symm, h1⟩)
    · rw [List.getElem?_append_right (by rw [List.length_set]; exact hl), List.length_set] at h1
      rcases Nat.eq_or_lt_of_le hl with e | e
      · subst e
        rw [Nat.sub_self] at h1
        injection h1 with h1
        injection h1 with h2 h3
        exact .inl ⟨rfl, h2.symm, h3.symm⟩
      · rw [List.getElem?_eq_none (by simp; omega)] at h1
        cases h1
  have hag : Agree own.length (bls own) (bls (own.set r (b, .dead) ++ [(b, k)])) := by
    have e : bls (own.set r (b, .dead)) = bls own := bls_set _ _ _ _ _ hr
    rw [bls_append, e, ← bls_length own]
    exact agree_append _ _
  refine ⟨?_, ?_, ?_, ?_, h.fz, ?_⟩
  · intro r1 b1 k1 h1 hd1
    rcases split h1 with ⟨rfl, rfl, rfl⟩ | ⟨_, _, _, rfl⟩ | ⟨_, _, h2⟩
    · rw [h.blk _ _ _ hr hd, AB.obj_agree hag (h.wf _ _ _ hr)]
    · exact absurd rfl hd1
    · rw [h.blk _ _ _ h2 hd1, AB.obj_agree hag (h.wf _ _ _ h2)]
  · intro r1 b1 k1 h1
    rcases split h1 with ⟨rfl, rfl, rfl⟩ | ⟨_, _, rfl, rfl⟩ | ⟨_, _, h2⟩
    · exact h.lt _ _ _ hr
    · exact h.lt _ _ _ hr
    · exact h.lt _ _ _ h2
  · intro r1 r2 b1 k1 k2 h1 h2 d1 d2
    rcases split h1 with ⟨e1, e2, e3⟩ | ⟨_, _, _, e⟩ | ⟨_, hn1, g1⟩
    · rcases split h2 with ⟨f1, f2, f3⟩ | ⟨_, _, _, e⟩ | ⟨_, hn2, g2⟩
      · rw [e1, f1]
      · exact absurd e d2
      · subst e2; exact absurd (h.inj _ _ _ _ _ g2 hr d2 hd) hn2
    · exact absurd e d1
    · rcases split h2 with ⟨f1, f2, f3⟩ | ⟨_, _, _, e⟩ | ⟨_, hn2, g2⟩
      · subst f2; exact absurd (h.inj _ _ _ _ _ g1 hr d1 hd) hn1
      · exact absurd e d2
      · exact h.inj _ _ _ _ _ g1 g2 d1 d2
  · intro r1 b1 k1 h1
    rw [List.length_append, List.length_set]
    rcases split h1 with ⟨rfl, rfl, rfl⟩ | ⟨_, _, rfl, rfl⟩ | ⟨_, _, h2⟩
    · exact AB.ok_mono (h.wf _ _ _ hr) (by omega)
    · trivial
    · exact AB.ok_mono (h.wf _ _ _ h2) (by omega)
  · intro r1 b1 k1 h1 hd1
    rcases split h1 with ⟨rfl, rfl, rfl⟩ | ⟨_, _, rfl, rfl⟩ | ⟨_, _, h2⟩
    · exact h.ap _ _ _ hr hd
    · exact absurd rfl hd1
    · exact h.ap _ _ _ h2 hd1
theorem Rel.move {n : Nat} {w0 : World} {D : Dm} {s : St} {a : Act} {w : World} (h : Rel n w0 D s a w) {r b : Nat} {k : AB} (hr : s.own[r]? = some (b, k)) (hd : k ≠ .dead) :
    Rel n w0 D { s with own := s.own.set r (b, .dead) ++ [(b, k)] } a w := by
  have hag : Agree s.own.length (bls s.own) (bls (s.own.set r (b, .dead) ++ [(b, k)])) := by
    have e : bls (s.own.set r (b, .dead)) = bls s.own := bls_set _ _ _ _ _ hr
    rw [bls_append, e, ← bls_length s.own]
    exact agree_append _ _
  have hle : s.own.length ≤ (s.own.set r (b, .dead) ++ [(b, k)]).length := by simp
  refine ⟨h.mem.move hr hd, h.dn, h.sz, ?_, ?_, ?_, h.fr, h.fd⟩
  · intro j v hj
    obtain ⟨g1, g2, g3⟩ := h.sl j v hj
    exact ⟨g1, g2.trans (AV.den_agree hag g3).symm, AV.ok_mono g3 hle⟩
  · intro j v G hj hg
    obtain ⟨g1, g2, g3, g4⟩ := h.gl j v G hj hg
    rw [show holds { s with own := s.own.set r (b, .dead) ++ [(b, k)] } G ↔ holds s G from holds_own (F := s.F)]
    exact ⟨g1, fun hh => ⟨(g2 hh).1.trans (AV.den_agree hag (g2 hh).2).symm, AV.ok_mono (g2 hh).2 hle⟩, g3, g4⟩
  · intro r1 b1 k1 h1
    rcases Nat.lt_or_ge r1 s.own.length with hl | hl
    · have h1' : (s.own.set r (b, .dead) ++ [(b, k)])[r1]? = some (b1, k1) := h1
      rw [List.getElem?_append_left (by rw [List.length_set]; exact hl), List.getElem?_set] at h1'
      by_cases e : r = r1
      · rw [if_pos e, if_pos (by omega)] at h1'
        injection h1' with h1'
        injection h1' with h2 _
        subst h2
        exact h.may _ _ _ hr
      · rw [if_neg e] at h1'
        exact h.may _ _ _ h1'
    · have h1' : (s.own.set r (b, .dead) ++ [(b, k)])[r1]? = some (b1, k1) := h1
      rw [List.getElem?_append_right (by rw [List.length_set]; exact hl), List.length_set] at h1'
      have : r1 - s.own.length = 0 := by
        rcases Nat.eq_zero_or_pos (r1 - s.own.length) with e | e
        · exact e
        · rw [List.getElem?_eq_none (by simp; omega)] at h1'; cases h1'
      rw [this] at h1'
      injection h1' with h1'
      injection h1' with h2 _
      subst h2
      exact h.may _ _ _ hr

/-- What an append's second argument yields: how many elements, the cells. -/
def srcB (z i n : Nat) : Option (Nat × AB) → Option (Nat × List Value)
  | some (_, .raw _ l _) => some (n, (l.drop i).take (n * z))
  | _ => none
def srcO (own : Own) (F : Frozen) (z : Nat) : AV → Option (Nat × List Value)
  | .a (.s r i n _) => srcB z i n own[r]?
  | .a (.v (.slice p n _)) => some (n, strD F p (n * z))
  | .a (.v (.string s)) => some (s.size, byteCells s)
  | _ => none
def srcC (i m : Nat) : Option (Nat × AB) → Prop
  | some (_, .raw _ l _) => i + m ≤ l.length
  | _ => True
def srcS (own : Own) (F : Frozen) (z : Nat) : AV → Prop
  | .a (.s r i n _) => srcC i (n * z) own[r]?
  | .a (.v (.slice p n _)) => rdD F p (n * z)
  | .a (.v (.string _)) => z = 1
  | _ => True
def srcT (T : Tab) (tx : TypeId) : AV → Prop
  | .a (.v (.string _)) => T.str tx = true
  | _ => (T.sl tx).isSome = true
theorem strD_len {F : Frozen} {p : Option Addr} {n : Nat} (h : rdD F p n) : (strD F p n).length = n := by
  rcases h with rfl | ⟨a, l, ty, fr, rfl, hs, hF, hle⟩
  · unfold strD
    split
    · rfl
    · split <;> simp
  · simp only [strD, hF, List.length_take, List.length_drop, Array.length_toList]
    omega
theorem src_ok {P : Program} {T : Tab} (hT : T.Ok P) {n : Nat} {w0 : World} {D : Dm} {s : St} {a : Act} {w : World} (h : Rel n w0 D s a w) {tx : TypeId} {v : AV} {z k : Nat} {news : List Value} (hz : 0 < z) (hs : srcO s.own s.F z v = some (k, news))
    (hc : srcS s.own s.F z v) (ht : srcT T tx v) (h1 : ∀ u ∈ news, u.oneCell' = true) : Src P z tx (v.den (bls s.own)) k news w := by
  unfold srcO at hs
  split at hs
  · rename_i r i m c
    have ht' : (T.sl tx).isSome = true := ht
    obtain ⟨⟨e, z'⟩, hsl⟩ := Option.isSome_iff_exists.1 ht'
    obtain ⟨ti, s1, _, _⟩ := hT.sl _ _ _ hsl
    simp only [srcS] at hc
    unfold srcB at hs
    split at hs
    · rename_i b ty l fr hr
      rw [hr] at hc
      simp only [srcC] at hc
      simp only [Option.some.injEq, Prod.mk.injEq] at hs
      obtain ⟨rfl, rfl⟩ := hs
      have hobj := h.mem.blk _ _ _ hr (by simp)
      have hb : (bls s.own).getD r 0 = b := bls_get hr
      have e : (AV.a (.s r i m c)).den (bls s.own) = .slice (some ⟨b, i, none⟩) m c := by
        show Value.slice (some ⟨(bls s.own).getD r 0, i, none⟩) m c = _
        rw [hb]
      rw [e]
      refine Src.ofSlice w s1 _ _ _ _ (by simp; omega) (fun j u hj => ?_) h1
      rw [add_off, cell_of_row w b (i + j) l.toArray ty fr hobj]
      rw [List.getElem?_take] at hj
      split at hj
      · rw [List.getElem?_drop] at hj
        simpa using hj
      · cases hj
    · cases hs
  · rename_i p m c
    have ht' : (T.sl tx).isSome = true := ht
    obtain ⟨⟨e, z'⟩, hsl⟩ := Option.isSome_iff_exists.1 ht'
    obtain ⟨ti, s1, _, _⟩ := hT.sl _ _ _ hsl
    simp only [srcS] at hc
    simp only [Option.some.injEq, Prod.mk.injEq] at hs
    obtain ⟨rfl, rfl⟩ := hs
    show Src P z tx (.slice p m c) m (strD s.F p (m * z)) w
    have hl := strD_len hc
    cases p with
    | none =>
      have hm : m = 0 := by
        rcases hc with e | ⟨a, _, _, _, e, _⟩
        · rcases Nat.eq_zero_or_pos m with e' | e'
          · exact e'
          · have := Nat.mul_pos e' hz; omega
        · cases e
      subst hm
      exact Src.ofNil w s1 c
    | some ad =>
      refine Src.ofSlice w s1 _ _ _ _ hl (fun j u hj => ?_) h1
      rcases hc with e0 | ⟨a', l, ty, fr, he, hsp, hF, hle⟩
      · have hl' : (strD s.F (some ad) (m * z)).length = 0 := hl.trans e0
        rw [List.getElem?_eq_none (by omega)] at hj
        cases hj
      · injection he with he
        subst he
        obtain ⟨b, o, sp⟩ := ad
        simp only at hsp hF hle
        subst hsp
        rw [add_off, cell_of_row w b (o + j) l ty fr (h.mem.fz _ _ hF)]
        simp only [strD, hF] at hj
        rw [List.getElem?_take] at hj
        split at hj
        · rw [List.getElem?_drop] at hj
          simpa using hj
        · cases hj
  · rename_i str
    simp only [srcS] at hc
    subst hc
    simp only [Option.some.injEq, Prod.mk.injEq] at hs
    obtain ⟨rfl, rfl⟩ := hs
    exact Src.ofString w (hT.str _ ht) str
  · cases hs

theorem zero_cells {P : Program} {T : Tab} (hT : T.Ok P) {e : TypeId} {lz : List Value} {bb : Bool} (hz : T.zero e = some (lz, bb)) : ∃ i zv, P.info? e = some i ∧ i.zero = some zv ∧ zv.cells = lz.toArray := by
  obtain ⟨i, z1, z2⟩ := hT.zero _ _ _ hz
  cases bb with
  | true =>
    rw [if_pos rfl] at z2
    exact ⟨i, _, z1, z2, rfl⟩
  | false =>
    rw [if_neg (by simp)] at z2
    obtain ⟨x, rfl, hx, h1c⟩ := z2
    refine ⟨i, x, z1, hx, ?_⟩
    cases x <;> first | rfl | (simp [Value.oneCell'] at h1c)

theorem setCells_spec {b ty : Nat} {fr : Nat × Nat} : ∀ (vs l : List Value) (o : Nat) (w : World), w.heap[b]? = some (.cells l.toArray ty fr) → o + vs.length ≤ l.length →
    (w.setCells b o vs).heap[b]? = some (.cells (splice l o vs).toArray ty fr) ∧ (∀ i, i ≠ b → (w.setCells b o vs).heap[i]? = w.heap[i]?) ∧ (w.setCells b o vs).heap.size = w.heap.size ∧ (w.setCells b o vs).os = w.os ∧ (w.setCells b o vs).tape = w.tape ∧ (w.setCells b o vs).output = w.output
  | [], l, o, w, hw, _ => ⟨by rw [splice_nil]; exact hw, fun _ _ => rfl, rfl, rfl, rfl, rfl⟩
  | v :: vs, l, o, w, hw, hle => by
    have hlt : b < w.heap.size := (Array.getElem?_eq_some_iff.1 hw).1
    have hol : o < l.length := by simp at hle; omega
    have h1 : (w.setCell ⟨b, o, none⟩ v).heap[b]? = some (.cells (l.set o v).toArray ty fr) := by
      simp only [World.setCell, Array.getElem?_modify, if_pos, hw, Option.map_some]
      simp [Array.setIfInBounds, hol]
    obtain ⟨g1, g2, g3, g4, g5, g6⟩ := setCells_spec vs (l.set o v) (o + 1) (w.setCell ⟨b, o, none⟩ v) h1 (by simp at hle ⊢; omega)
    have hsz : (w.setCell ⟨b, o, none⟩ v).heap.size = w.heap.size := by simp [World.setCell]
    refine ⟨?_, fun i hi => ?_, g3.trans hsz, g4, g5, g6⟩
    · rw [splice_cons l o v vs (by simpa using hle)]
      exact g1
    · have := g2 i hi
      rw [World.setCells, this]
      simp only [World.setCell, Array.getElem?_modify, if_neg (Ne.symm hi)]

section
variable {P : Program} {T : Tab} {n : Nat} {Q : Exit → St → Prop} {all : List Oper} {d : Option Tmp} {ty : TypeId} {pos : String} {af : Array Edge} {os : List Oper} {k : List It} {s : St}
/-- append to a row of one's own. -/
theorem sem_append {o : Oper} (hT : T.Ok P) {x y : Operand} {t tx e : TypeId} {r b nn c z kk B : Nat} {K : AB} {l news lz : List Value} {bb : Bool} {yv : AV} (ho : o.op = .call ⟨.builtin .append, #[x, y], #[t, tx]⟩)
    (hx : val s [] x = some (.a (.s r 0 nn c))) (hy : val s [] y = some yv) (hr : s.own[r]? = some (b, K)) (hK : K = .raw e l (0, 0) ∨ K = .c e (l.map .v)) (ht : T.sl t = some (e, z)) (hzz : T.zero e = some (lz, bb)) (hlz : lz.length = z) (hz : 0 < z)
    (hsrc : srcO s.own s.F z yv = some (kk, news)) (hss : srcS s.own s.F z yv) (hst : srcT T tx yv) (h1 : ∀ u ∈ news, u.oneCell' = true) (hB : (P.info? e).map (·.bytes) = some B) (hB0 : 0 < B) (hl : l.length = c * z) (hn : nn ≤ c) (hbd : (nn + kk) * B ≤ 140737488355328) :
    OpSem P o s fun v' s' => ∃ b' c' spare, nn + kk ≤ c' ∧ spare.length = (c' - (nn + kk)) * z ∧ v' = .a (.s s.own.length 0 (nn + kk) c') ∧ s' = { s with own := s.own.set r (b, .dead) ++ [(b', .raw e (l.take (nn * z) ++ news ++ spare) (0, 0))] } := by
  intro m w0 D a w h
  obtain ⟨e1, _⟩ := h.val (G := []) trivial hx
  obtain ⟨e2, _⟩ := h.val (G := []) trivial hy
  obtain ⟨i, zv, i1, i2, i3⟩ := zero_cells hT hzz
  obtain ⟨i', s1, s2, s3⟩ := hT.sl _ _ _ ht
  rw [i1] at s2
  injection s2 with s2
  subst s2
  have hBi : i.bytes = B := by rw [i1] at hB; simpa using hB
  have hsr := src_ok hT h hz hsrc hss hst h1
  have hnl := hsr.newsLen
  have hd : K ≠ .dead := by rcases hK with rfl | rfl <;> simp
  have hobj : w.heap[b]? = some (.cells l.toArray e (0, 0)) := by
    have := h.mem.blk _ _ _ hr hd
    rcases hK with rfl | rfl
    · exact this
    · simp only [AB.obj, map_v_den] at this
      exact this
  have hb : (bls s.own).getD r 0 = b := bls_get hr
  have den : (AV.a (.s r 0 nn c)).den (bls s.own) = .slice (some ⟨b, 0, none⟩) nn c := by
    show Value.slice (some ⟨(bls s.own).getD r 0, 0, none⟩) nn c = _
    rw [hb]
  rw [den] at e1
  have hlt : r < s.own.length := (List.getElem?_eq_some_iff.1 hr).1
  by_cases hroom : nn + kk ≤ c
  · have hcell : ∀ j, w.cell? ⟨b, j, none⟩ = l[j]? := fun j => by
      rw [cell_of_row w b j l.toArray e (0, 0) hobj]
      simp
    have hfit : nn * z + kk * z ≤ c * z := by rw [← Nat.add_mul]; exact Nat.mul_le_mul_right z hroom
    have hrun := run_append_room_src (P := P) w t tx o.type e i s1 i1 b 0 nn c (yv.den (bls s.own)) kk news (by rw [s3]; exact hsr) hroom
      (fun j hj => by rw [s3, hcell, List.getElem?_eq_getElem (by omega)]; rfl)
      (fun j hj => by simp [World.frozen?, hobj])
    rw [s3, Nat.zero_add] at hrun
    obtain ⟨g1, g2, g3, g4, g5, g6⟩ := setCells_spec news l (nn * z) w hobj (by omega)
    have hturn := h.turn (k' := .raw e (splice l (nn * z) news) (0, 0)) (w' := w.setCells b (nn * z) news) hr hd trivial g3 (fun _ => g1) g2 g4 g5 g6
    have hr' : (s.own.set r (b, .raw e (splice l (nn * z) news) (0, 0)))[r]? = some (b, .raw e (splice l (nn * z) news) (0, 0)) := by rw [List.getElem?_set, if_pos rfl, if_pos hlt]
    have hmove := hturn.move (r := r) (b := b) hr' (by simp)
    have es : (s.own.set r (b, .raw e (splice l (nn * z) news) (0, 0))).set r (b, .dead) = s.own.set r (b, .dead) := by rw [List.set_set]
    rw [es] at hmove
    have hlen : (s.own.set r (b, AB.dead)).length = s.own.length := List.length_set
    refine ⟨.a (.s s.own.length 0 (nn + kk) c), _, _, ⟨b, c, l.drop (nn * z + news.length), hroom, ?_, rfl, rfl⟩, ?_, hmove, ?_⟩
    · rw [List.length_drop, hl, hnl, ← Nat.add_mul, ← Nat.sub_mul]
    · unfold execOp
      rw [ho]
      have hden : (AV.a (.s s.own.length 0 (nn + kk) c)).den (bls (s.own.set r (b, .dead) ++ [(b, .raw e (l.take (nn * z) ++ news ++ l.drop (nn * z + news.length)) (0, 0))])) = .slice (some ⟨b, 0, none⟩) (nn + kk) c := by
        have hg : (bls (s.own.set r (b, .dead) ++ [(b, .raw e (l.take (nn * z) ++ news ++ l.drop (nn * z + news.length)) (0, 0))])).getD s.own.length 0 = b := by
          rw [bls_append, List.getD, List.getElem?_append_right (by rw [bls_length, hlen]; exact Nat.le_refl _), bls_length, hlen, Nat.sub_self]
          rfl
        show Value.slice (some ⟨_, 0, none⟩) _ _ = _
        rw [hg]
      rw [hden]
      simp only [resolve, invoke, builtin, Sem.run_bind, Sem.run_pure, Result.andThen_ok, List.map_toArray, List.map_cons, List.map_nil, e1, e2, hrun]
    · show s.own.length < (s.own.set r (b, .dead) ++ [_]).length
      simp
  · have hg : c < nn + kk := by omega
    have hmulB : nn + kk ≤ (nn + kk) * B := Nat.le_mul_of_pos_right _ hB0
    have hcell : ∀ j, w.drew.cell? ⟨b, j, none⟩ = l[j]? := fun j => by
      rw [cell_of_row w.drew b j l.toArray e (0, 0) hobj]
      simp
    have hnz : nn * z ≤ l.length := by rw [hl]; exact Nat.mul_le_mul_right z hn
    have hold : (Builtin.firstCells i.size nn (.slice (some ⟨b, 0, none⟩) nn c)).run P w.drew = .ok (l.take (nn * z)).toArray w.drew := by
      rw [s3]
      refine run_firstCells_some w.drew z nn ⟨b, 0, none⟩ nn c _ (by rw [List.length_take]; omega) (fun j v hj => ?_)
      rw [add_off, Nat.zero_add, hcell]
      rw [List.getElem?_take] at hj
      split at hj
      · exact hj
      · cases hj
    have hrun := run_append_grow_src (P := P) w t tx o.type e i zv s1 i1 i2 (some ⟨b, 0, none⟩) nn c (l.take (nn * z)) hold (yv.den (bls s.own)) kk news (by rw [s3]; exact hsr) hg (by omega) (growslice_fits hg (by rw [hBi]; exact hbd))
    have hc' : ∃ c', c' = grownCap w (nn + kk) c e := ⟨_, rfl⟩
    obtain ⟨c', hc'⟩ := hc'
    have hge : nn + kk ≤ c' := by rw [hc']; exact grownCap_ge w _ _ _
    rw [← hc'] at hrun
    have hsp : ∃ spare : List Value, spare = (Builtin.zeroCells zv.cells (c' - (nn + kk))).toList := ⟨_, rfl⟩
    obtain ⟨spare, hsp⟩ := hsp
    have hspl : spare.length = (c' - (nn + kk)) * z := by
      rw [hsp, Array.length_toList, size_zeroCells, i3]
      simp [hlz]
    have hdead := h.turn (k' := .dead) (w' := w) hr hd trivial rfl (fun e => absurd rfl e) (fun _ _ => rfl) rfl rfl rfl
    have hnew := (hdead.drew (w.drawn + 1)).new (k := .raw e (l.take (nn * z) ++ news ++ spare) (0, 0)) trivial
    have hlen : (s.own.set r (b, AB.dead)).length = s.own.length := List.length_set
    refine ⟨.a (.s s.own.length 0 (nn + kk) c'), _, _, ⟨w.heap.size, c', spare, hge, hspl, rfl, rfl⟩, ?_, hnew, ?_⟩
    · unfold execOp
      rw [ho]
      have hden : (AV.a (.s s.own.length 0 (nn + kk) c')).den (bls (s.own.set r (b, .dead) ++ [(w.heap.size, .raw e (l.take (nn * z) ++ news ++ spare) (0, 0))])) = .slice (some ⟨w.heap.size, 0, none⟩) (nn + kk) c' := by
        have hg : (bls (s.own.set r (b, .dead) ++ [(w.heap.size, .raw e (l.take (nn * z) ++ news ++ spare) (0, 0))])).getD s.own.length 0 = w.heap.size := by
          rw [bls_append, List.getD, List.getElem?_append_right (by rw [bls_length, hlen]; exact Nat.le_refl _), bls_length, hlen, Nat.sub_self]
          rfl
        show Value.slice (some ⟨_, 0, none⟩) _ _ = _
        rw [hg]
      rw [hden]
      simp only [resolve, invoke, builtin, Sem.run_bind, Sem.run_pure, Result.andThen_ok, List.map_toArray, List.map_cons, List.map_nil, e1, e2, hrun]
      have he : (l.take (nn * z) ++ news ++ spare).toArray = (l.take (nn * z) ++ news).toArray ++ Builtin.zeroCells zv.cells (c' - (nn + kk)) := by
        apply Array.ext'
        simp [hsp]
      simp only [AB.obj, he]
      rfl
    · show s.own.length < (s.own.set r (b, .dead) ++ [_]).length
      simp
/-- append to nothing. -/
theorem sem_append0 {o : Oper} (hT : T.Ok P) {x y : Operand} {t tx e : TypeId} {z kk B : Nat} {news lz : List Value} {bb : Bool} {yv : AV} (ho : o.op = .call ⟨.builtin .append, #[x, y], #[t, tx]⟩)
    (hx : val s [] x = some (.a (.v (.slice none 0 0)))) (hy : val s [] y = some yv) (ht : T.sl t = some (e, z)) (hzz : T.zero e = some (lz, bb)) (hlz : lz.length = z) (hz : 0 < z)
    (hsrc : srcO s.own s.F z yv = some (kk, news)) (hss : srcS s.own s.F z yv) (hst : srcT T tx yv) (h1 : ∀ u ∈ news, u.oneCell' = true) (hB : (P.info? e).map (·.bytes) = some B) (hB0 : 0 < B) (hbd : kk * B ≤ 140737488355328) :
    OpSem P o s fun v' s' => (kk = 0 ∧ v' = .a (.v (.slice none 0 0)) ∧ s' = s) ∨ (0 < kk ∧ ∃ b' c' spare, kk ≤ c' ∧ spare.length = (c' - kk) * z ∧ v' = .a (.s s.own.length 0 kk c') ∧ s' = s.push b' (.raw e (news ++ spare) (0, 0))) := by
  intro m w0 D a w h
  obtain ⟨e1, _⟩ := h.val (G := []) trivial hx
  obtain ⟨e2, _⟩ := h.val (G := []) trivial hy
  obtain ⟨i, zv, i1, i2, i3⟩ := zero_cells hT hzz
  obtain ⟨i', s1, s2, s3⟩ := hT.sl _ _ _ ht
  rw [i1] at s2
  injection s2 with s2
  subst s2
  have hBi : i.bytes = B := by rw [i1] at hB; simpa using hB
  have hsr := src_ok hT h hz hsrc hss hst h1
  have hnl := hsr.newsLen
  have den : (AV.a (.v (.slice none 0 0))).den (bls s.own) = .slice none 0 0 := rfl
  rw [den] at e1
  rcases Nat.eq_zero_or_pos kk with h0 | h0
  · subst h0
    refine ⟨.a (.v (.slice none 0 0)), s, w, .inl ⟨rfl, rfl, rfl⟩, ?_, h, trivial⟩
    have hn0 : news = [] := by
      rw [Nat.zero_mul] at hnl
      exact List.length_eq_zero_iff.1 hnl
    subst hn0
    have hrun : (Builtin.append_ #[t, tx] o.type #[.slice none 0 0, yv.den (bls s.own)]).run P w = .ok (.slice none 0 0) w := by
      have hlen := hsr.len
      have hcl := hsr.cells
      rw [← s3] at hcl
      rcases hsr.kind with ⟨e', hk⟩ | hk <;> simp [Builtin.append_, run_underlying s1, run_underlying hk, sizeOf, typeInfo, i1, hlen, hcl]
    unfold execOp
    simp only [ho, resolve, invoke, builtin, Sem.run_bind, Sem.run_pure, Result.andThen_ok, List.map_toArray, List.map_cons, List.map_nil, e1, e2, hrun]
    rfl
  · have hmulB : kk ≤ kk * B := Nat.le_mul_of_pos_right _ hB0
    have hrun := run_append_grow_src (P := P) w t tx o.type e i zv s1 i1 i2 none 0 0 [] (by rw [s3]; exact run_firstCells_none w.drew z 0 0 0) (yv.den (bls s.own)) kk news (by rw [s3]; exact hsr) (by omega) (by omega) (growslice_fits (by omega) (by rw [hBi, Nat.zero_add]; exact hbd))
    rw [Nat.zero_add] at hrun
    have hc' : ∃ c', c' = grownCap w kk 0 e := ⟨_, rfl⟩
    obtain ⟨c', hc'⟩ := hc'
    have hge : kk ≤ c' := by rw [hc']; exact grownCap_ge w _ _ _
    rw [← hc'] at hrun
    have hsp : ∃ spare : List Value, spare = (Builtin.zeroCells zv.cells (c' - kk)).toList := ⟨_, rfl⟩
    obtain ⟨spare, hsp⟩ := hsp
    have hspl : spare.length = (c' - kk) * z := by
      rw [hsp, Array.length_toList, size_zeroCells, i3]
      simp [hlz]
    have hnew := (h.drew (w.drawn + 1)).new (k := .raw e (news ++ spare) (0, 0)) trivial
    refine ⟨.a (.s s.own.length 0 kk c'), s.push w.heap.size (.raw e (news ++ spare) (0, 0)), _, .inr ⟨h0, w.heap.size, c', spare, hge, hspl, rfl, rfl⟩, ?_, hnew, ?_⟩
    · unfold execOp
      rw [ho]
      have hden : (AV.a (.s s.own.length 0 kk c')).den (bls (s.push w.heap.size (.raw e (news ++ spare) (0, 0))).own) = .slice (some ⟨w.heap.size, 0, none⟩) kk c' := by
        simp [St.push, AV.den, A1.den, bls]
      rw [hden]
      simp only [resolve, invoke, builtin, Sem.run_bind, Sem.run_pure, Result.andThen_ok, List.map_toArray, List.map_cons, List.map_nil, e1, e2, hrun]
      have he : (news ++ spare).toArray = ([] ++ news).toArray ++ Builtin.zeroCells zv.cells (c' - kk) := by
        apply Array.ext'
        simp [hsp]
      simp only [AB.obj, he]
      rfl
    · show s.own.length < (s.own ++ [_]).length
      simp
theorem append_rule (hT : T.Ok P) {x y : Operand} {t tx e : TypeId} {r b nn c z kk B : Nat} {K : AB} {l news lz : List Value} {bb : Bool} {yv : AV}
    (hx : val s [] x = some (.a (.s r 0 nn c))) (hy : val s [] y = some yv) (hr : s.own[r]? = some (b, K)) (hK : K = .raw e l (0, 0) ∨ K = .c e (l.map .v)) (ht : T.sl t = some (e, z)) (hzz : T.zero e = some (lz, bb)) (hlz : lz.length = z) (hz : 0 < z)
    (hsrc : srcO s.own s.F z yv = some (kk, news)) (hss : srcS s.own s.F z yv) (hst : srcT T tx yv) (h1 : ∀ u ∈ news, u.oneCell' = true) (hB : (P.info? e).map (·.bytes) = some B) (hB0 : 0 < B) (hl : l.length = c * z) (hn : nn ≤ c) (hbd : (nn + kk) * B ≤ 140737488355328)
    (hd : putOk n s d) (fuel : Nat)
    (h : ∀ b' c' spare, nn + kk ≤ c' → spare.length = (c' - (nn + kk)) * z → goW P T n Q fuel (.ops all os :: k) (({ s with own := s.own.set r (b, .dead) ++ [(b', .raw e (l.take (nn * z) ++ news ++ spare) (0, 0))] } : St).put d (.a (.s s.own.length 0 (nn + kk) c')))) :
    stopW P n Q all ⟨d, .call ⟨.builtin .append, #[x, y], #[t, tx]⟩, ty, pos, af, none⟩ os k s := by
  refine .step rfl (sem_append hT rfl hx hy hr hK ht hzz hlz hz hsrc hss hst h1 hB hB0 hl hn hbd) ?_ ?_
  · rintro v' s' ⟨b', c', spare, _, _, rfl, rfl⟩
    exact hd
  · rintro v' s' ⟨b', c', spare, g1, g2, rfl, rfl⟩
    exact goW_sound hT _ _ _ (h b' c' spare g1 g2)
theorem append0_rule (hT : T.Ok P) {x y : Operand} {t tx e : TypeId} {z kk B : Nat} {news lz : List Value} {bb : Bool} {yv : AV}
    (hx : val s [] x = some (.a (.v (.slice none 0 0)))) (hy : val s [] y = some yv) (ht : T.sl t = some (e, z)) (hzz : T.zero e = some (lz, bb)) (hlz : lz.length = z) (hz : 0 < z)
    (hsrc : srcO s.own s.F z yv = some (kk, news)) (hss : srcS s.own s.F z yv) (hst : srcT T tx yv) (h1 : ∀ u ∈ news, u.oneCell' = true) (hB : (P.info? e).map (·.bytes) = some B) (hB0 : 0 < B) (hbd : kk * B ≤ 140737488355328)
    (hd : putOk n s d) (fuel : Nat)
    (h0 : kk = 0 → goW P T n Q fuel (.ops all os :: k) (s.put d (.a (.v (.slice none 0 0)))))
    (h : ∀ b' c' spare, 0 < kk → kk ≤ c' → spare.length = (c' - kk) * z → goW P T n Q fuel (.ops all os :: k) ((s.push b' (.raw e (news ++ spare) (0, 0))).put d (.a (.s s.own.length 0 kk c')))) :
    stopW P n Q all ⟨d, .call ⟨.builtin .append, #[x, y], #[t, tx]⟩, ty, pos, af, none⟩ os k s := by
  refine .step rfl (sem_append0 hT rfl hx hy ht hzz hlz hz hsrc hss hst h1 hB hB0 hbd) ?_ ?_
  · rintro v' s' (⟨_, rfl, rfl⟩ | ⟨_, b', c', spare, _, _, rfl, rfl⟩) <;> exact hd
  · rintro v' s' (⟨e0, rfl, rfl⟩ | ⟨e0, b', c', spare, g1, g2, rfl, rfl⟩)
    · exact goW_sound hT _ _ _ (h0 e0)
    · exact goW_sound hT _ _ _ (h b' c' spare e0 g1 g2)
/-- A store into a row of one's own. -/
theorem sem_storeR (hT : T.Ok P) {o : Oper} {t : TypeId} {x y : Operand} {v : AV} {r i b e : Nat} {l c : List Value} (ho : o.op = .store t x y) (hx : val s [] x = some (.a (.p r i)))
    (hv : val s [] y = some v) (hr : s.own[r]? = some (b, .raw e l (0, 0))) (hc : cellsOf v = some (c.map .v)) (hz : sizeZ (T.sz t) = some c.length) (hle : i + c.length ≤ l.length) (h1 : ∀ x ∈ c, x.oneCell' = true) :
    OpSkip P o s fun s' => s' = { s with own := s.own.set r (b, .raw e (splice l i c) (0, 0)) } := by
  intro n w0 D a w h
  obtain ⟨e1, _⟩ := h.val (G := []) trivial hx
  obtain ⟨e2, e3⟩ := h.val (G := []) trivial hv
  have hb : (bls s.own).getD r 0 = b := bls_get hr
  have hobj : w.heap[b]? = some (.cells l.toArray e (0, 0)) := h.mem.blk _ _ _ hr (by simp)
  have hcl := cellsOf_den hc (bls s.own)
  rw [map_v_den] at hcl
  obtain ⟨w', g1, g2, g3, g4, g5, g6, g7⟩ := run_storeCells (P := P) c l i 0 w hobj (by omega) h1
  rw [Nat.add_zero] at g2
  obtain ⟨ti, i1, i2⟩ := hT.size hz
  refine ⟨_, w', rfl, ?_, h.turn (k' := .raw e (splice l i c) (0, 0)) hr (by simp) trivial g4 (fun _ => g2) g3 g5 g6 g7⟩
  have den : (AV.a (.p r i)).den (bls s.own) = .pointer (some ⟨b, i, none⟩) := by
    show Value.pointer (some ⟨(bls s.own).getD r 0, i, none⟩) = _
    rw [hb]
  rw [den] at e1
  unfold execOp
  rw [ho]
  simp only [e1, e2]
  simp only [Sem.run_bind, Instr.storeAt, Instr.sureAddr, Sem.run_pure, Result.andThen_ok, storeVar, run_sizeOf' w i1, hcl, i2]
  rw [if_neg (by simp)]
  simp only [Result.andThen_ok, g1]
theorem storeR_rule (hT : T.Ok P) {t : TypeId} {x y : Operand} {v : AV} {r i b e : Nat} {l c : List Value} (hx : val s [] x = some (.a (.p r i)))
    (hv : val s [] y = some v) (hr : s.own[r]? = some (b, .raw e l (0, 0))) (hc : cellsOf v = some (c.map .v)) (hz : sizeZ (T.sz t) = some c.length) (hle : i + c.length ≤ l.length) (h1 : ∀ x ∈ c, x.oneCell' = true) (fuel : Nat)
    (h : goW P T n Q fuel (.ops all os :: k) { s with own := s.own.set r (b, .raw e (splice l i c) (0, 0)) }) :
    stopW P n Q all ⟨none, .store t x y, ty, pos, af, none⟩ os k s := by
  refine .stepS rfl rfl (sem_storeR hT rfl hx hv hr hc hz hle h1) ?_
  rintro s' rfl
  exact goW_sound hT _ _ _ h
end
end Go.VC
