/- SagaOrder: its plain law. No statement of the seat is proved here. -/
import Derived.Test.YtjefojpbglcjhaaSi
namespace Go.VC
open Go Go.Proofs
set_option maxRecDepth 100000
set_option maxHeartbeats 4000000
set_option linter.unusedSimpArgs false
set_option linter.unusedVariables false

theorem words_eq (w : Int) : (!((planWords w).toList == (ByteArray.mk #[]).toList)) = (w == 1 || w == 2 || w == 3 || w == 4 || w == 5 || w == 6) := by
  unfold planWords
  split
  · rename_i h; rw [h]; simp
  split
  · rename_i h; rw [h]; simp
  split
  · rename_i h; rw [h]; simp
  split
  · rename_i h; rw [h]; simp
  split
  · rename_i h; rw [h]; simp
  split
  · rename_i h; rw [h]; simp
  · rename_i h1 h2 h3 h4 h5 h6
    simp [h1, h2, h3, h4, h5, h6]
theorem names_eq (s : Sl) (bs : List UInt8) (h : bs.length = s.n) : refName s bs = planName ⟨bs.toArray⟩ := by
  unfold refName planName
  have e0 : (fun x : UInt8 => refBad x.toNat) = fun x : UInt8 => badC x.toNat := by
    funext x
    exact refBad_eq _
  have e1 : (ByteArray.mk bs.toArray).data.toList = bs := by simp
  have e2 : (ByteArray.mk bs.toArray).size = s.n := by
    rw [← h]
    show bs.toArray.size = _
    simp
  rw [e0, e1, e2]
  congr 2
  have e3 : ((ByteArray.mk bs.toArray).toList == (ByteArray.mk #[]).toList) = (s.n == 0) := by
    have g1 : (ByteArray.mk bs.toArray).toList = bs := by
      rw [ByteArray.toList_eq] <;> simp
    have g2 : (ByteArray.mk #[]).toList = ([] : List UInt8) := by
      rw [ByteArray.toList_eq] <;> simp
    rw [g1, g2, ← h]
    cases bs <;> simp
  rw [e3]
  cases hn : s.n with
  | zero => rfl
  | succ m =>
    simp
    omega
theorem ok_eq (s : StepR) (h : s.nb.length = s.nm.n) : refOk s = ((!((planWords s.w).toList == (ByteArray.mk #[]).toList) && stepN s) && stepX s) := by
  rw [words_eq]
  unfold refOk stepN stepX planCounts planNamed refCount
  rw [names_eq _ _ h]
  by_cases h1 : s.w = 1
  · simp [h1]
  by_cases h2 : s.w = 2
  · simp [h2]
  by_cases h3 : s.w = 3
  · simp [h3]
  by_cases h4 : s.w = 4
  · simp [h4]
  by_cases h5 : s.w = 5
  · simp [h5]
  by_cases h6 : s.w = 6
  · simp [h6]
  simp [h1, h2, h3, h4, h5, h6]
theorem right_eq (s : StepR) (h : s.nb.length = s.nm.n) : refRight s = planRight s := by
  unfold refRight planRight
  rw [ok_eq s h]
theorem plan_ok {F : Frozen} {p : Option Addr} {n : Nat} {steps : List StepR} (hP : PlanAt F p n steps) (h : refCheckP n steps = false) : PlanIn F p n steps := by
  refine ⟨hP, ?_⟩
  unfold refCheckP at h
  rw [Bool.or_eq_false_iff] at h
  unfold planCheckP
  rw [Bool.or_eq_false_iff]
  constructor
  · have := h.1
    simp at this ⊢
    omega
  · rw [← h.2]
    have : ∀ l : List StepR, (∀ s ∈ l, s ∈ steps) → (l.any fun s => !planRight s) = l.any fun s => !refRight s := by
      intro l
      induction l with
      | nil => intro _; rfl
      | cons x l ih =>
        intro hx
        simp only [List.any_cons]
        rw [ih (fun s hs => hx s (List.mem_cons_of_mem _ hs)), right_eq x (hP.nb x (hx x (List.mem_cons_self ..))).len]
    exact this steps fun _ h => h

/-- Of a plan that may be each step's tries and wait. -/
structure StepsOk (n : Nat) (p : List StepR) : Prop where
  n1 : 1 ≤ n
  n16 : n ≤ 16
  at_ : ∀ i : Int, 0 ≤ i → i < n → 1 ≤ (stepAt p i).tr ∧ (stepAt p i).tr ≤ 255 ∧ 1 ≤ (stepAt p i).wt ∧ (stepAt p i).wt ≤ 10000
theorem StepsOk.of {n : Nat} {steps : List StepR} (hl : steps.length = n) (h : planCheckP n steps = false) : StepsOk n steps := by
  unfold planCheckP at h
  rw [Bool.or_eq_false_iff] at h
  have h1 := h.1
  simp at h1
  refine ⟨by omega, by omega, fun i h0 hi => ?_⟩
  have hlt : i.toNat < steps.length := by omega
  have hm : stepAt steps i ∈ steps := by
    unfold stepAt
    rw [List.getD, List.getElem?_eq_getElem hlt]
    exact List.getElem_mem hlt
  have h2 := h.2
  rw [List.any_eq_false] at h2
  have h3 := h2 _ hm
  have h4 : planRight (stepAt steps i) = true := by simpa using h3
  unfold planRight at h4
  simp only [Bool.and_eq_true, decide_eq_true_eq] at h4
  omega

theorem hapCode_in (c : Int) : 1 ≤ hapCode c ∧ hapCode c ≤ 3 := by
  have h0 : 0 ≤ IntKind.wrap .u64 c := by
    have e1 : (2 : Int) ^ 64 = 18446744073709551616 := by decide
    simp only [IntKind.wrap, IntKind.bits, IntKind.signed, e1, Bool.false_and, Bool.false_eq_true, if_false]
    omega
  have h1 := Int.tmod_lt_of_pos (IntKind.wrap .u64 c) (show (0 : Int) < 3 by decide)
  have h2 := Int.tmod_nonneg (b := 3) (a := IntKind.wrap .u64 c) h0
  unfold hapCode
  generalize (IntKind.wrap .u64 c).tmod 3 = x at *
  rw [wrap_i64 x (by omega) (by omega), wrap_i64 _ (by omega) (by omega)]
  omega

theorem backN_spec (p : List StepR) : ∀ k : Nat, (∃ m : Nat, m < k ∧ backN p k = ⟨2, m, 0, false, 0, false, 0⟩ ∧ (stepAt p m).bk = true ∧ ∀ i : Int, m < i → i < k → (stepAt p i).bk = false) ∨
    (backN p k = sgOver 2 ∧ ∀ i : Int, 0 ≤ i → i < k → (stepAt p i).bk = false)
  | 0 => .inr ⟨rfl, fun i h0 h1 => by omega⟩
  | k + 1 => by
    unfold backN
    split
    · rename_i h
      exact .inl ⟨k, by omega, rfl, h, fun i h0 h1 => by omega⟩
    · rename_i h
      have h' : (stepAt p k).bk = false := by simpa using h
      have ext : ∀ i : Int, i < ((k + 1 : Nat) : Int) → i < k ∨ i = k := fun i hi => by omega
      rcases backN_spec p k with ⟨m, h1, h2, h3, h4⟩ | ⟨h1, h2⟩
      · refine .inl ⟨m, by omega, h2, h3, fun i g0 g1 => ?_⟩
        rcases ext i g1 with g | g
        · exact h4 i g0 g
        · rw [g]; exact h'
      · refine .inr ⟨h1, fun i g0 g1 => ?_⟩
        rcases ext i g1 with g | g
        · exact h2 i g0 g
        · rw [g]; exact h'
theorem back_spec {n : Nat} {p : List StepR} {f : Int} (h0 : -1 ≤ f) (hn : f < n) : (∃ m : Int, 0 ≤ m ∧ m ≤ f ∧ sgBack p f = ⟨2, m, 0, false, 0, false, 0⟩ ∧ (stepAt p m).bk = true ∧ ∀ i : Int, m < i → i ≤ f → (stepAt p i).bk = false) ∨
    (sgBack p f = sgOver 2 ∧ ∀ i : Int, 0 ≤ i → i ≤ f → (stepAt p i).bk = false) := by
  unfold sgBack
  rcases backN_spec p (f + 1).toNat with ⟨m, h1, h2, h3, h4⟩ | ⟨h1, h2⟩
  · exact .inl ⟨m, by omega, by omega, h2, h3, fun i g0 g1 => h4 i g0 (by omega)⟩
  · exact .inr ⟨h1, fun i g0 g1 => h2 i g0 (by omega)⟩
theorem bad_over {n : Nat} {p : List StepR} (c : Int) (h : 1 ≤ c ∧ c ≤ 3) : sgBad n p (sgOver c) = false := by
  unfold sgBad sgBad3 sgEq sgOver
  simp
  omega
theorem bad_back {n : Nat} {p : List StepR} (hp : StepsOk n p) {f : Int} (h0 : -1 ≤ f) (hn : f < n) : sgBad n p (sgBack p f) = false := by
  rcases back_spec (p := p) h0 hn with ⟨m, h1, h2, h3, h4, _⟩ | ⟨h1, _⟩
  · rw [h3]
    have := hp.at_ m h1 (by omega)
    unfold sgBad sgBad1 sgBad2 sgTried
    simp [h4]
    omega
  · rw [h1]
    exact bad_over 2 (by omega)
/-- What a state that may be is. -/
theorem good_iff {n : Nat} {p : List StepR} {s : Sg} (h3 : (s.ph == 3) = false) : sgBad n p s = false ↔ ((s.ph = 1 ∨ s.ph = 2) ∧ 0 ≤ s.st ∧ s.st < n ∧ s.cd = 0 ∧ sgTried (stepAt p s.st) s = true ∧ (s.ph = 2 → (stepAt p s.st).bk = true ∧ s.cn = false)) := by
  have h3' : s.ph ≠ 3 := by simpa using h3
  unfold sgBad sgBad1 sgBad2
  rw [h3, if_neg (by simp)]
  constructor
  · intro h
    split at h
    · cases h
    · rename_i h1
      simp at h1 h
      obtain ⟨⟨⟨⟨a1, a2⟩, a3⟩, a4⟩, a5⟩ := h1
      refine ⟨by omega, by omega, by omega, by omega, h.1, fun h2 => ?_⟩
      have := h.2 h2
      simpa using this
  · rintro ⟨h1, h2, h3, h4, h5, h6⟩
    rw [if_neg]
    · rw [h5]
      simp
      intro h
      exact h6 h
    · simp
      omega
def Tr (n : Nat) (p : List StepR) (s t : Sg) : Prop :=
  (t.ph = s.ph ∧ t.st = s.st) ∨ (s.ph = 1 ∧ s.ak = true ∧ s.st + 1 < n ∧ t = ⟨1, s.st + 1, 0, false, 0, false, 0⟩) ∨ (s.ph = 1 ∧ s.st = (n : Int) - 1 ∧ t = sgOver 1) ∨
  (∃ f : Int, (s.ph = 1 ∧ (f = s.st ∨ f = s.st - 1) ∨ s.ph = 2 ∧ f = s.st - 1) ∧ t = sgBack p f) ∨ (s.ph = 2 ∧ t = sgOver 3)
theorem tell_tr {n : Nat} {p : List StepR} (hp : StepsOk n p) {s : Sg} (hs : sgBad n p s = false) (step : Int) (undo : Bool) (code : Int) (hc : 1 ≤ code ∧ code ≤ 3) :
    (sgTell n p s step undo code).2 = 0 ∧ Tr n p s (sgTell n p s step undo code).1 ∧ sgBad n p (sgTell n p s step undo code).1 = false := by
  unfold sgTell
  rw [if_neg (by simp; omega)]
  split
  · exact ⟨rfl, .inl ⟨rfl, rfl⟩, hs⟩
  rename_i h1
  have h1' : ((!s.ak || step != s.st) || !(undo == (s.ph == 2))) = false := by simpa using h1
  simp only [Bool.or_eq_false_iff, Bool.not_eq_false'] at h1'
  have ha : s.ak = true := h1'.1.1
  have hu : undo = (s.ph == 2) := by simpa using h1'.2
  have h3 := sg_ak hs ha
  obtain ⟨g1, g2, g3, g4, g5, g6⟩ := (good_iff h3).1 hs
  have hat := hp.at_ s.st g2 g3
  unfold sgTried at g5
  rw [if_pos ha] at g5
  simp only [Bool.and_eq_true, decide_eq_true_eq] at g5
  split
  · rename_i h2
    have hph : s.ph = 2 := by
      rw [h2] at hu
      simpa using hu.symm
    unfold sgUndone
    split
    · exact ⟨rfl, .inr (.inr (.inr (.inl ⟨s.st - 1, .inr ⟨hph, rfl⟩, rfl⟩))), bad_back hp (by omega) (by omega)⟩
    split
    · exact ⟨rfl, .inr (.inr (.inr (.inr ⟨hph, rfl⟩))), bad_over 3 (by omega)⟩
    · rename_i h4
      have h4' : s.tr ≠ (stepAt p s.st).tr := by simpa using h4
      refine ⟨rfl, .inl ⟨rfl, rfl⟩, (good_iff (by exact h3)).2 ⟨g1, g2, g3, g4, ?_, g6⟩⟩
      unfold sgTried Sg.again
      simp
      omega
  · rename_i h2
    have hph : s.ph = 1 := by
      have : undo = false := by simpa using h2
      rw [this] at hu
      have : s.ph ≠ 2 := by
        intro e
        rw [e] at hu
        cases hu
      omega
    unfold sgForward
    split
    · exact ⟨rfl, .inr (.inr (.inr (.inl ⟨s.st - 1, .inl ⟨hph, .inr rfl⟩, rfl⟩))), bad_back hp (by omega) (by omega)⟩
    split
    · rename_i h4
      simp only [Bool.and_eq_true, decide_eq_true_eq] at h4
      refine ⟨rfl, .inl ⟨rfl, rfl⟩, (good_iff (by exact h3)).2 ⟨g1, g2, g3, g4, ?_, g6⟩⟩
      unfold sgTried Sg.again
      simp
      omega
    split
    · exact ⟨rfl, .inr (.inr (.inr (.inl ⟨s.st, .inl ⟨hph, .inl rfl⟩, rfl⟩))), bad_back hp (by omega) (by omega)⟩
    split
    · rename_i h5
      exact ⟨rfl, .inr (.inr (.inl ⟨hph, by simpa using h5, rfl⟩)), bad_over 1 (by omega)⟩
    · rename_i h5
      have h5' : s.st ≠ (n : Int) - 1 := by simpa using h5
      have hat' := hp.at_ (s.st + 1) (by omega) (by omega)
      refine ⟨rfl, .inr (.inl ⟨hph, ha, by omega, rfl⟩), (good_iff rfl).2 ⟨.inl rfl, by dsimp only; omega, by dsimp only; omega, rfl, ?_, fun h => by cases h⟩⟩
      unfold sgTried
      simp
      omega
theorem hap_tr {n : Nat} {p : List StepR} (hp : StepsOk n p) {s : Sg} (hs : sgBad n p s = false) (k st cd : Int) :
    (sgHap n p s k st cd).2 = true ∧ Tr n p s (sgHap n p s k st cd).1 ∧ sgBad n p (sgHap n p s k st cd).1 = false := by
  have hask : (hapAsk p s).2 = true ∧ Tr n p s (hapAsk p s).1 ∧ sgBad n p (hapAsk p s).1 = false := by
    unfold hapAsk
    split
    · exact ⟨rfl, .inl ⟨rfl, rfl⟩, hs⟩
    · rename_i h
      have h1 : (!(sgNext s).2) = false := by simpa using h
      have hn : sgNo s = false := by
        unfold sgNext at h1
        split at h1
        · cases h1
        · rename_i h2
          simpa using h2
      have hn' := hn
      unfold sgNo at hn
      simp only [Bool.or_eq_false_iff] at hn
      have h3 : (s.ph == 3) = false := hn.1.2
      have ha : s.ak = false := hn.2
      obtain ⟨g1, g2, g3, g4, g5, g6⟩ := (good_iff h3).1 hs
      have hat := hp.at_ s.st g2 g3
      unfold sgTried at g5
      rw [if_neg (by rw [ha]; simp)] at g5
      simp only [Bool.and_eq_true, decide_eq_true_eq, beq_iff_eq] at g5
      unfold sgAsk
      rw [h1, if_neg (by simp)]
      refine ⟨rfl, .inl ⟨rfl, rfl⟩, (good_iff (by exact h3)).2 ⟨g1, g2, g3, g4, ?_, g6⟩⟩
      have hnx : sgNext s = (sgDo s, true) := by
        unfold sgNext
        rw [if_neg (by rw [hn']; simp)]
      rw [hnx]
      unfold sgTried
      have hw : IntKind.wrap .i64 (s.tr + 1) = s.tr + 1 := wrap_i64 _ (by omega) (by omega)
      simp [sgDo, hw]
      omega
  have htell : ∀ step undo, (hapOk (sgTell n p s step undo (hapCode cd))).2 = true ∧ Tr n p s (hapOk (sgTell n p s step undo (hapCode cd))).1 ∧ sgBad n p (hapOk (sgTell n p s step undo (hapCode cd))).1 = false := by
    intro step undo
    obtain ⟨h1, h2, h3⟩ := tell_tr hp hs step undo (hapCode cd) (hapCode_in cd)
    exact ⟨by simp [hapOk, h1], h2, h3⟩
  unfold sgHap
  split
  · exact hask
  split
  · exact hask
  split
  · exact htell _ _
  split
  · exact htell _ _
  split
  · exact htell _ _
  split
  · unfold sgTick
    split
    · exact ⟨rfl, .inl ⟨rfl, rfl⟩, hs⟩
    rename_i h1
    have ha : s.ak = true := by simpa using h1
    split
    · obtain ⟨h1, h2, h3⟩ := tell_tr hp hs s.st (s.ph == 2) 3 (by omega)
      exact ⟨by simp [hapOk, h1], h2, h3⟩
    · rename_i h2
      have h2' : s.lf ≠ 1 := by simpa using h2
      have h3 := sg_ak hs ha
      obtain ⟨g1, g2, g3, g4, g5, g6⟩ := (good_iff h3).1 hs
      have hat := hp.at_ s.st g2 g3
      unfold sgTried at g5
      rw [if_pos ha] at g5
      simp only [Bool.and_eq_true, decide_eq_true_eq] at g5
      have hw : IntKind.wrap .i64 (s.lf - 1) = s.lf - 1 := wrap_i64 _ (by omega) (by omega)
      refine ⟨rfl, .inl ⟨rfl, rfl⟩, (good_iff (by exact h3)).2 ⟨g1, g2, g3, g4, ?_, g6⟩⟩
      unfold sgTried
      simp [ha, hapOk, hw]
      omega
  split
  · unfold sgCancel
    split
    · exact ⟨rfl, .inl ⟨rfl, rfl⟩, hs⟩
    rename_i h1
    have hph : s.ph = 1 := by simpa using h1
    have h3 : (s.ph == 3) = false := by rw [hph]; rfl
    obtain ⟨g1, g2, g3, g4, g5, g6⟩ := (good_iff h3).1 hs
    split
    · refine ⟨rfl, .inl ⟨rfl, rfl⟩, (good_iff (by exact h3)).2 ⟨g1, g2, g3, g4, g5, fun h => ?_⟩⟩
      have : s.ph = 2 := h
      omega
    split
    · exact ⟨rfl, .inr (.inr (.inr (.inl ⟨s.st, .inl ⟨hph, .inl rfl⟩, rfl⟩))), bad_back hp (by omega) (by omega)⟩
    · exact ⟨rfl, .inr (.inr (.inr (.inl ⟨s.st - 1, .inl ⟨hph, .inr rfl⟩, rfl⟩))), bad_back hp (by omega) (by omega)⟩
  · exact htell _ _
end Go.VC
