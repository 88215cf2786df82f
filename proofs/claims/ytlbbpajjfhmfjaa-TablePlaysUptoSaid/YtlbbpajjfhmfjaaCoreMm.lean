/- Core Mm: a region of open order by a plan, each read with what it reads. Own work for this claim. -/
import Derived.Test.YtlbbpajjfhmfjaaCoreM
namespace Go.BK
section
variable {P : Program} {ops : Array Oper} {Q : Exit → Act → World → Prop}
/-- What was read so far and may come up later: number, what it reads. -/
abbrev Tl := List (Nat × HL)
def HasH (C : HL) (w : World) : Prop := ∀ p ∈ C, w.heap[p.1]? = some p.2
/-- Number j must come behind number k. -/
def behind (ops : Array Oper) (j k : Nat) : Bool := anc ops ops.size j k
def alive (ops : Array Oper) (l : Array Bool) (k : Nat) : Prop := ∀ j o, ops[j]? = some o → isY o.op = false → behind ops j k = true → l.getD j false = false
def Told (ops : Array Oper) (T : Tl) (l : Array Bool) (w : World) : Prop := ∀ q ∈ T, alive ops l q.1 → HasH q.2 w
/-- May the plan be gone by? (as Plan.ok, nothing being asked of what comes behind all reads) -/
def Plan.okT (ops : Array Oper) : Plan → Array Bool → Bool
  | .done, l => (Region.ready .any ops l).isEmpty
  | .y i r, l => (Region.ready .any ops l).contains i && Region.free .any ops l i && ((ops[i]?).map (isY ·.op)).getD false && r.okT ops (l.setIfInBounds i true)
  | .e i r, l => (Region.ready .any ops l) == [i] && r.okT ops (l.setIfInBounds i true)
  | .alt i p j q, l => (Region.ready .any ops l) == [i, j] && p.len == q.len && p.okT ops (l.setIfInBounds i true) && q.okT ops (l.setIfInBounds j true)
/-- What is to be shown along a plan. T: what was read. -/
def planT (P : Program) (ops : Array Oper) (Q : Exit → Act → World → Prop) (dr : Bool) : Tl → Plan → Act → World → Prop
  | _, .done, a, w => Q .normal a w
  | T, .y i r, a, w => ∃ o v C, ops[i]? = some o ∧ HasH C w ∧ YieldsIf P ops (HasH C) o v a ∧ planT P ops Q dr ((i, C) :: T) r (a.put o.dst v) w
  | T, .e i r, a, w => ∃ o, ops[i]? = some o ∧ opWp P ops Q o (fun a' w' => (dr = true → ∀ q ∈ T, behind ops i q.1 = false → HasH q.2 w') ∧ planT P ops Q dr T r a' w') a w
  | T, .alt i p j q, a, w =>
    (∃ o, ops[i]? = some o ∧ opWp P ops Q o (fun a' w' => (dr = true → ∀ q ∈ T, behind ops i q.1 = false → HasH q.2 w') ∧ planT P ops Q dr T p a' w') a w) ∧
    (∃ o, ops[j]? = some o ∧ opWp P ops Q o (fun a' w' => (dr = true → ∀ q ∈ T, behind ops j q.1 = false → HasH q.2 w') ∧ planT P ops Q dr T q a' w') a w)
def AnyT (P : Program) (ops : Array Oper) (Q : Exit → Act → World → Prop) (T : Tl) : Nat → Array Bool → Act → World → Prop
  | 0, l, a, w => Region.ready .any ops l = [] ∧ Q .normal a w
  | n + 1, l, a, w => (Region.ready .any ops l = [] → Q .normal a w) ∧
    ∀ i ∈ Region.ready .any ops l, wpOp P ops Q i (fun a' w' => Told ops T (l.setIfInBounds i true) w' ∧ AnyT P ops Q T n (l.setIfInBounds i true) a' w') a w
theorem AnyT.any {T : Tl} : ∀ (n : Nat) (l : Array Bool) (a : Act) (w : World), AnyT P ops Q T n l a w → wpAny P .any ops Q n l a w
  | 0, _, _, _, h => h
  | n + 1, _, _, _, h => ⟨h.1, fun i hi => wpOp_mono (fun a' w' h' => AnyT.any n _ a' w' h'.2) (h.2 i hi)⟩
theorem AnyT.mono {T T' : Tl} (hs : ∀ q ∈ T', q ∈ T) : ∀ (n : Nat) (l : Array Bool) (a : Act) (w : World), AnyT P ops Q T n l a w → AnyT P ops Q T' n l a w
  | 0, _, _, _, h => h
  | n + 1, _, _, _, h => ⟨h.1, fun i hi => wpOp_mono (fun a' w' h' => ⟨fun q hq => h'.1 q (hs q hq), AnyT.mono hs n _ a' w' h'.2⟩) (h.2 i hi)⟩
theorem nolate {l : Array Bool} (hc : Closed ops l) {i : Nat} (hsz : l.size = ops.size) {o : Oper} (hi : ops[i]? = some o) (hun : l.getD i true = false) : alive ops l i := by
  intro j oj _ _ hj
  cases hl : l.getD j false with
  | false => rfl
  | true =>
    have := hc.anc _ _ _ hj hl
    have hlt : i < l.size := hsz ▸ (Array.getElem?_eq_some_iff.1 hi).1
    simp [hlt] at this hun
    rw [hun] at this
    cases this
theorem alive.un {l : Array Bool} {i k : Nat} {o : Oper} (hi : ops[i]? = some o) (hy : isY o.op = true) (h : alive ops (l.setIfInBounds i true) k) : alive ops l k := by
  intro j oj hj he hb
  have := h j oj hj he hb
  by_cases hij : i = j
  · subst hij
    rw [hi] at hj; cases hj
    rw [hy] at he; cases he
  · rwa [getD_set_ne false hij] at this
theorem alive.re {l : Array Bool} {i k : Nat} {o : Oper} (hi : ops[i]? = some o) (hy : isY o.op = true) (h : alive ops l k) : alive ops (l.setIfInBounds i true) k := by
  intro j oj hj he hb
  have := h j oj hj he hb
  by_cases hij : i = j
  · subst hij
    rw [hi] at hj; cases hj
    rw [hy] at he; cases he
  · rwa [getD_set_ne false hij]
/-- What yields its value wherever what it reads is there may be taken first. -/
theorem AnyT.first {C : HL} {T : Tl} [hq : NP Q] {i : Nat} {oi : Oper} {v : Value} (hi : ops[i]? = some oi) (hY : isY oi.op = true) (hsel : Region.noSelect ops = true) :
    ∀ (n : Nat) (l : Array Bool) (a : Act) (w : World), l.size = ops.size → Closed ops l →
      (∀ j oj, ops[j]? = some oj → j ≠ i → l.getD j true = false → (∀ e ∈ oj.after, Region.binds .any e = true → e.on ≠ i) → oi.apart ops oj = true) →
      i ∈ Region.ready .any ops l → YieldsIf P ops (HasH C) oi v a → HasH C w → Told ops T l w →
      AnyT P ops Q ((i, C) :: T) n (l.setIfInBounds i true) (a.put oi.dst v) w → AnyT P ops Q T (n + 1) l a w := by
  have hpan : ∀ c a w, Q (.panic c) (a.put oi.dst v) w → Q (.panic c) a w := fun c a w h => (hq.no c _ w h).elim
  have hself : ∀ {l : Array Bool} {w : World}, Told ops T l w → ∀ q ∈ T, alive ops (l.setIfInBounds i true) q.1 → HasH q.2 w := fun ht q hqT hal => ht q hqT (hal.un hi hY)
  intro n
  induction n with
  | zero =>
    intro l a w hsz hc _ hr hy hS hT H
    refine ⟨fun h => (by rw [h] at hr; cases hr), fun j hj => ?_⟩
    by_cases hji : j = i
    · subst hji
      exact hy.wpOp hi hS ⟨hself hT, AnyT.mono (fun q h => List.mem_cons_of_mem _ h) _ _ _ _ H⟩
    · have hjr := ready_mono hj hji
      rw [H.1] at hjr
      cases hjr
  | succ n ih =>
    intro l a w hsz hc hfree hr hy hS hT H
    refine ⟨fun h => (by rw [h] at hr; cases hr), fun j hj => ?_⟩
    by_cases hji : j = i
    · subst hji
      exact hy.wpOp hi hS ⟨hself hT, AnyT.mono (fun q h => List.mem_cons_of_mem _ h) _ _ _ _ H⟩
    · have h1 := H.2 j (ready_mono hj hji)
      obtain ⟨hjun, oj, hoj, hall⟩ := mem_ready.1 hj
      have hnot : ∀ e ∈ oj.after, Region.binds .any e = true → e.on ≠ i := fun e he hb heq => by
        have g1 := hall e he hb
        have g0 := (mem_ready.1 hr).1
        rw [heq] at g1
        rcases Nat.lt_or_ge i l.size with h' | h'
        · simp [h'] at g0 g1; rw [g0] at g1; cases g1
        · simp [Array.getElem?_eq_none h'] at g1
      have h2 := wpOp_putIf hoj (hfree j oj hoj hji hjun hnot) (Region.noSelect_spec hsel i oi · · hi) (Region.noSelect_spec hsel j oj · · hoj) hpan hy h1
      refine wpOp_mono (fun a' w' h3 => ?_) h2
      obtain ⟨hy', hTd, h3⟩ := h3
      have hcj := hc.step hj
      have hij : i ∈ Region.ready .any ops (l.setIfInBounds j true) := ready_mono hr (Ne.symm hji)
      have hal : alive ops (l.setIfInBounds j true) i := nolate hcj (by simpa using hsz) hi (mem_ready.1 hij).1
      have hSi : HasH C w' := by
        refine hTd (i, C) (List.mem_cons_self ..) ?_
        rw [Array.setIfInBounds_comm _ _ (Ne.symm hji)]
        exact hal.re hi hY
      have hTj : Told ops T (l.setIfInBounds j true) w' := by
        intro q hqT hal'
        refine hTd q (List.mem_cons_of_mem _ hqT) ?_
        rw [Array.setIfInBounds_comm _ _ (Ne.symm hji)]
        exact hal'.re hi hY
      refine ⟨hTj, ih (l.setIfInBounds j true) a' w' (by simpa using hsz) hcj (fun k ok hk hki hun hno => ?_) hij hy' hSi hTj ?_⟩
      · refine hfree k ok hk hki ?_ hno
        by_cases hjk : j = k
        · subst hjk; exact hjun
        · rw [getD_set_ne true hjk] at hun; exact hun
      · rw [Array.setIfInBounds_comm _ _ hji]
        exact h3
theorem AnyT.one {T : Tl} {i : Nat} {n : Nat} {l : Array Bool} {a : Act} {w : World} {o : Oper} (hi : ops[i]? = some o) {K : Act → World → Prop} (hE : isY o.op = false) (hir : i ∈ Region.ready .any ops l) (hsz : l.size = ops.size)
    (hT : Told ops T l w) (hk : ∀ a' w', Told ops T (l.setIfInBounds i true) w' → K a' w' → AnyT P ops Q T n (l.setIfInBounds i true) a' w')
    (h : opWp P ops Q o (fun a' w' => (true = true → ∀ q ∈ T, behind ops i q.1 = false → HasH q.2 w') ∧ K a' w') a w) :
    wpOp P ops Q i (fun a' w' => Told ops T (l.setIfInBounds i true) w' ∧ AnyT P ops Q T n (l.setIfInBounds i true) a' w') a w := by
  refine (h.mono fun a' w' hh => ?_).at hi
  obtain ⟨h1, h2⟩ := hh
  have ht : Told ops T (l.setIfInBounds i true) w' := fun q hq hal => by
    refine h1 rfl q hq ?_
    cases hb : behind ops i q.1 with
    | false => rfl
    | true =>
      have := hal i o hi hE hb
      have hlt : i < l.size := hsz ▸ (Array.getElem?_eq_some_iff.1 hi).1
      simp [hlt] at this
  exact ⟨ht, hk a' w' ht h2⟩
/-- What has an effect is told as such. -/
def Plan.eOk (ops : Array Oper) : Plan → Bool
  | .done => true
  | .y _ r => r.eOk ops
  | .e i r => ((ops[i]?).map (fun o => !isY o.op)).getD false && r.eOk ops
  | .alt i p j q => ((ops[i]?).map (fun o => !isY o.op)).getD false && ((ops[j]?).map (fun o => !isY o.op)).getD false && p.eOk ops && q.eOk ops
theorem planT.any [hq : NP Q] (hsel : Region.noSelect ops = true) : ∀ (p : Plan) (T : Tl) (l : Array Bool) (a : Act) (w : World), p.okT ops l = true → p.eOk ops = true → l.size = ops.size → Closed ops l → Told ops T l w → planT P ops Q true T p a w → AnyT P ops Q T p.len l a w
  | .done, T, l, a, w, ho, _, _, _, _, h => ⟨by simpa [Plan.okT] using ho, h⟩
  | .y i r, T, l, a, w, ho, he, hsz, hc, hT, h => by
    simp only [Plan.okT, Bool.and_eq_true] at ho
    obtain ⟨⟨⟨ho1, ho2⟩, ho3⟩, ho5⟩ := ho
    obtain ⟨o, v, C, hi, hS, hy, hp⟩ := h
    have hir : i ∈ Region.ready .any ops l := by simpa using ho1
    have hY : isY o.op = true := by simpa [hi] using ho3
    refine AnyT.first hi hY hsel r.len l a w hsz hc (Region.free_spec hi ho2) hir hy hS hT ?_
    refine planT.any hsel r _ _ _ w ho5 (by simpa [Plan.eOk] using he) (by simpa using hsz) (hc.step hir) (fun q hq hal => ?_) hp
    rcases List.mem_cons.1 hq with rfl | hq
    · exact hS
    · exact hT q hq (hal.un hi hY)
  | .e i r, T, l, a, w, ho, he, hsz, hc, hT, h => by
    simp only [Plan.okT, Bool.and_eq_true, beq_iff_eq] at ho
    simp only [Plan.eOk, Bool.and_eq_true] at he
    obtain ⟨ho1, ho2⟩ := ho
    obtain ⟨o, hi, hp⟩ := h
    refine ⟨fun h0 => (by rw [h0] at ho1; cases ho1), fun j hj => ?_⟩
    have hji : j = i := by rw [ho1] at hj; simpa using hj
    subst hji
    exact AnyT.one hi (by simpa [hi] using he.1) hj hsz hT (fun a' w' h3 h4 => planT.any hsel r T _ a' w' ho2 he.2 (by simpa using hsz) (hc.step hj) h3 h4) hp
  | .alt i p j q, T, l, a, w, ho, he, hsz, hc, hT, h => by
    simp only [Plan.okT, Bool.and_eq_true, beq_iff_eq] at ho
    simp only [Plan.eOk, Bool.and_eq_true] at he
    obtain ⟨⟨⟨ho1, ho2⟩, ho3⟩, ho4⟩ := ho
    obtain ⟨⟨⟨he1, he2⟩, he3⟩, he4⟩ := he
    obtain ⟨⟨o, hi, hp⟩, ⟨o', hi', hp'⟩⟩ := h
    refine ⟨fun h0 => (by rw [h0] at ho1; cases ho1), fun k hk => ?_⟩
    have hki : k = i ∨ k = j := by rw [ho1] at hk; simpa using hk
    rcases hki with hki | hki
    · subst hki
      exact AnyT.one hi (by simpa [hi] using he1) hk hsz hT (fun a' w' h3 h4 => planT.any hsel p T _ a' w' ho3 he3 (by simpa using hsz) (hc.step hk) h3 h4) hp
    · subst hki
      exact AnyT.one hi' (by simpa [hi'] using he2) hk hsz hT (fun a' w' h3 h4 => ho2 ▸ planT.any hsel q T _ a' w' ho4 he4 (by simpa using hsz) (hc.step hk) h3 h4) hp'
/-- What reads nothing need not be told. -/
theorem planT.wk {dr : Bool} : ∀ (p : Plan) (T T' : Tl) (a : Act) (w : World), (∀ q ∈ T', q ∈ T ∨ q.2 = []) → planT P ops Q dr T p a w → planT P ops Q dr T' p a w
  | .done, _, _, _, _, _, h => h
  | .y i r, T, T', a, w, hT, h => by
    obtain ⟨o, v, C, hi, hS, hy, hp⟩ := h
    refine ⟨o, v, C, hi, hS, hy, planT.wk r _ _ _ _ (fun q hq => ?_) hp⟩
    rcases List.mem_cons.1 hq with rfl | hq
    · exact .inl (List.mem_cons_self ..)
    · exact (hT q hq).imp (List.mem_cons_of_mem _) id
  | .e i r, T, T', a, w, hT, h => by
    obtain ⟨o, hi, hp⟩ := h
    refine ⟨o, hi, hp.mono fun a' w' ⟨h1, h2⟩ => ⟨fun hd q hq hb => ?_, planT.wk r _ _ _ _ hT h2⟩⟩
    rcases hT q hq with h3 | h3
    · exact h1 hd q h3 hb
    · rw [h3]; exact fun p hp => by cases hp
  | .alt i p j q, T, T', a, w, hT, h => by
    obtain ⟨⟨o, hi, hp⟩, ⟨o', hi', hp'⟩⟩ := h
    refine ⟨⟨o, hi, hp.mono fun a' w' ⟨h1, h2⟩ => ⟨fun hd z hz hb => ?_, planT.wk p _ _ _ _ hT h2⟩⟩, ⟨o', hi', hp'.mono fun a' w' ⟨h1, h2⟩ => ⟨fun hd z hz hb => ?_, planT.wk q _ _ _ _ hT h2⟩⟩⟩
    · rcases hT z hz with h3 | h3
      · exact h1 hd z h3 hb
      · rw [h3]; exact fun p hp => by cases hp
    · rcases hT z hz with h3 | h3
      · exact h1 hd z h3 hb
      · rw [h3]; exact fun p hp => by cases hp
/-- A region whose order is open, by a plan. -/
theorem region_drawT [NP Q] (hm : P.follows .mixedOrders = true) {id : Nat} {a : Act} {w : World} (p : Plan)
    (hok : (Region.noSelect ops && (p.len == ops.size) && p.okT ops (Array.replicate ops.size false) && p.eOk ops) = true)
    (h : planT P ops Q true [] p a { w with drawn := w.drawn + 1 }) : (Code.region id ops true).wp P Q a w := by
  simp only [Bool.and_eq_true, beq_iff_eq] at hok
  refine wp_region_any hm ?_
  have := planT.any hok.1.1.1 p [] (Array.replicate ops.size false) a _ hok.1.2 hok.2 (by simp) Closed.none (fun q hq => by cases hq) h
  rw [hok.1.1.2] at this
  exact AnyT.any _ _ _ _ this
theorem planT.text : ∀ (ys : List Bool) (k : Nat) (T : Tl) (a : Act) (w : World), planT P ops Q false T (textPlan k ys) a w → wpOps P ops Q (List.range' k ys.length) a w
  | [], k, T, a, w, h => h
  | true :: r, k, T, a, w, h => by
    obtain ⟨o, v, C, hi, hS, hy, hp⟩ := h
    rw [List.length_cons, List.range'_succ, wpOps_cons]
    exact hy.wpOp hi hS (planT.text r (k + 1) _ _ w hp)
  | false :: r, k, T, a, w, h => by
    obtain ⟨o, hi, hp⟩ := h
    rw [List.length_cons, List.range'_succ, wpOps_cons]
    exact (hp.mono fun a' w' ⟨_, h'⟩ => planT.text r (k + 1) T a' w' h').at hi
/-- A region whose order is the text's. -/
theorem region_textT {id : Nat} {a : Act} {w : World} (h : planT P ops Q false [] (textPlan 0 (ops.toList.map fun o => isY o.op)) a w) : (Code.region id ops false).wp P Q a w := by
  refine wp_region ?_
  have := planT.text _ 0 [] a w h
  simpa [List.range_eq_range'] using this
end
end Go.BK
