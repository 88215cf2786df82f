/- Core A: a region of open order by a plan; frames as facts; heaplets. Own work for this claim. -/
import Derived.Calls
import Derived.Orders
import Derived.OrdersHeld
import Derived.Tactics
import Derived.KernelRfl
namespace Go.BK

/-! ### Regions by a plan -/

/-- What yields a value and changes nothing, if it runs at all. -/
def isY : Op → Bool
  | .move _ | .assign _ | .pick .. | .load .. | .nilCheck _ | .binOp .. | .unOp .. | .convert .. | .slice .. | .fieldAddr .. | .field .. | .indexAddr .. | .index .. | .extract .. | .build ..
  | .makeFunc .. | .makeInterface .. | .sliceToArrayPointer .. => true
  | .call { callee := .builtin b, .. } => match b with | .len | .cap | .min | .max => true | _ => false
  | _ => false

inductive Plan where
  | done
  | y (i : Nat) (r : Plan)
  | e (i : Nat) (r : Plan)
  | alt (i : Nat) (p : Plan) (j : Nat) (q : Plan)

def Plan.len : Plan → Nat
  | .done => 0
  | .y _ r | .e _ r => r.len + 1
  | .alt _ p _ _ => p.len + 1

/-- Must number k have come up ahead of number j? -/
def anc (ops : Array Oper) : Nat → Nat → Nat → Bool
  | 0, _, _ => false
  | n + 1, j, k => match ops[j]? with
    | some o => o.after.any fun e => Region.binds .any e && (e.on == k || anc ops n e.on k)
    | none => false

/-- Behind number j nothing is read any more. -/
def fin (ops : Array Oper) (j : Nat) : Bool :=
  (List.range ops.size).all fun k => match ops[k]? with
    | some o => !isY o.op || anc ops ops.size j k
    | none => true

/-- May the plan be gone by? -/
def Plan.ok (ops : Array Oper) : Plan → Array Bool → Bool
  | .done, l => (Region.ready .any ops l).isEmpty
  | .y i r, l => (Region.ready .any ops l).contains i && Region.free .any ops l i && ((ops[i]?).map (isY ·.op)).getD false && !fin ops i && r.ok ops (l.setIfInBounds i true)
  | .e i r, l => (Region.ready .any ops l) == [i] && r.ok ops (l.setIfInBounds i true)
  | .alt i p j q, l => (Region.ready .any ops l) == [i, j] && p.len == q.len && p.ok ops (l.setIfInBounds i true) && q.ok ops (l.setIfInBounds j true)

section
variable {P : Program} {ops : Array Oper} {Q : Exit → Act → World → Prop}

/-- A post that no panic meets. -/
class NP (Q : Exit → Act → World → Prop) : Prop where
  no : ∀ c a w, ¬ Q (.panic c) a w

instance NP.then {K : Act → World → Prop} [h : NP Q] : NP (Exit.then K Q) := ⟨fun c a w q => h.no c a w q⟩
instance NP.inBlock {id : Nat} [h : NP Q] : NP (Exit.inBlock id Q) := ⟨fun c a w q => h.no c a w q⟩

/-- One operation, carried out where it is wanted. -/
def opWp (P : Program) (ops : Array Oper) (Q : Exit → Act → World → Prop) (o : Oper) (K : Act → World → Prop) (a : Act) (w : World) : Prop :=
  (Region.wanted o (yielded ops a.tmps) = true → o.wp P a w K Q) ∧ (Region.wanted o (yielded ops a.tmps) = false → K (a.put o.dst undef) w)

theorem opWp.at {i : Nat} {o : Oper} (hi : ops[i]? = some o) {K : Act → World → Prop} {a : Act} {w : World} (h : opWp P ops Q o K a w) : wpOp P ops Q i K a w := by
  unfold wpOp
  rw [hi]
  show if _ then _ else _
  split
  · rename_i hw; exact .inl (h.1 hw)
  · rename_i hw; exact h.2 (by simpa using hw)

theorem opWp.mono {o : Oper} {K K' : Act → World → Prop} {a : Act} {w : World} (h : opWp P ops Q o K a w) (hk : ∀ a w, K a w → K' a w) : opWp P ops Q o K' a w :=
  ⟨fun hw => Oper.wp_mono hk (h.1 hw), fun hw => hk _ _ (h.2 hw)⟩

/-- What is to be shown along a plan. S: what holds of the world as long as something is still to be read. dr: the order is open. -/
def planWp (P : Program) (ops : Array Oper) (Q : Exit → Act → World → Prop) (dr : Bool) : (World → Prop) → Plan → Act → World → Prop
  | _, .done, a, w => Q .normal a w
  | S, .y i r, a, w => ∃ o v, ops[i]? = some o ∧ YieldsIf P ops S o v a ∧ planWp P ops Q dr S r (a.put o.dst v) w
  | S, .e i r, a, w => ∃ o, ops[i]? = some o ∧ opWp P ops Q o (fun a' w' => ∃ S' : World → Prop, ((dr && !fin ops i) = true → S' = S) ∧ S' w' ∧ planWp P ops Q dr S' r a' w') a w
  | S, .alt i p j q, a, w =>
    (∃ o, ops[i]? = some o ∧ opWp P ops Q o (fun a' w' => ∃ S' : World → Prop, ((dr && !fin ops i) = true → S' = S) ∧ S' w' ∧ planWp P ops Q dr S' p a' w') a w) ∧
    (∃ o, ops[j]? = some o ∧ opWp P ops Q o (fun a' w' => ∃ S' : World → Prop, ((dr && !fin ops j) = true → S' = S) ∧ S' w' ∧ planWp P ops Q dr S' q a' w') a w)

/-- Whatever order is picked, and Sd holds behind each operation. -/
def AnyS (P : Program) (ops : Array Oper) (Q : Exit → Act → World → Prop) (Sd : Array Bool → World → Prop) : Nat → Array Bool → Act → World → Prop
  | 0, l, a, w => Region.ready .any ops l = [] ∧ Q .normal a w
  | n + 1, l, a, w => (Region.ready .any ops l = [] → Q .normal a w) ∧
    ∀ i ∈ Region.ready .any ops l, wpOp P ops Q i (fun a' w' => Sd (l.setIfInBounds i true) w' ∧ AnyS P ops Q Sd n (l.setIfInBounds i true) a' w') a w

theorem AnyS.any {Sd : Array Bool → World → Prop} : ∀ (n : Nat) (l : Array Bool) (a : Act) (w : World), AnyS P ops Q Sd n l a w → wpAny P .any ops Q n l a w
  | 0, _, _, _, h => h
  | n + 1, _, _, _, h => ⟨h.1, fun i hi => wpOp_mono (fun a' w' h' => AnyS.any n _ a' w' h'.2) (h.2 i hi)⟩

/-- Whatever has come up, all ahead of it has. -/
def Closed (ops : Array Oper) (l : Array Bool) : Prop :=
  ∀ j o, ops[j]? = some o → l.getD j false = true → ∀ e ∈ o.after, Region.binds .any e = true → l.getD e.on false = true

theorem Closed.anc {l : Array Bool} (h : Closed ops l) : ∀ (n j k : Nat), anc ops n j k = true → l.getD j false = true → l.getD k false = true
  | 0, _, _, ha, _ => by simp [BK.anc] at ha
  | n + 1, j, k, ha, hj => by
    unfold BK.anc at ha
    split at ha
    · rename_i o ho
      obtain ⟨e, he, hb⟩ := Array.any_eq_true'.1 ha
      simp only [Bool.and_eq_true, Bool.or_eq_true, beq_iff_eq] at hb
      have he' := h j o ho hj e he hb.1
      rcases hb.2 with hk | hk
      · rwa [hk] at he'
      · exact Closed.anc h n _ _ hk he'
    · cases ha

theorem getD_set_self {l : Array Bool} {i : Nat} (h : i < l.size) (d : Bool) : (l.setIfInBounds i true).getD i d = true := by simp [h]

theorem Closed.step {l : Array Bool} (h : Closed ops l) {i : Nat} (hi : i ∈ Region.ready .any ops l) : Closed ops (l.setIfInBounds i true) := by
  intro j o ho hj e he hb
  by_cases hij : i = j
  · subst hij
    obtain ⟨_, o', ho', hall⟩ := mem_ready.1 hi
    rw [ho] at ho'
    cases ho'
    exact getD_set_true (hall e he hb)
  · rw [getD_set_ne false hij] at hj
    exact getD_set_true (h j o ho hj e he hb)

def Sd (ops : Array Oper) (S : World → Prop) (l : Array Bool) (w : World) : Prop := (∀ j, fin ops j = true → l.getD j false = false) → S w

theorem fin_spec {j i : Nat} {o : Oper} (h : fin ops j = true) (hi : ops[i]? = some o) (hy : isY o.op = true) : anc ops ops.size j i = true := by
  unfold fin at h
  rw [List.all_eq_true] at h
  have h1 := h i (List.mem_range.2 (Array.getElem?_eq_some_iff.1 hi).1)
  rw [hi] at h1
  simpa [hy] using h1

theorem nofin {l : Array Bool} (hc : Closed ops l) {i : Nat} {o : Oper} (hi : ops[i]? = some o) (hy : isY o.op = true) (hsz : l.size = ops.size) (hun : l.getD i true = false) : ∀ j, fin ops j = true → l.getD j false = false := by
  intro j hj
  cases hl : l.getD j false with
  | false => rfl
  | true =>
    have := hc.anc _ _ _ (fin_spec hj hi hy) hl
    have hlt : i < l.size := hsz ▸ (Array.getElem?_eq_some_iff.1 hi).1
    simp [hlt] at this hun
    rw [hun] at this
    cases this

/-- What yields its value wherever S holds may be taken first. -/
theorem AnyS.first {S : World → Prop} [hq : NP Q] {i : Nat} {oi : Oper} {v : Value} (hi : ops[i]? = some oi) (hY : isY oi.op = true) (hF : fin ops i = false) (hsel : Region.noSelect ops = true) :
    ∀ (n : Nat) (l : Array Bool) (a : Act) (w : World), l.size = ops.size → Closed ops l →
      (∀ j oj, ops[j]? = some oj → j ≠ i → l.getD j true = false → (∀ e ∈ oj.after, Region.binds .any e = true → e.on ≠ i) → oi.apart ops oj = true) →
      i ∈ Region.ready .any ops l → YieldsIf P ops S oi v a → Sd ops S l w →
      AnyS P ops Q (Sd ops S) n (l.setIfInBounds i true) (a.put oi.dst v) w → AnyS P ops Q (Sd ops S) (n + 1) l a w := by
  have hpan : ∀ c a w, Q (.panic c) (a.put oi.dst v) w → Q (.panic c) a w := fun c a w h => (hq.no c _ w h).elim
  intro n
  induction n with
  | zero =>
    intro l a w hsz hc _ hr hy hS H
    refine ⟨fun h => (by rw [h] at hr; cases hr), fun j hj => ?_⟩
    by_cases hji : j = i
    · subst hji
      have hSw := hS (nofin hc hi hY hsz (mem_ready.1 hr).1)
      exact hy.wpOp hi hSw ⟨fun _ => hSw, H⟩
    · have hjr := ready_mono hj hji
      rw [H.1] at hjr
      cases hjr
  | succ n ih =>
    intro l a w hsz hc hfree hr hy hS H
    refine ⟨fun h => (by rw [h] at hr; cases hr), fun j hj => ?_⟩
    by_cases hji : j = i
    · subst hji
      have hSw := hS (nofin hc hi hY hsz (mem_ready.1 hr).1)
      exact hy.wpOp hi hSw ⟨fun _ => hSw, H⟩
    · have h1 := H.2 j (ready_mono hj hji)
      obtain ⟨hjun, oj, hoj, hall⟩ := mem_ready.1 hj
      have hnot : ∀ e ∈ oj.after, Region.binds .any e = true → e.on ≠ i := fun e he hb heq => by
        have g1 := hall e he hb
        have g0 := (mem_ready.1 hr).1
        rw [heq] at g1
        rcases Nat.lt_or_ge i l.size with h' | h'
        · simp [h'] at g0 g1; rw [g0] at g1; cases g1
        · simp [Array.getElem?_eq_none h'] at g1
      have h2 := wpOp_putIf hoj (hfree j oj hoj hji hjun hnot) (Region.noSelect_spec hsel i oi · · hi) (Region.noSelect_spec hsel j oj · · hoj) hpan hy h1
      refine wpOp_mono (fun a' w' h3 => ?_) h2
      obtain ⟨hy', hSd, h3⟩ := h3
      have hSd' : Sd ops S (l.setIfInBounds j true) w' := fun hno => hSd fun m hm => by
        by_cases him : i = m
        · subst him; rw [hF] at hm; cases hm
        · have := hno m hm
          rw [Array.setIfInBounds_comm _ _ (Ne.symm hji), getD_set_ne false him]
          exact this
      refine ⟨hSd', ih (l.setIfInBounds j true) a' w' (by simpa using hsz) (hc.step hj) (fun k ok hk hki hun hno => ?_) (ready_mono hr (Ne.symm hji)) hy' hSd' ?_⟩
      · refine hfree k ok hk hki ?_ hno
        by_cases hjk : j = k
        · subst hjk; exact hjun
        · rw [getD_set_ne true hjk] at hun; exact hun
      · rw [Array.setIfInBounds_comm _ _ hji]
        exact h3

theorem AnyS.one {S S' : World → Prop} {i : Nat} {r : List Nat} {n : Nat} {l : Array Bool} {a : Act} {w : World} {o : Oper} (hi : ops[i]? = some o) (hir : i ∈ Region.ready .any ops l)
    (hsz : l.size = ops.size) (hc : Closed ops l) (hJ : S' = S ∨ ∃ j, fin ops j = true ∧ l.getD j false = true) {K : (World → Prop) → Act → World → Prop}
    (hk : ∀ S2 a' w', (S2 = S ∨ ∃ j, fin ops j = true ∧ (l.setIfInBounds i true).getD j false = true) → Sd ops S (l.setIfInBounds i true) w' → K S2 a' w' → AnyS P ops Q (Sd ops S) n (l.setIfInBounds i true) a' w')
    (h : opWp P ops Q o (fun a' w' => ∃ S2 : World → Prop, ((true && !fin ops i) = true → S2 = S') ∧ S2 w' ∧ K S2 a' w') a w) :
    wpOp P ops Q i (fun a' w' => Sd ops S (l.setIfInBounds i true) w' ∧ AnyS P ops Q (Sd ops S) n (l.setIfInBounds i true) a' w') a w := by
  refine (h.mono fun a' w' hh => ?_).at hi
  obtain ⟨S2, h2, hS2, hp⟩ := hh
  have hJ2 : S2 = S ∨ ∃ j, fin ops j = true ∧ (l.setIfInBounds i true).getD j false = true := by
    cases hf : fin ops i with
    | true => exact .inr ⟨i, hf, getD_set_self (hsz ▸ (Array.getElem?_eq_some_iff.1 hi).1) false⟩
    | false =>
      have e := h2 (by rw [hf]; rfl)
      rcases hJ with hJ | ⟨j, hj, hl⟩
      · exact .inl (e.trans hJ)
      · exact .inr ⟨j, hj, getD_set_true hl⟩
  have hSd : Sd ops S (l.setIfInBounds i true) w' := fun hno => by
    rcases hJ2 with e | ⟨j, hj, hl⟩
    · rw [← e]; exact hS2
    · rw [hno j hj] at hl; cases hl
  exact ⟨hSd, hk S2 a' w' hJ2 hSd hp⟩

theorem planWp.any [hq : NP Q] (hsel : Region.noSelect ops = true) {S : World → Prop} : ∀ (p : Plan) (S' : World → Prop) (l : Array Bool) (a : Act) (w : World), p.ok ops l = true → l.size = ops.size → Closed ops l →
    (S' = S ∨ ∃ j, fin ops j = true ∧ l.getD j false = true) → Sd ops S l w → planWp P ops Q true S' p a w → AnyS P ops Q (Sd ops S) p.len l a w
  | .done, S', l, a, w, ho, _, _, _, _, h => ⟨by simpa [Plan.ok] using ho, h⟩
  | .y i r, S', l, a, w, ho, hsz, hc, hJ, hS, h => by
    simp only [Plan.ok, Bool.and_eq_true] at ho
    obtain ⟨⟨⟨⟨ho1, ho2⟩, ho3⟩, ho4⟩, ho5⟩ := ho
    obtain ⟨o, v, hi, hy, hp⟩ := h
    have hir : i ∈ Region.ready .any ops l := by simpa using ho1
    have hY : isY o.op = true := by simpa [hi] using ho3
    have hF : fin ops i = false := by simpa using ho4
    have e : S' = S := by
      rcases hJ with e | ⟨j, hj, hl⟩
      · exact e
      · rw [nofin hc hi hY hsz (mem_ready.1 hir).1 j hj] at hl; cases hl
    subst e
    refine AnyS.first hi hY hF hsel r.len l a w hsz hc (Region.free_spec hi ho2) hir hy hS ?_
    refine planWp.any hsel r S' _ _ w ho5 (by simpa using hsz) (hc.step hir) (.inl rfl) (fun _ => hS (nofin hc hi hY hsz (mem_ready.1 hir).1)) hp
  | .e i r, S', l, a, w, ho, hsz, hc, hJ, hS, h => by
    simp only [Plan.ok, Bool.and_eq_true, beq_iff_eq] at ho
    obtain ⟨ho1, ho2⟩ := ho
    obtain ⟨o, hi, hp⟩ := h
    refine ⟨fun h0 => (by rw [h0] at ho1; cases ho1), fun j hj => ?_⟩
    have hji : j = i := by rw [ho1] at hj; simpa using hj
    subst hji
    exact AnyS.one (r := []) hi hj hsz hc hJ (fun S2 a' w' h2 h3 h4 => planWp.any hsel r S2 _ a' w' ho2 (by simpa using hsz) (hc.step hj) h2 h3 h4) hp
  | .alt i p j q, S', l, a, w, ho, hsz, hc, hJ, hS, h => by
    simp only [Plan.ok, Bool.and_eq_true, beq_iff_eq] at ho
    obtain ⟨⟨⟨ho1, ho2⟩, ho3⟩, ho4⟩ := ho
    obtain ⟨⟨o, hi, hp⟩, ⟨o', hi', hp'⟩⟩ := h
    refine ⟨fun h0 => (by rw [h0] at ho1; cases ho1), fun k hk => ?_⟩
    have hki : k = i ∨ k = j := by rw [ho1] at hk; simpa using hk
    rcases hki with hki | hki
    · subst hki
      exact AnyS.one (r := []) hi hk hsz hc hJ (fun S2 a' w' h2 h3 h4 => planWp.any hsel p S2 _ a' w' ho3 (by simpa using hsz) (hc.step hk) h2 h3 h4) hp
    · subst hki
      exact AnyS.one (r := []) hi' hk hsz hc hJ (fun S2 a' w' h2 h3 h4 => ho2 ▸ planWp.any hsel q S2 _ a' w' ho4 (by simpa using hsz) (hc.step hk) h2 h3 h4) hp'

theorem Closed.none : Closed ops (Array.replicate ops.size false) := by
  intro j o ho hj
  have : j < ops.size := (Array.getElem?_eq_some_iff.1 ho).1
  simp [this] at hj

/-- A region whose order is open, by a plan. -/
theorem region_draw [NP Q] (hm : P.follows .mixedOrders = true) {id : Nat} {a : Act} {w : World} (p : Plan) (S : World → Prop)
    (hok : (Region.noSelect ops && (p.len == ops.size) && p.ok ops (Array.replicate ops.size false)) = true) (hS : S { w with drawn := w.drawn + 1 })
    (h : planWp P ops Q true S p a { w with drawn := w.drawn + 1 }) : (Code.region id ops true).wp P Q a w := by
  simp only [Bool.and_eq_true, beq_iff_eq] at hok
  refine wp_region_any hm ?_
  have := planWp.any hok.1.1 p S (Array.replicate ops.size false) a _ hok.2 (by simp) Closed.none (.inl rfl) (fun _ => hS) h
  rw [hok.1.2] at this
  exact AnyS.any _ _ _ _ this

/-- The plan that goes by the text: numbers from k on. -/
def textPlan : Nat → List Bool → Plan
  | _, [] => .done
  | k, true :: r => .y k (textPlan (k + 1) r)
  | k, false :: r => .e k (textPlan (k + 1) r)

theorem planWp.text : ∀ (ys : List Bool) (k : Nat) (S : World → Prop) (a : Act) (w : World), S w → planWp P ops Q false S (textPlan k ys) a w → wpOps P ops Q (List.range' k ys.length) a w
  | [], k, S, a, w, _, h => h
  | true :: r, k, S, a, w, hS, h => by
    obtain ⟨o, v, hi, hy, hp⟩ := h
    rw [List.length_cons, List.range'_succ, wpOps_cons]
    exact hy.wpOp hi hS (planWp.text r (k + 1) S _ w hS hp)
  | false :: r, k, S, a, w, hS, h => by
    obtain ⟨o, hi, hp⟩ := h
    rw [List.length_cons, List.range'_succ, wpOps_cons]
    exact (hp.mono fun a' w' ⟨S', _, hS', h'⟩ => planWp.text r (k + 1) S' a' w' hS' h').at hi

/-- A region whose order is the text's. -/
theorem region_text {id : Nat} {a : Act} {w : World} (S : World → Prop) (hS : S w)
    (h : planWp P ops Q false S (textPlan 0 (ops.toList.map fun o => isY o.op)) a w) : (Code.region id ops false).wp P Q a w := by
  refine wp_region ?_
  have := planWp.text _ 0 S a w hS h
  simpa [List.range_eq_range'] using this
end
end Go.BK
