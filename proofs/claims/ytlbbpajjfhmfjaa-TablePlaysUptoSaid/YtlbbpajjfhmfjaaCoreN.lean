/- Core N: judgements in which frame and heap stand in the goal. Own work for this claim. -/
import Derived.Test.YtlbbpajjfhmfjaaCoreMm
namespace Go.BK
/-! ### Heaps told anew -/
theorem Holds.of_sub {E : Env} {w : World} {cs cs' : List HL} {D : HL} (h : Holds E w cs) (hp : cs.flatten.Perm (cs'.flatten ++ D)) : Holds E w cs' := by
  refine ⟨h.os, h.tape, h.out, h.dr, ?_, fun p hm => h.mem p (hp.mem_iff.2 (List.mem_append_left _ hm))⟩
  have := (hp.map Prod.fst).nodup_iff.1 h.nd
  rw [List.map_append] at this
  exact (List.nodup_append.1 this).1
def pick (cs : List HL) : List Nat → HL
  | [i] => (nth cs i).getD []
  | g => (g.map fun i => (nth cs i).getD []).flatten
def grp (n : Nat) (gs : List (List Nat)) (cs : List HL) : List HL := gs.map (pick cs) ++ cs.drop n
def ndB : List Nat → Bool
  | [] => true
  | x :: r => !(r.any (Nat.beq x)) && ndB r
def grpOk (n : Nat) (gs : List (List Nat)) : Bool := gs.flatten.all (fun i => Nat.blt i n) && ndB gs.flatten
theorem ndB_nodup : ∀ {l : List Nat}, ndB l = true → l.Nodup
  | [], _ => List.nodup_nil
  | x :: r, h => by
    simp only [ndB, Bool.and_eq_true, Bool.not_eq_true', List.any_eq_false] at h
    refine List.nodup_cons.2 ⟨fun hm => ?_, ndB_nodup h.2⟩
    exact h.1 x hm (by simp)
theorem pick_eq (cs : List HL) (g : List Nat) : pick cs g = (g.map fun i => (nth cs i).getD []).flatten := by
  unfold pick
  split <;> simp
theorem grp_flat (cs : List HL) : ∀ gs : List (List Nat), (gs.map (pick cs)).flatten = (gs.flatten.map fun i => (nth cs i).getD []).flatten
  | [] => rfl
  | g :: gs => by simp [pick_eq, grp_flat cs gs]
theorem range_flat : ∀ (cs : List HL) (n : Nat), cs.flatten = ((List.range n).map fun i => (nth cs i).getD []).flatten ++ (cs.drop n).flatten
  | cs, 0 => by simp
  | [], n + 1 => by
    have : ∀ l : List Nat, (l.map fun i => (nth ([] : List HL) i).getD []).flatten = [] := by
      intro l; induction l with
      | nil => rfl
      | cons x r ih => simp [nth, ih]
    rw [this]; simp
  | c :: cs, n + 1 => by
    rw [List.range_succ_eq_map, List.map_cons, List.flatten_cons, List.map_map, List.drop_succ_cons, List.flatten_cons, List.append_assoc]
    have e : ((fun i => (nth (c :: cs) i).getD []) ∘ Nat.succ) = fun i => (nth cs i).getD [] := by funext i; rfl
    rw [e, ← range_flat cs n]; rfl
theorem Holds.grp {E : Env} {w : World} {cs : List HL} (h : Holds E w cs) (n : Nat) (gs : List (List Nat)) (hok : grpOk n gs = true) : Holds E w (grp n gs cs) := by
  unfold grpOk at hok
  rw [Bool.and_eq_true, List.all_eq_true] at hok
  have hnd := ndB_nodup hok.2
  obtain ⟨rest, hr⟩ : ∃ rest, (List.range n).Perm (gs.flatten ++ rest) := by
    refine ⟨(List.range n).filter (fun i => !decide (i ∈ gs.flatten)), ?_⟩
    refine (List.filter_append_perm (fun i => decide (i ∈ gs.flatten)) (List.range n)).symm.trans (List.Perm.append_right _ ?_)
    refine (List.perm_ext_iff_of_nodup (List.Sublist.nodup List.filter_sublist List.nodup_range) hnd).2 fun i => ?_
    rw [List.mem_filter, List.mem_range, decide_eq_true_eq]
    exact ⟨fun h => h.2, fun h => ⟨by simpa [Nat.blt_eq] using hok.1 i h, h⟩⟩
  refine h.of_sub (D := (rest.map fun i => (nth cs i).getD []).flatten) ?_
  unfold BK.grp
  rw [List.flatten_append, grp_flat]
  have h1 : cs.flatten = _ := range_flat cs n
  rw [h1]
  have h2 := ((hr.map fun i => (nth cs i).getD []).flatten)
  rw [List.map_append, List.flatten_append] at h2
  exact (h2.append_right _).trans (by
    rw [List.append_assoc, List.append_assoc]
    exact List.Perm.append_left _ List.perm_append_comm)
theorem set_flat_perm {cs : List HL} {c c' : HL} : ∀ {j : Nat}, cs[j]? = some c → (c' ++ cs.flatten).Perm (c ++ (cs.set j c').flatten) := by
  induction cs with
  | nil => intro j h; simp at h
  | cons x r ih =>
    intro j h
    cases j with
    | zero =>
      simp at h; subst h
      simp only [List.set_cons_zero, List.flatten_cons, ← List.append_assoc]
      exact List.perm_append_comm.append_right _
    | succ j =>
      have := ih (by simpa using h)
      simp only [List.set_cons_succ, List.flatten_cons]
      refine (List.perm_append_comm_assoc _ _ _).trans ((this.append_left x).trans (List.perm_append_comm_assoc _ _ _))
theorem Holds.opn {E : Env} {w : World} {cs : List HL} (h : Holds E w cs) (j : Nat) (ds : List HL) (hj : nth cs j = some ds.flatten) : Holds E w (ds ++ cs.set j []) := by
  rw [nth_eq] at hj
  have := set_flat_perm (c' := []) hj
  refine h.of_sub (D := []) ?_
  rw [List.append_nil, List.flatten_append]
  simpa using this
theorem Holds.toFront {E : Env} {w : World} {cs : List HL} {c : HL} {j : Nat} (h : Holds E w cs) (hj : nth cs j = some c) : Holds E w (c :: cs.set j []) := by
  have := h.opn j [c] (by simpa using hj)
  exact this
theorem Holds.back {E : Env} {w : World} {cs : List HL} {c c' : HL} {j : Nat} (h : Holds E w (c' :: cs.set j [])) (hj : nth cs j = some c) : Holds E w (cs.set j c') := by
  rw [nth_eq] at hj
  obtain ⟨hlt, _⟩ := List.getElem?_eq_some_iff.1 hj
  have h2 : (cs.set j [])[j]? = some ([] : HL) := by simp [hlt]
  have := set_flat_perm (c' := c') h2
  rw [List.set_set] at this
  refine h.of_sub (D := []) ?_
  rw [List.append_nil, List.flatten_cons]
  simpa using this
def Sub (C C' : HL) : Prop := ∀ p ∈ C, p ∈ C'
theorem Sub.rfl {C : HL} : Sub C C := fun _ h => h
theorem Sub.tr {C C' C'' : HL} (h : Sub C C') (h' : Sub C' C'') : Sub C C'' := fun p hp => h' p (h p hp)
theorem Sub.l {C c : HL} : Sub C (C ++ c) := fun _ h => List.mem_append_left _ h
theorem Sub.r {C c d : HL} (h : Sub d c) : Sub d (C ++ c) := fun p hp => List.mem_append_right _ (h p hp)
theorem Sub.dl {C c D : HL} (h : Sub (C ++ c) D) : Sub C D := fun p hp => h p (List.mem_append_left _ hp)
theorem Sub.dr {C c D : HL} (h : Sub (C ++ c) D) : Sub c D := fun p hp => h p (List.mem_append_right _ hp)
/-- A chunk of a list. -/
abbrev In (C : HL) (cs : List HL) : Prop := ∀ p ∈ C, p ∈ cs.flatten
theorem inJ (j : Nat) {cs : List HL} {C : HL} (h : nth cs j = some C) : In C cs := fun _ hp => memV h hp
theorem In.sub {C C' : HL} {cs : List HL} (h : In C' cs) (hs : Sub C C') : In C cs := fun p hp => h p (hs p hp)
theorem Holds.nd0 {E : Env} {w : World} {C : HL} {cs : List HL} (h : Holds E w (C :: cs)) : (C.map Prod.fst).Nodup := by
  have := h.nd
  simp only [List.flatten_cons, List.map_append] at this
  exact (List.nodup_append.1 this).1
theorem Holds.shrink {E : Env} {w : World} {C C' : HL} {cs : List HL} (h : Holds E w (C' :: cs)) (hs : Sub C C') (hn : (C.map Prod.fst).Nodup) : Holds E w (C :: cs) := by
  refine ⟨h.os, h.tape, h.out, h.dr, ?_, fun p hp => ?_⟩
  · have h1 := h.nd
    simp only [List.flatten_cons, List.map_append] at h1 ⊢
    obtain ⟨_, h2, h3⟩ := List.nodup_append.1 h1
    refine List.nodup_append.2 ⟨hn, h2, fun a ha b hb => ?_⟩
    obtain ⟨p, hp, rfl⟩ := List.mem_map.1 ha
    exact h3 _ (List.mem_map.2 ⟨p, hs p hp, rfl⟩) b hb
  · simp only [List.flatten_cons, List.mem_append] at hp
    rcases hp with hp | hp
    · exact h.mem p (by simp [hs p hp])
    · exact h.mem p (by simp only [List.flatten_cons, List.mem_append]; exact .inr hp)

/-! ### The judgements -/
section
variable {P : Program} {l : List Oper} {Q : Exit → Act → World → Prop} {dr : Bool} {E : Env} {N : Nat} {Tt : Tl} {cs cs' : List HL} {σ : List (Nat × Value)} {i d : Nat} {r : Plan} {o : Oper} {v : Value}
variable {ty : TypeId} {pos : String} {af : Array Edge} {g : Option (Nat × Bool)} {dst : Option Tmp} {x y : Operand} {c1 c2 : Code} {id : Nat}
def Wk (P : Program) (l : List Oper) (Q : Exit → Act → World → Prop) (dr : Bool) (E : Env) (N : Nat) (Tt : Tl) (cs : List HL) (σ : List (Nat × Value)) (pl : Plan) : Prop :=
  ∀ a w, Fr a N σ → Holds E w cs → planT P l.toArray Q dr Tt pl a w
def Wc (P : Program) (Q : Exit → Act → World → Prop) (E : Env) (N : Nat) (cs : List HL) (σ : List (Nat × Value)) (c : Code) : Prop :=
  ∀ a w, Fr a N σ → Holds E w cs → c.wp P Q a w
def Wx (Q : Exit → Act → World → Prop) (e : Exit) (E : Env) (N : Nat) (cs : List HL) (σ : List (Nat × Value)) : Prop :=
  ∀ a w, Fr a N σ → Holds E w cs → Q e a w
def RN (dr : Bool) (l : List Oper) (i : Nat) (Tt : Tl) (cs' : List HL) : Prop := dr = true → ∀ q ∈ Tt, behind l.toArray i q.1 = false → In q.2 cs'
theorem rn0 : RN false l i Tt cs' := fun h => by cases h
theorem rnN : RN dr l i [] cs' := fun _ q hq => by cases hq
theorem rnB {q : Nat × HL} (hb : behind l.toArray i q.1 = true) (h : RN dr l i Tt cs') : RN dr l i (q :: Tt) cs' := fun hd z hz hz' => by
  rcases List.mem_cons.1 hz with rfl | hz
  · rw [hb] at hz'; cases hz'
  · exact h hd z hz hz'
theorem rnI {q : Nat × HL} (hI : In q.2 cs') (h : RN dr l i Tt cs') : RN dr l i (q :: Tt) cs' := fun hd z hz hz' => by
  rcases List.mem_cons.1 hz with rfl | hz
  · exact hI
  · exact h hd z hz hz'
theorem In.hasH {C : HL} {w : World} (h : In C cs) (hH : Holds E w cs) : HasH C w := fun p hp => hH.mem p (h p hp)
theorem RN.told {w : World} (h : RN dr l i Tt cs') (hH : Holds E w cs') : dr = true → ∀ q ∈ Tt, behind l.toArray i q.1 = false → HasH q.2 w := fun hd q hq hb => (h hd q hq hb).hasH hH
/-- What the continuation of an operation with an effect owes. -/
abbrev Kx (P : Program) (l : List Oper) (Q : Exit → Act → World → Prop) (dr : Bool) (Tt : Tl) (i : Nat) (r : Plan) : Act → World → Prop :=
  fun a' w' => (dr = true → ∀ q ∈ Tt, behind l.toArray i q.1 = false → HasH q.2 w') ∧ planT P l.toArray Q dr Tt r a' w'
theorem RN.kt {a : Act} {w : World} (h : RN dr l i Tt cs') (hf : Fr a N σ) (hH : Holds E w cs') (k : Wk P l Q dr E N Tt cs' σ r) : Kx P l Q dr Tt i r a w := ⟨h.told hH, k a w hf hH⟩
theorem sn (n : Nat) (h : cs.drop n = cs') : ∀ p ∈ cs'.flatten, p ∈ cs.flatten := h ▸ sub_drp n
theorem Runs.one {a : Act} {C : HL} (h : Runs P (Has [C]) a o v) : Runs P (HasH C) a o v := fun w hw => h w (fun p hp => hw p (by simpa using hp))
theorem Runs.in {a : Act} {C : HL} (h : ∀ cs, In C cs → Runs P (Has cs) a o v) : Runs P (HasH C) a o v := (h [C] (fun p hp => by simpa using hp)).one
/-! code -/
theorem wH (f : ∀ w, Holds E w cs → Holds E w cs') (k : Wc P Q E N cs' σ c1) : Wc P Q E N cs σ c1 := fun a w hf hH => k a w hf (f w hH)
theorem wF (σ' : List (Nat × Value)) (hs : σ'.map (fun p => look σ p.1) = σ'.map fun p => some p.2) (k : Wc P Q E N cs σ' c1) : Wc P Q E N cs σ c1 := fun a w hf hH => k a w (hf.sub σ' hs) hH
theorem wFz {C c : HL} (f : ∀ w, Holds E w cs → Holds E w ((C ++ (c ++ [])) :: cs')) (k : ∀ C1, Sub C C1 → Sub c C1 → Wc P Q E N (C1 :: cs') σ c1) : Wc P Q E N cs σ c1 := wH f (k _ Sub.l (Sub.r Sub.l))
theorem wT {id : Nat} (k : Wk P l Q false E N [] cs σ (textPlan 0 (l.map fun o => isY o.op))) : Wc P Q E N cs σ (.region id l.toArray false) := fun a w hf hH => region_textT (by simpa using k a w hf hH)
theorem wD [NP Q] {id : Nat} (hm : P.follows .mixedOrders = true) (p : Plan)
    (hok : (Region.noSelect l.toArray && (p.len == l.toArray.size) && p.okT l.toArray (Array.replicate l.toArray.size false) && p.eOk l.toArray) = true) (k : Wk P l Q true E N [] cs σ p) : Wc P Q E N cs σ (.region id l.toArray true) :=
  fun a w hf hH => region_drawT hm p hok (k a _ hf (hH.drew _))
theorem wE (k : Wx Q .normal E N cs σ) : Wk P l Q dr E N Tt cs σ .done := fun a w hf hH => k a w hf hH
theorem wN (k : Wc P Q E N cs σ c1) : Wx (Exit.then (c1.wp P Q) Q) .normal E N cs σ := k
theorem wSq (k : Wc P (Exit.then (c2.wp P Q) Q) E N cs σ c1) : Wc P Q E N cs σ (.seq c1 c2) := fun a w hf hH => wp_seq (k a w hf hH)
theorem wS (k : Wx Q .normal E N cs σ) : Wc P Q E N cs σ .skip := fun a w hf hH => wp_skip (k a w hf hH)
theorem wB (k : Wc P (Exit.inBlock id Q) E N cs σ c1) : Wc P Q E N cs σ (.block id c1) := fun a w hf hH => wp_block (k a w hf hH)
theorem wBn (k : Wx Q .normal E N cs σ) : Wx (Exit.inBlock id Q) .normal E N cs σ := k
theorem wX (k : Wx Q (.exit id) E N cs σ) : Wc P Q E N cs σ (.exit id) := fun a w hf hH => wp_exit (k a w hf hH)
theorem wXh (k : Wx Q .normal E N cs σ) : Wx (Exit.inBlock id Q) (.exit id) E N cs σ := fun a w hf hH => xh (k a w hf hH)
theorem wXo {id' : Nat} (hne : id' ≠ id) (k : Wx Q (.exit id') E N cs σ) : Wx (Exit.inBlock id Q) (.exit id') E N cs σ := fun a w hf hH => xo hne (k a w hf hH)
theorem wXt {K : Act → World → Prop} (k : Wx Q (.exit id) E N cs σ) : Wx (Exit.then K Q) (.exit id) E N cs σ := k
theorem wIf {b : Bool} (hc : ev σ x = some (.bool b)) (h1 : b = true → Wc P Q E N cs σ c1) (h2 : b = false → Wc P Q E N cs σ c2) : Wc P Q E N cs σ (.cond x c1 c2) :=
  fun a w hf hH => cIf hf hc (fun h => h1 h a w hf hH) (fun h => h2 h a w hf hH)
theorem wIfT (hc : ev σ x = some (.bool true)) (k : Wc P Q E N cs σ c1) : Wc P Q E N cs σ (.cond x c1 c2) := wIf hc (fun _ => k) (fun h => by cases h)
theorem wIfF (hc : ev σ x = some (.bool false)) (k : Wc P Q E N cs σ c2) : Wc P Q E N cs σ (.cond x c1 c2) := wIf hc (fun h => by cases h) (fun _ => k)
theorem wJ (J : Act → World → Prop) (h1 : Wc P (Exit.then J Q) E N cs σ c1) (h2 : ∀ a w, J a w → c2.wp P Q a w) : Wc P Q E N cs σ (.seq c1 c2) := fun a w hf hH => cJoin J (h1 a w hf hH) h2
theorem wJ1 (J : Act → World → Prop) (h1 : Wc P (Exit.then J Q) E N cs σ c1) (h2 : ∀ a w, J a w → Q .normal a w) : Wc P Q E N cs σ c1 := fun a w hf hH => cJoin1 J (h1 a w hf hH) h2
theorem jI {a : Act} {w : World} (hf : Fr a N σ) (hH : Holds E w cs) (k : Wc P Q E N cs σ c1) : c1.wp P Q a w := k a w hf hH
theorem jX {a : Act} {w : World} {e : Exit} (hf : Fr a N σ) (hH : Holds E w cs) (k : Wx Q e E N cs σ) : Q e a w := k a w hf hH
/-! what yields a value -/
theorem wY (hi : nth l i = some o) (hg : o.guard = none) (hd : o.dst = some d) (hn : Nat.blt d N = true) (hr : ∀ a, Fr a N σ → Runs P (HasH []) a o v)
    (k : Wk P l Q dr E N Tt cs ((d, v) :: σ) r) : Wk P l Q dr E N Tt cs σ (.y i r) := fun a w hf hH =>
  ⟨o, v, [], getq hi, fun p hp => (by cases hp), .inl ⟨by simp [Region.wanted, hg], hr a hf⟩, planT.wk _ Tt _ _ _ (fun q hq => by rcases List.mem_cons.1 hq with rfl | hq; exact .inr rfl; exact .inl hq) (k _ w (by rw [hd]; exact hf.put hn) hH)⟩
theorem wYr {C : HL} (hi : nth l i = some o) (hg : o.guard = none) (hd : o.dst = some d) (hn : Nat.blt d N = true) (hC : In C cs) (hr : ∀ a, Fr a N σ → ∀ cs, In C cs → Runs P (Has cs) a o v)
    (k : Wk P l Q dr E N ((i, C) :: Tt) cs ((d, v) :: σ) r) : Wk P l Q dr E N Tt cs σ (.y i r) := fun a w hf hH =>
  ⟨o, v, C, getq hi, hC.hasH hH, .inl ⟨by simp [Region.wanted, hg], Runs.in (hr a hf)⟩, k _ w (by rw [hd]; exact hf.put hn) hH⟩
theorem wMv (hi : nth l i = some ⟨some d, .move x, ty, pos, af, none⟩) (hx : ev σ x = some v) (hn : Nat.blt d N = true) (k : Wk P l Q dr E N Tt cs ((d, v) :: σ) r) : Wk P l Q dr E N Tt cs σ (.y i r) :=
  wY hi rfl rfl hn (fun _ hf => rMv hf hx) k
theorem wAs (hi : nth l i = some ⟨some d, .assign x, ty, pos, af, none⟩) (hx : ev σ x = some v) (hn : Nat.blt d N = true) (k : Wk P l Q dr E N Tt cs ((d, v) :: σ) r) : Wk P l Q dr E N Tt cs σ (.y i r) :=
  wY hi rfl rfl hn (fun _ hf => rAs hf hx) k
theorem wNc {ad : Addr} (hi : nth l i = some ⟨some d, .nilCheck x, ty, pos, af, none⟩) (hx : ev σ x = some (.pointer (some ad))) (hn : Nat.blt d N = true) (k : Wk P l Q dr E N Tt cs ((d, .pointer (some ad)) :: σ) r) : Wk P l Q dr E N Tt cs σ (.y i r) :=
  wY hi rfl rfl hn (fun _ hf => rNil hf hx) k
theorem wFa {s kk b off fi : Nat} (hi : nth l i = some ⟨some d, .fieldAddr s x fi, ty, pos, af, none⟩) (hx : ev σ x = some (ptr b off)) (h : fOff P s fi = some kk) (hn : Nat.blt d N = true) (k : Wk P l Q dr E N Tt cs ((d, ptr b (off + kk)) :: σ) r) : Wk P l Q dr E N Tt cs σ (.y i r) :=
  wY hi rfl rfl hn (fun _ hf => rFa hf hx h) k
theorem m1 {p : Nat × Obj} (h : In [p] cs) : p ∈ cs.flatten := h _ (List.mem_singleton.2 rfl)
theorem inJ0 {j : Nat} {p : Nat × Obj} {cc : HL} (hj : nth cs j = some (p :: cc)) : In [p] cs := fun q hq => by
  rw [List.mem_singleton] at hq; subst hq; exact mem0 hj
theorem wLd (j : Nat) {t b off : Nat} {c : List Value} {T' : TypeId} {fz : Nat × Nat} {cc : HL} (hi : nth l i = some ⟨some d, .load t x, ty, pos, af, none⟩) (hx : ev σ x = some (ptr b off)) (h : aggB P t = some false) (hj : nth cs j = some ((b, Obj.cells c.toArray T' fz) :: cc)) (hc : nth c off = some v) (hn : Nat.blt d N = true)
    (k : Wk P l Q dr E N ((i, [(b, Obj.cells c.toArray T' fz)]) :: Tt) cs ((d, v) :: σ) r) : Wk P l Q dr E N Tt cs σ (.y i r) := wYr hi rfl rfl hn (inJ0 hj) (fun _ hf cs hC => rLd hf hx h (hC _ (List.mem_singleton.2 rfl)) hc) k
theorem wLs (j : Nat) (vs : List Value) {t b off n : Nat} {c : List Value} {T' : TypeId} {fz : Nat × Nat} {cc : HL} (hi : nth l i = some ⟨some d, .load t x, ty, pos, af, none⟩) (hx : ev σ x = some (ptr b off)) (h : aggB P t = some true) (hz : szOf P t = some n) (hj : nth cs j = some ((b, Obj.cells c.toArray T' fz) :: cc)) (hl : Nat.ble (off + n) c.length = true) (hc : sub c off n = vs) (hn : Nat.blt d N = true)
    (k : Wk P l Q dr E N ((i, [(b, Obj.cells c.toArray T' fz)]) :: Tt) cs ((d, .agg vs.toArray) :: σ) r) : Wk P l Q dr E N Tt cs σ (.y i r) := wYr hi rfl rfl hn (inJ0 hj) (fun _ hf cs hC => rLs hf hx h hz (hC _ (List.mem_singleton.2 rfl)) (Nat.le_of_ble_eq_true hl) hc) k
theorem rLdI {a : Act} {t b m off : Nat} {C : HL} {cells : List Value} (hf : Fr a N σ) (hx : ev σ x = some (ptr b (m + off))) (hE : ElemAt C b m cells) (h : aggB P t = some false) (hC : In C cs) (hc : nth cells off = some v) : Runs P (Has cs) a ⟨dst, .load t x, ty, pos, af, g⟩ v := by
  obtain ⟨c, T, fz, hm, hl, hs⟩ := hE
  refine rLd hf hx h (hC _ hm) ?_
  rw [nth_eq] at hc ⊢
  have h1 : (sub c m cells.length)[off]? = some v := by rw [hs]; exact hc
  have hlt : off < cells.length := (List.getElem?_eq_some_iff.1 hc).1
  simp only [sub, List.getElem?_take, hlt, if_true, List.getElem?_drop] at h1
  exact h1
theorem rLsI {a : Act} {t b m off n : Nat} {C : HL} {cells vs : List Value} (hf : Fr a N σ) (hx : ev σ x = some (ptr b (m + off))) (hE : ElemAt C b m cells) (h : aggB P t = some true) (hn : szOf P t = some n) (hC : In C cs) (hl' : Nat.ble (off + n) cells.length = true) (hc : sub cells off n = vs) :
    Runs P (Has cs) a ⟨dst, .load t x, ty, pos, af, g⟩ (.agg vs.toArray) := by
  obtain ⟨c, T, fz, hm, hl, hs⟩ := hE
  have hle : off + n ≤ cells.length := by simpa [Nat.ble_eq] using hl'
  refine rLs hf hx h hn (hC _ hm) (by omega) ?_
  rw [← sub_sub c m cells.length off n hle, hs, hc]
theorem wLdE {t b m off : Nat} {C : HL} {cells : List Value} (hi : nth l i = some ⟨some d, .load t x, ty, pos, af, none⟩) (hx : ev σ x = some (ptr b (m + off))) (hE : ElemAt C b m cells) (h : aggB P t = some false) (hC : In C cs) (hc : nth cells off = some v) (hn : Nat.blt d N = true)
    (k : Wk P l Q dr E N ((i, C) :: Tt) cs ((d, v) :: σ) r) : Wk P l Q dr E N Tt cs σ (.y i r) := wYr hi rfl rfl hn hC (fun _ hf cs hC => rLdI hf hx hE h hC hc) k
theorem wLsE (vs : List Value) {t b m off n : Nat} {C : HL} {cells : List Value} (hi : nth l i = some ⟨some d, .load t x, ty, pos, af, none⟩) (hx : ev σ x = some (ptr b (m + off))) (hE : ElemAt C b m cells) (h : aggB P t = some true) (hz : szOf P t = some n) (hC : In C cs) (hl : Nat.ble (off + n) cells.length = true) (hc : sub cells off n = vs) (hn : Nat.blt d N = true)
    (k : Wk P l Q dr E N ((i, C) :: Tt) cs ((d, .agg vs.toArray) :: σ) r) : Wk P l Q dr E N Tt cs σ (.y i r) := wYr hi rfl rfl hn hC (fun _ hf cs hC => rLsI hf hx hE h hz hC hl hc) k
theorem wIxO {t e kk n b m : Nat} {ik : IntKind} {iv : Int} (hi : nth l i = some ⟨some d, .indexAddr t x y, ty, pos, af, none⟩) (hx : ev σ x = some v) (hy : ev σ y = some (.int ik iv)) (h : sliceEl P t = some (e, kk, n)) (hI : IxOk v kk iv b m) (hn : Nat.blt d N = true)
    (k : Wk P l Q dr E N Tt cs ((d, ptr b m) :: σ) r) : Wk P l Q dr E N Tt cs σ (.y i r) := wY hi rfl rfl hn (fun _ hf => rIxO hf hx hy h hI) k
theorem wInt {op : BinOp} {t u : TypeId} {kd : IntKind} {m n : Int} (hi : nth l i = some ⟨some d, .binOp op t x y u, ty, pos, af, none⟩) (hx : ev σ x = some (.int kd m)) (hy : ev σ y = some (.int kd n)) (hv : arith op kd m n = some v) (hn : Nat.blt d N = true)
    (k : Wk P l Q dr E N Tt cs ((d, v) :: σ) r) : Wk P l Q dr E N Tt cs σ (.y i r) := wY hi rfl rfl hn (fun _ hf => rInt hf hx hy hv) k
theorem wEx {kk : Nat} {vs : List Value} (hi : nth l i = some ⟨some d, .extract x kk, ty, pos, af, none⟩) (hx : ev σ x = some (.tuple vs.toArray)) (hk : nth vs kk = some v) (hn : Nat.blt d N = true)
    (k : Wk P l Q dr E N Tt cs ((d, v) :: σ) r) : Wk P l Q dr E N Tt cs σ (.y i r) := wY hi rfl rfl hn (fun _ hf => rExt hf hx hk) k
theorem wNt {t : TypeId} {b : Bool} (hi : nth l i = some ⟨some d, .unOp .not t x, ty, pos, af, none⟩) (hx : ev σ x = some (.bool b)) (hn : Nat.blt d N = true)
    (k : Wk P l Q dr E N Tt cs ((d, .bool (!b)) :: σ) r) : Wk P l Q dr E N Tt cs σ (.y i r) := wY hi rfl rfl hn (fun _ hf => rNot hf hx) k
theorem wCv {s t : Nat} {kd kd' : IntKind} {n : Int} (hi : nth l i = some ⟨some d, .convert s t x, ty, pos, af, none⟩) (hx : ev σ x = some (.int kd n)) (h : isInt P t kd' = true) (hs : (P.underlying s).isSome = true) (hn : Nat.blt d N = true)
    (k : Wk P l Q dr E N Tt cs ((d, .int kd' (kd'.wrap n)) :: σ) r) : Wk P l Q dr E N Tt cs σ (.y i r) := wY hi rfl rfl hn (fun _ hf => rConv hf hx h hs) k
theorem wBd {t : Nat} {parts : List (Nat × Operand)} {pv : List (Nat × Value)} (vs : List Value) (hi : nth l i = some ⟨some d, .build t parts.toArray, ty, pos, af, none⟩) (hp : evps σ parts = some pv) (hb : P.built t pv = some vs.toArray) (hn : Nat.blt d N = true)
    (k : Wk P l Q dr E N Tt cs ((d, .agg vs.toArray) :: σ) r) : Wk P l Q dr E N Tt cs σ (.y i r) := wY hi rfl rfl hn (fun _ hf => rBld hf hp hb) k
/-! under a guard: the slot keeps whether it was wanted -/
theorem yI {j t : Nat} {oj : Oper} {c want : Bool} {u : Value} {a : Act} {S : World → Prop} (hf : Fr a N σ) (hg : o.guard = some (j, want)) (hj : nth l j = some oj) (ht : oj.dst = some t) (hc : look σ t = some u) (hw : wantB u want = c) (hr : c = true → Runs P S a o v) : YieldsIf P l.toArray S o (gv c v) a := by
  have hy := wantB_at (want := want) hf hj ht hc
  rw [hw] at hy
  cases c
  · exact .inr ⟨by simp only [Region.wanted, hg, hy], rfl⟩
  · exact .inl ⟨by simp only [Region.wanted, hg, hy], hr rfl⟩
theorem wG {j t : Nat} {oj : Oper} {c want : Bool} {u : Value} (hi : nth l i = some o) (hg : o.guard = some (j, want)) (hj : nth l j = some oj) (ht : oj.dst = some t) (hc : look σ t = some u) (hw : wantB u want = c)
    (hd : o.dst = some d) (hn : Nat.blt d N = true) (hr : c = true → ∀ a, Fr a N σ → Runs P (HasH []) a o v) (k : Wk P l Q dr E N Tt cs ((d, gv c v) :: σ) r) : Wk P l Q dr E N Tt cs σ (.y i r) :=
  fun a w hf hH => ⟨o, gv c v, [], getq hi, fun p hp => (by cases hp), yI hf hg hj ht hc hw (fun h => hr h a hf), planT.wk _ Tt _ _ _ (fun q hq => by rcases List.mem_cons.1 hq with rfl | hq; exact .inr rfl; exact .inl hq) (k _ w (by rw [hd]; exact hf.put hn) hH)⟩
theorem wGr {j t : Nat} {oj : Oper} {c want : Bool} {u : Value} {C : HL} (hi : nth l i = some o) (hg : o.guard = some (j, want)) (hj : nth l j = some oj) (ht : oj.dst = some t) (hc : look σ t = some u) (hw : wantB u want = c)
    (hd : o.dst = some d) (hn : Nat.blt d N = true) (hC : In C cs) (hr : c = true → ∀ a, Fr a N σ → ∀ cs, In C cs → Runs P (Has cs) a o v) (k : Wk P l Q dr E N ((i, C) :: Tt) cs ((d, gv c v) :: σ) r) : Wk P l Q dr E N Tt cs σ (.y i r) :=
  fun a w hf hH => ⟨o, gv c v, C, getq hi, hC.hasH hH, yI hf hg hj ht hc hw (fun h => Runs.in (hr h a hf)), k _ w (by rw [hd]; exact hf.put hn) hH⟩
/-! under a guard that is decided -/
theorem wGt {j t : Nat} {oj : Oper} {want b : Bool} (hi : nth l i = some o) (hg : o.guard = some (j, want)) (hj : nth l j = some oj) (ht : oj.dst = some t) (hc : look σ t = some (.bool b)) (hb : b = want)
    (hd : o.dst = some d) (hn : Nat.blt d N = true) (hr : ∀ a, Fr a N σ → Runs P (HasH []) a o v) (k : Wk P l Q dr E N Tt cs ((d, v) :: σ) r) : Wk P l Q dr E N Tt cs σ (.y i r) :=
  wG hi hg hj ht hc (c := true) (by subst hb; simp [wantB]) hd hn (fun _ => hr) k
theorem wGtr {j t : Nat} {oj : Oper} {want b : Bool} {C : HL} (hi : nth l i = some o) (hg : o.guard = some (j, want)) (hj : nth l j = some oj) (ht : oj.dst = some t) (hc : look σ t = some (.bool b)) (hb : b = want)
    (hd : o.dst = some d) (hn : Nat.blt d N = true) (hC : In C cs) (hr : ∀ a, Fr a N σ → ∀ cs, In C cs → Runs P (Has cs) a o v) (k : Wk P l Q dr E N ((i, C) :: Tt) cs ((d, v) :: σ) r) : Wk P l Q dr E N Tt cs σ (.y i r) :=
  wGr hi hg hj ht hc (c := true) (by subst hb; simp [wantB]) hd hn hC (fun _ => hr) k
theorem wGn {j t : Nat} {oj : Oper} {want b : Bool} (hi : nth l i = some o) (hg : o.guard = some (j, want)) (hj : nth l j = some oj) (ht : oj.dst = some t) (hc : look σ t = some (.bool b)) (hb : b = !want)
    (hd : o.dst = some d) (hn : Nat.blt d N = true) (k : Wk P l Q dr E N Tt cs ((d, undef) :: σ) r) : Wk P l Q dr E N Tt cs σ (.y i r) :=
  wG (v := undef) hi hg hj ht hc (c := false) (by subst hb; cases want <;> rfl) hd hn (fun h => by cases h) k
theorem egT {j t : Nat} {oj : Oper} {c want : Bool} {u : Value} {a : Act} {w : World} (hf : Fr a N σ) (hi : nth l i = some o) (hg : o.guard = some (j, want)) (hj : nth l j = some oj) (ht : oj.dst = some t) (hc : look σ t = some u) (hw : wantB u want = c)
    (h : c = true → o.wp P a w (Kx P l Q dr Tt i r) Q) (h' : c = false → Kx P l Q dr Tt i r (a.put o.dst undef) w) : planT P l.toArray Q dr Tt (.e i r) a w := by
  have hy := wantB_at (want := want) hf hj ht hc
  rw [hw] at hy
  refine ⟨o, getq hi, fun hw => h ?_, fun hw => h' ?_⟩
  · simpa only [Region.wanted, hg, hy] using hw
  · simpa only [Region.wanted, hg, hy] using hw
theorem wGe {j t : Nat} {oj : Oper} {want b : Bool} (hi : nth l i = some o) (hg : o.guard = some (j, want)) (hj : nth l j = some oj) (ht : oj.dst = some t) (hc : look σ t = some (.bool b)) (hb : b = !want)
    (hd : o.dst = some d) (hn : Nat.blt d N = true) (hR : RN dr l i Tt cs) (k : Wk P l Q dr E N Tt cs ((d, undef) :: σ) r) : Wk P l Q dr E N Tt cs σ (.e i r) :=
  fun a w hf hH => egT hf hi hg hj ht hc (c := false) (by subst hb; cases want <;> rfl) (fun h => by cases h) fun _ => hR.kt (by rw [hd]; exact hf.put hn) hH k
theorem wGe0 {j t : Nat} {oj : Oper} {want b : Bool} (hi : nth l i = some o) (hg : o.guard = some (j, want)) (hj : nth l j = some oj) (ht : oj.dst = some t) (hc : look σ t = some (.bool b)) (hb : b = !want)
    (hd : o.dst = none) (hR : RN dr l i Tt cs) (k : Wk P l Q dr E N Tt cs σ r) : Wk P l Q dr E N Tt cs σ (.e i r) :=
  fun a w hf hH => egT hf hi hg hj ht hc (c := false) (by subst hb; cases want <;> rfl) (fun h => by cases h) fun _ => hR.kt (by rw [hd]; exact hf) hH k
/-- Two effects of which either may come first. -/
theorem wAlt {i2 : Nat} {r2 : Plan} (h1 : Wk P l Q dr E N Tt cs σ (.e i r)) (h2 : Wk P l Q dr E N Tt cs σ (.e i2 r2)) : Wk P l Q dr E N Tt cs σ (.alt i r i2 r2) := fun a w hf hH => ⟨h1 a w hf hH, h2 a w hf hH⟩
/-- An effect, whatever its guard, if it is wanted. -/
def Gd (l : List Oper) (σ : List (Nat × Value)) (o : Oper) : Prop := o.guard = none ∨ ∃ j t oj want, o.guard = some (j, want) ∧ nth l j = some oj ∧ oj.dst = some t ∧ look σ t = some (.bool want)
theorem gd0 (h : o.guard = none) : Gd l σ o := .inl h
theorem gd1 {j t : Nat} {oj : Oper} {want b : Bool} (hg : o.guard = some (j, want)) (hj : nth l j = some oj) (ht : oj.dst = some t) (hc : look σ t = some (.bool b)) (hb : b = want) : Gd l σ o := .inr ⟨j, t, oj, want, hg, hj, ht, by rw [← hb]; exact hc⟩
theorem wEf {a : Act} {w : World} (hf : Fr a N σ) (hi : nth l i = some o) (hg : Gd l σ o) (h : o.wp P a w (Kx P l Q dr Tt i r) Q) : planT P l.toArray Q dr Tt (.e i r) a w := by
  rcases hg with hg | ⟨j, t, oj, want, hg, hj, ht, hc⟩
  · exact ⟨o, getq hi, fun _ => h, fun hw => by simp [Region.wanted, hg] at hw⟩
  · exact egT hf hi hg hj ht hc (c := true) (by simp [wantB]) (fun _ => h) (fun h => by cases h)
/-! effects -/
theorem wCl {f : FuncId} {args : List Operand} {vs : List Value} {ts : Array TypeId} {Rw : Value → World → Prop} (hi : nth l i = some ⟨some d, .call ⟨.value (.func f), args.toArray, ts⟩, ty, pos, af, g⟩) (hg : Gd l σ ⟨some d, .call ⟨.value (.func f), args.toArray, ts⟩, ty, pos, af, g⟩) (hv : evs σ args = some vs) (hn : Nat.blt d N = true) (hk : callOk P f = true)
    (hs : ∀ w, Holds E w cs → Spec P f vs w Rw) (k : ∀ v w, Rw v w → ∃ cs', Holds E w cs' ∧ RN dr l i Tt cs' ∧ Wk P l Q dr E N Tt cs' ((d, v) :: σ) r) : Wk P l Q dr E N Tt cs σ (.e i r) :=
  fun a w hf hH => wEf hf hi hg (wC hf hk hv hn (hs w hH) fun v a' w' hR hf' => by
    obtain ⟨cs', h1, h2, h3⟩ := k v w' hR
    exact h2.kt hf' h1 h3)
theorem wCl0 {f : FuncId} {args : List Operand} {vs : List Value} {ts : Array TypeId} {Rw : Value → World → Prop} (hi : nth l i = some ⟨none, .call ⟨.value (.func f), args.toArray, ts⟩, ty, pos, af, g⟩) (hg : Gd l σ ⟨none, .call ⟨.value (.func f), args.toArray, ts⟩, ty, pos, af, g⟩) (hv : evs σ args = some vs) (hk : callOk P f = true)
    (hs : ∀ w, Holds E w cs → Spec P f vs w Rw) (k : ∀ v w, Rw v w → ∃ cs', Holds E w cs' ∧ RN dr l i Tt cs' ∧ Wk P l Q dr E N Tt cs' σ r) : Wk P l Q dr E N Tt cs σ (.e i r) :=
  fun a w hf hH => wEf hf hi hg (wCall hf hk hv (hs w hH) fun v w' hR => by
    obtain ⟨cs', h1, h2, h3⟩ := k v w' hR
    exact h2.kt hf h1 h3)
theorem wAlc {t : Nat} {zs : List Value} (hi : nth l i = some ⟨some d, .alloc t, ty, pos, af, g⟩) (hg : Gd l σ ⟨some d, .alloc t, ty, pos, af, g⟩) (hn : Nat.blt d N = true) (hz : zCells P t = some zs)
    (k : ∀ b, RN dr l i Tt ([blk b zs t] :: cs) ∧ Wk P l Q dr E N Tt ([blk b zs t] :: cs) ((d, ptr b 0) :: σ) r) : Wk P l Q dr E N Tt cs σ (.e i r) :=
  fun a w hf hH => wEf hf hi hg (BK.wAl hf hn hz hH fun b a' w' hH' hf' => by obtain ⟨h1, h2⟩ := k b; exact h1.kt hf' hH' h2)
theorem wBox {t : Nat} {vs : List Value} (hi : nth l i = some ⟨some d, .box t x, ty, pos, af, g⟩) (hg : Gd l σ ⟨some d, .box t x, ty, pos, af, g⟩) (hn : Nat.blt d N = true) (hx : ev σ x = some (.agg vs.toArray))
    (k : ∀ b, RN dr l i Tt ([blk b vs t] :: cs) ∧ Wk P l Q dr E N Tt ([blk b vs t] :: cs) ((d, ptr b 0) :: σ) r) : Wk P l Q dr E N Tt cs σ (.e i r) :=
  fun a w hf hH => wEf hf hi hg (BK.wBx hf hn hx hH fun b a' w' hH' hf' => by obtain ⟨h1, h2⟩ := k b; exact h1.kt hf' hH' h2)
theorem wBo {t : Nat} (hi : nth l i = some ⟨some d, .box t x, ty, pos, af, g⟩) (hg : Gd l σ ⟨some d, .box t x, ty, pos, af, g⟩) (hn : Nat.blt d N = true) (hx : ev σ x = some v) (hv : v.oneCell' = true)
    (k : ∀ b, RN dr l i Tt ([blk b [v] t] :: cs) ∧ Wk P l Q dr E N Tt ([blk b [v] t] :: cs) ((d, ptr b 0) :: σ) r) : Wk P l Q dr E N Tt cs σ (.e i r) :=
  fun a w hf hH => wEf hf hi hg (wB1 hf hn hx hv hH fun b a' w' hH' hf' => by obtain ⟨h1, h2⟩ := k b; exact h1.kt hf' hH' h2)
theorem wSto (j : Nat) (c' : List Value) {t b off : Nat} {c : List Value} {T : TypeId} (hi : nth l i = some ⟨none, .store t x y, ty, pos, af, g⟩) (hg : Gd l σ ⟨none, .store t x y, ty, pos, af, g⟩) (hx : ev σ x = some (ptr b off)) (hy : ev σ y = some v) (hv : v.oneCell' = true) (hn : szOf P t = some 1) (hj : nth cs j = some [blk b c T]) (hl : Nat.blt off c.length = true) (hc : c.set off v = c')
    (hR : RN dr l i Tt (cs.set j [blk b c' T])) (k : Wk P l Q dr E N Tt (cs.set j [blk b c' T]) σ r) : Wk P l Q dr E N Tt cs σ (.e i r) :=
  fun a w hf hH => wEf hf hi hg (BK.wSt hf hx hy hv hn (hH.toFront hj) (by simpa [Nat.blt_eq] using hl) fun w' hH' => hR.kt hf (by rw [hc] at hH'; exact hH'.back hj) k)
theorem wSts (j : Nat) (c' : List Value) {t b off : Nat} {c vs : List Value} {T : TypeId} (hi : nth l i = some ⟨none, .store t x y, ty, pos, af, g⟩) (hg : Gd l σ ⟨none, .store t x y, ty, pos, af, g⟩) (hx : ev σ x = some (ptr b off)) (hy : ev σ y = some (.agg vs.toArray)) (hv : vs.all Value.oneCell' = true) (hn : szOf P t = some vs.length) (hj : nth cs j = some [blk b c T]) (hl : Nat.ble (off + vs.length) c.length = true) (hc : putAt c off vs = c')
    (hR : RN dr l i Tt (cs.set j [blk b c' T])) (k : Wk P l Q dr E N Tt (cs.set j [blk b c' T]) σ r) : Wk P l Q dr E N Tt cs σ (.e i r) :=
  fun a w hf hH => wEf hf hi hg (BK.wSs hf hx hy (allOne hv) hn (hH.toFront hj) (Nat.le_of_ble_eq_true hl) fun w' hH' => hR.kt hf (by rw [hc] at hH'; exact hH'.back hj) k)
end
end Go.BK
