/- Core F: the steps of a walk in the form in which a program prints them. Own work for this claim. -/
import Derived.Test.YtlbbpajjfhmfjaaCoreE
namespace Go.BK
section
variable {α : Type} {P : Program} {l : List Oper} {Q : Exit → Act → World → Prop} {dr : Bool} {S : World → Prop} {a : Act} {w : World} {N : Nat} {σ : List (Nat × Value)} {i d : Nat} {r : Plan} {o : Oper} {v : Value}
variable {ty : TypeId} {pos : String} {af : Array Edge} {g : Option (Nat × Bool)} {dst : Option Tmp} {cs cs' : List HL} {E : Env} {enc : α → List Value} {xs : List α} {C : HL} {K : Act → World → Prop}

/-- A region in the text's order. -/
theorem rT {id : Nat} (hH : Holds E w cs) (h : planWp P l.toArray Q false (Has cs) (textPlan 0 (l.map fun o => isY o.op)) a w) : (Code.region id l.toArray false).wp P Q a w :=
  region_text (Has cs) hH.has (by simpa using h)
/-- A region whose order is open. cs': what is read in it. -/
theorem rD [NP Q] {id : Nat} (hm : P.follows .mixedOrders = true) (hH : Holds E w cs) (p : Plan) (hs : ∀ p ∈ cs'.flatten, p ∈ cs.flatten)
    (hok : (Region.noSelect l.toArray && (p.len == l.toArray.size) && p.ok l.toArray (Array.replicate l.toArray.size false)) = true) (h : ∀ w, Holds E w cs → planWp P l.toArray Q true (Has cs') p a w) : (Code.region id l.toArray true).wp P Q a w :=
  region_draw hm p (Has cs') hok (fun p hp => hH.mem p (hs p hp)) (h _ (hH.drew _))
theorem sub_refl : ∀ p ∈ cs.flatten, p ∈ cs.flatten := fun _ h => h
theorem sub_drop {c : HL} : ∀ p ∈ cs.flatten, p ∈ (c :: cs).flatten := fun _ h => by simp [h]
theorem sub_erase (i : Nat) (h : ∀ p ∈ cs'.flatten, p ∈ cs.flatten) : ∀ p ∈ (cs'.eraseIdx i).flatten, p ∈ cs.flatten := by
  intro p hp
  refine h p ?_
  obtain ⟨c, hc, hm⟩ := List.mem_flatten.1 hp
  exact List.mem_flatten.2 ⟨c, List.mem_of_mem_eraseIdx hc, hm⟩
theorem sub_all (h : ∀ c ∈ cs', c ∈ cs) : ∀ p ∈ cs'.flatten, p ∈ cs.flatten := by
  intro p hp
  obtain ⟨c, hc, hm⟩ := List.mem_flatten.1 hp
  exact List.mem_flatten.2 ⟨c, h c hc, hm⟩

/-- A move. -/
theorem yM {x : Operand} (hf : Fr a N σ) (hi : nth l i = some ⟨some d, .move x, ty, pos, af, none⟩) (hx : ev σ x = some v) (hn : Nat.blt d N = true)
    (k : ∀ a, Fr a N ((d, v) :: σ) → planWp P l.toArray Q dr S r a w) : planWp P l.toArray Q dr S (.y i r) a w := ys hf hi rfl rfl hn (rMv hf hx) fun hf => k _ hf
theorem yA {x : Operand} (hf : Fr a N σ) (hi : nth l i = some ⟨some d, .assign x, ty, pos, af, none⟩) (hx : ev σ x = some v) (hn : Nat.blt d N = true)
    (k : ∀ a, Fr a N ((d, v) :: σ) → planWp P l.toArray Q dr S r a w) : planWp P l.toArray Q dr S (.y i r) a w := ys hf hi rfl rfl hn (rAs hf hx) fun hf => k _ hf
/-- Whatever yields a value. -/
theorem yR (hf : Fr a N σ) (hi : nth l i = some o) (hg : o.guard = none) (hd : o.dst = some d) (hn : Nat.blt d N = true) (hr : Runs P S a o v)
    (k : ∀ a, Fr a N ((d, v) :: σ) → planWp P l.toArray Q dr S r a w) : planWp P l.toArray Q dr S (.y i r) a w := ys hf hi hg hd hn hr fun hf => k _ hf
/-- The same, under a guard. -/
theorem yG {j t : Nat} {oj : Oper} {c want : Bool} {u : Value} (hf : Fr a N σ) (hi : nth l i = some o) (hg : o.guard = some (j, want)) (hj : nth l j = some oj) (ht : oj.dst = some t) (hc : look σ t = some u) (hw : wantB u want = c)
    (hd : o.dst = some d) (hn : Nat.blt d N = true) (hr : c = true → Runs P S a o v)
    (k : ∀ a, Fr a N ((d, gv c v) :: σ) → planWp P l.toArray Q dr S r a w) : planWp P l.toArray Q dr S (.y i r) a w := yg hf hi hg hj ht hc hw hd hn hr fun hf => k _ hf
/-- A call whose result lies in a slot. -/
theorem wC {f : FuncId} {args : List Operand} {vs : List Value} {ts : Array TypeId} {R : Value → World → Prop} (hf : Fr a N σ) (hk : callOk P f = true) (hv : evs σ args = some vs) (hn : Nat.blt d N = true) (hs : Spec P f vs w R)
    (k : ∀ v a' w', R v w' → Fr a' N ((d, v) :: σ) → K a' w') : Oper.wp P ⟨some d, .call ⟨.value (.func f), args.toArray, ts⟩, ty, pos, af, g⟩ a w K Q :=
  wCall hf hk hv hs fun v w' hR => k v _ w' hR (hf.put hn)
theorem evI {x : Operand} {k : IntKind} {t u : Int} (h : ev σ x = some (.int k t)) (e : t = u) : ev σ x = some (.int k u) := e ▸ h
theorem evB {x : Operand} {t u : Bool} (h : ev σ x = some (.bool t)) (e : t = u) : ev σ x = some (.bool u) := e ▸ h
theorem evF {x : Operand} {t u : List Value} (h : ev σ x = some (.agg t.toArray)) (e : t = u) : ev σ x = some (.agg u.toArray) := e ▸ h
/-- The ways through X meet again in J. -/
theorem cJoin {x y : Code} (J : Act → World → Prop) (h1 : x.wp P (Exit.then J Q) a w) (h2 : ∀ a w, J a w → y.wp P Q a w) : (Code.seq x y).wp P Q a w :=
  wp_seq (wp_mono h1 fun e a w q => by cases e <;> first | exact h2 _ _ q | exact q)
theorem cJoin1 {x : Code} (J : Act → World → Prop) (h1 : x.wp P (Exit.then J Q) a w) (h2 : ∀ a w, J a w → Q .normal a w) : x.wp P Q a w :=
  wp_mono h1 fun e a w q => by cases e <;> first | exact h2 _ _ q | exact q
end

/-! ### Under a guard; ends of blocks -/
def gop {β : Type} (c : Bool) (o : Option β) (d : β) : Option β := bif c then o else some d
theorem gopS {β : Type} {c : Bool} {o : Option β} {d z : β} (h : gop c o d = some z) (hc : c = true) : o = some z := by subst hc; exact h
theorem orT {c b : Bool} (h : (!c || b) = true) (hc : c = true) : b = true := by subst hc; simpa using h
theorem ne0 {n : Int} (h : (n != 0) = true) : n ≠ 0 := by simpa using h
theorem ge0 {n : Int} (h : decide (0 ≤ n) = true) : 0 ≤ n := by simpa using h
section
variable {P : Program} {l : List Oper} {Q : Exit → Act → World → Prop} {dr : Bool} {S : World → Prop} {a : Act} {w : World} {N : Nat} {σ : List (Nat × Value)} {i d : Nat} {r : Plan} {o : Oper} {v : Value}
variable {ty : TypeId} {pos : String} {af : Array Edge} {g : Option (Nat × Bool)} {dst : Option Tmp} {cs cs' : List HL} {E : Env}
abbrev FrP (_ : Fr a N σ) (d : Nat) (v : Value) (a' : Act) : Prop := Fr a' N ((d, v) :: σ)
abbrev HoP (_ : Holds E w cs) (w' : World) : Prop := Holds E w' cs
/-- An operation with an effect under a guard; both ways meet in J. -/
theorem egJ {j t : Nat} {oj : Oper} {c want : Bool} {u : Value} (J : Act → World → Prop) (hf : Fr a N σ) (hi : nth l i = some o) (hg : o.guard = some (j, want)) (hj : nth l j = some oj) (ht : oj.dst = some t) (hc : look σ t = some u) (hw : wantB u want = c)
    (h : c = true → o.wp P a w J Q) (h' : c = false → J (a.put o.dst undef) w) (k : ∀ a w, J a w → Kt P l Q dr S i r a w) : planWp P l.toArray Q dr S (.e i r) a w :=
  eg hf hi hg hj ht hc hw (fun e => Oper.wp_mono k (h e)) (fun e => k _ _ (h' e))
theorem gvF {c : Bool} (h : c = false) (hf : Fr a N σ) (hn : Nat.blt d N = true) : Fr (a.put (some d) undef) N ((d, gv c v) :: σ) := by subst h; exact hf.put hn
theorem xh {id : Nat} (h : Q .normal a w) : Exit.inBlock id Q (.exit id) a w := by simpa [Exit.inBlock] using h
theorem xo {id id' : Nat} (hne : id' ≠ id) (h : Q (.exit id') a w) : Exit.inBlock id Q (.exit id') a w := by simpa [Exit.inBlock, hne] using h
end

/-! ### Results -/
section
variable {P : Program} {a : Act} {w : World} {N : Nat} {σ : List (Nat × Value)} {v v' v'' : Value} {cs : List HL} {E : Env} {fn : Func} {R : Value → World → Prop}
def resOne (P : Program) (tmps : Array Value) (r : ResultVar) : Sem Value := match r with
  | .tmp t => pure (tmps.getD t undef)
  | .cell a t => do loadVar t (← asAddr (tmps.getD a undef))
def ResIs (P : Program) (a : Act) (w : World) (r : ResultVar) (v : Value) : Prop := (resOne P a.tmps r).run P w = .ok v w
theorem resT {t : Nat} (hf : Fr a N σ) (hl : look σ t = some v) : ResIs P a w (.tmp t) v := by
  unfold ResIs resOne
  rw [Sem.run_pure, Array.getD_eq_getD_getElem?, hf.has _ _ hl]; rfl
theorem resC {t ty b off n : Nat} {c vs : List Value} {T : TypeId} {fz : Nat × Nat} (hf : Fr a N σ) (hl : look σ t = some (ptr b off)) (hH : Holds E w cs) (h : aggB P ty = some true) (hn : szOf P ty = some n) (hm : (b, Obj.cells c.toArray T fz) ∈ cs.flatten)
    (hle : off + n ≤ c.length) (hc : sub c off n = vs) : ResIs P a w (.cell t ty) (.agg vs.toArray) := by
  subst hc
  have hr := run_loads (P := P) (w := w) b off c (fun i v hv => hH.has.cell hm hv) n 0 #[] (by omega)
  simp only [Array.empty_append, Nat.add_zero] at hr
  unfold ResIs resOne
  have e : a.tmps.getD t undef = ptr b off := by rw [Array.getD_eq_getD_getElem?, hf.has _ _ hl]; rfl
  simp only [e, loadVar, asAddr, Sem.run_bind, Sem.run_pure, Result.andThen_ok, agg_ok h, if_true, size_ok hn, loadCells, hr]
theorem resC1 {t ty b off : Nat} {c : List Value} {T : TypeId} {fz : Nat × Nat} (hf : Fr a N σ) (hl : look σ t = some (ptr b off)) (hH : Holds E w cs) (h : aggB P ty = some false) (hm : (b, Obj.cells c.toArray T fz) ∈ cs.flatten)
    (hc : nth c off = some v) : ResIs P a w (.cell t ty) v := by
  rw [nth_eq] at hc
  unfold ResIs resOne
  have e : a.tmps.getD t undef = ptr b off := by rw [Array.getD_eq_getD_getElem?, hf.has _ _ hl]; rfl
  simp only [e, loadVar, asAddr, Sem.run_bind, Sem.run_pure, Result.andThen_ok, agg_ok h, Bool.false_eq_true, if_false, load_ok (hH.has.cell hm hc)]
theorem results_eq (fn : Func) (tmps : Array Value) : results fn tmps = (do let vs ← fn.results.mapM (resOne P tmps); pure (if h : vs.size = 1 then vs[0] else .tuple vs)) := rfl
theorem rt1 {r1 : ResultVar} (hf : Fr a N σ) (hr : fn.results = #[r1]) (h1 : ResIs P a w r1 v) (h : R v w) : bodyPost P fn (fun e w' => ∃ v, e = .returned v ∧ R v w') .ret a w := by
  refine ⟨hf.defs, v, ?_, v, rfl, h⟩
  unfold ResIs at h1
  rw [results_eq (P := P), hr]
  simp [h1]
theorem rt2 {r1 r2 : ResultVar} (hf : Fr a N σ) (hr : fn.results = #[r1, r2]) (h1 : ResIs P a w r1 v) (h2 : ResIs P a w r2 v') (h : R (.tuple #[v, v']) w) : bodyPost P fn (fun e w' => ∃ v, e = .returned v ∧ R v w') .ret a w := by
  refine ⟨hf.defs, .tuple #[v, v'], ?_, _, rfl, h⟩
  unfold ResIs at h1 h2
  rw [results_eq (P := P), hr]
  simp [h1, h2]
theorem rt3 {r1 r2 r3 : ResultVar} (hf : Fr a N σ) (hr : fn.results = #[r1, r2, r3]) (h1 : ResIs P a w r1 v) (h2 : ResIs P a w r2 v') (h3 : ResIs P a w r3 v'') (h : R (.tuple #[v, v', v'']) w) : bodyPost P fn (fun e w' => ∃ v, e = .returned v ∧ R v w') .ret a w := by
  refine ⟨hf.defs, .tuple #[v, v', v''], ?_, _, rfl, h⟩
  unfold ResIs at h1 h2 h3
  rw [results_eq (P := P), hr]
  simp [h1, h2, h3]
end

/-! ### Slices that are owned -/
section
variable {α : Type} {enc : α → List Value} {k T : Nat} {v : Value} {xs : List α} {c : HL}
/-- The slice is one of the program's own: it reads as xs, and lies in c alone. -/
def Ow (enc : α → List Value) (k T : Nat) (v : Value) (xs : List α) (c : HL) : Prop :=
  (v = .slice none 0 0 ∧ xs = [] ∧ c = []) ∨
  ∃ b pre post cap, v = .slice (some ⟨b, pre.length, none⟩) xs.length cap ∧ c = [blk b (pre ++ xs.flatMap enc ++ post) T] ∧ xs.length ≤ cap ∧ xs.length ≤ 140737488355328 ∧ (cap - xs.length) * k ≤ post.length
theorem Ow.empty : Ow enc k T (.slice none 0 0) ([] : List α) [] := .inl ⟨rfl, rfl, rfl⟩
theorem Ow.rd (h : Ow enc k T v xs c) : Rd c enc v xs := by
  rcases h with ⟨rfl, rfl, rfl⟩ | ⟨b, pre, post, cap, rfl, rfl, h1, h2, h3⟩
  · exact Rd.nil _ _
  · exact ⟨_, cap, rfl, h1, h2, .inr ⟨b, pre, post, T, (0, 0), rfl, by simp⟩⟩
theorem Ow.le (h : Ow enc k T v xs c) : xs.length ≤ 140737488355328 := h.rd.le
/-- At m of block b stands element i, and whatever is laid there is it then. -/
def Focus (enc : α → List Value) (k T : Nat) (v : Value) (xs : List α) (i : Nat) (x : α) (c : HL) (b m : Nat) : Prop :=
  ∃ pre post, m = pre.length ∧ c = [blk b (pre ++ enc x ++ post) T] ∧ ∀ x', Ow enc k T v (xs.set i x') [blk b (pre ++ enc x' ++ post) T]
theorem Ow.focus (h : Ow enc k T v xs c) (hk : ∀ x, (enc x).length = k) {i : Nat} {x : α} (hx : xs[i]? = some x) : ∃ b off cap, v = .slice (some ⟨b, off, none⟩) xs.length cap ∧ Focus enc k T v xs i x c b (off + i * k) := by
  obtain ⟨hi, rfl⟩ := List.getElem?_eq_some_iff.1 hx
  rcases h with ⟨rfl, rfl, rfl⟩ | ⟨b, pre, post, cap, rfl, rfl, h1, h2, h3⟩
  · simp at hi
  · refine ⟨b, pre.length, cap, rfl, pre ++ (xs.take i).flatMap enc, (xs.drop (i + 1)).flatMap enc ++ post, ?_, ?_, fun x' => ?_⟩
    · simp [flat_length hk, Nat.min_eq_left (Nat.le_of_lt hi)]
    · rw [flat_split hx]; simp
    · refine .inr ⟨b, pre, post, cap, by simp, ?_, by simpa using h1, by simpa using h2, by simpa using h3⟩
      have hx' : (xs.set i x')[i]? = some x' := by simp [hi]
      rw [flat_split hx']
      simp [List.take_set, List.drop_set]
      rw [List.set_eq_of_length_le (by simp; omega)]
theorem Focus.elem {i : Nat} {x : α} {b m : Nat} (h : Focus enc k T v xs i x c b m) : ElemAt c b m (enc x) := by
  obtain ⟨pre, post, rfl, rfl, _⟩ := h
  exact ⟨pre ++ enc x ++ post, T, (0, 0), by simp, by simp, sub_mid _ _ _ _ rfl⟩
theorem Focus.own {i : Nat} {x : α} {b m : Nat} (h : Focus enc k T v xs i x c b m) (hx : xs[i]? = some x) : Ow enc k T v xs c := by
  obtain ⟨pre, post, rfl, rfl, h⟩ := h
  have := h x
  obtain ⟨hi, rfl⟩ := List.getElem?_eq_some_iff.1 hx
  simpa using this
end
section
variable {α : Type} {P : Program} {l : List Oper} {Q : Exit → Act → World → Prop} {dr : Bool} {S : World → Prop} {a : Act} {w : World} {N : Nat} {σ : List (Nat × Value)} {i d : Nat} {r : Plan} {o : Oper} {v : Value}
variable {ty : TypeId} {pos : String} {af : Array Edge} {g : Option (Nat × Bool)} {dst : Option Tmp} {cs cs' : List HL} {E : Env} {enc : α → List Value} {xs : List α} {c : HL} {K : Act → World → Prop} {k T : Nat}

/-- The address of an element that is to be written. -/
theorem rIxW {t e n kk : Nat} {x y : Operand} {ik : IntKind} {iv : Int} {z : α} (hf : Fr a N σ) (hx : ev σ x = some v) (hy : ev σ y = some (.int ik iv)) (hR : Ow enc k T v xs c) (h : sliceEl P t = some (e, n, kk)) (hk : ∀ x, (enc x).length = k) (hnk : n = k)
    (hz : ix xs iv = some z) : ∃ b m, Focus enc k T v xs iv.toNat z c b m ∧ ∀ S, Runs P S a ⟨dst, .indexAddr t x y, ty, pos, af, g⟩ (ptr b m) := by
  subst hnk
  obtain ⟨h0, h1, h2, h3⟩ := ixS hz
  obtain ⟨b, off, cap, rfl, hE⟩ := hR.focus hk h1
  exact ⟨b, _, hE, fun S => rIx hf hx hy h h0 h2 rfl⟩
theorem set_mid (p q c : List Value) (off : Nat) (u : Value) (h : off < c.length) : (p ++ c ++ q).set (p.length + off) u = p ++ c.set off u ++ q := by
  rw [List.append_assoc, List.set_append_right _ _ (by omega), Nat.add_sub_cancel_left, List.set_append_left _ _ h, List.append_assoc]
theorem putAt_mid (p q c vs : List Value) (off : Nat) (h : off + vs.length ≤ c.length) : putAt (p ++ c ++ q) (p.length + off) vs = p ++ putAt c off vs ++ q := by
  unfold putAt
  have h1 : (p ++ c ++ q).take (p.length + off) = p ++ c.take off := by
    rw [List.append_assoc, List.take_append, List.take_of_length_le (by omega), Nat.add_sub_cancel_left, List.take_append_of_le_length (by omega)]
  have h2 : (p ++ c ++ q).drop (p.length + off + vs.length) = c.drop (off + vs.length) ++ q := by
    rw [List.append_assoc, Nat.add_assoc, List.drop_append, List.drop_of_length_le (by omega), Nat.add_sub_cancel_left, List.drop_append_of_le_length (by omega)]
    simp
  rw [h1, h2]
  simp
/-- A store into an element: one cell. -/
theorem wSe {t b m off i : Nat} {x y : Operand} {z z' : α} (hf : Fr a N σ) (hx : ev σ x = some (ptr b (m + off))) (hy : ev σ y = some v) (hv : v.oneCell' = true) (hn : szOf P t = some 1) {u : Value} (hF : Focus enc k T u xs i z c b m) (hH : Holds E w (c :: cs))
    (hl : Nat.blt off (enc z).length = true) (hz : (enc z).set off v = enc z') (kk : ∀ c' w', Ow enc k T u (xs.set i z') c' → Holds E w' (c' :: cs) → K a w') : Oper.wp P ⟨none, .store t x y, ty, pos, af, g⟩ a w K Q := by
  obtain ⟨pre, post, rfl, rfl, hO⟩ := hF
  have hlt : off < (enc z).length := by simpa [Nat.blt_eq] using hl
  refine wSt hf hx hy hv hn hH (by simp; omega) fun w' hH' => ?_
  rw [set_mid _ _ _ _ _ hlt, hz] at hH'
  exact kk _ w' (hO z') hH'
/-- A store into an element: a struct or an array. -/
theorem wSes {t b m off i : Nat} {x y : Operand} {z z' : α} {vs : List Value} (hf : Fr a N σ) (hx : ev σ x = some (ptr b (m + off))) (hy : ev σ y = some (.agg vs.toArray)) (hv : ∀ v ∈ vs, v.oneCell' = true) (hn : szOf P t = some vs.length) {u : Value} (hF : Focus enc k T u xs i z c b m) (hH : Holds E w (c :: cs))
    (hl : off + vs.length ≤ (enc z).length) (hz : putAt (enc z) off vs = enc z') (kk : ∀ c' w', Ow enc k T u (xs.set i z') c' → Holds E w' (c' :: cs) → K a w') : Oper.wp P ⟨none, .store t x y, ty, pos, af, g⟩ a w K Q := by
  obtain ⟨pre, post, rfl, rfl, hO⟩ := hF
  refine wSs hf hx hy hv hn hH (by simp; omega) fun w' hH' => ?_
  rw [putAt_mid _ _ _ _ _ hl, hz] at hH'
  exact kk _ w' (hO z') hH'
end
end Go.BK
