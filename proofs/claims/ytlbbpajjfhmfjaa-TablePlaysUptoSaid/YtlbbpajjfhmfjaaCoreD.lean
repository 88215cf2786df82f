/- Core D: the steps of a walk that write, make memory and call; ways, loops and ends. Own work for this claim. -/
import Derived.Test.YtlbbpajjfhmfjaaCoreC
import Derived.LoopN
namespace Go.BK

/-- What the continuation of an operation with an effect owes. -/
abbrev Kt (P : Program) (l : List Oper) (Q : Exit → Act → World → Prop) (dr : Bool) (S : World → Prop) (i : Nat) (r : Plan) : Act → World → Prop :=
  fun a' w' => ∃ S' : World → Prop, ((dr && !fin l.toArray i) = true → S' = S) ∧ S' w' ∧ planWp P l.toArray Q dr S' r a' w'

theorem sub_length (c : List Value) (o n : Nat) (h : o + n ≤ c.length) : (sub c o n).length = n := by simp [sub]; omega

/-- Written from o on. -/
def putAt (c : List Value) (o : Nat) (vs : List Value) : List Value := c.take o ++ vs ++ c.drop (o + vs.length)
theorem putAt_length (c : List Value) (o : Nat) (vs : List Value) (h : o + vs.length ≤ c.length) : (putAt c o vs).length = c.length := by simp [putAt]; omega
theorem putAt_nil (c : List Value) (o : Nat) : putAt c o [] = c := by simp [putAt]
theorem putAt_cons (c : List Value) (o : Nat) (v : Value) (vs : List Value) (h : o < c.length) : putAt (c.set o v) (o + 1) vs = putAt c o (v :: vs) := by
  unfold putAt
  rw [List.take_set, List.drop_set_of_lt (by omega), List.take_succ_eq_append_getElem h]
  have h1 : (c.take o ++ [c[o]]).set o v = c.take o ++ [v] := by
    rw [List.set_append_right _ _ (by simp; omega)]
    simp [Nat.min_eq_left (Nat.le_of_lt h)]
  rw [h1]
  simp [Nat.add_comm 1, Nat.add_assoc]

theorem store_ok {P : Program} {E : Env} {w : World} {b o : Nat} {c : List Value} {T : TypeId} {cs : List HL} {v : Value} (h : Holds E w ([blk b c T] :: cs)) (hv : v.oneCell' = true) (ho : o < c.length) :
    (store ⟨b, o, none⟩ v).run P w = .ok () (w.setCell ⟨b, o, none⟩ v) := by
  have hb := h.mem (blk b c T) (by simp)
  simp only at hb
  rw [run_store P w _ v _ hv]
  have hc : w.cell? ⟨b, o, none⟩ = some c[o] := by simp [World.cell?, hb, ho]
  have hz : w.frozen? ⟨b, o, none⟩ = false := by simp [World.frozen?, hb]
  simp [hc, hz]

theorem stores_ok {P : Program} {E : Env} {b o : Nat} {T : TypeId} {cs : List HL} : ∀ (vs : List Value) (i : Nat) (c : List Value) (w : World), Holds E w ([blk b c T] :: cs) → (∀ v ∈ vs, v.oneCell' = true) → o + i + vs.length ≤ c.length →
    ∃ w', (storeCells ⟨b, o, none⟩ vs i).run P w = .ok () w' ∧ Holds E w' ([blk b (putAt c (o + i) vs) T] :: cs)
  | [], i, c, w, h, _, _ => ⟨w, by simp [storeCells], by rw [putAt_nil]; exact h⟩
  | v :: vs, i, c, w, h, hv, hl => by
    have hlt : o + i < c.length := by simp at hl; omega
    have h1 : (store ((⟨b, o, none⟩ : Addr).add i) v).run P w = .ok () (w.setCell ⟨b, o + i, none⟩ v) := by rw [add_ptr]; exact store_ok h (hv v (by simp)) hlt
    obtain ⟨w', hr, hh⟩ := stores_ok (P := P) (o := o) vs (i + 1) (c.set (o + i) v) _ (h.set (i := o + i) v) (fun u hu => hv u (by simp [hu])) (by simp at hl ⊢; omega)
    refine ⟨w', ?_, ?_⟩
    · simp only [storeCells, Sem.run_bind, h1, Result.andThen_ok, hr]
    · rw [← Nat.add_assoc, putAt_cons c (o + i) v vs hlt] at hh
      exact hh

section
variable {P : Program} {l : List Oper} {Q : Exit → Act → World → Prop} {dr : Bool} {S : World → Prop} {a : Act} {w : World} {N : Nat} {σ : List (Nat × Value)} {i d : Nat} {r : Plan} {o : Oper} {v : Value}
variable {ty : TypeId} {pos : String} {af : Array Edge} {g : Option (Nat × Bool)} {dst : Option Tmp} {cs : List HL} {E : Env}

theorem Kt.go {a' : Act} {w' : World} {S' : World → Prop} (h1 : (dr && !fin l.toArray i) = true → S' = S) (h2 : S' w') (h3 : planWp P l.toArray Q dr S' r a' w') : Kt P l Q dr S i r a' w' := ⟨S', h1, h2, h3⟩
/-- Where nothing that was told is read any more: what holds is told anew. -/
theorem Kt.new {a' : Act} {w' : World} {cs' : List HL} (h1 : (dr && !fin l.toArray i) = false) (h2 : Holds E w' cs') (h3 : planWp P l.toArray Q dr (Has cs') r a' w') : Kt P l Q dr S i r a' w' :=
  ⟨Has cs', fun h => by rw [h1] at h; (cases h), h2.has, h3⟩
theorem Kt.old {a' : Act} {w' : World} {cs' : List HL} (h2 : Holds E w' cs') (hs : ∀ p ∈ cs.flatten, p ∈ cs'.flatten) (h3 : planWp P l.toArray Q dr (Has cs) r a' w') : Kt P l Q dr (Has cs) i r a' w' :=
  ⟨Has cs, fun _ => rfl, fun p hp => h2.mem p (hs p hp), h3⟩

/-- An operation with an effect. -/
theorem e0 (hi : nth l i = some o) (hg : o.guard = none) (h : o.wp P a w (Kt P l Q dr S i r) Q) : planWp P l.toArray Q dr S (.e i r) a w :=
  ⟨o, getq hi, fun _ => h, fun hw => by simp [Region.wanted, hg] at hw⟩
/-- The same, under a guard. -/
theorem eg {j t : Nat} {oj : Oper} {c want : Bool} {u : Value} (hf : Fr a N σ) (hi : nth l i = some o) (hg : o.guard = some (j, want)) (hj : nth l j = some oj) (ht : oj.dst = some t) (hc : look σ t = some u) (hw : wantB u want = c)
    (h : c = true → o.wp P a w (Kt P l Q dr S i r) Q) (h' : c = false → Kt P l Q dr S i r (a.put o.dst undef) w) : planWp P l.toArray Q dr S (.e i r) a w := by
  have hy := wantB_at (want := want) hf hj ht hc
  rw [hw] at hy
  refine ⟨o, getq hi, fun hw => h ?_, fun hw => h' ?_⟩
  · simpa only [Region.wanted, hg, hy] using hw
  · simpa only [Region.wanted, hg, hy] using hw

variable {K : Act → World → Prop}
theorem wpV {w' : World} (hr : (execOp a.eval o).run P w = .ok (.value v) w') (h : K (a.put o.dst v) w') : o.wp P a w K Q := by
  unfold Oper.wp; rw [hr]; exact h

/-- A store of one cell. -/
theorem wSt {t b off : Nat} {x y : Operand} {c : List Value} {T : TypeId} (hf : Fr a N σ) (hx : ev σ x = some (ptr b off)) (hy : ev σ y = some v) (hv : v.oneCell' = true) (hn : szOf P t = some 1) (hH : Holds E w ([blk b c T] :: cs)) (hl : off < c.length)
    (k : ∀ w', Holds E w' ([blk b (c.set off v) T] :: cs) → K a w') : Oper.wp P ⟨none, .store t x y, ty, pos, af, g⟩ a w K Q := by
  have hc : v.cells = #[v] := by cases v <;> first | rfl | cases hv
  have h1 := store_ok (P := P) hH hv hl
  have h2 : (storeVar t ⟨b, off, none⟩ v).run P w = .ok () (w.setCell ⟨b, off, none⟩ v) := by
    simp only [storeVar, Sem.run_bind, size_ok hn, Result.andThen_ok, hc, List.size_toArray, List.length_cons, List.length_nil, Nat.zero_add, ne_eq, not_true_eq_false, if_false, storeCells, add_ptr, Nat.add_zero, h1, Sem.run_pure]
  unfold Oper.wp
  simp only [execOp, hf.ev hx, hf.ev hy, Instr.storeAt, Instr.sureAddr, Sem.run_bind, Sem.run_pure, Result.andThen_ok, h2]
  exact k _ (hH.set v)
/-- A store of a struct or an array. -/
theorem wSs {t b off : Nat} {x y : Operand} {c vs : List Value} {T : TypeId} (hf : Fr a N σ) (hx : ev σ x = some (ptr b off)) (hy : ev σ y = some (.agg vs.toArray)) (hv : ∀ v ∈ vs, v.oneCell' = true) (hn : szOf P t = some vs.length) (hH : Holds E w ([blk b c T] :: cs)) (hl : off + vs.length ≤ c.length)
    (k : ∀ w', Holds E w' ([blk b (putAt c off vs) T] :: cs) → K a w') : Oper.wp P ⟨none, .store t x y, ty, pos, af, g⟩ a w K Q := by
  obtain ⟨w', h1, h2⟩ := stores_ok (P := P) (o := off) vs 0 c w hH hv (by omega)
  have h3 : (storeVar t ⟨b, off, none⟩ (.agg vs.toArray)).run P w = .ok () w' := by
    simp only [storeVar, Sem.run_bind, size_ok hn, Result.andThen_ok, Value.cells, List.size_toArray, ne_eq, not_true_eq_false, if_false, h1, Sem.run_pure]
  unfold Oper.wp
  simp only [execOp, hf.ev hx, hf.ev hy, Instr.storeAt, Instr.sureAddr, Sem.run_bind, Sem.run_pure, Result.andThen_ok, h3]
  exact k _ (by simpa using h2)
/-- A new variable. -/
theorem wAl {t : Nat} {zs : List Value} (hf : Fr a N σ) (hn : Nat.blt d N = true) (hz : zCells P t = some zs) (hH : Holds E w cs)
    (k : ∀ b a' w', Holds E w' ([blk b zs t] :: cs) → Fr a' N ((d, ptr b 0) :: σ) → K a' w') : Oper.wp P ⟨some d, .alloc t, ty, pos, af, g⟩ a w K Q := by
  obtain ⟨z, h1, h2⟩ := zero_ok (w := w) hz
  unfold Oper.wp
  simp only [execOp, Instr.alloc, Sem.run_bind, h1, Result.andThen_ok, newVar, newRow, run_newObj, Sem.run_pure, h2]
  exact k w.heap.size _ _ (hH.alloc _) (hf.put hn)
/-- A value laid into a new variable. -/
theorem wBx {t : Nat} {x : Operand} {vs : List Value} (hf : Fr a N σ) (hn : Nat.blt d N = true) (hx : ev σ x = some (.agg vs.toArray)) (hH : Holds E w cs)
    (k : ∀ b a' w', Holds E w' ([blk b vs t] :: cs) → Fr a' N ((d, ptr b 0) :: σ) → K a' w') : Oper.wp P ⟨some d, .box t x, ty, pos, af, g⟩ a w K Q := by
  unfold Oper.wp
  simp only [execOp, hf.ev hx, Instr.box, Sem.run_bind, Result.andThen_ok, newVar, newRow, run_newObj, Sem.run_pure, Value.cells]
  exact k w.heap.size _ _ (hH.alloc _) (hf.put hn)
theorem wB1 {t : Nat} {x : Operand} (hf : Fr a N σ) (hn : Nat.blt d N = true) (hx : ev σ x = some v) (hv : v.oneCell' = true) (hH : Holds E w cs)
    (k : ∀ b a' w', Holds E w' ([blk b [v] t] :: cs) → Fr a' N ((d, ptr b 0) :: σ) → K a' w') : Oper.wp P ⟨some d, .box t x, ty, pos, af, g⟩ a w K Q := by
  have hc : v.cells = #[v] := by cases v <;> first | rfl | cases hv
  unfold Oper.wp
  simp only [execOp, hf.ev hx, Instr.box, Sem.run_bind, Result.andThen_ok, newVar, newRow, run_newObj, Sem.run_pure, hc]
  exact k w.heap.size _ _ (hH.alloc _) (hf.put hn)

/-! ### Calls -/
/-- The call returns, with R. -/
def Spec (P : Program) (f : FuncId) (vs : List Value) (w : World) (R : Value → World → Prop) : Prop := Calls P f vs.toArray w fun e w' => ∃ v, e = .returned v ∧ R v w'
def callOk (P : Program) (f : FuncId) : Bool := match P.funcs[f]? with
  | some fn => !(fn.name == "runtime.NumGoroutine") && !fn.body.isNone
  | none => false
theorem call_run {f : FuncId} {vs : Array Value} (h : callOk P f = true) : (callFunc f vs).run P w = .ok (.enter f vs) w := by
  unfold callOk at h
  split at h
  · rename_i fn hfn
    simp only [Bool.and_eq_true, Bool.not_eq_true'] at h
    simp only [callFunc, Sem.run_bind, run_program, Result.andThen_ok, hfn, h.1, h.2, Bool.false_eq_true, if_false, Sem.run_pure]
  · cases h
theorem wCall {f : FuncId} {args : List Operand} {vs : List Value} {ts : Array TypeId} {R : Value → World → Prop} (hf : Fr a N σ) (hk : callOk P f = true) (hv : evs σ args = some vs) (hs : Spec P f vs w R)
    (k : ∀ v w', R v w' → K (a.put dst v) w') : Oper.wp P ⟨dst, .call ⟨.value (.func f), args.toArray, ts⟩, ty, pos, af, g⟩ a w K Q := by
  unfold Oper.wp
  simp only [execOp, resolve, List.map_toArray, hf.evs hv, Act.eval, Deferred.ofValue, Sem.run_bind, Sem.run_pure, Result.andThen_ok, invoke, Array.append_empty, Array.empty_append, call_run hk]
  refine Calls.mono hs fun e w' he => ?_
  obtain ⟨v, rfl, hR⟩ := he
  exact k v w' hR

/-! ### Ends -/
theorem ret1 {fn : Func} {t : Nat} {R : Value → World → Prop} (hf : Fr a N σ) (hr : fn.results = #[.tmp t]) (hl : look σ t = some v) (h : R v w) : bodyPost P fn (fun e w' => ∃ v, e = .returned v ∧ R v w') .ret a w := by
  refine ⟨hf.defs, v, ?_, v, rfl, h⟩
  rw [results_tmp hr, Array.getD_eq_getD_getElem?, hf.has _ _ hl]; rfl
theorem ret2 {fn : Func} {t t' : Nat} {v' : Value} {R : Value → World → Prop} (hf : Fr a N σ) (hr : fn.results = #[.tmp t, .tmp t']) (hl : look σ t = some v) (hl' : look σ t' = some v') (h : R (.tuple #[v, v']) w) :
    bodyPost P fn (fun e w' => ∃ v, e = .returned v ∧ R v w') .ret a w := by
  refine ⟨hf.defs, .tuple #[v, v'], ?_, _, rfl, h⟩
  rw [results_tmp2 hr, Array.getD_eq_getD_getElem?, hf.has _ _ hl, Array.getD_eq_getD_getElem?, hf.has _ _ hl']; rfl
theorem ret0 {fn : Func} {R : Value → World → Prop} (hf : Fr a N σ) (hr : fn.results = #[]) (h : R (.tuple #[]) w) : bodyPost P fn (fun e w' => ∃ v, e = .returned v ∧ R v w') .normal a w :=
  ⟨hf.defs, .tuple #[], results_none hr _ _ _, _, rfl, h⟩
theorem ret0' {fn : Func} {R : Value → World → Prop} (hf : Fr a N σ) (hr : fn.results = #[]) (h : R (.tuple #[]) w) : bodyPost P fn (fun e w' => ∃ v, e = .returned v ∧ R v w') .ret a w :=
  ⟨hf.defs, .tuple #[], results_none hr _ _ _, _, rfl, h⟩
instance NP.body {fn : Func} {R : Value → World → Prop} : NP (bodyPost P fn (fun e w' => ∃ v, e = .returned v ∧ R v w')) := ⟨fun c a w h => by obtain ⟨_, v, h, _⟩ := h; cases h⟩

/-- A function entered: the parameters in the first slots. -/
theorem enter {f : FuncId} {fn : Func} {c : Code} {vs : List Value} {R : Value → World → Prop} (hf : P.funcs[f]? = some fn) (hb : fn.body = some c) (hn : Nat.ble vs.length fn.ntmps = true)
    (h : ∀ a, Fr a fn.ntmps ((List.range vs.length).zip vs) → c.wp P (bodyPost P fn (fun e w' => ∃ v, e = .returned v ∧ R v w')) a w) : Spec P f vs w R := by
  refine calls_of_wp hf hb (h _ ?_)
  have hle : vs.length ≤ fn.ntmps := by simpa [Nat.ble_eq] using hn
  refine ⟨by simp; omega, rfl, fun t v hl => ?_⟩
  have key : ∀ (vs : List Value) (k t : Nat) (v : Value), look ((List.range' k vs.length).zip vs) t = some v → k ≤ t ∧ vs[t - k]? = some v := by
    intro vs
    induction vs with
    | nil => intro k t v hl; simp [look] at hl
    | cons u us ih =>
      intro k t v hl
      rw [List.length_cons, List.range'_succ, List.zip_cons_cons] at hl
      simp only [look] at hl
      cases hb : Nat.beq k t with
      | true =>
        rw [hb] at hl
        simp only [cond_true, Option.some.injEq] at hl
        have : k = t := Nat.eq_of_beq_eq_true hb
        subst this; subst hl
        simp
      | false =>
        rw [hb] at hl
        obtain ⟨h1, h2⟩ := ih (k + 1) t v hl
        refine ⟨by omega, ?_⟩
        have : t - k = (t - (k + 1)) + 1 := by omega
        rw [this]
        simpa using h2
  rw [List.range_eq_range'] at hl
  obtain ⟨_, h2⟩ := key vs 0 t v hl
  have hlt : t < vs.length := by
    rcases Nat.lt_or_ge t vs.length with h' | h'
    · exact h'
    · simp [List.getElem?_eq_none h'] at h2
  simp only [Nat.sub_zero] at h2
  rw [Array.getElem?_append_left (by simpa using hlt)]
  simpa using h2

/-! ### Ways and loops -/
theorem cIf {x y : Code} {c : Operand} {b : Bool} (hf : Fr a N σ) (hc : ev σ c = some (.bool b)) (h1 : b = true → x.wp P Q a w) (h2 : b = false → y.wp P Q a w) : (Code.cond c x y).wp P Q a w := by
  cases b
  · exact wp_cond (hf.ev hc) (h2 rfl)
  · exact wp_cond (hf.ev hc) (h1 rfl)
/-- A loop: what holds at its head, with a number that goes down. -/
theorem cLoop {α : Type} {c : Code} (I : Nat → α → Act → World → Prop) {n : Nat} {s : α} (h0 : I n s a w)
    (round : ∀ n s a w, I n s a w → c.wp P (Exit.then (fun a' w' => ∃ m s', m < n ∧ I m s' a' w') Q) a w) : (Code.loop c).wp P Q a w := by
  have key : ∀ (k n : Nat) (s : α) (a : Act) (w : World), n < k → I n s a w → Code.rounds P c Q k a w := by
    intro k
    induction k with
    | zero => intro n s a w hn; omega
    | succ k ih =>
      intro n s a w hn hI
      refine wp_mono (round n s a w hI) fun e a' w' q => ?_
      cases e with
      | normal =>
        obtain ⟨m, s', hm, hI'⟩ := q
        exact ih m s' a' w' (by omega) hI'
      | _ => exact q
  exact wp_loop_rounds (n + 1) (key (n + 1) n s a w (Nat.lt_succ_self n) h0)
end
end Go.BK
