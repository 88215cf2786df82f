/- Core K: what is read only lies in one pool; slices of things that hold slices; pointers that may be nil; arrays by number. Own work for this claim. -/
import Derived.Test.YtlbbpajjfhmfjaaCoreJ
namespace Go.BK
/-! ### The pool -/
section
variable {α : Type} {enc : α → List Value} {v : Value} {xs : List α} {C D c : HL}
theorem Rd.app (h : Rd C enc v xs) : Rd (C ++ D) enc v xs := h.mono fun _ hp => List.mem_append_left _ hp
theorem Rd.appR (h : Rd D enc v xs) : Rd (C ++ D) enc v xs := h.mono fun _ hp => List.mem_append_right _ hp
theorem Rd.hd (h : Rd C enc v xs) : ∃ A n k, v = .slice A n k := by obtain ⟨A, cap, h, _⟩ := h; exact ⟨A, _, cap, h⟩
theorem Ow.hd {k T : Nat} (h : Ow enc k T v xs c) : ∃ A n k, v = .slice A n k := h.rd.hd
theorem Holds.assoc {E : Env} {w : World} {cs : List HL} (h : Holds E w (((C ++ D) ++ c) :: cs)) : Holds E w ((C ++ (D ++ c)) :: cs) := by rwa [List.append_assoc] at h
theorem Holds.grow {E : Env} {w : World} {cs : List HL} (h : Holds E w ((C ++ D) :: c :: cs)) : Holds E w ((C ++ (D ++ c)) :: cs) := h.join.assoc
theorem Holds.pad {E : Env} {w : World} {cs : List HL} (h : Holds E w (C :: cs)) : Holds E w ((C ++ []) :: cs) := by rwa [List.append_nil]
theorem Holds.unpad {E : Env} {w : World} {cs : List HL} (h : Holds E w ((C ++ D) :: cs)) : Holds E w (C :: cs) := (h.part.front 1).drop
end
/-! ### Slices of things that hold slices -/
abbrev raw (k : Nat) : Tup Value k → List Value := Tup.cells (fun y => [y]) k
theorem raw_len (k : Nat) (g : Tup Value k) : (raw k g).length = k := by
  rw [raw, Tup.cells_flat, flat_length (k := 1) (fun _ => rfl), Tup.list_length]; omega
/-- A thing of α lies in cells g, its slices in C. -/
def RS {α : Type} (enc : α → List Value) (C : HL) (g : List Value) (xs : List α) : Prop := ∃ v, g = [v] ∧ Rd C enc v xs
def All2 {α β : Type} (R : α → β → Prop) : List α → List β → Prop
  | [], [] => True
  | x :: xs, y :: ys => R x y ∧ All2 R xs ys
  | _, _ => False
theorem All2.imp {α β : Type} {R R' : α → β → Prop} (hi : ∀ x y, R x y → R' x y) : ∀ {xs : List α} {ys : List β}, All2 R xs ys → All2 R' xs ys
  | [], [], h => h
  | _ :: _, _ :: _, h => ⟨hi _ _ h.1, All2.imp hi h.2⟩
  | [], _ :: _, h => h.elim
  | _ :: _, [], h => h.elim
def RdP {α : Type} (C : HL) (k : Nat) (R : HL → List Value → α → Prop) (v : Value) (xs : List α) : Prop := ∃ gs : List (Tup Value k), Rd C (raw k) v gs ∧ All2 (fun g x => R C (raw k g) x) gs xs
def RMono {α : Type} (R : HL → List Value → α → Prop) : Prop := ∀ C C' g x, (∀ p ∈ C, p ∈ C') → R C g x → R C' g x
theorem RS.mono {α : Type} {enc : α → List Value} : RMono (RS enc) := fun _ _ _ _ hs h => by obtain ⟨v, hg, h⟩ := h; exact ⟨v, hg, h.mono hs⟩
theorem RdP.mono {α : Type} {C C' : HL} {k : Nat} {R : HL → List Value → α → Prop} {v : Value} {xs : List α} (h : RdP C k R v xs) (hR : RMono R) (hs : ∀ p ∈ C, p ∈ C') : RdP C' k R v xs := by
  obtain ⟨gs, h1, h2⟩ := h
  exact ⟨gs, h1.mono hs, h2.imp fun _ _ => hR _ _ _ _ hs⟩
theorem all2_length {α β : Type} {R : α → β → Prop} : ∀ {xs : List α} {ys : List β}, All2 R xs ys → xs.length = ys.length
  | [], [], _ => rfl
  | _ :: _, _ :: _, h => by simp [all2_length h.2]
  | [], _ :: _, h => h.elim
  | _ :: _, [], h => h.elim
theorem all2_get {α β : Type} {R : α → β → Prop} : ∀ {xs : List α} {ys : List β}, All2 R xs ys → ∀ (i : Nat) (y : β), ys[i]? = some y → ∃ x, xs[i]? = some x ∧ R x y
  | [], [], _, i, y, hy => by simp at hy
  | x :: xs, y' :: ys, h, 0, y, hy => by simp at hy; subst hy; exact ⟨x, rfl, h.1⟩
  | x :: xs, y' :: ys, h, i + 1, y, hy => by simpa using all2_get h.2 i y (by simpa using hy)
  | [], _ :: _, h, _, _, _ => h.elim
  | _ :: _, [], h, _, _, _ => h.elim
theorem RdP.len {α : Type} {C : HL} {k : Nat} {R : HL → List Value → α → Prop} {v : Value} {xs : List α} (h : RdP C k R v xs) : xs.length ≤ 140737488355328 ∧ ∃ A cap, v = .slice A xs.length cap := by
  obtain ⟨gs, h1, h2⟩ := h
  have e := all2_length h2
  refine ⟨e ▸ h1.le, ?_⟩
  obtain ⟨A, cap, hv, _⟩ := h1
  exact ⟨A, cap, by rw [hv, e]⟩
theorem RdP.le {α : Type} {C : HL} {k : Nat} {R : HL → List Value → α → Prop} {v : Value} {xs : List α} (h : RdP C k R v xs) : xs.length ≤ 140737488355328 := h.len.1
theorem RdP.hd {α : Type} {C : HL} {k : Nat} {R : HL → List Value → α → Prop} {v : Value} {xs : List α} (h : RdP C k R v xs) : ∃ A n k, v = .slice A n k := by obtain ⟨A, cap, h⟩ := h.len.2; exact ⟨A, _, cap, h⟩
/-- An element of it: its cells, where they lie. -/
theorem RdP.at {α : Type} {C : HL} {k : Nat} {R : HL → List Value → α → Prop} {v : Value} {xs : List α} {iv : Int} {z : α} (h : RdP C k R v xs) (hz : ix xs iv = some z) : ∃ g b m, ElemAt C b m (raw k g) ∧ IxOk v k iv b m ∧ R C (raw k g) z := by
  obtain ⟨gs, h1, h2⟩ := h
  obtain ⟨h0, h3, _, _⟩ := ixS hz
  obtain ⟨g, hg, hR⟩ := all2_get h2 _ _ h3
  have hi : ix gs iv = some g := by unfold ix; rw [if_pos h0]; exact hg
  obtain ⟨b, m, hE, hI⟩ := h1.at (raw_len k) hi
  exact ⟨g, b, m, hE, hI, hR⟩
theorem gEx3 {c : Bool} {β : Type} {A : β → Nat → Nat → Prop} [Inhabited β] (h : c = true → ∃ g b m, A g b m) : ∃ g b m, c = true → A g b m := by
  cases c
  · exact ⟨default, 0, 0, fun h => by cases h⟩
  · obtain ⟨g, b, m, h⟩ := h rfl; exact ⟨g, b, m, fun _ => h⟩
/-! ### Pointers that may be nil -/
def OO {α : Type} (ob : Nat → α → HL → Prop) (p : Option Addr) (x : Option α) (h : HL) : Prop := (p = none ∧ x = none ∧ h = []) ∨ ∃ b y, p = some ⟨b, 0, none⟩ ∧ x = some y ∧ ob b y h
def onO {α β : Type} (x : Option α) (n : β) (f : α → β) : β := match x with | none => n | some y => f y
theorem onN {α β : Type} {n r : β} {f : α → β} (h : onO none n f = r) : n = r := h
theorem onS {α β : Type} {n r : β} {f : α → β} {x : α} (h : onO (some x) n f = r) : f x = r := h
theorem OO.none {α : Type} {ob : Nat → α → HL → Prop} : OO ob none none [] := .inl ⟨rfl, rfl, rfl⟩
theorem OO.some {α : Type} {ob : Nat → α → HL → Prop} {b : Nat} {x : α} {h : HL} (hb : ob b x h) : OO ob (some ⟨b, 0, .none⟩) (some x) h := .inr ⟨b, x, rfl, rfl, hb⟩
theorem OO.isNone {α : Type} {ob : Nat → α → HL → Prop} {p : Option Addr} {x : Option α} {h : HL} (hO : OO ob p x h) : p.isNone = x.isNone := by
  rcases hO with ⟨rfl, rfl, _⟩ | ⟨b, y, rfl, rfl, _⟩ <;> rfl
/-- A struct of plain cells behind a pointer. -/
def obF {α : Type} (enc : α → List Value) (T : Nat) (b : Nat) (x : α) (h : HL) : Prop := h = [blk b (enc x) T]
section
variable {P : Program} {l : List Oper} {Q : Exit → Act → World → Prop} {dr : Bool} {S : World → Prop} {a : Act} {w : World} {N : Nat} {σ : List (Nat × Value)} {i d : Nat} {r : Plan} {o : Oper} {v : Value}
variable {ty : TypeId} {pos : String} {af : Array Edge} {g : Option (Nat × Bool)} {dst : Option Tmp} {cs cs' : List HL} {E : Env}
theorem rLenP {α : Type} {C : HL} {kk : Nat} {R : HL → List Value → α → Prop} {xs : List α} {t e n k : Nat} {x : Operand} {ts : Array TypeId} (hf : Fr a N σ) (hx : ev σ x = some v) (hR : RdP C kk R v xs) (ht : ts[0]? = some t) (h : sliceEl P t = some (e, n, k)) :
    Runs P S a ⟨dst, .call ⟨.builtin .len, #[x], ts⟩, ty, pos, af, g⟩ (.int .i64 (xs.length : Int)) := by
  obtain ⟨A, cap, rfl⟩ := hR.len.2
  exact rLen hf hx ht h
theorem rOe {α : Type} {ob : Nat → α → HL → Prop} {t e : Nat} {u : TypeId} {x y : Operand} {A : Option Addr} {q : Option α} {h : HL} (hf : Fr a N σ) (hx : ev σ x = some (.pointer A)) (hy : ev σ y = some (.pointer none)) (ht : P.underlying t = some (.pointer e)) (hO : OO ob A q h) : Runs P S a ⟨dst, .binOp .eql t x y u, ty, pos, af, g⟩ (.bool q.isNone) := by
  rw [← hO.isNone]; exact rPe hf hx hy ht
theorem rOu {α : Type} {ob : Nat → α → HL → Prop} {t e : Nat} {u : TypeId} {x y : Operand} {A : Option Addr} {q : Option α} {h : HL} (hf : Fr a N σ) (hx : ev σ x = some (.pointer A)) (hy : ev σ y = some (.pointer none)) (ht : P.underlying t = some (.pointer e)) (hO : OO ob A q h) : Runs P S a ⟨dst, .binOp .neq t x y u, ty, pos, af, g⟩ (.bool (!q.isNone)) := by
  rw [← hO.isNone]; exact rPu hf hx hy ht
theorem rStrE {t u : TypeId} {x y : Operand} {p q : ByteArray} (hf : Fr a N σ) (hx : ev σ x = some (.string p)) (hy : ev σ y = some (.string q)) : Runs P S a ⟨dst, .binOp .eql t x y u, ty, pos, af, g⟩ (.bool (p.toList == q.toList)) := fun w _ => by
  simp only [execOp, hf.ev hx, hf.ev hy, eqGuard, binOp, Op.stringOp, Sem.run_bind, Sem.run_pure, Result.andThen_ok, Bool.not_true, Bool.false_eq_true, if_false]
theorem rStrN {t u : TypeId} {x y : Operand} {p q : ByteArray} (hf : Fr a N σ) (hx : ev σ x = some (.string p)) (hy : ev σ y = some (.string q)) : Runs P S a ⟨dst, .binOp .neq t x y u, ty, pos, af, g⟩ (.bool (!(p.toList == q.toList))) := fun w _ => by
  simp only [execOp, hf.ev hx, hf.ev hy, eqGuard, binOp, Op.stringOp, Sem.run_bind, Sem.run_pure, Result.andThen_ok, Bool.not_true, Bool.false_eq_true, if_false]
/-- A call whose result is not kept. -/
theorem eC0 {f : FuncId} {args : List Operand} {vs : List Value} {ts : Array TypeId} {R : Value → World → Prop} (hf : Fr a N σ) (hi : nth l i = some ⟨none, .call ⟨.value (.func f), args.toArray, ts⟩, ty, pos, af, none⟩) (hv : evs σ args = some vs) (hk : callOk P f = true) (hs : Spec P f vs w R)
    (k : ∀ v w', R v w' → Kt P l Q dr S i r a w') : planWp P l.toArray Q dr S (.e i r) a w := e0 hi rfl (wCall hf hk hv hs fun v w' hR => k v w' hR)
/-! ### Arrays by number -/
theorem Tup.at {α : Type} {e : α → List Value} {k n b base : Nat} {t : Tup α n} {c pre post : List Value} {T : TypeId} {iv : Int} {z : α} (hk : ∀ x, (e x).length = k) (hz : ix (Tup.list n t) iv = some z) (hc : c = pre ++ Tup.cells e n t ++ post) (hb : pre.length = base) :
    ElemAt [blk b c T] b (base + iv.toNat * k) (e z) ∧ 0 ≤ iv ∧ iv < (n : Int) := by
  obtain ⟨h0, h1, h2, h3⟩ := ixS hz
  rw [Tup.list_length] at h2 h3
  subst hb
  refine ⟨?_, h0, h2⟩
  rw [Tup.cells_flat] at hc
  refine ⟨c, T, (0, 0), by simp, ?_, ?_⟩
  · rw [hc]
    have : (iv.toNat + 1) * k ≤ n * k := Nat.mul_le_mul_right _ h3
    simp only [List.length_append, flat_length hk, hk, Tup.list_length, Nat.add_mul, Nat.one_mul] at this ⊢
    omega
  · have e' : c = (pre ++ ((Tup.list n t).take iv.toNat).flatMap e) ++ e z ++ (((Tup.list n t).drop (iv.toNat + 1)).flatMap e ++ post) := by rw [hc, flat_split h1]; simp
    rw [e']
    refine sub_mid _ _ _ _ ?_
    simp [flat_length hk, Tup.list_length, Nat.min_eq_left (Nat.le_of_lt h3)]
theorem rAxT {t e n k b base : Nat} {x y : Operand} {ik : IntKind} {iv : Int} {A : Prop} (hf : Fr a N σ) (hx : ev σ x = some (ptr b base)) (hy : ev σ y = some (.int ik iv)) (h : arrEl P t = some (n, e, k)) (hI : A ∧ 0 ≤ iv ∧ iv < (n : Int)) : Runs P S a ⟨dst, .indexAddr t x y, ty, pos, af, g⟩ (ptr b (base + iv.toNat * k)) :=
  rAx hf hx hy h hI.2.1 hI.2.2 rfl
theorem tup_put {α : Type} {e : α → List Value} {k n : Nat} {t : Tup α n} {pre post vs : List Value} {iv : Int} {z z' : α} {o : Nat} (hk : ∀ x, (e x).length = k) (hz : ix (Tup.list n t) iv = some z) (hl : o + vs.length ≤ k) (hv : putAt (e z) o vs = e z') :
    putAt (pre ++ Tup.cells e n t ++ post) (pre.length + iv.toNat * k + o) vs = pre ++ Tup.cells e n (Tup.set n t iv.toNat z') ++ post := by
  obtain ⟨h0, h1, h2, h3⟩ := ixS hz
  rw [Tup.cells_flat, Tup.cells_flat, Tup.list_set]
  have e1 := flat_split (enc := e) h1
  have h1' : ((Tup.list n t).set iv.toNat z')[iv.toNat]? = some z' := by simp [h3]
  have e2 := flat_split (enc := e) h1'
  have hm := putAt_mid (pre ++ ((Tup.list n t).take iv.toNat).flatMap e) (((Tup.list n t).drop (iv.toNat + 1)).flatMap e ++ post) (e z) vs o (by rw [hk]; exact hl)
  have hl2 : (pre ++ ((Tup.list n t).take iv.toNat).flatMap e).length = pre.length + iv.toNat * k := by
    simp [flat_length hk, Nat.min_eq_left (Nat.le_of_lt h3)]
  rw [hl2, hv] at hm
  rw [e1, e2]
  have e3 : ((Tup.list n t).set iv.toNat z').take iv.toNat = (Tup.list n t).take iv.toNat := by
    rw [List.take_set, List.set_eq_of_length_le (by simp; omega)]
  have e4 : ((Tup.list n t).set iv.toNat z').drop (iv.toNat + 1) = (Tup.list n t).drop (iv.toNat + 1) := by
    rw [List.drop_set_of_lt (by omega)]
  rw [e3, e4]
  simpa using hm
theorem set_putAt (c : List Value) (o : Nat) (v : Value) (h : o < c.length) : c.set o v = putAt c o [v] := by rw [← putAt_cons c o v [] h, putAt_nil]
theorem eSa {α : Type} {e : α → List Value} {k n : Nat} {tt : Tup α n} {pre post : List Value} {t b off o : Nat} {x y : Operand} {iv : Int} {z z' : α} {c : List Value} {T : TypeId} (hf : Fr a N σ) (hi : nth l i = some ⟨none, .store t x y, ty, pos, af, none⟩) (hx : ev σ x = some (ptr b (off + iv.toNat * k + o))) (hy : ev σ y = some v) (hv : v.oneCell' = true) (hn : szOf P t = some 1)
    (hk : ∀ x, (e x).length = k) (hz : ix (Tup.list n tt) iv = some z) (hc : c = pre ++ Tup.cells e n tt ++ post) (hb : pre.length = off) (hH : Holds E w ([blk b c T] :: cs)) (ho : Nat.blt o k = true) (hs : (e z).set o v = e z')
    (kk : ∀ w', Holds E w' ([blk b (pre ++ Tup.cells e n (Tup.set n tt iv.toNat z') ++ post) T] :: cs) → Kt P l Q dr S i r a w') : planWp P l.toArray Q dr S (.e i r) a w := by
  have ho' : o < k := by simpa [Nat.blt_eq] using ho
  subst hb
  have hlen : pre.length + iv.toNat * k + o < c.length := by
    obtain ⟨h0, h1, h2, h3⟩ := ixS hz
    rw [Tup.list_length] at h3
    have : (iv.toNat + 1) * k ≤ n * k := Nat.mul_le_mul_right _ h3
    rw [hc, Tup.cells_flat]
    simp only [List.length_append, flat_length hk, Tup.list_length, Nat.add_mul, Nat.one_mul] at this ⊢
    omega
  refine eSt hf hi hx hy hv hn hH hlen fun w' hH' => kk w' ?_
  rw [set_putAt _ _ _ hlen, hc, tup_put hk hz (by simp; omega) (by rw [← set_putAt _ _ _ (by rw [hk]; exact ho')]; exact hs)] at hH'
  exact hH'
theorem eSas {α : Type} {e : α → List Value} {k n : Nat} {tt : Tup α n} {pre post vs : List Value} {t b off o : Nat} {x y : Operand} {iv : Int} {z z' : α} {c : List Value} {T : TypeId} (hf : Fr a N σ) (hi : nth l i = some ⟨none, .store t x y, ty, pos, af, none⟩) (hx : ev σ x = some (ptr b (off + iv.toNat * k + o))) (hy : ev σ y = some (.agg vs.toArray)) (hv : ∀ v ∈ vs, v.oneCell' = true) (hn : szOf P t = some vs.length)
    (hk : ∀ x, (e x).length = k) (hz : ix (Tup.list n tt) iv = some z) (hc : c = pre ++ Tup.cells e n tt ++ post) (hb : pre.length = off) (hH : Holds E w ([blk b c T] :: cs)) (ho : o + vs.length ≤ k) (hs : putAt (e z) o vs = e z')
    (kk : ∀ w', Holds E w' ([blk b (pre ++ Tup.cells e n (Tup.set n tt iv.toNat z') ++ post) T] :: cs) → Kt P l Q dr S i r a w') : planWp P l.toArray Q dr S (.e i r) a w := by
  subst hb
  have hlen : pre.length + iv.toNat * k + o + vs.length ≤ c.length := by
    obtain ⟨h0, h1, h2, h3⟩ := ixS hz
    rw [Tup.list_length] at h3
    have : (iv.toNat + 1) * k ≤ n * k := Nat.mul_le_mul_right _ h3
    rw [hc, Tup.cells_flat]
    simp only [List.length_append, flat_length hk, Tup.list_length, Nat.add_mul, Nat.one_mul] at this ⊢
    omega
  refine eSs hf hi hx hy hv hn hH hlen fun w' hH' => kk w' ?_
  rw [hc, tup_put hk hz ho hs] at hH'
  exact hH'
end
end Go.BK
