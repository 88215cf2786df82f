/- Core E: slices that are read, slices that are owned, what loops come to. Own work for this claim. -/
import Derived.Test.YtlbbpajjfhmfjaaCoreD
namespace Go.BK

/-! ### Plain words -/
def nm {α β : Type} (t : α) (f : α → β) : β := f t
def bd {α β : Type} (o : Option α) (f : α → Option β) : Option β := o.bind f
def ck {β : Type} (c : Bool) (x : Option β) : Option β := bif c then x else none
def sel {β : Type} (c : Bool) (x y : β) : β := bif c then x else y
def jp {α β : Type} (k : α) (f : α → β) : β := f k
def ix {α : Type} (xs : List α) (i : Int) : Option α := if 0 ≤ i then xs[i.toNat]? else none
inductive Out (R S : Type) where
  | ret (r : R)
  | brk (s : S)
  | nxt (s : S)
def aft {R S β : Type} (f : R → β) (k : S → Option β) : Out R S → Option β
  | .ret r => some (f r)
  | .brk s | .nxt s => k s
def stp {R S : Type} (k : S → Option (Out R S)) : Out R S → Option (Out R S)
  | .ret r => some (.ret r)
  | .brk s => some (.brk s)
  | .nxt s => k s
def forN {R S : Type} (f : Nat → S → Option (Out R S)) : Nat → Nat → S → Option (Out R S)
  | 0, _, s => some (.nxt s)
  | n + 1, i, s => bd (f i s) (stp fun s' => forN f n (i + 1) s')
def whileN {R S : Type} (f : S → Option (Out R S)) : Nat → S → Option (Out R S)
  | 0, _ => none
  | n + 1, s => bd (f s) (stp fun s' => whileN f n s')
def FUEL : Nat := 1099511627776

theorem nmS {α β : Type} {t : α} {f : α → β} {r : β} (h : nm t f = r) : ∃ x, t = x ∧ f x = r := ⟨t, rfl, h⟩
theorem bdS {α β : Type} {o : Option α} {f : α → Option β} {r : β} (h : bd o f = some r) : ∃ x, o = some x ∧ f x = some r := by
  cases o with
  | none => cases h
  | some x => exact ⟨x, rfl, h⟩
theorem ckS {β : Type} {c : Bool} {x : Option β} {r : β} (h : ck c x = some r) : c = true ∧ x = some r := by
  cases c
  · cases h
  · exact ⟨rfl, h⟩
theorem selT {β : Type} {c : Bool} {x y r : β} (h : sel c x y = r) (hc : c = true) : x = r := by subst hc; exact h
theorem selF {β : Type} {c : Bool} {x y r : β} (h : sel c x y = r) (hc : c = false) : y = r := by subst hc; exact h
theorem jpS {α β : Type} {k : α} {f : α → β} {r : β} (h : jp k f = r) : ∃ K, K = k ∧ f K = r := ⟨k, rfl, h⟩
theorem ixS {α : Type} {xs : List α} {i : Int} {x : α} (h : ix xs i = some x) : 0 ≤ i ∧ xs[i.toNat]? = some x ∧ i < xs.length ∧ i.toNat < xs.length := by
  unfold ix at h
  split at h
  · rename_i h0
    obtain ⟨hl, _⟩ := List.getElem?_eq_some_iff.1 h
    exact ⟨h0, h, by omega, hl⟩
  · cases h
theorem andL {a b : Bool} (h : (a && b) = true) : a = true := by cases a <;> simp_all
theorem andR {a b : Bool} (h : (a && b) = true) : b = true := by cases a <;> simp_all
theorem gvT {c : Bool} {v : Value} (h : c = true) : gv c v = v := by subst h; rfl
theorem evg {σ : List (Nat × Value)} {x : Operand} {c : Bool} {v : Value} (h : ev σ x = some (gv c v)) (hc : c = true) : ev σ x = some v := by rw [h, gvT hc]
/-- A list of cells as a Lean type: n things in a row. -/
def Tup (α : Type) : Nat → Type
  | 0 => Unit
  | n + 1 => α × Tup α n
def Tup.cells {α : Type} (e : α → List Value) : (n : Nat) → Tup α n → List Value
  | 0, _ => []
  | n + 1, t => e t.1 ++ Tup.cells e n t.2
def Tup.list {α : Type} : (n : Nat) → Tup α n → List α
  | 0, _ => []
  | n + 1, t => t.1 :: Tup.list n t.2
def Tup.set {α : Type} : (n : Nat) → Tup α n → Nat → α → Tup α n
  | 0, t, _, _ => t
  | n + 1, t, 0, x => (x, t.2)
  | n + 1, t, i + 1, x => (t.1, Tup.set n t.2 i x)
def Tup.rep {α : Type} (x : α) : (n : Nat) → Tup α n
  | 0 => ()
  | n + 1 => (x, Tup.rep x n)
def Tup.get {α : Type} (n : Nat) (t : Tup α n) (i : Int) : Option α := ix (Tup.list n t) i
instance Tup.dec {α : Type} [DecidableEq α] : (n : Nat) → DecidableEq (Tup α n)
  | 0 => fun _ _ => isTrue rfl
  | n + 1 => have := Tup.dec (α := α) n; inferInstanceAs (DecidableEq (α × Tup α n))
instance {α : Type} [DecidableEq α] {n : Nat} : DecidableEq (Tup α n) := Tup.dec n
theorem Tup.list_length {α : Type} : (n : Nat) → (t : Tup α n) → (Tup.list n t).length = n
  | 0, _ => rfl
  | n + 1, t => by simp [Tup.list, Tup.list_length n t.2]
theorem Tup.cells_flat {α : Type} (e : α → List Value) : (n : Nat) → (t : Tup α n) → Tup.cells e n t = (Tup.list n t).flatMap e
  | 0, _ => rfl
  | n + 1, t => by simp [Tup.cells, Tup.list, Tup.cells_flat e n t.2]
theorem Tup.list_set {α : Type} : (n : Nat) → (t : Tup α n) → (i : Nat) → (x : α) → Tup.list n (Tup.set n t i x) = (Tup.list n t).set i x
  | 0, _, _, _ => rfl
  | n + 1, t, 0, x => rfl
  | n + 1, t, i + 1, x => by simp [Tup.set, Tup.list, Tup.list_set n t.2 i x]
theorem i64c (n : Nat) (h : n ≤ 140737488355328) : IntKind.i64.wrap ((n : Int) + 1) = ((n + 1 : Nat) : Int) := by
  simp only [IntKind.wrap, IntKind.bits, IntKind.signed]
  have h1 : ((n : Int) + 1) % (2 ^ 64 : Int) = (n : Int) + 1 := Int.emod_eq_of_lt (by omega) (by omega)
  simp only [h1]
  rw [if_neg]
  · omega
  · simp only [Bool.true_and, decide_eq_true_eq]; omega

/-! ### Slices that are read -/
section
variable {α : Type}
theorem flat_length {enc : α → List Value} {k : Nat} (hk : ∀ x, (enc x).length = k) : ∀ xs : List α, (xs.flatMap enc).length = xs.length * k
  | [] => by simp
  | x :: xs => by simp [flat_length hk xs, hk, Nat.add_mul, Nat.add_comm]
theorem flat_split {enc : α → List Value} {xs : List α} {i : Nat} {x : α} (h : xs[i]? = some x) : xs.flatMap enc = (xs.take i).flatMap enc ++ enc x ++ (xs.drop (i + 1)).flatMap enc := by
  obtain ⟨hi, rfl⟩ := List.getElem?_eq_some_iff.1 h
  have e : xs = xs.take i ++ xs[i] :: xs.drop (i + 1) := by rw [← List.drop_eq_getElem_cons hi, List.take_append_drop]
  exact (congrArg (List.flatMap enc) e).trans (by rw [List.flatMap_append, List.flatMap_cons, List.append_assoc])
theorem sub_sub (c : List Value) (m L off n : Nat) (h : off + n ≤ L) : sub (sub c m L) off n = sub c (m + off) n := by
  simp only [sub, List.drop_take, List.take_take, List.drop_drop]
  congr 1
  omega

/-- The slice reads as xs in these blocks. -/
def Rd (C : HL) (enc : α → List Value) (v : Value) (xs : List α) : Prop :=
  ∃ A cap, v = .slice A xs.length cap ∧ xs.length ≤ cap ∧ xs.length ≤ 140737488355328 ∧ (xs = [] ∨ ∃ b pre post T fz, A = some ⟨b, pre.length, none⟩ ∧ (b, Obj.cells (pre ++ xs.flatMap enc ++ post).toArray T fz) ∈ C)
/-- At m of block b stand these cells. -/
def ElemAt (C : HL) (b m : Nat) (cells : List Value) : Prop := ∃ c T fz, (b, Obj.cells c.toArray T fz) ∈ C ∧ m + cells.length ≤ c.length ∧ sub c m cells.length = cells
theorem Rd.mono {C C' : HL} {enc : α → List Value} {v : Value} {xs : List α} (h : Rd C enc v xs) (hs : ∀ p ∈ C, p ∈ C') : Rd C' enc v xs := by
  obtain ⟨A, cap, h1, h2, h3, h4⟩ := h
  refine ⟨A, cap, h1, h2, h3, h4.imp id ?_⟩
  rintro ⟨b, pre, post, T, fz, h5, h6⟩
  exact ⟨b, pre, post, T, fz, h5, hs _ h6⟩
theorem Rd.nil (C : HL) (enc : α → List Value) : Rd C enc (.slice none 0 0) ([] : List α) := ⟨none, 0, rfl, by simp, by simp, .inl rfl⟩
theorem Rd.le {C : HL} {enc : α → List Value} {v : Value} {xs : List α} (h : Rd C enc v xs) : xs.length ≤ 140737488355328 := by obtain ⟨_, _, _, _, h, _⟩ := h; exact h
theorem sub_mid (p c q : List Value) (m : Nat) (h : m = p.length) : sub (p ++ c ++ q) m c.length = c := by subst h; simp [sub]
theorem Rd.elem {C : HL} {enc : α → List Value} {k : Nat} {v : Value} {xs : List α} (h : Rd C enc v xs) (hk : ∀ x, (enc x).length = k) {i : Nat} {x : α} (hx : xs[i]? = some x) :
    ∃ b off cap, v = .slice (some ⟨b, off, none⟩) xs.length cap ∧ ElemAt C b (off + i * k) (enc x) := by
  obtain ⟨A, cap, rfl, _, _, h4⟩ := h
  rcases h4 with rfl | ⟨b, pre, post, T, fz, rfl, hm⟩
  · simp at hx
  · refine ⟨b, pre.length, cap, rfl, _, T, fz, hm, ?_, ?_⟩
    · obtain ⟨hi, rfl⟩ := List.getElem?_eq_some_iff.1 hx
      have : (i + 1) * k ≤ xs.length * k := Nat.mul_le_mul_right _ hi
      simp only [List.length_append, flat_length hk, hk, Nat.add_mul, Nat.one_mul] at this ⊢
      omega
    · have e : pre ++ xs.flatMap enc ++ post = (pre ++ (xs.take i).flatMap enc) ++ enc x ++ ((xs.drop (i + 1)).flatMap enc ++ post) := by rw [flat_split hx]; simp
      rw [e]
      refine sub_mid _ _ _ _ ?_
      obtain ⟨hi, rfl⟩ := List.getElem?_eq_some_iff.1 hx
      simp [flat_length hk, Nat.min_eq_left (Nat.le_of_lt hi)]
end

section
variable {α : Type} {P : Program} {l : List Oper} {Q : Exit → Act → World → Prop} {dr : Bool} {S : World → Prop} {a : Act} {w : World} {N : Nat} {σ : List (Nat × Value)} {i d : Nat} {r : Plan} {o : Oper} {v : Value}
variable {ty : TypeId} {pos : String} {af : Array Edge} {g : Option (Nat × Bool)} {dst : Option Tmp} {cs : List HL} {E : Env} {enc : α → List Value} {xs : List α} {C : HL}

theorem rLenR {t e n k : Nat} {x : Operand} {ts : Array TypeId} (hf : Fr a N σ) (hx : ev σ x = some v) (hR : Rd C enc v xs) (ht : ts[0]? = some t) (h : sliceEl P t = some (e, n, k)) :
    Runs P S a ⟨dst, .call ⟨.builtin .len, #[x], ts⟩, ty, pos, af, g⟩ (.int .i64 (xs.length : Int)) := by
  obtain ⟨A, cap, rfl, _⟩ := hR
  exact rLen hf hx ht h
/-- The address of an element. -/
theorem rIxR {t e n k : Nat} {x y : Operand} {ik : IntKind} {iv : Int} {z : α} (hf : Fr a N σ) (hx : ev σ x = some v) (hy : ev σ y = some (.int ik iv)) (hR : Rd C enc v xs) (h : sliceEl P t = some (e, n, k)) (hk : ∀ x, (enc x).length = n)
    (hz : ix xs iv = some z) : ∃ b m, ElemAt C b m (enc z) ∧ ∀ S, Runs P S a ⟨dst, .indexAddr t x y, ty, pos, af, g⟩ (ptr b m) := by
  obtain ⟨h0, h1, h2, h3⟩ := ixS hz
  obtain ⟨b, off, cap, rfl, hE⟩ := hR.elem hk h1
  exact ⟨b, _, hE, fun S => rIx hf hx hy h h0 h2 rfl⟩
theorem rLdE {t b m off j : Nat} {x : Operand} {cells : List Value} (hf : Fr a N σ) (hx : ev σ x = some (ptr b (m + off))) (hE : ElemAt C b m cells) (h : aggB P t = some false) (hj : nth cs j = some C) (hc : nth cells off = some v) :
    Runs P (Has cs) a ⟨dst, .load t x, ty, pos, af, g⟩ v := by
  obtain ⟨c, T, fz, hm, hl, hs⟩ := hE
  refine rLd hf hx h (memV hj hm) ?_
  rw [nth_eq] at hc ⊢
  have h1 : (sub c m cells.length)[off]? = some v := by rw [hs]; exact hc
  have hlt : off < cells.length := (List.getElem?_eq_some_iff.1 hc).1
  simp only [sub, List.getElem?_take, hlt, if_true, List.getElem?_drop] at h1
  exact h1
theorem rLsE {t b m off n j : Nat} {x : Operand} {cells vs : List Value} (hf : Fr a N σ) (hx : ev σ x = some (ptr b (m + off))) (hE : ElemAt C b m cells) (h : aggB P t = some true) (hn : szOf P t = some n) (hj : nth cs j = some C) (hl' : Nat.ble (off + n) cells.length = true) (hc : sub cells off n = vs) :
    Runs P (Has cs) a ⟨dst, .load t x, ty, pos, af, g⟩ (.agg vs.toArray) := by
  obtain ⟨c, T, fz, hm, hl, hs⟩ := hE
  have hle : off + n ≤ cells.length := by simpa [Nat.ble_eq] using hl'
  refine rLs hf hx h hn (memV hj hm) (by omega) ?_
  rw [← sub_sub c m cells.length off n hle, hs, hc]
end
end Go.BK
