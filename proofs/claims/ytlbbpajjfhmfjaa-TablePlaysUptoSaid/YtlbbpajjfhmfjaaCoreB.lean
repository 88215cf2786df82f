/- Core B: frames as facts; heaplets; the steps of a walk that compute. Own work for this claim. -/
import Derived.Test.YtlbbpajjfhmfjaaCoreA
namespace Go.BK

/-! ### Frames -/
def nth {α : Type} : List α → Nat → Option α
  | [], _ => none
  | x :: _, 0 => some x
  | _ :: r, n + 1 => nth r n
theorem nth_eq {α : Type} : ∀ (l : List α) (n : Nat), nth l n = l[n]?
  | [], _ => by simp [nth]
  | x :: _, 0 => by simp [nth]
  | _ :: r, n + 1 => by simp [nth, nth_eq r n]

def look : List (Nat × Value) → Nat → Option Value
  | [], _ => none
  | (t, v) :: r, x => bif Nat.beq t x then some v else look r x

/-- What is known of a frame: its size, no deferred calls, what some slots hold (the first entry counts). -/
structure Fr (a : Act) (N : Nat) (σ : List (Nat × Value)) : Prop where
  size : a.tmps.size = N
  defs : a.defers = []
  has : ∀ t v, look σ t = some v → a.tmps[t]? = some v

theorem Fr.put {a : Act} {N d : Nat} {σ : List (Nat × Value)} {v : Value} (h : Fr a N σ) (hd : Nat.blt d N = true) : Fr (a.put (some d) v) N ((d, v) :: σ) := by
  have hd' : d < a.tmps.size := by rw [h.size]; simpa [Nat.blt_eq] using hd
  refine ⟨by simp [Act.put, h.size], h.defs, fun t u hl => ?_⟩
  by_cases e : d = t
  · subst e
    have : Nat.beq d d = true := by simp
    simp only [look, this, cond_true, Option.some.injEq] at hl
    subst hl
    simp [Act.put, hd']
  · have : Nat.beq d t = false := by
      rw [Bool.eq_false_iff]; exact fun h => e (Nat.eq_of_beq_eq_true h)
    simp only [look, this, cond_false] at hl
    simp only [Act.put, Array.getElem?_setIfInBounds_ne e]
    exact h.has t u hl
theorem Fr.put_none {a : Act} {N : Nat} {σ : List (Nat × Value)} {v : Value} (h : Fr a N σ) : Fr (a.put none v) N σ := h

/-- Forgetting, or telling in another order. -/
theorem Fr.sub {a : Act} {N : Nat} {σ : List (Nat × Value)} (h : Fr a N σ) (σ' : List (Nat × Value)) (hs : σ'.map (fun p => look σ p.1) = σ'.map fun p => some p.2) : Fr a N σ' := by
  refine ⟨h.size, h.defs, fun t v hl => h.has t v ?_⟩
  clear h
  induction σ' with
  | nil => cases hl
  | cons p r ih =>
    simp only [List.map_cons, List.cons.injEq] at hs
    obtain ⟨t', v'⟩ := p
    simp only [look] at hl
    cases hb : Nat.beq t' t with
    | true =>
      rw [hb] at hl
      simp only [cond_true, Option.some.injEq] at hl
      have : t' = t := by simpa using hb
      subst this; subst hl
      exact hs.1
    | false =>
      rw [hb] at hl
      exact ih hs.2 hl

def ev (σ : List (Nat × Value)) : Operand → Option Value
  | .tmp t => look σ t
  | .const v => some v
  | .func f => some (.func (.func f) #[] #[])
  | .global g => some (.pointer (some ⟨g, 0, none⟩))
theorem Fr.ev {a : Act} {N : Nat} {σ : List (Nat × Value)} (h : Fr a N σ) {x : Operand} {v : Value} (hx : ev σ x = some v) : a.eval x = v := by
  cases x with
  | tmp t =>
    have := h.has t v hx
    simp [Act.eval, this]
  | const u => simpa [BK.ev, Act.eval] using hx
  | func f => simpa [BK.ev, Act.eval] using hx
  | global g => simpa [BK.ev, Act.eval] using hx
def evs (σ : List (Nat × Value)) : List Operand → Option (List Value)
  | [] => some []
  | x :: r => match ev σ x, evs σ r with
    | some v, some vs => some (v :: vs)
    | _, _ => none
theorem Fr.evs {a : Act} {N : Nat} {σ : List (Nat × Value)} (h : Fr a N σ) : ∀ {xs : List Operand} {vs : List Value}, evs σ xs = some vs → xs.map a.eval = vs
  | [], vs, hx => by simpa [BK.evs] using hx
  | x :: r, vs, hx => by
    simp only [BK.evs] at hx
    split at hx
    · rename_i v vs' hv hvs
      cases hx
      simp [h.ev hv, Fr.evs h hvs]
    · cases hx

/-! ### Heaplets -/
abbrev HL := List (Nat × Obj)
structure Env where
  os : Os
  tape : Nat → Question → Nat
  output : Array (Nat × ByteArray)
  drawn : Nat
/-- The world holds these blocks, all of them apart. -/
structure Holds (E : Env) (w : World) (cs : List HL) : Prop where
  os : w.os = E.os
  tape : w.tape = E.tape
  out : w.output = E.output
  dr : E.drawn ≤ w.drawn
  nd : (cs.flatten.map Prod.fst).Nodup
  mem : ∀ p ∈ cs.flatten, w.heap[p.1]? = some p.2

/-- What is read stays as it is. -/
def Has (cs : List HL) (w : World) : Prop := ∀ p ∈ cs.flatten, w.heap[p.1]? = some p.2
theorem Holds.has {E : Env} {w : World} {cs : List HL} (h : Holds E w cs) : Has cs w := h.mem

theorem Holds.perm {E : Env} {w : World} {cs cs' : List HL} (h : Holds E w cs) (hp : cs.Perm cs') : Holds E w cs' := by
  have hf : cs.flatten.Perm cs'.flatten := hp.flatten
  exact ⟨h.os, h.tape, h.out, h.dr, (hf.map _).nodup_iff.1 h.nd, fun p hm => h.mem p (hf.mem_iff.2 hm)⟩

/-- Number i to the front. -/
def front {α : Type} (i : Nat) (cs : List α) : List α := match nth cs i with
  | some c => c :: cs.eraseIdx i
  | none => cs
theorem erase_perm {α : Type} : ∀ (cs : List α) (i : Nat) (c : α), cs[i]? = some c → cs.Perm (c :: cs.eraseIdx i)
  | [], i, c, h => by simp at h
  | x :: r, 0, c, h => by simp at h; subst h; exact List.Perm.refl _
  | x :: r, i + 1, c, h => by
    have := erase_perm r i c (by simpa using h)
    exact (this.cons x).trans (List.Perm.swap _ _ _)
theorem front_perm {α : Type} (i : Nat) (cs : List α) : cs.Perm (front i cs) := by
  unfold front
  split
  · rename_i c hc
    rw [nth_eq] at hc
    exact erase_perm _ _ _ hc
  · exact List.Perm.refl _
theorem Holds.front {E : Env} {w : World} {cs : List HL} (h : Holds E w cs) (i : Nat) : Holds E w (front i cs) := h.perm (front_perm i cs)
/-- Without number i. -/
theorem Holds.drop {E : Env} {w : World} {c : HL} {cs : List HL} (h : Holds E w (c :: cs)) : Holds E w cs := by
  refine ⟨h.os, h.tape, h.out, h.dr, ?_, fun p hm => h.mem p (by simp [hm])⟩
  have := h.nd
  simp only [List.flatten_cons, List.map_append] at this
  exact (List.nodup_append.1 this).2.1
theorem Holds.dropAt {E : Env} {w : World} {cs : List HL} (h : Holds E w cs) (i : Nat) : Holds E w (cs.eraseIdx i) := by
  have := h.front i
  unfold BK.front at this
  split at this
  · exact this.drop
  · rename_i hn
    rw [nth_eq, List.getElem?_eq_none_iff] at hn
    rwa [List.eraseIdx_of_length_le hn]
/-- Two made one. -/
theorem Holds.join {E : Env} {w : World} {c d : HL} {cs : List HL} (h : Holds E w (c :: d :: cs)) : Holds E w ((c ++ d) :: cs) :=
  ⟨h.os, h.tape, h.out, h.dr, by simpa using h.nd, by simpa using h.mem⟩
theorem Holds.part {E : Env} {w : World} {c d : HL} {cs : List HL} (h : Holds E w ((c ++ d) :: cs)) : Holds E w (c :: d :: cs) :=
  ⟨h.os, h.tape, h.out, h.dr, by simpa using h.nd, by simpa using h.mem⟩
theorem Holds.nil {E : Env} {w : World} {cs : List HL} (h : Holds E w cs) : Holds E w ([] :: cs) := ⟨h.os, h.tape, h.out, h.dr, by simpa using h.nd, by simpa using h.mem⟩
theorem Holds.unnil {E : Env} {w : World} {cs : List HL} (h : Holds E w ([] :: cs)) : Holds E w cs := h.drop

theorem Holds.drew {E : Env} {w : World} {cs : List HL} (h : Holds E w cs) (n : Nat) (hn : w.drawn ≤ n := by exact Nat.le_add_right _ _) : Holds E { w with drawn := n } cs := ⟨h.os, h.tape, h.out, Nat.le_trans h.dr hn, h.nd, h.mem⟩

/-- One block of cells, none of them frozen. -/
abbrev blk (b : Nat) (cs : List Value) (T : TypeId) : Nat × Obj := (b, .cells cs.toArray T (0, 0))

theorem Holds.fresh {E : Env} {w : World} {cs : List HL} (h : Holds E w cs) : ∀ p ∈ cs.flatten, p.1 ≠ w.heap.size := by
  intro p hp e
  have := (Array.getElem?_eq_some_iff.1 (h.mem p hp)).1
  omega

/-- A new block. -/
theorem Holds.alloc {E : Env} {w : World} {cs : List HL} (h : Holds E w cs) (o : Obj) : Holds E { w with heap := w.heap.push o } ([(w.heap.size, o)] :: cs) := by
  refine ⟨h.os, h.tape, h.out, h.dr, ?_, ?_⟩
  · simp only [List.flatten_cons, List.singleton_append, List.map_cons, List.nodup_cons]
    refine ⟨fun hm => ?_, h.nd⟩
    obtain ⟨p, hp, e⟩ := List.mem_map.1 hm
    exact h.fresh p hp e
  · intro p hp
    simp only [List.flatten_cons, List.singleton_append, List.mem_cons] at hp
    rcases hp with rfl | hp
    · simp
    · have hne := h.fresh p hp
      show (w.heap.push o)[p.1]? = some p.2
      rw [Array.getElem?_push, if_neg hne]
      exact h.mem p hp

/-- A cell is written. -/
theorem Holds.set {E : Env} {w : World} {cs : List HL} {b i : Nat} {c : List Value} {T : TypeId} (h : Holds E w ([blk b c T] :: cs)) (v : Value) : Holds E (w.setCell ⟨b, i, none⟩ v) ([blk b (c.set i v) T] :: cs) := by
  have hnd := h.nd
  refine ⟨h.os, h.tape, h.out, h.dr, by simpa using hnd, ?_⟩
  intro p hp
  simp only [List.flatten_cons, List.singleton_append, List.mem_cons] at hp
  simp only [World.setCell, Array.getElem?_modify]
  rcases hp with rfl | hp
  · have := h.mem (blk b c T) (by simp)
    simp only at this
    simp [this]
  · have hb : b ≠ p.1 := by
      simp only [List.flatten_cons, List.singleton_append, List.map_cons, List.nodup_cons] at hnd
      exact fun e => hnd.1 (List.mem_map.2 ⟨p, hp, e.symm⟩)
    rw [if_neg hb]
    exact h.mem p (by simp [hp])

theorem Has.cell {cs : List HL} {w : World} (h : Has cs w) {b i : Nat} {c : List Value} {T : TypeId} {v : Value} {fz : Nat × Nat} (hm : (b, Obj.cells c.toArray T fz) ∈ cs.flatten) (hc : c[i]? = some v) : w.cell? ⟨b, i, none⟩ = some v := by
  have := h _ hm
  simp only at this
  simp [World.cell?, this, hc]

/-! ### Steps that compute -/
/-- In every world that meets S the operation comes to v and changes nothing. -/
def Runs (P : Program) (S : World → Prop) (a : Act) (o : Oper) (v : Value) : Prop := ∀ w, S w → (execOp a.eval o).run P w = .ok (.value v) w

section
variable {P : Program} {l : List Oper} {Q : Exit → Act → World → Prop} {dr : Bool} {S : World → Prop} {a : Act} {w : World} {N : Nat} {σ : List (Nat × Value)} {i d : Nat} {r : Plan} {o : Oper} {v : Value}

theorem getq {l : List Oper} {i : Nat} {o : Oper} (h : nth l i = some o) : l.toArray[i]? = some o := by rw [nth_eq] at h; simpa using h

def gv (c : Bool) (v : Value) : Value := if c then v else undef

/-- An operation that yields a value. -/
theorem ys (hf : Fr a N σ) (hi : nth l i = some o) (hg : o.guard = none) (hd : o.dst = some d) (hn : Nat.blt d N = true) (hr : Runs P S a o v)
    (k : Fr (a.put o.dst v) N ((d, v) :: σ) → planWp P l.toArray Q dr S r (a.put o.dst v) w) : planWp P l.toArray Q dr S (.y i r) a w :=
  ⟨o, v, getq hi, .inl ⟨by simp [Region.wanted, hg], hr⟩, k (by rw [hd]; exact hf.put hn)⟩


/-- Does a slot's value ask for it? -/
def wantB (u : Value) (want : Bool) : Bool := match u with | .bool b => b == want | _ => false
theorem wantB_gv (c b want : Bool) : wantB (gv c (.bool b)) want = (c && (b == want)) := by cases c <;> rfl
theorem wantB_at {a : Act} {j t : Nat} {oj : Oper} {u : Value} {want : Bool} (hf : Fr a N σ) (hj : nth l j = some oj) (ht : oj.dst = some t) (hc : look σ t = some u) : (yielded l.toArray a.tmps j == some want) = wantB u want := by
  unfold yielded
  rw [getq hj]
  simp only [Option.bind_some, ht, hf.has _ _ hc]
  cases u <;> simp [wantB]
/-- An operation under a guard that yields a value. -/
theorem yg {j t : Nat} {oj : Oper} {c want : Bool} {u : Value} (hf : Fr a N σ) (hi : nth l i = some o) (hg : o.guard = some (j, want)) (hj : nth l j = some oj) (ht : oj.dst = some t) (hc : look σ t = some u) (hw : wantB u want = c)
    (hd : o.dst = some d) (hn : Nat.blt d N = true) (hr : c = true → Runs P S a o v)
    (k : Fr (a.put o.dst (gv c v)) N ((d, gv c v) :: σ) → planWp P l.toArray Q dr S r (a.put o.dst (gv c v)) w) : planWp P l.toArray Q dr S (.y i r) a w := by
  have hy := wantB_at (want := want) hf hj ht hc
  rw [hw] at hy
  refine ⟨o, gv c v, getq hi, ?_, k (by rw [hd]; exact hf.put hn)⟩
  cases c
  · exact .inr ⟨by simp only [Region.wanted, hg, hy], rfl⟩
  · exact .inl ⟨by simp only [Region.wanted, hg, hy], hr rfl⟩

/-! moves -/
variable {ty : TypeId} {pos : String} {af : Array Edge} {g : Option (Nat × Bool)} {dst : Option Tmp}
theorem rMv {x : Operand} (hf : Fr a N σ) (hx : ev σ x = some v) : Runs P S a ⟨dst, .move x, ty, pos, af, g⟩ v := fun w _ => by
  show Result.ok _ _ = _; rw [hf.ev hx]
theorem rAs {x : Operand} (hf : Fr a N σ) (hx : ev σ x = some v) : Runs P S a ⟨dst, .assign x, ty, pos, af, g⟩ v := fun w _ => by
  show Result.ok _ _ = _; rw [hf.ev hx]
theorem rPick {c x y : Operand} {b : Bool} {v1 v2 : Value} (hf : Fr a N σ) (hc : ev σ c = some (.bool b)) (hx : ev σ x = some v1) (hy : ev σ y = some v2) : Runs P S a ⟨dst, .pick c x y, ty, pos, af, g⟩ (if b then v1 else v2) := fun w _ => by
  simp only [execOp, hf.ev hc, hf.ev hx, hf.ev hy, asBool]; rfl
theorem rOr {c x y : Operand} {p q : Bool} (hf : Fr a N σ) (hc : ev σ c = some (.bool p)) (hx : ev σ x = some (.bool true)) (hy : ev σ y = some (gv (p == false) (.bool q))) : Runs P S a ⟨dst, .pick c x y, ty, pos, af, g⟩ (.bool (p || q)) := fun w _ => by
  simp only [execOp, hf.ev hc, hf.ev hx, hf.ev hy, asBool]; cases p <;> rfl
theorem rAnd {c x y : Operand} {p q : Bool} (hf : Fr a N σ) (hc : ev σ c = some (.bool p)) (hx : ev σ x = some (gv (p == true) (.bool q))) (hy : ev σ y = some (.bool false)) : Runs P S a ⟨dst, .pick c x y, ty, pos, af, g⟩ (.bool (p && q)) := fun w _ => by
  simp only [execOp, hf.ev hc, hf.ev hx, hf.ev hy, asBool]; cases p <;> rfl
theorem rExt {x : Operand} {k : Nat} {vs : List Value} (hf : Fr a N σ) (hx : ev σ x = some (.tuple vs.toArray)) (hk : nth vs k = some v) : Runs P S a ⟨dst, .extract x k, ty, pos, af, g⟩ v := fun w _ => by
  rw [nth_eq] at hk
  simp only [execOp, hf.ev hx, Instr.extract]
  simp only [List.getElem?_toArray, hk]
  rfl
theorem rNil {x : Operand} {ad : Addr} (hf : Fr a N σ) (hx : ev σ x = some (.pointer (some ad))) : Runs P S a ⟨dst, .nilCheck x, ty, pos, af, g⟩ (.pointer (some ad)) := fun w _ => by
  simp only [execOp, hf.ev hx]; rfl
theorem rNot {t : TypeId} {x : Operand} {b : Bool} (hf : Fr a N σ) (hx : ev σ x = some (.bool b)) : Runs P S a ⟨dst, .unOp .not t x, ty, pos, af, g⟩ (.bool (!b)) := fun w _ => by
  simp only [execOp, hf.ev hx, Op.unary]; rfl
theorem rNeg {t : TypeId} {x : Operand} {k : IntKind} {n : Int} (hf : Fr a N σ) (hx : ev σ x = some (.int k n)) : Runs P S a ⟨dst, .unOp .neg t x, ty, pos, af, g⟩ (.int k (k.wrap (0 - n))) := fun w _ => by
  simp only [execOp, hf.ev hx, Op.unary]; rfl

/-! whole numbers -/
def arith (op : BinOp) (k : IntKind) (x y : Int) : Option Value :=
  match op with
  | .add => some (.int k (k.wrap (x + y)))
  | .sub => some (.int k (k.wrap (x - y)))
  | .mul => some (.int k (k.wrap (x * y)))
  | .and => some (.int k (k.wrap ((BitVec.ofInt k.bits x &&& BitVec.ofInt k.bits y).toNat)))
  | .or => some (.int k (k.wrap ((BitVec.ofInt k.bits x ||| BitVec.ofInt k.bits y).toNat)))
  | .xor => some (.int k (k.wrap ((BitVec.ofInt k.bits x ^^^ BitVec.ofInt k.bits y).toNat)))
  | .eql => some (.bool (x == y))
  | .neq => some (.bool (x != y))
  | .lss => some (.bool (decide (x < y)))
  | .leq => some (.bool (decide (x ≤ y)))
  | .gtr => some (.bool (decide (x > y)))
  | .geq => some (.bool (decide (x ≥ y)))
  | _ => none
theorem rInt {op : BinOp} {t u : TypeId} {x y : Operand} {k : IntKind} {m n : Int} (hf : Fr a N σ) (hx : ev σ x = some (.int k m)) (hy : ev σ y = some (.int k n)) (hv : arith op k m n = some v) : Runs P S a ⟨dst, .binOp op t x y u, ty, pos, af, g⟩ v := fun w _ => by
  simp only [execOp, hf.ev hx, hf.ev hy]
  cases op <;> simp only [arith, Option.some.injEq, reduceCtorEq] at hv <;> subst hv <;>
    simp only [eqGuard, binOp, ne_eq, not_true_eq_false, if_false, Op.intArith, Op.intBits, Op.intCmp] <;> rfl
theorem rQuo {t u : TypeId} {x y : Operand} {k : IntKind} {m n : Int} (hf : Fr a N σ) (hx : ev σ x = some (.int k m)) (hy : ev σ y = some (.int k n)) (hn : n ≠ 0) : Runs P S a ⟨dst, .binOp .quo t x y u, ty, pos, af, g⟩ (.int k (k.wrap (m.tdiv n))) := fun w _ => by
  simp only [execOp, hf.ev hx, hf.ev hy, eqGuard, binOp, ne_eq, not_true_eq_false, if_false, Op.intDiv, hn]; rfl
theorem rRem {t u : TypeId} {x y : Operand} {k : IntKind} {m n : Int} (hf : Fr a N σ) (hx : ev σ x = some (.int k m)) (hy : ev σ y = some (.int k n)) (hn : n ≠ 0) : Runs P S a ⟨dst, .binOp .rem t x y u, ty, pos, af, g⟩ (.int k (m.tmod n)) := fun w _ => by
  simp only [execOp, hf.ev hx, hf.ev hy, eqGuard, binOp, ne_eq, not_true_eq_false, if_false, Op.intDiv, hn]; rfl
theorem rShl {t u : TypeId} {x y : Operand} {k k' : IntKind} {m n : Int} (hf : Fr a N σ) (hx : ev σ x = some (.int k m)) (hy : ev σ y = some (.int k' n)) (hn : 0 ≤ n) : Runs P S a ⟨dst, .binOp .shl t x y u, ty, pos, af, g⟩ (.int k (k.wrap (m * 2 ^ (min n.toNat k.bits)))) := fun w _ => by
  have h' : ¬ n < 0 := by omega
  simp only [execOp, hf.ev hx, hf.ev hy, eqGuard, binOp, Op.shift, h', if_false]; rfl
theorem rShr {t u : TypeId} {x y : Operand} {k k' : IntKind} {m n : Int} (hf : Fr a N σ) (hx : ev σ x = some (.int k m)) (hy : ev σ y = some (.int k' n)) (hn : 0 ≤ n) : Runs P S a ⟨dst, .binOp .shr t x y u, ty, pos, af, g⟩ (.int k (m.fdiv (2 ^ (min n.toNat k.bits)))) := fun w _ => by
  have h' : ¬ n < 0 := by omega
  simp only [execOp, hf.ev hx, hf.ev hy, eqGuard, binOp, Op.shift, h', if_false]; rfl
theorem rMin {x y : Operand} {ts : Array TypeId} {k : IntKind} {m n : Int} (hf : Fr a N σ) (hx : ev σ x = some (.int k m)) (hy : ev σ y = some (.int k n)) : Runs P S a ⟨dst, .call ⟨.builtin .min, #[x, y], ts⟩, ty, pos, af, g⟩ (.int k (min m n)) := fun w _ => by
  have e : (if n < m then n else m) = min m n := by split <;> omega
  simp only [execOp, resolve, List.map_toArray, List.map_cons, List.map_nil, hf.ev hx, hf.ev hy]
  rw [← e]; rfl
theorem rMax {x y : Operand} {ts : Array TypeId} {k : IntKind} {m n : Int} (hf : Fr a N σ) (hx : ev σ x = some (.int k m)) (hy : ev σ y = some (.int k n)) : Runs P S a ⟨dst, .call ⟨.builtin .max, #[x, y], ts⟩, ty, pos, af, g⟩ (.int k (max m n)) := fun w _ => by
  have e : (if n > m then n else m) = max m n := by split <;> omega
  simp only [execOp, resolve, List.map_toArray, List.map_cons, List.map_nil, hf.ev hx, hf.ev hy]
  rw [← e]; rfl

/-! types -/
def isInt (P : Program) (t : TypeId) (k : IntKind) : Bool := match P.underlying t with | some (.int k') => k == k' | _ => false
theorem underlying_run {t : TypeId} {D : TypeDesc} {w : World} {β : Type} {f : TypeDesc → Sem β} (h : P.underlying t = some D) : (underlying t >>= f).run P w = (f D).run P w := by
  show (Sem.bind (underlying t) f).run P w = _
  unfold underlying
  show ((match P.underlying t with | some d => (pure d : Sem TypeDesc) | none => stuck "no such type").bind f).run P w = _
  rw [h]; rfl
end
end Go.BK
