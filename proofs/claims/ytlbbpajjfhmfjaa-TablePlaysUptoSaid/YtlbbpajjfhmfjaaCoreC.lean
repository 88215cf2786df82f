/- Core C: the steps of a walk that reckon addresses, read, write, make memory and call. Own work for this claim. -/
import Derived.Test.YtlbbpajjfhmfjaaCoreB
import Derived.Laws.World
namespace Go.BK

abbrev ptr (b o : Nat) : Value := .pointer (some ⟨b, o, none⟩)
theorem add_ptr (b o n : Nat) : (⟨b, o, none⟩ : Addr).add n = ⟨b, o + n, none⟩ := by
  unfold Addr.add; split <;> simp_all

/-! ### What types tell -/
def fOff (P : Program) (s i : Nat) : Option Nat :=
  match P.underlying s with
  | some (.struct fs) => match fs[i]? with
    | some f => match P.info? f.type with
      | some t => if t.size = 0 then none else some f.offset
      | none => none
    | none => none
  | _ => none
def aggB (P : Program) (t : Nat) : Option Bool :=
  match P.underlying t with
  | some (.struct _) | some (.array _ _) => some true
  | some _ => some false
  | none => none
def szOf (P : Program) (t : Nat) : Option Nat := (P.info? t).map (·.size)
def sliceEl (P : Program) (t : Nat) : Option (Nat × Nat × Nat) :=   -- element, cells, bytes
  match P.underlying t with
  | some (.slice e) => match P.info? e with
    | some i => some (e, i.size, i.bytes)
    | none => none
  | _ => none
def arrEl (P : Program) (t : Nat) : Option (Nat × Nat × Nat) :=   -- length, element, cells
  match P.underlying t with
  | some (.array n e) => match P.info? e with
    | some i => some (n, e, i.size)
    | none => none
  | _ => none
def zCells (P : Program) (t : Nat) : Option (List Value) := (P.info? t).bind fun i => i.zero.map fun v => v.cells.toList

section
variable {P : Program} {w : World}
theorem und_ok {t : TypeId} {D : TypeDesc} (h : P.underlying t = some D) : (underlying t).run P w = .ok D w := by
  simp only [underlying, Sem.run_bind, run_program, Result.andThen_ok, h, Sem.run_pure]
theorem info_ok {t : TypeId} {I : TypeInfo} (h : P.info? t = some I) : (typeInfo t).run P w = .ok I w := by
  simp only [typeInfo, Sem.run_bind, run_program, Result.andThen_ok, h, Sem.run_pure]
theorem size_ok {t n : Nat} (h : szOf P t = some n) : (sizeOf t).run P w = .ok n w := by
  unfold szOf at h
  cases hi : P.info? t with
  | none => rw [hi] at h; cases h
  | some I =>
    rw [hi] at h
    simp only [Option.map_some, Option.some.injEq] at h
    subst h
    simp only [sizeOf, Sem.run_bind, info_ok hi, Result.andThen_ok, Sem.run_pure]
theorem agg_ok {t : Nat} {b : Bool} (h : aggB P t = some b) : (isAgg t).run P w = .ok b w := by
  unfold aggB at h
  split at h
  · rename_i hu; cases h; simp only [isAgg, Sem.run_bind, und_ok hu, Result.andThen_ok, Sem.run_pure]
  · rename_i hu; cases h; simp only [isAgg, Sem.run_bind, und_ok hu, Result.andThen_ok, Sem.run_pure]
  · rename_i D h1 h2 hu; cases h
    simp only [isAgg, Sem.run_bind, und_ok hu, Result.andThen_ok]
    cases D <;> first | rfl | exact absurd hu (h1 _) | exact absurd hu (h2 _ _)
  · cases h
theorem zero_ok {t : Nat} {zs : List Value} (h : zCells P t = some zs) : ∃ z, (zeroValue t).run P w = .ok z w ∧ z.cells = zs.toArray := by
  unfold zCells at h
  cases hi : P.info? t with
  | none => rw [hi] at h; cases h
  | some I =>
    rw [hi] at h
    simp only [Option.bind_some] at h
    cases hz : I.zero with
    | none => rw [hz] at h; cases h
    | some z =>
      rw [hz] at h
      simp only [Option.map_some, Option.some.injEq] at h
      subst h
      exact ⟨z, by simp only [zeroValue, Sem.run_bind, info_ok hi, Result.andThen_ok, hz, Sem.run_pure], by simp⟩
theorem load_ok {a : Addr} {v : Value} (h : w.cell? a = some v) : (load a).run P w = .ok v w := by simp [h]
end

/-! ### Membership -/
theorem mem0 {cs : List HL} {j : Nat} {p : Nat × Obj} {c : HL} (h : nth cs j = some (p :: c)) : p ∈ cs.flatten := by
  rw [nth_eq] at h
  exact List.mem_flatten.2 ⟨_, List.mem_of_getElem? h, by simp⟩
theorem memV {cs : List HL} {j : Nat} {p : Nat × Obj} {c : HL} (h : nth cs j = some c) (hp : p ∈ c) : p ∈ cs.flatten := by
  rw [nth_eq] at h
  exact List.mem_flatten.2 ⟨_, List.mem_of_getElem? h, hp⟩

/-- Part of a row. -/
def sub (c : List Value) (o n : Nat) : List Value := (c.drop o).take n

theorem run_loads {P : Program} {w : World} (b o : Nat) (c : List Value) (hc : ∀ i v, c[i]? = some v → w.cell? ⟨b, i, none⟩ = some v) : ∀ (n i : Nat) (acc : Array Value) (_ : o + i + n ≤ c.length),
    (loadCellsFrom ⟨b, o, none⟩ i n acc).run P w = .ok (acc ++ (sub c (o + i) n).toArray) w
  | 0, i, acc, _ => by simp [loadCellsFrom, sub]
  | n + 1, i, acc, h => by
    have hlt : o + i < c.length := by omega
    have hcell : w.cell? ((⟨b, o, none⟩ : Addr).add i) = some c[o + i] := by
      rw [add_ptr]; exact hc _ _ (by simp [hlt])
    have ih := run_loads (P := P) b o c hc n (i + 1) (acc.push c[o + i]) (by omega)
    have : sub c (o + i) (n + 1) = c[o + i] :: sub c (o + (i + 1)) n := by
      unfold sub
      rw [List.drop_eq_getElem_cons hlt, List.take_succ_cons]; rfl
    simp only [loadCellsFrom, Sem.run_bind, load_ok hcell, Result.andThen_ok, ih, this]
    simp

section
variable {P : Program} {l : List Oper} {Q : Exit → Act → World → Prop} {dr : Bool} {S : World → Prop} {a : Act} {w : World} {N : Nat} {σ : List (Nat × Value)} {i d : Nat} {r : Plan} {o : Oper} {v : Value}
variable {ty : TypeId} {pos : String} {af : Array Edge} {g : Option (Nat × Bool)} {dst : Option Tmp} {cs : List HL}

/-! ### Addresses -/
theorem rFa {s k b off : Nat} {fi : Nat} {x : Operand} (hf : Fr a N σ) (hx : ev σ x = some (ptr b off)) (h : fOff P s fi = some k) : Runs P S a ⟨dst, .fieldAddr s x fi, ty, pos, af, g⟩ (ptr b (off + k)) := fun w _ => by
  unfold fOff at h
  split at h
  · rename_i fs hu
    split at h
    · rename_i f hfi
      split at h
      · rename_i t ht
        split at h
        · cases h
        · rename_i hsz
          cases h
          have hsz' : szOf P f.type = some t.size := by unfold szOf; rw [ht]; rfl
          simp only [execOp, hf.ev hx, Instr.fieldAt, Sem.run_bind, und_ok hu, Result.andThen_ok, hfi, Instr.sureAddr, fieldPlace, Sem.run_pure, size_ok hsz', hsz, if_false, add_ptr]
      · cases h
    · cases h
  · cases h

theorem rIx {t e n k b off len cap m : Nat} {x y : Operand} {ik : IntKind} {iv : Int} (hf : Fr a N σ) (hx : ev σ x = some (.slice (some ⟨b, off, none⟩) len cap)) (hy : ev σ y = some (.int ik iv)) (h : sliceEl P t = some (e, n, k))
    (h0 : 0 ≤ iv) (h1 : iv < len) (hm : m = off + iv.toNat * n) : Runs P S a ⟨dst, .indexAddr t x y, ty, pos, af, g⟩ (ptr b m) := fun w _ => by
  subst hm
  unfold sliceEl at h
  split at h
  · rename_i e' hu
    split at h
    · rename_i I hI
      cases h
      have hsz : szOf P e = some I.size := by unfold szOf; rw [hI]; rfl
      have hh : 0 ≤ iv ∧ iv < len := ⟨h0, h1⟩
      simp only [execOp, hf.ev hx, hf.ev hy, Instr.indexAt, Sem.run_bind, und_ok hu, Result.andThen_ok, asIntOf, Sem.run_pure, hh, and_self, if_true, size_ok hsz, add_ptr]
    · cases h
  · cases h

theorem rAx {t e n k b off m : Nat} {x y : Operand} {ik : IntKind} {iv : Int} (hf : Fr a N σ) (hx : ev σ x = some (ptr b off)) (hy : ev σ y = some (.int ik iv)) (h : arrEl P t = some (n, e, k))
    (h0 : 0 ≤ iv) (h1 : iv < n) (hm : m = off + iv.toNat * k) : Runs P S a ⟨dst, .indexAddr t x y, ty, pos, af, g⟩ (ptr b m) := fun w _ => by
  subst hm
  unfold arrEl at h
  split at h
  · rename_i n' e' hu
    split at h
    · rename_i I hI
      cases h
      have hsz : szOf P e = some I.size := by unfold szOf; rw [hI]; rfl
      have hh : 0 ≤ iv ∧ iv < n := ⟨h0, h1⟩
      simp only [execOp, hf.ev hx, hf.ev hy, Instr.indexAt, Sem.run_bind, und_ok hu, Result.andThen_ok, asIntOf, Sem.run_pure, Instr.sureAddr, hh, and_self, if_true, size_ok hsz, add_ptr]
    · cases h
  · cases h

/-! ### Loads -/
theorem rLd {t b off : Nat} {x : Operand} {c : List Value} {T : TypeId} {fz : Nat × Nat} (hf : Fr a N σ) (hx : ev σ x = some (ptr b off)) (h : aggB P t = some false) (hm : (b, Obj.cells c.toArray T fz) ∈ cs.flatten) (hc : nth c off = some v) :
    Runs P (Has cs) a ⟨dst, .load t x, ty, pos, af, g⟩ v := fun w hw => by
  rw [nth_eq] at hc
  simp only [execOp, hf.ev hx, Instr.loadAt, loadVar, Instr.sureAddr, Sem.run_bind, Sem.run_pure, Result.andThen_ok, agg_ok h, Bool.false_eq_true, if_false, load_ok (hw.cell hm hc)]
theorem rLs {t b off n : Nat} {x : Operand} {c vs : List Value} {T : TypeId} {fz : Nat × Nat} (hf : Fr a N σ) (hx : ev σ x = some (ptr b off)) (h : aggB P t = some true) (hn : szOf P t = some n) (hm : (b, Obj.cells c.toArray T fz) ∈ cs.flatten)
    (hl : off + n ≤ c.length) (hc : sub c off n = vs) : Runs P (Has cs) a ⟨dst, .load t x, ty, pos, af, g⟩ (.agg vs.toArray) := fun w hw => by
  subst hc
  have hr := run_loads (P := P) (w := w) b off c (fun i v hv => hw.cell hm hv) n 0 #[] (by omega)
  simp only [Array.empty_append, Nat.add_zero] at hr
  simp only [execOp, hf.ev hx, Instr.loadAt, loadVar, Instr.sureAddr, Sem.run_bind, Sem.run_pure, Result.andThen_ok, agg_ok h, if_true, size_ok hn, loadCells, hr]

/-! ### Slices, lengths, conversions -/
theorem rLen {t e n k : Nat} {x : Operand} {ts : Array TypeId} {A : Option Addr} {len cap : Nat} (hf : Fr a N σ) (hx : ev σ x = some (.slice A len cap)) (ht : ts[0]? = some t) (h : sliceEl P t = some (e, n, k)) :
    Runs P S a ⟨dst, .call ⟨.builtin .len, #[x], ts⟩, ty, pos, af, g⟩ (.int .i64 len) := fun w _ => by
  unfold sliceEl at h
  split at h
  · rename_i e' hu
    simp only [execOp, resolve, List.map_toArray, List.map_cons, List.map_nil, hf.ev hx, Sem.run_bind, Sem.run_pure, Result.andThen_ok, invoke, builtin, Builtin.len_, ht, List.getElem?_toArray, List.getElem?_cons_zero, und_ok hu, goInt]
  · cases h
theorem rCap {t e n k : Nat} {x : Operand} {ts : Array TypeId} {A : Option Addr} {len cap : Nat} (hf : Fr a N σ) (hx : ev σ x = some (.slice A len cap)) (ht : ts[0]? = some t) (h : sliceEl P t = some (e, n, k)) :
    Runs P S a ⟨dst, .call ⟨.builtin .cap, #[x], ts⟩, ty, pos, af, g⟩ (.int .i64 cap) := fun w _ => by
  unfold sliceEl at h
  split at h
  · rename_i e' hu
    simp only [execOp, resolve, List.map_toArray, List.map_cons, List.map_nil, hf.ev hx, Sem.run_bind, Sem.run_pure, Result.andThen_ok, invoke, builtin, Builtin.cap_, ht, List.getElem?_toArray, List.getElem?_cons_zero, und_ok hu, goInt]
  · cases h
theorem rConv {s t : Nat} {x : Operand} {k k' : IntKind} {n : Int} (hf : Fr a N σ) (hx : ev σ x = some (.int k n)) (h : isInt P t k' = true) (hs : (P.underlying s).isSome = true) : Runs P S a ⟨dst, .convert s t x, ty, pos, af, g⟩ (.int k' (k'.wrap n)) := fun w _ => by
  unfold isInt at h
  split at h
  · rename_i k2 hu
    have : k' = k2 := by simpa using h
    subst this
    cases hs' : P.underlying s with
    | none => rw [hs'] at hs; cases hs
    | some D => simp only [execOp, hf.ev hx, convert, Sem.run_bind, und_ok hu, und_ok hs', Result.andThen_ok, Conv.intToInt, Sem.run_pure]
  · cases h

def optev (σ : List (Nat × Value)) : Option Operand → Option (Option Value)
  | none => some none
  | some x => (ev σ x).map some
theorem Fr.optev {a : Act} {N : Nat} {σ : List (Nat × Value)} (h : Fr a N σ) {x : Option Operand} {v : Option Value} (hx : optev σ x = some v) : x.map a.eval = v := by
  cases x with
  | none => simpa [BK.optev] using hx
  | some x =>
    simp only [BK.optev, Option.map_eq_some_iff] at hx
    obtain ⟨u, hu, rfl⟩ := hx
    simp [h.ev hu]
/-- A bound of a slice expression: left out, or within. -/
def bIs (dflt most : Nat) : Option Value → Nat → Prop
  | none, m => m = dflt
  | some (.int _ i), m => 0 ≤ i ∧ i ≤ most ∧ m = i.toNat
  | _, _ => False
theorem bIs_run {dflt most m : Nat} {v : Value} {c : BoundsCode} (h : bIs dflt most (some v) m) : (Instr.sliceBound v most c).run P w = .ok m w := by
  cases v <;> simp only [bIs] at h
  obtain ⟨h0, h1, rfl⟩ := h
  have hh := And.intro h0 h1
  simp only [Instr.sliceBound, asIntOf, Sem.run_bind, Sem.run_pure, Result.andThen_ok, hh, and_self, if_true]
theorem bounds_ok {is : Bool} {len cap l h m : Nat} {lo hi mx : Option Value} (hm : bIs cap cap mx m) (hh : bIs len m hi h) (hl : bIs 0 h lo l) (hx : (hi.isSome || mx.isNone) = true) :
    (Instr.sliceBounds is len cap lo hi mx).run P w = .ok (l, h, m) w := by
  cases mx with
  | none =>
    have hm' : m = cap := hm
    subst hm'
    cases hi with
    | none =>
      have hh' : h = len := hh
      subst hh'
      cases lo with
      | none =>
        have hl' : l = 0 := hl
        subst hl'
        simp only [Instr.sliceBounds, Sem.run_bind, Sem.run_pure, Result.andThen_ok]
      | some v => simp only [Instr.sliceBounds, Sem.run_bind, Sem.run_pure, Result.andThen_ok, bIs_run hl]
    | some u =>
      cases lo with
      | none =>
        have hl' : l = 0 := hl
        subst hl'
        simp only [Instr.sliceBounds, Sem.run_bind, Sem.run_pure, Result.andThen_ok, bIs_run hh]
      | some v => simp only [Instr.sliceBounds, Sem.run_bind, Sem.run_pure, Result.andThen_ok, bIs_run hh, bIs_run hl]
  | some z =>
    cases hi with
    | none => simp at hx
    | some u =>
      cases lo with
      | none =>
        have hl' : l = 0 := hl
        subst hl'
        simp only [Instr.sliceBounds, Sem.run_bind, Sem.run_pure, Result.andThen_ok, bIs_run hm, bIs_run hh]
      | some v => simp only [Instr.sliceBounds, Sem.run_bind, Sem.run_pure, Result.andThen_ok, bIs_run hm, bIs_run hh, bIs_run hl]
def slA (A : Option Addr) (m l n : Nat) : Option Addr := if m = l then A else A.map (·.add (l * n))
theorem slA_some {b off m l n : Nat} (h : m ≠ l) : slA (some ⟨b, off, none⟩) m l n = some ⟨b, off + l * n, none⟩ := by simp [slA, h, add_ptr]
theorem rSl {t e n k : Nat} {x : Operand} {lo hi mx : Option Operand} {A : Option Addr} {len cap l' h' m' : Nat} {vlo vhi vmx : Option Value} (hf : Fr a N σ) (hx : ev σ x = some (.slice A len cap)) (ht : sliceEl P t = some (e, n, k))
    (hlo : optev σ lo = some vlo) (hhi : optev σ hi = some vhi) (hmx : optev σ mx = some vmx) (hm : bIs cap cap vmx m') (hh : bIs len m' vhi h') (hl : bIs 0 h' vlo l') (hc : (vhi.isSome || vmx.isNone) = true) :
    Runs P S a ⟨dst, .slice t x lo hi mx, ty, pos, af, g⟩ (.slice (slA A m' l' n) (h' - l') (m' - l')) := fun w _ => by
  unfold sliceEl at ht
  split at ht
  · rename_i e' hu
    split at ht
    · rename_i I hI
      cases ht
      have hsz : szOf P e = some I.size := by unfold szOf; rw [hI]; rfl
      simp only [execOp, hf.ev hx, hf.optev hlo, hf.optev hhi, hf.optev hmx, Instr.sliceAt, Instr.slice, Sem.run_bind, und_ok hu, Result.andThen_ok, bounds_ok hm hh hl hc, size_ok hsz, Sem.run_pure, slA]
    · cases ht
  · cases ht
theorem rSa {t e n k b off : Nat} {x : Operand} {lo hi mx : Option Operand} {l' h' m' : Nat} {vlo vhi vmx : Option Value} (hf : Fr a N σ) (hx : ev σ x = some (ptr b off)) (ht : arrEl P t = some (n, e, k))
    (hlo : optev σ lo = some vlo) (hhi : optev σ hi = some vhi) (hmx : optev σ mx = some vmx) (hm : bIs n n vmx m') (hh : bIs n m' vhi h') (hl : bIs 0 h' vlo l') (hc : (vhi.isSome || vmx.isNone) = true) :
    Runs P S a ⟨dst, .slice t x lo hi mx, ty, pos, af, g⟩ (.slice (slA (some ⟨b, off, none⟩) m' l' k) (h' - l') (m' - l')) := fun w _ => by
  unfold arrEl at ht
  split at ht
  · rename_i n' e' hu
    split at ht
    · rename_i I hI
      cases ht
      have hsz : szOf P e = some I.size := by unfold szOf; rw [hI]; rfl
      have e2 : (some (if m' = l' then (⟨b, off, none⟩ : Addr) else (⟨b, off, none⟩ : Addr).add (l' * I.size))) = slA (some ⟨b, off, none⟩) m' l' I.size := by
        unfold slA; split <;> rfl
      simp only [execOp, hf.ev hx, hf.optev hlo, hf.optev hhi, hf.optev hmx, Instr.sliceAt, Instr.sureAddr, Sem.run_bind, und_ok hu, Result.andThen_ok, bounds_ok hm hh hl hc, size_ok hsz, Sem.run_pure, e2]
    · cases ht
  · cases ht
/-! pointers against nil -/
theorem eqIn {t e : Nat} {D : Nat} {A B : Option Addr} {w : World} (ht : P.underlying t = some (.pointer e)) (hA : A = none ∨ B = none) : (Op.equalIn (D + 1) t (.pointer A) (.pointer B)).run P w = .ok (A.isNone && B.isNone) w := by
  rcases hA with rfl | rfl
  · simp only [Op.equalIn, Sem.run_bind, Sem.run_pure, Result.andThen_ok, und_ok ht, Option.isNone_none, Bool.true_and]
  · cases A <;> simp only [Op.equalIn, Sem.run_bind, Sem.run_pure, Result.andThen_ok, und_ok ht, Option.isNone_none, Bool.true_and, Option.isNone_some, Bool.false_and]
theorem eqP {t e : Nat} {A : Option Addr} {w : World} (ht : P.underlying t = some (.pointer e)) : (Op.equal t (.pointer A) (.pointer none)).run P w = .ok A.isNone w := by
  show (Op.equalIn (9999 + 1) t (.pointer A) (.pointer none)).run P w = _
  rw [eqIn ht (.inr rfl)]
  simp
theorem rPe {t e : Nat} {u : TypeId} {x y : Operand} {A : Option Addr} (hf : Fr a N σ) (hx : ev σ x = some (.pointer A)) (hy : ev σ y = some (.pointer none)) (ht : P.underlying t = some (.pointer e)) : Runs P S a ⟨dst, .binOp .eql t x y u, ty, pos, af, g⟩ (.bool A.isNone) := fun w _ => by
  simp only [execOp, hf.ev hx, hf.ev hy, eqGuard, binOp, Sem.run_bind, Sem.run_pure, Result.andThen_ok, eqP ht]
  simp
theorem rPu {t e : Nat} {u : TypeId} {x y : Operand} {A : Option Addr} (hf : Fr a N σ) (hx : ev σ x = some (.pointer A)) (hy : ev σ y = some (.pointer none)) (ht : P.underlying t = some (.pointer e)) : Runs P S a ⟨dst, .binOp .neq t x y u, ty, pos, af, g⟩ (.bool (!A.isNone)) := fun w _ => by
  simp only [execOp, hf.ev hx, hf.ev hy, eqGuard, binOp, Sem.run_bind, Sem.run_pure, Result.andThen_ok, eqP ht]
  simp
end
end Go.BK
