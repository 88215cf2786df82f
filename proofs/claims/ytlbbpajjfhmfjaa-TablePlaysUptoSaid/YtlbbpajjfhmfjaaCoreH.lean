/- Core H: structs and slices that are built, append, equality of structs. Own work for this claim. -/
import Derived.Test.YtlbbpajjfhmfjaaCoreG
import Derived.Laws.Tables
import Derived.Laws.Append
namespace Go.BK
theorem Rd.cells {α : Type} {P : Program} {C : HL} {enc : α → List Value} {k : Nat} {u : Value} {ys : List α} {w : World} {cs : List HL} (h : Rd C enc u ys) (hk : ∀ x, (enc x).length = k) (hw : Has cs w) (hC : C ∈ cs) :
    ∃ A cap, u = .slice A ys.length cap ∧ (Builtin.firstCells k ys.length u).run P w = .ok (ys.flatMap enc).toArray w ∧
      (ys ≠ [] → ∃ ad, A = some ad ∧ ∀ j v, (ys.flatMap enc)[j]? = some v → w.cell? (ad.add j) = some v) := by
  obtain ⟨A, cap, rfl, _, _, h4⟩ := h
  refine ⟨A, cap, rfl, ?_⟩
  rcases h4 with rfl | ⟨b, pre, post, T, fz, rfl, hm⟩
  · refine ⟨?_, fun h => absurd rfl h⟩
    cases A with
    | none => simp [Builtin.firstCells]
    | some ad => simp [Builtin.firstCells, loadCells, loadCellsFrom]
  · have hc : ∀ j v, (ys.flatMap enc)[j]? = some v → w.cell? ((⟨b, pre.length, none⟩ : Addr).add j) = some v := by
      intro j v hj
      rw [add_ptr]
      refine hw.cell (List.mem_flatten.2 ⟨C, hC, hm⟩) ?_
      rw [List.append_assoc, List.getElem?_append_right (by omega), Nat.add_sub_cancel_left, List.getElem?_append_left (List.getElem?_eq_some_iff.1 hj).1]
      exact hj
    exact ⟨run_firstCells_some w k ys.length _ _ _ _ (by rw [flat_length hk]) hc, fun _ => ⟨_, rfl, hc⟩⟩
theorem zero_len (zs : List Value) (n : Nat) : (Builtin.zeroCells zs.toArray n).size = n * zs.length := by simp [Builtin.zeroCells]
/-- What is appended, and where it lies then. -/
theorem append_ok {α : Type} {P : Program} {E : Env} {enc : α → List Value} {k T by_ t ty : Nat} {v u : Value} {xs ys : List α} {c C : HL} {cs : List HL} {w : World} {zs : List Value} (hO : Ow enc k T v xs c) (hR : Rd C enc u ys) (hC : C ∈ cs)
    (hk : ∀ x, (enc x).length = k) (h1 : ∀ x, (enc x).all Value.oneCell' = true) (ht : sliceEl P t = some (T, k, by_)) (hz : zCells P T = some zs) (hzl : zs.length = k) (hby : Nat.blt 0 by_ = true) (hH : Holds E w (c :: cs)) (hb : (xs.length + ys.length) * by_ ≤ 140737488355328) :
    ∃ v' c' w', (Builtin.append_ #[t, t] ty #[v, u]).run P w = .ok v' w' ∧ Ow enc k T v' (xs ++ ys) c' ∧ Holds E w' (c' :: cs) := by
  have hby' : 0 < by_ := by simpa [Nat.blt_eq] using hby
  have hlen : xs.length + ys.length ≤ 140737488355328 := Nat.le_trans (Nat.le_mul_of_pos_right _ hby') hb
  unfold sliceEl at ht
  split at ht
  case h_2 => cases ht
  rename_i e hu
  split at ht
  case h_2 => cases ht
  rename_i I hI
  cases ht
  obtain ⟨z, hz1, hz2⟩ : ∃ z, I.zero = some z ∧ z.cells = zs.toArray := by
    unfold zCells at hz
    rw [hI] at hz
    simp only [Option.bind_some] at hz
    cases hzo : I.zero with
    | none => rw [hzo] at hz; cases hz
    | some z => rw [hzo] at hz; simp at hz; exact ⟨z, rfl, by rw [← hz]⟩
  obtain ⟨A, ucap, rfl, hfirst, hcells⟩ := hR.cells (P := P) hk hH.has (List.mem_cons_of_mem _ hC)
  have hsz : szOf P T = some I.size := by unfold szOf; rw [hI]; rfl
  have h1' : ∀ q ∈ ys.flatMap enc, q.oneCell' = true := by
    intro q hq
    obtain ⟨y, hy, hq⟩ := List.mem_flatMap.1 hq
    exact List.all_eq_true.1 (h1 y) q hq
  -- the value, in one form
  obtain ⟨B, cap, hv, hle, hroomy⟩ : ∃ B cap, v = .slice B xs.length cap ∧ xs.length ≤ cap ∧
      (∀ n, xs.length + n ≤ cap → n = 0 ∨ ∃ b pre post, B = some ⟨b, pre.length, none⟩ ∧ c = [blk b (pre ++ xs.flatMap enc ++ post) T] ∧ n * I.size ≤ post.length ∧ (cap - xs.length) * I.size ≤ post.length) := by
    rcases hO with ⟨rfl, rfl, rfl⟩ | ⟨b, pre, post, cap, rfl, rfl, h2, h3, h4⟩
    · exact ⟨none, 0, by simp, by simp, fun n hn => .inl (by simp at hn; omega)⟩
    · refine ⟨_, cap, rfl, h2, fun n hn => .inr ⟨b, pre, post, rfl, rfl, Nat.le_trans (Nat.mul_le_mul_right _ (by omega)) h4, h4⟩⟩
  by_cases hroom : xs.length + ys.length ≤ cap
  · -- there is room
    rcases hroomy _ hroom with h0 | ⟨b, pre, post, rfl, rfl, hp, hp2⟩
    · obtain rfl : ys = [] := List.eq_nil_of_length_eq_zero h0
      subst hv
      refine ⟨_, c, w, ?_, by simpa using hO, hH⟩
      have hf : (Builtin.firstCells I.size 0 (.slice A 0 ucap)).run P w = .ok #[] w := by simpa using hfirst
      have hle' : xs.length + 0 ≤ cap := hle
      cases B with
      | none => simp [Builtin.append_, und_ok hu, size_ok hsz, Builtin.lenOf, hle, hf]
      | some ad => simp [Builtin.append_, und_ok hu, size_ok hsz, Builtin.lenOf, hle, hf, storeCells]
    · subst hv
      have hst := stores_ok (P := P) (o := pre.length + xs.length * I.size) (ys.flatMap enc) 0 (pre ++ xs.flatMap enc ++ post) w hH h1' (by simp [flat_length hk]; omega)
      obtain ⟨w', hr, hh⟩ := hst
      refine ⟨_, _, w', ?_, .inr ⟨b, pre, post.drop (ys.length * I.size), cap, rfl, rfl, by simpa using hroom, by simpa using hlen, ?_⟩, ?_⟩
      · simp [Builtin.append_, und_ok hu, size_ok hsz, Builtin.lenOf, hroom, hfirst, add_ptr, hr]
      · simp only [List.length_append, List.length_drop]
        rw [Nat.sub_add_eq, Nat.sub_mul]
        omega
      · have e1 : putAt (pre ++ xs.flatMap enc ++ post) (pre.length + xs.length * I.size + 0) (ys.flatMap enc) = pre ++ (xs ++ ys).flatMap enc ++ post.drop (ys.length * I.size) := by
          unfold putAt
          have e2 : pre.length + xs.length * I.size + 0 = (pre ++ xs.flatMap enc).length := by simp [flat_length hk]
          rw [e2, List.take_left, flat_length hk, List.drop_append]
          rw [List.drop_of_length_le (by omega)]
          simp
        rw [e1] at hh
        exact hh
  · -- it grows
    have hgrow : cap < xs.length + ys.length := by omega
    have hne : ys ≠ [] := by rintro rfl; simp at hgrow; omega
    obtain ⟨ad, rfl, hcs⟩ := hcells hne
    have hypos : 0 < ys.length := List.length_pos_iff.2 hne
    have fin_ : ∀ (w1 : World) (g : Nat), Holds E w1 (c :: cs) → xs.length + ys.length ≤ g →
        ∃ c', Ow enc I.size T (.slice (some ⟨w1.heap.size, 0, none⟩) (xs.length + ys.length) g) (xs ++ ys) c' ∧
          Holds E (w1.alloc (.cells ((xs.flatMap enc).toArray ++ (ys.flatMap enc).toArray ++ Builtin.zeroCells z.cells (g - (xs.length + ys.length))) T)) (c' :: cs) := by
      intro w1 g hH1 hg
      refine ⟨[blk w1.heap.size ([] ++ (xs ++ ys).flatMap enc ++ (Builtin.zeroCells z.cells (g - (xs.length + ys.length))).toList) T], .inr ⟨_, [], _, g, by simp, rfl, by simpa using hg, by simpa using hlen, ?_⟩, ?_⟩
      · rw [hz2]; simp [zero_len, hzl]
      · have := (hH1.drop).alloc (.cells ((xs.flatMap enc).toArray ++ (ys.flatMap enc).toArray ++ Builtin.zeroCells z.cells (g - (xs.length + ys.length))) T)
        have e3 : blk w1.heap.size ([] ++ (xs ++ ys).flatMap enc ++ (Builtin.zeroCells z.cells (g - (xs.length + ys.length))).toList) T = (w1.heap.size, Obj.cells ((xs.flatMap enc).toArray ++ (ys.flatMap enc).toArray ++ Builtin.zeroCells z.cells (g - (xs.length + ys.length))) T) := by
          simp [blk]
        rw [e3]
        exact this
    have hcut : ∀ need old, need ≤ grownCap w need old T ∨ 9223372036854775808 ≤ need := by
      intro need old
      unfold grownCap Question.cut
      exact .inl (Nat.le_add_right _ _)
    rcases hO with ⟨rfl, rfl, rfl⟩ | ⟨b, pre, post, cap', rfl, rfl, h2, h3, h4⟩
    · injection hv with hv1 hv2 hv3
      subst hv3
      have hr := run_append_nil (P := P) w t ty T I z hu hI hz1 ad ys.length ucap (ys.flatMap enc) (flat_length hk ys) hcs hypos (by omega) (by simp at hb; omega)
      obtain ⟨c', hO', hH'⟩ := fin_ w.drew (grownCap w ys.length 0 T) (hH.drew _) (by simpa using (hcut ys.length 0).resolve_right (by omega))
      refine ⟨_, c', _, ?_, hO', hH'⟩
      simpa using hr
    · injection hv with hv1 hv2 hv3
      subst hv3
      have hmem : ∀ j q, (xs.flatMap enc)[j]? = some q → w.cell? ((⟨b, pre.length, none⟩ : Addr).add j) = some q := by
        intro j q hj
        rw [add_ptr]
        refine hH.has.cell (T := T) (fz := (0, 0)) (c := pre ++ xs.flatMap enc ++ post) (by simp) ?_
        rw [List.append_assoc, List.getElem?_append_right (by omega), Nat.add_sub_cancel_left, List.getElem?_append_left (List.getElem?_eq_some_iff.1 hj).1]
        exact hj
      have hr := run_append_grow (P := P) w t ty T I z hu hI hz1 ⟨b, pre.length, none⟩ xs.length cap' (xs.flatMap enc) (flat_length hk xs) hmem ad ys.length ucap (ys.flatMap enc) (flat_length hk ys) hcs hgrow (by omega) (growslice_fits hgrow hb)
      obtain ⟨c', hO', hH'⟩ := fin_ w.drew (grownCap w (xs.length + ys.length) cap' T) (hH.drew _) ((hcut _ _).resolve_right (by omega))
      exact ⟨_, c', _, hr, hO', hH'⟩
section
variable {P : Program} {l : List Oper} {Q : Exit → Act → World → Prop} {dr : Bool} {S : World → Prop} {a : Act} {w : World} {N : Nat} {σ : List (Nat × Value)} {i d : Nat} {r : Plan} {o : Oper} {v : Value}
variable {ty : TypeId} {pos : String} {af : Array Edge} {g : Option (Nat × Bool)} {dst : Option Tmp} {cs cs' : List HL} {E : Env}
def evps (σ : List (Nat × Value)) : List (Nat × Operand) → Option (List (Nat × Value))
  | [] => some []
  | (i, x) :: r => match ev σ x, evps σ r with
    | some v, some vs => some ((i, v) :: vs)
    | _, _ => none
theorem Fr.evps (h : Fr a N σ) : ∀ {xs : List (Nat × Operand)} {vs : List (Nat × Value)}, evps σ xs = some vs → (xs.map fun (i, x) => (i, a.eval x)) = vs
  | [], vs, hx => by simpa [BK.evps] using hx
  | (i, x) :: r, vs, hx => by
    simp only [BK.evps] at hx
    split at hx
    · rename_i v vs' hv hvs
      cases hx
      simp [h.ev hv, Fr.evps h hvs]
    · cases hx
/-- A struct or an array put together. -/
theorem rBld {t : Nat} {parts : List (Nat × Operand)} {pv : List (Nat × Value)} {vs : List Value} (hf : Fr a N σ) (hp : evps σ parts = some pv) (hb : P.built t pv = some vs.toArray) : Runs P S a ⟨dst, .build t parts.toArray, ty, pos, af, g⟩ (.agg vs.toArray) := fun w _ => by
  have h1 : (parts.toArray.map fun (i, x) => (i, a.eval x)) = pv.toArray := by
    rw [List.map_toArray, hf.evps hp]
  simp only [execOp, h1, Sem.run_bind, run_build w t pv.toArray vs.toArray (by simpa using hb), Result.andThen_ok, Sem.run_pure]
/-- The cells of a slice put together. -/
def builtS (P : Program) (t len : Nat) (parts : List (Nat × Value)) : Option (List Value) :=
  match sliceEl P t with
  | some (e, n, _) => if len * n > 2 ^ 24 then none else match zCells P e with
    | some zs => (Instr.fill (fun i => some (i * n, n)) ((Array.range (len * n)).map (fun j => zs.toArray[j % zs.length]!)) parts).map (·.toList)
    | none => none
  | none => none
theorem newRow_ok {e : TypeId} {cells : Array Value} : (newRow e cells).run P w = .ok ⟨w.heap.size, 0, none⟩ (w.alloc (.cells cells e)) := by
  simp only [newRow, Sem.run_bind, run_newObj, Result.andThen_ok, Sem.run_pure]; rfl
theorem builtS_run {t len : Nat} {parts : List (Nat × Value)} {cells : List Value} (h : builtS P t len parts = some cells) : ∃ e n b, sliceEl P t = some (e, n, b) ∧
    (Instr.buildSlice t len parts.toArray).run P w = .ok (.slice (some ⟨w.heap.size, 0, none⟩) len len) (w.alloc (.cells cells.toArray e)) := by
  unfold builtS at h
  cases hs : sliceEl P t with
  | none => rw [hs] at h; cases h
  | some q =>
    obtain ⟨e, n, b⟩ := q
    rw [hs] at h
    simp only at h
    split at h
    · cases h
    rename_i hlt
    cases hz : zCells P e with
    | none => rw [hz] at h; cases h
    | some zs =>
      rw [hz] at h
      simp only [Option.map_eq_some_iff] at h
      obtain ⟨cs, hc, rfl⟩ := h
      refine ⟨e, n, b, rfl, ?_⟩
      unfold sliceEl at hs
      split at hs
      case h_2 => cases hs
      rename_i e' hu
      split at hs
      case h_2 => cases hs
      rename_i I hI
      cases hs
      have hsz : szOf P e = some I.size := by unfold szOf; rw [hI]; rfl
      obtain ⟨z, hz1, hz2⟩ := zero_ok (w := w) hz
      by_cases h0 : len * I.size = 0
      · have hc' : Instr.fill (fun i => some (i * I.size, I.size)) ((Array.range (len * I.size)).map (fun j => (#[] : Array Value)[j % (#[] : Array Value).size]!)) parts = some cs := by
          have e : (Array.range (len * I.size)).map (fun j => (#[] : Array Value)[j % (#[] : Array Value).size]!) = (Array.range (len * I.size)).map (fun j => zs.toArray[j % zs.length]!) := by rw [h0]; simp
          rw [e]; exact hc
        simp only [Instr.buildSlice, Sem.run_bind, und_ok hu, Result.andThen_ok, size_ok hsz, hlt, if_false, if_pos h0, Sem.run_pure, hc', newRow_ok]
      · have hc' : Instr.fill (fun i => some (i * I.size, I.size)) ((Array.range (len * I.size)).map (fun j => zs.toArray[j % zs.toArray.size]!)) parts = some cs := by simpa using hc
        simp only [Instr.buildSlice, Sem.run_bind, und_ok hu, Result.andThen_ok, size_ok hsz, hlt, if_false, if_neg h0, Sem.run_pure, hz1, hz2, hc', newRow_ok]
/-- A slice put together. -/
theorem eBs {α : Type} {enc : α → List Value} {xs : List α} {t len k T by_ : Nat} {parts : List (Nat × Operand)} {pv : List (Nat × Value)} (hf : Fr a N σ) (hi : nth l i = some ⟨some d, .buildSlice t len parts.toArray, ty, pos, af, none⟩) (hn : Nat.blt d N = true) (hp : evps σ parts = some pv)
    (hs : sliceEl P t = some (T, k, by_)) (hb : builtS P t len pv = some (xs.flatMap enc)) (hl : xs.length = len) (hle : Nat.ble len 1000000 = true) (hH : Holds E w cs)
    (kk : ∀ v c a' w', Ow enc k T v xs c → Holds E w' (c :: cs) → Fr a' N ((d, v) :: σ) → Kt P l Q dr S i r a' w') : planWp P l.toArray Q dr S (.e i r) a w := by
  refine e0 hi rfl ?_
  obtain ⟨e, n, b, he, hr⟩ := builtS_run (w := w) hb
  rw [hs] at he
  cases he
  have h1 : (parts.toArray.map fun (i, x) => (i, a.eval x)) = pv.toArray := by
    rw [List.map_toArray, hf.evps hp]
  have hle' : len ≤ 1000000 := by simpa [Nat.ble_eq] using hle
  unfold Oper.wp
  simp only [execOp, h1, Sem.run_bind, hr, Result.andThen_ok, Sem.run_pure]
  subst hl
  refine kk _ [blk w.heap.size (xs.flatMap enc) T] _ _ (.inr ⟨w.heap.size, [], [], xs.length, rfl, by simp, Nat.le_refl _, by omega, by simp⟩) (hH.alloc _) (hf.put hn)
/-- An append. -/
theorem eAp {α : Type} {enc : α → List Value} {xs ys : List α} {x y : Operand} {u : Value} {t k T by_ j : Nat} {c C : HL} {zs : List Value} (hf : Fr a N σ) (hi : nth l i = some ⟨some d, .call ⟨.builtin .append, #[x, y], #[t, t]⟩, ty, pos, af, none⟩) (hn : Nat.blt d N = true)
    (hx : ev σ x = some v) (hy : ev σ y = some u) (hO : Ow enc k T v xs c) (hR : Rd C enc u ys) (hC : nth cs j = some C) (hk : ∀ x, (enc x).length = k) (h1 : ∀ x, (enc x).all Value.oneCell' = true) (ht : sliceEl P t = some (T, k, by_)) (hz : zCells P T = some zs) (hzl : zs.length = k)
    (hby : Nat.blt 0 by_ = true) (hH : Holds E w (c :: cs)) (hb : decide ((xs.length + ys.length) * by_ ≤ 140737488355328) = true)
    (kk : ∀ v' c' a' w', Ow enc k T v' (xs ++ ys) c' → Holds E w' (c' :: cs) → Fr a' N ((d, v') :: σ) → Kt P l Q dr S i r a' w') : planWp P l.toArray Q dr S (.e i r) a w := by
  refine e0 hi rfl ?_
  rw [nth_eq] at hC
  obtain ⟨v', c', w', hr, hO', hH'⟩ := append_ok (ty := ty) hO hR (List.mem_of_getElem? hC) hk h1 ht hz hzl hby hH (by simpa using hb)
  unfold Oper.wp
  simp only [execOp, resolve, List.map_toArray, List.map_cons, List.map_nil, hf.ev hx, hf.ev hy, Sem.run_bind, Sem.run_pure, Result.andThen_ok, invoke, builtin, hr]
  exact kk _ c' _ _ hO' hH' (hf.put hn)
/-! equality of bools and strings -/
theorem eqBo {D t : Nat} {p q : Bool} (ht : P.underlying t = some .bool) : (Op.equalIn (D + 1) t (.bool p) (.bool q)).run P w = .ok (p == q) w := by
  simp only [Op.equalIn, Sem.run_bind, und_ok ht, Result.andThen_ok, Sem.run_pure]
theorem rBooE {t u : TypeId} {x y : Operand} {p q : Bool} (hf : Fr a N σ) (hx : ev σ x = some (.bool p)) (hy : ev σ y = some (.bool q)) (ht : P.underlying t = some .bool) : Runs P S a ⟨dst, .binOp .eql t x y u, ty, pos, af, g⟩ (.bool (p == q)) := fun w _ => by
  have h : (Op.equal t (.bool p) (.bool q)).run P w = .ok (p == q) w := eqBo (D := 9999) ht
  simp only [execOp, hf.ev hx, hf.ev hy, eqGuard, binOp, Sem.run_bind, Sem.run_pure, Result.andThen_ok, Bool.not_true, Bool.false_eq_true, if_false]
  rw [h]; rfl
theorem rBooN {t u : TypeId} {x y : Operand} {p q : Bool} (hf : Fr a N σ) (hx : ev σ x = some (.bool p)) (hy : ev σ y = some (.bool q)) (ht : P.underlying t = some .bool) : Runs P S a ⟨dst, .binOp .neq t x y u, ty, pos, af, g⟩ (.bool (p != q)) := fun w _ => by
  have h : (Op.equal t (.bool p) (.bool q)).run P w = .ok (p == q) w := eqBo (D := 9999) ht
  simp only [execOp, hf.ev hx, hf.ev hy, eqGuard, binOp, Sem.run_bind, Sem.run_pure, Result.andThen_ok, Bool.not_true, Bool.false_eq_true, if_false]
  rw [h]; rfl
end
end Go.BK
