/- Core L: rows cleared and copied; effects under a guard. Own work for this claim. -/
import Derived.Test.YtlbbpajjfhmfjaaCoreK
namespace Go.BK
theorem run_storesNil {P : Program} {w : World} {a : Addr} {i : Nat} : (storeCells a [] i).run P w = .ok () w := by simp [storeCells]
/-- The first of a row are written anew. -/
theorem Ow.over {α : Type} {P : Program} {E : Env} {enc : α → List Value} {k T : Nat} {v : Value} {xs : List α} {c : HL} {cs : List HL} {w : World} (h : Ow enc k T v xs c) (hH : Holds E w (c :: cs)) (hk : ∀ x, (enc x).length = k) (ys : List α) (hy : ys.length ≤ xs.length) (h1 : ∀ x, (enc x).all Value.oneCell' = true) :
    ∃ A cap c' w', v = .slice A xs.length cap ∧ (∀ a, A = some a → (storeCells a (ys.flatMap enc)).run P w = .ok () w') ∧ (A = none → w' = w ∧ xs = []) ∧ Ow enc k T v (ys ++ xs.drop ys.length) c' ∧ Holds E w' (c' :: cs) := by
  rcases h with ⟨rfl, rfl, rfl⟩ | ⟨b, pre, post, cap, rfl, rfl, h2, h3, h4⟩
  · have : ys = [] := List.eq_nil_of_length_eq_zero (by simpa using hy)
    subst this
    exact ⟨none, 0, [], w, rfl, fun a h => (by cases h), fun _ => ⟨rfl, rfl⟩, Ow.empty, hH⟩
  · have h1' : ∀ q ∈ ys.flatMap enc, q.oneCell' = true := by
      intro q hq
      obtain ⟨y, hy, hq⟩ := List.mem_flatMap.1 hq
      exact List.all_eq_true.1 (h1 y) q hq
    have hle : ys.length * k ≤ xs.length * k := Nat.mul_le_mul_right _ hy
    obtain ⟨w', hr, hh⟩ := stores_ok (P := P) (o := pre.length) (ys.flatMap enc) 0 (pre ++ xs.flatMap enc ++ post) w hH h1' (by simp only [List.length_append, flat_length hk]; omega)
    refine ⟨_, cap, _, w', rfl, fun a ha => ?_, fun h => (by cases h), .inr ⟨b, pre, post, cap, ?_, rfl, ?_, ?_, ?_⟩, ?_⟩
    · cases ha; exact hr
    · congr 1; simp; omega
    · simp; omega
    · simp; omega
    · have : (ys ++ xs.drop ys.length).length = xs.length := by simp; omega
      rw [this]; exact h4
    · have e0 : putAt (pre ++ xs.flatMap enc ++ post) (pre.length + 0) (ys.flatMap enc) = pre ++ (ys ++ xs.drop ys.length).flatMap enc ++ post := by
        unfold putAt
        have e1 : (pre ++ xs.flatMap enc ++ post).take (pre.length + 0) = pre := by simp
        have e2 : (pre ++ xs.flatMap enc ++ post).drop (pre.length + 0 + (ys.flatMap enc).length) = (xs.drop ys.length).flatMap enc ++ post := by
          have e3 : xs.flatMap enc = (xs.take ys.length).flatMap enc ++ (xs.drop ys.length).flatMap enc := by rw [← List.flatMap_append, List.take_append_drop]
          have e4 : ((xs.take ys.length).flatMap enc).length = (ys.flatMap enc).length := by rw [flat_length hk, flat_length hk]; simp [Nat.min_eq_left hy]
          rw [e3, ← e4]
          simp
        rw [e1, e2]; simp
      rw [e0] at hh
      exact hh
section
variable {P : Program} {l : List Oper} {Q : Exit → Act → World → Prop} {dr : Bool} {S : World → Prop} {a : Act} {w : World} {N : Nat} {σ : List (Nat × Value)} {i d : Nat} {r : Plan} {o : Oper} {v : Value}
variable {ty : TypeId} {pos : String} {af : Array Edge} {g : Option (Nat × Bool)} {dst : Option Tmp} {cs cs' : List HL} {E : Env}
theorem zeroFlat {α : Type} {enc : α → List Value} {z : α} (n : Nat) : (Builtin.zeroCells (enc z).toArray n).toList = (List.replicate n z).flatMap enc := by
  apply List.ext_getElem
  · simp [Builtin.zeroCells, List.length_flatMap]
  · intro j h1 h2
    have key : ∀ (n j : Nat) (h : j < ((List.replicate n z).flatMap enc).length), ∃ h', ((List.replicate n z).flatMap enc)[j] = (enc z)[j % (enc z).length]'h' := by
      intro n
      induction n with
      | zero => intro j h; simp at h
      | succ n ih =>
        intro j h
        have hpos : 0 < (enc z).length := by
          rcases Nat.eq_zero_or_pos (enc z).length with h0 | h0
          · have : enc z = [] := List.eq_nil_of_length_eq_zero h0
            simp [List.length_flatMap, this] at h
          · exact h0
        refine ⟨Nat.mod_lt _ hpos, ?_⟩
        simp only [List.replicate_succ, List.flatMap_cons]
        by_cases hjl : j < (enc z).length
        · rw [List.getElem_append_left hjl]; simp [Nat.mod_eq_of_lt hjl]
        · rw [List.getElem_append_right (by omega)]
          obtain ⟨h', e⟩ := ih (j - (enc z).length) (by simp only [List.replicate_succ, List.flatMap_cons, List.length_append] at h; omega)
          rw [e]
          congr 1
          exact (Nat.mod_eq_sub_mod (by omega)).symm
    obtain ⟨h', e⟩ := key n j h2
    rw [e]
    simp [Builtin.zeroCells, h']
/-- A row is cleared. -/
theorem eCl {α : Type} {enc : α → List Value} {xs : List α} {x : Operand} {t k T by_ : Nat} {c : HL} {z : α} (hf : Fr a N σ) (hi : nth l i = some ⟨none, .call ⟨.builtin .clear, #[x], #[t]⟩, ty, pos, af, none⟩) (hx : ev σ x = some v) (hO : Ow enc k T v xs c) (hk : ∀ x, (enc x).length = k) (h1 : ∀ x, (enc x).all Value.oneCell' = true)
    (ht : sliceEl P t = some (T, k, by_)) (hz : zCells P T = some (enc z)) (hH : Holds E w (c :: cs))
    (kk : ∀ c' w', Ow enc k T v (List.replicate xs.length z) c' → Holds E w' (c' :: cs) → Kt P l Q dr S i r a w') : planWp P l.toArray Q dr S (.e i r) a w := by
  refine e0 hi rfl ?_
  obtain ⟨A, cap, c', w', rfl, hr, hn, hO', hH'⟩ := hO.over (P := P) hH hk (List.replicate xs.length z) (by simp) h1
  have e : List.replicate xs.length z ++ xs.drop (List.replicate xs.length z).length = List.replicate xs.length z := by simp
  rw [e] at hO'
  unfold sliceEl at ht
  split at ht
  case h_2 => cases ht
  rename_i e' hu
  split at ht
  case h_2 => cases ht
  rename_i I hI
  cases ht
  obtain ⟨zv, hz1, hz2⟩ := zero_ok (w := w) hz
  have hrun : (Builtin.clear_ #[t] ty #[.slice A xs.length cap]).run P w = .ok (.tuple #[]) w' := by
    cases A with
    | none =>
      obtain ⟨rfl, _⟩ := hn rfl
      simp [Builtin.clear_, und_ok hu]
    | some ad =>
      cases hxl : xs.length with
      | zero =>
        have hr' := hr ad rfl
        rw [hxl] at hr'
        simp only [List.replicate_zero, List.flatMap_nil, run_storesNil] at hr'
        injection hr' with _ hr'
        subst hr'
        simp [Builtin.clear_, und_ok hu]
      | succ n =>
        have hr' := hr ad rfl
        rw [hxl, ← zeroFlat, ← hz2] at hr'
        simp [Builtin.clear_, und_ok hu, hz1, hr']
  unfold Oper.wp
  simp only [execOp, resolve, List.map_toArray, List.map_cons, List.map_nil, hf.ev hx, Sem.run_bind, Sem.run_pure, Result.andThen_ok, invoke, builtin, hrun]
  exact kk c' w' hO' hH'
/-- A row is copied over another's beginning. -/
theorem eCp {α : Type} {enc : α → List Value} {xs ys : List α} {x y : Operand} {u : Value} {t t2 k T by_ j : Nat} {c C : HL} (hf : Fr a N σ) (hi : nth l i = some ⟨some d, .call ⟨.builtin .copy, #[x, y], #[t, t2]⟩, ty, pos, af, none⟩) (hn : Nat.blt d N = true) (hx : ev σ x = some v) (hy : ev σ y = some u) (hO : Ow enc k T v xs c) (hR : Rd C enc u ys) (hC : nth cs j = some C)
    (hk : ∀ x, (enc x).length = k) (h1 : ∀ x, (enc x).all Value.oneCell' = true) (ht : sliceEl P t = some (T, k, by_)) (hH : Holds E w (c :: cs))
    (kk : ∀ c' a' w', Ow enc k T v (ys.take xs.length ++ xs.drop ys.length) c' → Holds E w' (c' :: cs) → Fr a' N ((d, .int .i64 (min ys.length xs.length : Nat)) :: σ) → Kt P l Q dr S i r a' w') : planWp P l.toArray Q dr S (.e i r) a w := by
  refine e0 hi rfl ?_
  rw [nth_eq] at hC
  have hCm : C ∈ c :: cs := List.mem_cons_of_mem _ (List.mem_of_getElem? hC)
  obtain ⟨A', ucap, rfl, hu1, hu2⟩ := hR.cells (P := P) hk hH.has hCm
  obtain ⟨A, cap, c', w', rfl, hr, hnn, hO', hH'⟩ := hO.over (P := P) hH hk (ys.take xs.length) (by simp; omega) h1
  have e : ys.take xs.length ++ xs.drop (ys.take xs.length).length = ys.take xs.length ++ xs.drop ys.length := by
    congr 1
    simp only [List.length_take]
    rcases Nat.le_total xs.length ys.length with h | h
    · rw [Nat.min_eq_left h, List.drop_length, List.drop_of_length_le h]
    · rw [Nat.min_eq_right h]
  rw [e] at hO'
  unfold sliceEl at ht
  split at ht
  case h_2 => cases ht
  rename_i e' hu
  split at ht
  case h_2 => cases ht
  rename_i I hI
  cases ht
  have hsz : szOf P T = some I.size := by unfold szOf; rw [hI]; rfl
  have htake : (ys.take xs.length).flatMap enc = (ys.flatMap enc).take (ys.length.min xs.length * I.size) := by
    have e3 : ys.flatMap enc = (ys.take xs.length).flatMap enc ++ (ys.drop xs.length).flatMap enc := by rw [← List.flatMap_append, List.take_append_drop]
    have e4 : ((ys.take xs.length).flatMap enc).length = ys.length.min xs.length * I.size := by rw [flat_length hk, List.length_take, Nat.min_comm]
    rw [e3, ← e4, List.take_left]
  have hfc : (Builtin.firstCells I.size (ys.length.min xs.length) (.slice A' ys.length ucap)).run P w = .ok ((ys.take xs.length).flatMap enc).toArray w := by
    rcases Nat.eq_zero_or_pos ys.length with h0 | h0
    · have : ys = [] := List.eq_nil_of_length_eq_zero h0
      subst this
      have hm : (0 : Nat).min xs.length = 0 := Nat.zero_min _
      simpa [hm] using hu1
    · obtain ⟨ad, rfl, hcs⟩ := hu2 (by intro h; rw [h] at h0; simp at h0)
      refine run_firstCells_some w I.size _ _ _ _ _ ?_ ?_
      · rw [flat_length hk, List.length_take, Nat.min_comm]
      · intro j q hj
        refine hcs j q ?_
        rw [htake, List.getElem?_take] at hj
        split at hj
        · exact hj
        · cases hj
  have hrun : (Builtin.copy_ #[t, t2] ty #[.slice A xs.length cap, .slice A' ys.length ucap]).run P w = .ok (.int .i64 (min ys.length xs.length : Nat)) w' := by
    cases A with
    | none =>
      obtain ⟨rfl, _⟩ := hnn rfl
      simp [Builtin.copy_, und_ok hu, size_ok hsz, Builtin.lenOf, hfc, goInt]
    | some ad =>
      have hr' := hr ad rfl
      simp [Builtin.copy_, und_ok hu, size_ok hsz, Builtin.lenOf, hfc, goInt, hr']
  unfold Oper.wp
  simp only [execOp, resolve, List.map_toArray, List.map_cons, List.map_nil, hf.ev hx, hf.ev hy, Sem.run_bind, Sem.run_pure, Result.andThen_ok, invoke, builtin, hrun]
  exact kk c' _ w' hO' hH' (hf.put hn)
end
end Go.BK
