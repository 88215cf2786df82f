/- Core P: append, clear, copy, in the form that a program prints. Own work for this claim. -/
import Derived.Test.YtlbbpajjfhmfjaaCoreO
namespace Go.BK
theorem Rd.cellsI {α : Type} {P : Program} {C : HL} {enc : α → List Value} {k : Nat} {u : Value} {ys : List α} {w : World} {cs : List HL} (h : Rd C enc u ys) (hk : ∀ x, (enc x).length = k) (hw : Has cs w) (hC : In C cs) :
    ∃ A cap, u = .slice A ys.length cap ∧ (Builtin.firstCells k ys.length u).run P w = .ok (ys.flatMap enc).toArray w ∧
      (ys ≠ [] → ∃ ad, A = some ad ∧ ∀ j v, (ys.flatMap enc)[j]? = some v → w.cell? (ad.add j) = some v) := by
  have h1 : Rd (cs.flatten) enc u ys := h.mono hC
  exact h1.cells (cs := [cs.flatten]) hk (fun p hp => hw p (by simpa using hp)) (by simp)
/-- What is appended, and where it lies then. -/
theorem append_okI {α : Type} {P : Program} {E : Env} {enc : α → List Value} {k T by_ t ty : Nat} {v u : Value} {xs ys : List α} {c C : HL} {cs : List HL} {w : World} {zs : List Value} (hO : Ow enc k T v xs c) (hR : Rd C enc u ys) (hC : In C (c :: cs))
    (hk : ∀ x, (enc x).length = k) (h1 : ∀ x, (enc x).all Value.oneCell' = true) (ht : sliceEl P t = some (T, k, by_)) (hz : zCells P T = some zs) (hzl : zs.length = k) (hby : Nat.blt 0 by_ = true) (hH : Holds E w (c :: cs)) (hb : (xs.length + ys.length) * by_ ≤ 140737488355328) :
    ∃ v' c' w', (Builtin.append_ #[t, t] ty #[v, u]).run P w = .ok v' w' ∧ Ow enc k T v' (xs ++ ys) c' ∧ Holds E w' (c' :: cs) := by
  have hby' : 0 < by_ := by simpa [Nat.blt_eq] using hby
  have hlen : xs.length + ys.length ≤ 140737488355328 := Nat.le_trans (Nat.le_mul_of_pos_right _ hby') hb
  unfold sliceEl at ht
  split at ht
  case h_2 => cases ht
  rename_i e hu
  split at ht
  case h_2 => cases ht
  rename_i I hI
  cases ht
  obtain ⟨z, hz1, hz2⟩ : ∃ z, I.zero = some z ∧ z.cells = zs.toArray := by
    unfold zCells at hz
    rw [hI] at hz
    simp only [Option.bind_some] at hz
    cases hzo : I.zero with
    | none => rw [hzo] at hz; cases hz
    | some z => rw [hzo] at hz; simp at hz; exact ⟨z, rfl, by rw [← hz]⟩
  obtain ⟨A, ucap, rfl, hfirst, hcells⟩ := hR.cellsI (P := P) hk hH.has hC
  have hsz : szOf P T = some I.size := by unfold szOf; rw [hI]; rfl
  have h1' : ∀ q ∈ ys.flatMap enc, q.oneCell' = true := by
    intro q hq
    obtain ⟨y, hy, hq⟩ := List.mem_flatMap.1 hq
    exact List.all_eq_true.1 (h1 y) q hq
  obtain ⟨B, cap, hv, hle, hroomy⟩ : ∃ B cap, v = .slice B xs.length cap ∧ xs.length ≤ cap ∧
      (∀ n, xs.length + n ≤ cap → n = 0 ∨ ∃ b pre post, B = some ⟨b, pre.length, none⟩ ∧ c = [blk b (pre ++ xs.flatMap enc ++ post) T] ∧ n * I.size ≤ post.length ∧ (cap - xs.length) * I.size ≤ post.length) := by
    rcases hO with ⟨rfl, rfl, rfl⟩ | ⟨b, pre, post, cap, rfl, rfl, h2, h3, h4⟩
    · exact ⟨none, 0, by simp, by simp, fun n hn => .inl (by simp at hn; omega)⟩
    · refine ⟨_, cap, rfl, h2, fun n hn => .inr ⟨b, pre, post, rfl, rfl, Nat.le_trans (Nat.mul_le_mul_right _ (by omega)) h4, h4⟩⟩
  by_cases hroom : xs.length + ys.length ≤ cap
  · rcases hroomy _ hroom with h0 | ⟨b, pre, post, rfl, rfl, hp, hp2⟩
    · obtain rfl : ys = [] := List.eq_nil_of_length_eq_zero h0
      subst hv
      refine ⟨_, c, w, ?_, by simpa using hO, hH⟩
      have hf : (Builtin.firstCells I.size 0 (.slice A 0 ucap)).run P w = .ok #[] w := by simpa using hfirst
      have hle' : xs.length + 0 ≤ cap := hle
      cases B with
      | none => simp [Builtin.append_, und_ok hu, size_ok hsz, Builtin.lenOf, hle, hf]
      | some ad => simp [Builtin.append_, und_ok hu, size_ok hsz, Builtin.lenOf, hle, hf, storeCells]
    · subst hv
      have hst := stores_ok (P := P) (o := pre.length + xs.length * I.size) (ys.flatMap enc) 0 (pre ++ xs.flatMap enc ++ post) w hH h1' (by simp [flat_length hk]; omega)
      obtain ⟨w', hr, hh⟩ := hst
      refine ⟨_, _, w', ?_, .inr ⟨b, pre, post.drop (ys.length * I.size), cap, rfl, rfl, by simpa using hroom, by simpa using hlen, ?_⟩, ?_⟩
      · simp [Builtin.append_, und_ok hu, size_ok hsz, Builtin.lenOf, hroom, hfirst, add_ptr, hr]
      · simp only [List.length_append, List.length_drop]
        rw [Nat.sub_add_eq, Nat.sub_mul]
        omega
      · have e1 : putAt (pre ++ xs.flatMap enc ++ post) (pre.length + xs.length * I.size + 0) (ys.flatMap enc) = pre ++ (xs ++ ys).flatMap enc ++ post.drop (ys.length * I.size) := by
          unfold putAt
          have e2 : pre.length + xs.length * I.size + 0 = (pre ++ xs.flatMap enc).length := by simp [flat_length hk]
          rw [e2, List.take_left, flat_length hk, List.drop_append]
          rw [List.drop_of_length_le (by omega)]
          simp
        rw [e1] at hh
        exact hh
  · have hgrow : cap < xs.length + ys.length := by omega
    have hne : ys ≠ [] := by rintro rfl; simp at hgrow; omega
    obtain ⟨ad, rfl, hcs⟩ := hcells hne
    have hypos : 0 < ys.length := List.length_pos_iff.2 hne
    have fin_ : ∀ (w1 : World) (g : Nat), Holds E w1 (c :: cs) → xs.length + ys.length ≤ g →
        ∃ c', Ow enc I.size T (.slice (some ⟨w1.heap.size, 0, none⟩) (xs.length + ys.length) g) (xs ++ ys) c' ∧
          Holds E (w1.alloc (.cells ((xs.flatMap enc).toArray ++ (ys.flatMap enc).toArray ++ Builtin.zeroCells z.cells (g - (xs.length + ys.length))) T)) (c' :: cs) := by
      intro w1 g hH1 hg
      refine ⟨[blk w1.heap.size ([] ++ (xs ++ ys).flatMap enc ++ (Builtin.zeroCells z.cells (g - (xs.length + ys.length))).toList) T], .inr ⟨_, [], _, g, by simp, rfl, by simpa using hg, by simpa using hlen, ?_⟩, ?_⟩
      · rw [hz2]; simp [zero_len, hzl]
      · have := (hH1.drop).alloc (.cells ((xs.flatMap enc).toArray ++ (ys.flatMap enc).toArray ++ Builtin.zeroCells z.cells (g - (xs.length + ys.length))) T)
        have e3 : blk w1.heap.size ([] ++ (xs ++ ys).flatMap enc ++ (Builtin.zeroCells z.cells (g - (xs.length + ys.length))).toList) T = (w1.heap.size, Obj.cells ((xs.flatMap enc).toArray ++ (ys.flatMap enc).toArray ++ Builtin.zeroCells z.cells (g - (xs.length + ys.length))) T) := by
          simp [blk]
        rw [e3]
        exact this
    have hcut : ∀ need old, need ≤ grownCap w need old T ∨ 9223372036854775808 ≤ need := by
      intro need old
      unfold grownCap Question.cut
      exact .inl (Nat.le_add_right _ _)
    rcases hO with ⟨rfl, rfl, rfl⟩ | ⟨b, pre, post, cap', rfl, rfl, h2, h3, h4⟩
    · injection hv with hv1 hv2 hv3
      subst hv3
      have hr := run_append_nil (P := P) w t ty T I z hu hI hz1 ad ys.length ucap (ys.flatMap enc) (flat_length hk ys) hcs hypos (by omega) (by simp at hb; omega)
      obtain ⟨c', hO', hH'⟩ := fin_ w.drew (grownCap w ys.length 0 T) (hH.drew _) (by simpa using (hcut ys.length 0).resolve_right (by omega))
      refine ⟨_, c', _, ?_, hO', hH'⟩
      simpa using hr
    · injection hv with hv1 hv2 hv3
      subst hv3
      have hmem : ∀ j q, (xs.flatMap enc)[j]? = some q → w.cell? ((⟨b, pre.length, none⟩ : Addr).add j) = some q := by
        intro j q hj
        rw [add_ptr]
        refine hH.has.cell (T := T) (fz := (0, 0)) (c := pre ++ xs.flatMap enc ++ post) (by simp) ?_
        rw [List.append_assoc, List.getElem?_append_right (by omega), Nat.add_sub_cancel_left, List.getElem?_append_left (List.getElem?_eq_some_iff.1 hj).1]
        exact hj
      have hr := run_append_grow (P := P) w t ty T I z hu hI hz1 ⟨b, pre.length, none⟩ xs.length cap' (xs.flatMap enc) (flat_length hk xs) hmem ad ys.length ucap (ys.flatMap enc) (flat_length hk ys) hcs hgrow (by omega) (growslice_fits hgrow hb)
      obtain ⟨c', hO', hH'⟩ := fin_ w.drew (grownCap w (xs.length + ys.length) cap' T) (hH.drew _) ((hcut _ _).resolve_right (by omega))
      exact ⟨_, c', _, hr, hO', hH'⟩
theorem inN {cs : List HL} : In [] cs := fun _ h => by cases h
theorem bI {n : Nat} {l h : Int} {kh : IntKind} (hx : (decide (0 ≤ l) && decide (l ≤ h) && decide (h ≤ (n : Int))) = true) : bIs n n (some (.int kh h)) h.toNat := by
  simp only [Bool.and_eq_true, decide_eq_true_eq] at hx
  exact ⟨by omega, by omega, rfl⟩
theorem In.fr {C c : HL} {cs : List HL} {j : Nat} (h : In C cs) (hj : nth cs j = some c) : In C (c :: cs.set j []) := by
  rw [nth_eq] at hj
  intro p hp
  have := (set_flat_perm (c' := []) hj).mem_iff.1 (by simpa using h p hp)
  simpa using this
section
variable {P : Program} {l : List Oper} {Q : Exit → Act → World → Prop} {dr : Bool} {S : World → Prop} {a : Act} {w : World} {E : Env} {N : Nat} {Tt : Tl} {cs cs' : List HL} {σ : List (Nat × Value)} {i d : Nat} {r : Plan} {o : Oper} {v : Value}
variable {ty : TypeId} {pos : String} {af : Array Edge} {g : Option (Nat × Bool)} {dst : Option Tmp} {x y : Operand}
theorem wAp (j : Nat) {α : Type} {enc : α → List Value} {xs ys : List α} {u : Value} {t k T by_ : Nat} {c C : HL} {zs : List Value} (hi : nth l i = some ⟨some d, .call ⟨.builtin .append, #[x, y], #[t, t]⟩, ty, pos, af, g⟩) (hg : Gd l σ ⟨some d, .call ⟨.builtin .append, #[x, y], #[t, t]⟩, ty, pos, af, g⟩) (hn : Nat.blt d N = true)
    (hx : ev σ x = some v) (hy : ev σ y = some u) (hO : Ow enc k T v xs c) (hR : Rd C enc u ys) (hj : nth cs j = some c) (hC : In C cs) (hk : ∀ x, (enc x).length = k) (h1 : ∀ x, (enc x).all Value.oneCell' = true) (ht : sliceEl P t = some (T, k, by_)) (hz : zCells P T = some zs) (hzl : zs.length = k)
    (hby : Nat.blt 0 by_ = true) (hb : decide ((xs.length + ys.length) * by_ ≤ 140737488355328) = true)
    (kk : ∀ v' c', Ow enc k T v' (xs ++ ys) c' → RN dr l i Tt (cs.set j c') ∧ Wk P l Q dr E N Tt (cs.set j c') ((d, v') :: σ) r) : Wk P l Q dr E N Tt cs σ (.e i r) := fun a w hf hH => wEf hf hi hg (by
  obtain ⟨v', c', w', hr, hO', hH'⟩ := append_okI (ty := ty) hO hR (hC.fr hj) hk h1 ht hz hzl hby (hH.toFront hj) (by simpa using hb)
  obtain ⟨g1, g2⟩ := kk v' c' hO'
  unfold Oper.wp
  simp only [execOp, resolve, List.map_toArray, List.map_cons, List.map_nil, hf.ev hx, hf.ev hy, Sem.run_bind, Sem.run_pure, Result.andThen_ok, invoke, builtin, hr]
  exact g1.kt (hf.put hn) (hH'.back hj) g2)
/-- The same, of nil. -/
theorem wApN {α : Type} {enc : α → List Value} {ys : List α} {u : Value} {t k T by_ : Nat} {C : HL} {zs : List Value} (hi : nth l i = some ⟨some d, .call ⟨.builtin .append, #[x, y], #[t, t]⟩, ty, pos, af, g⟩) (hg : Gd l σ ⟨some d, .call ⟨.builtin .append, #[x, y], #[t, t]⟩, ty, pos, af, g⟩) (hn : Nat.blt d N = true)
    (hx : ev σ x = some (.slice none 0 0)) (hy : ev σ y = some u) (hR : Rd C enc u ys) (hC : In C cs) (hk : ∀ x, (enc x).length = k) (h1 : ∀ x, (enc x).all Value.oneCell' = true) (ht : sliceEl P t = some (T, k, by_)) (hz : zCells P T = some zs) (hzl : zs.length = k)
    (hby : Nat.blt 0 by_ = true) (hb : decide (ys.length * by_ ≤ 140737488355328) = true)
    (kk : ∀ v' c', Ow enc k T v' ys c' → RN dr l i Tt (c' :: cs) ∧ Wk P l Q dr E N Tt (c' :: cs) ((d, v') :: σ) r) : Wk P l Q dr E N Tt cs σ (.e i r) := fun a w hf hH => wEf hf hi hg (by
  obtain ⟨v', c', w', hr, hO', hH'⟩ := append_okI (ty := ty) (xs := ([] : List α)) Ow.empty hR (c := []) (cs := cs) (fun p hp => by simpa using hC p hp) hk h1 ht hz hzl hby hH.nil (by simpa using hb)
  obtain ⟨g1, g2⟩ := kk v' c' (by simpa using hO')
  unfold Oper.wp
  simp only [execOp, resolve, List.map_toArray, List.map_cons, List.map_nil, hf.ev hx, hf.ev hy, Sem.run_bind, Sem.run_pure, Result.andThen_ok, invoke, builtin, hr]
  exact g1.kt (hf.put hn) hH' g2)
/-- A row is cleared. -/
theorem wClr (j : Nat) {α : Type} {enc : α → List Value} {xs : List α} {t k T by_ : Nat} {c : HL} {z : α} (hi : nth l i = some ⟨none, .call ⟨.builtin .clear, #[x], #[t]⟩, ty, pos, af, g⟩) (hg : Gd l σ ⟨none, .call ⟨.builtin .clear, #[x], #[t]⟩, ty, pos, af, g⟩) (hx : ev σ x = some v) (hO : Ow enc k T v xs c) (hj : nth cs j = some c) (hk : ∀ x, (enc x).length = k) (h1 : ∀ x, (enc x).all Value.oneCell' = true)
    (ht : sliceEl P t = some (T, k, by_)) (hz : zCells P T = some (enc z))
    (kk : ∀ c', Ow enc k T v (List.replicate xs.length z) c' → RN dr l i Tt (cs.set j c') ∧ Wk P l Q dr E N Tt (cs.set j c') σ r) : Wk P l Q dr E N Tt cs σ (.e i r) := fun a w hf hH => wEf hf hi hg (by
  obtain ⟨A, cap, c', w', rfl, hr, hn, hO', hH'⟩ := hO.over (P := P) (hH.toFront hj) hk (List.replicate xs.length z) (by simp) h1
  have e : List.replicate xs.length z ++ xs.drop (List.replicate xs.length z).length = List.replicate xs.length z := by simp
  rw [e] at hO'
  unfold sliceEl at ht
  split at ht
  case h_2 => cases ht
  rename_i e' hu
  split at ht
  case h_2 => cases ht
  rename_i I hI
  cases ht
  obtain ⟨zv, hz1, hz2⟩ := zero_ok (w := w) hz
  have hrun : (Builtin.clear_ #[t] ty #[.slice A xs.length cap]).run P w = .ok (.tuple #[]) w' := by
    cases A with
    | none =>
      obtain ⟨rfl, _⟩ := hn rfl
      simp [Builtin.clear_, und_ok hu]
    | some ad =>
      cases hxl : xs.length with
      | zero =>
        have hr' := hr ad rfl
        rw [hxl] at hr'
        simp only [List.replicate_zero, List.flatMap_nil, run_storesNil] at hr'
        injection hr' with _ hr'
        subst hr'
        simp [Builtin.clear_, und_ok hu]
      | succ n =>
        have hr' := hr ad rfl
        rw [hxl, ← zeroFlat, ← hz2] at hr'
        simp [Builtin.clear_, und_ok hu, hz1, hr']
  obtain ⟨g1, g2⟩ := kk c' hO'
  unfold Oper.wp
  simp only [execOp, resolve, List.map_toArray, List.map_cons, List.map_nil, hf.ev hx, Sem.run_bind, Sem.run_pure, Result.andThen_ok, invoke, builtin, hrun]
  exact g1.kt hf (hH'.back hj) g2)
theorem firstI {α : Type} {enc : α → List Value} {k n : Nat} {A' : Option Addr} {ucap : Nat} {ys : List α} (hk : ∀ x, (enc x).length = k) (hu1 : (Builtin.firstCells k ys.length (.slice A' ys.length ucap)).run P w = .ok (ys.flatMap enc).toArray w)
    (hu2 : ys ≠ [] → ∃ ad, A' = some ad ∧ ∀ j v, (ys.flatMap enc)[j]? = some v → w.cell? (ad.add j) = some v) : (Builtin.firstCells k (ys.length.min n) (.slice A' ys.length ucap)).run P w = .ok ((ys.take n).flatMap enc).toArray w := by
  have htake : (ys.take n).flatMap enc = (ys.flatMap enc).take (ys.length.min n * k) := by
    have e3 : ys.flatMap enc = (ys.take n).flatMap enc ++ (ys.drop n).flatMap enc := by rw [← List.flatMap_append, List.take_append_drop]
    have e4 : ((ys.take n).flatMap enc).length = ys.length.min n * k := by rw [flat_length hk, List.length_take, Nat.min_comm]
    rw [e3, ← e4, List.take_left]
  rcases Nat.eq_zero_or_pos ys.length with h0 | h0
  · have : ys = [] := List.eq_nil_of_length_eq_zero h0
    subst this
    have hm : (0 : Nat).min n = 0 := Nat.zero_min _
    simpa [hm] using hu1
  · obtain ⟨ad, rfl, hcs⟩ := hu2 (by intro h; rw [h] at h0; simp at h0)
    refine run_firstCells_some w k _ _ _ _ _ ?_ ?_
    · rw [flat_length hk, List.length_take, Nat.min_comm]
    · intro j q hj
      refine hcs j q ?_
      rw [htake, List.getElem?_take] at hj
      split at hj
      · exact hj
      · cases hj
/-- A row is copied over another's beginning. -/
theorem wCpy (j : Nat) {α : Type} {enc : α → List Value} {xs ys : List α} {u : Value} {t t2 k T by_ : Nat} {c C : HL} (hi : nth l i = some ⟨some d, .call ⟨.builtin .copy, #[x, y], #[t, t2]⟩, ty, pos, af, g⟩) (hg : Gd l σ ⟨some d, .call ⟨.builtin .copy, #[x, y], #[t, t2]⟩, ty, pos, af, g⟩) (hn : Nat.blt d N = true) (hx : ev σ x = some v) (hy : ev σ y = some u) (hO : Ow enc k T v xs c) (hR : Rd C enc u ys) (hj : nth cs j = some c) (hC : In C cs)
    (hk : ∀ x, (enc x).length = k) (h1 : ∀ x, (enc x).all Value.oneCell' = true) (ht : sliceEl P t = some (T, k, by_))
    (kk : ∀ c', Ow enc k T v (ys.take xs.length ++ xs.drop ys.length) c' → RN dr l i Tt (cs.set j c') ∧ Wk P l Q dr E N Tt (cs.set j c') ((d, .int .i64 (min ys.length xs.length : Nat)) :: σ) r) : Wk P l Q dr E N Tt cs σ (.e i r) := fun a w hf hH => wEf hf hi hg (by
  obtain ⟨A', ucap, rfl, hu1, hu2⟩ := hR.cellsI (P := P) hk hH.has hC
  obtain ⟨A, cap, c', w', rfl, hr, hnn, hO', hH'⟩ := hO.over (P := P) (hH.toFront hj) hk (ys.take xs.length) (by simp; omega) h1
  have e : ys.take xs.length ++ xs.drop (ys.take xs.length).length = ys.take xs.length ++ xs.drop ys.length := by
    congr 1
    simp only [List.length_take]
    rcases Nat.le_total xs.length ys.length with h | h
    · rw [Nat.min_eq_left h, List.drop_length, List.drop_of_length_le h]
    · rw [Nat.min_eq_right h]
  rw [e] at hO'
  unfold sliceEl at ht
  split at ht
  case h_2 => cases ht
  rename_i e' hu
  split at ht
  case h_2 => cases ht
  rename_i I hI
  cases ht
  have hsz : szOf P T = some I.size := by unfold szOf; rw [hI]; rfl
  have hfc := firstI (P := P) (n := xs.length) hk hu1 hu2
  have hrun : (Builtin.copy_ #[t, t2] ty #[.slice A xs.length cap, .slice A' ys.length ucap]).run P w = .ok (.int .i64 (min ys.length xs.length : Nat)) w' := by
    cases A with
    | none =>
      obtain ⟨rfl, _⟩ := hnn rfl
      simp [Builtin.copy_, und_ok hu, size_ok hsz, Builtin.lenOf, hfc, goInt]
    | some ad =>
      have hr' := hr ad rfl
      simp [Builtin.copy_, und_ok hu, size_ok hsz, Builtin.lenOf, hfc, goInt, hr']
  obtain ⟨g1, g2⟩ := kk c' hO'
  unfold Oper.wp
  simp only [execOp, resolve, List.map_toArray, List.map_cons, List.map_nil, hf.ev hx, hf.ev hy, Sem.run_bind, Sem.run_pure, Result.andThen_ok, invoke, builtin, hrun]
  exact g1.kt (hf.put hn) (hH'.back hj) g2)
end
/-! ### Copies into an array's variable -/
def Tup.over {α : Type} : (n : Nat) → Tup α n → List α → Tup α n
  | 0, t, _ => t
  | _ + 1, t, [] => t
  | n + 1, t, x :: xs => (x, Tup.over n t.2 xs)
theorem Tup.list_over {α : Type} : ∀ (n : Nat) (t : Tup α n) (xs : List α), xs.length ≤ n → Tup.list n (Tup.over n t xs) = xs ++ (Tup.list n t).drop xs.length
  | 0, t, [], _ => rfl
  | 0, t, x :: xs, h => by simp at h
  | n + 1, t, [], _ => by simp [Tup.over]
  | n + 1, t, x :: xs, h => by simp [Tup.over, Tup.list, Tup.list_over n t.2 xs (by simpa using h)]
theorem SlW.arr {b o n k : Nat} {hi : Option Value} {v' : Value} (h : SlW (.slice (some ⟨b, o, none⟩) n n) k none hi none v') (hn : Nat.blt 0 n = true) : ∃ m, v' = .slice (some ⟨b, o, none⟩) m n ∧ m ≤ n ∧ bIs n n hi m := by
  obtain ⟨A, len, cap, l, h, m, hv, hm, hh, hl, hc, rfl⟩ := h
  cases hv
  have hm' : m = n := hm
  subst hm'
  have hl' : l = 0 := hl
  subst hl'
  have hn' : 0 < m := by simpa [Nat.blt_eq] using hn
  refine ⟨h, ?_, ?_, hh⟩
  · rw [slA_some (by omega)]; simp
  · cases hi with
    | none => have hh' : h = m := hh; omega
    | some u => cases u <;> first | (exact (hh : False).elim) | (have := hh.2.1; have := hh.2.2; omega)
section
variable {P : Program} {l : List Oper} {Q : Exit → Act → World → Prop} {dr : Bool} {S : World → Prop} {a : Act} {w : World} {E : Env} {N : Nat} {Tt : Tl} {cs cs' : List HL} {σ : List (Nat × Value)} {i d : Nat} {r : Plan} {o : Oper} {v : Value}
variable {ty : TypeId} {pos : String} {af : Array Edge} {g : Option (Nat × Bool)} {dst : Option Tmp} {x y : Operand}
theorem wCpA (j : Nat) {α : Type} {e : α → List Value} {ys : List α} {u : Value} {t t2 k T T2 by_ b off n m : Nat} {c c' pre post : List Value} {tt : Tup α n} {C : HL} {hiv : Option Value} (hi : nth l i = some ⟨some d, .call ⟨.builtin .copy, #[x, y], #[t, t2]⟩, ty, pos, af, g⟩) (hg : Gd l σ ⟨some d, .call ⟨.builtin .copy, #[x, y], #[t, t2]⟩, ty, pos, af, g⟩) (hn : Nat.blt d N = true) (hx : ev σ x = some v) (hy : ev σ y = some u)
    (hS : SlW (.slice (some ⟨b, off, none⟩) n n) k none hiv none v) (hn0 : Nat.blt 0 n = true) (hm : bIs n n hiv m) (hR : Rd C e u ys) (hj : nth cs j = some [blk b c T]) (hC : In C cs)
    (hk : ∀ x, (e x).length = k) (h1 : ∀ x, (e x).all Value.oneCell' = true) (ht : sliceEl P t = some (T2, k, by_)) (hc : c = pre ++ Tup.cells e n tt ++ post) (ho : pre.length = off) (hc' : pre ++ Tup.cells e n (Tup.over n tt (ys.take m)) ++ post = c')
    (hRN : RN dr l i Tt (cs.set j [blk b c' T])) (kk : Wk P l Q dr E N Tt (cs.set j [blk b c' T]) ((d, .int .i64 (min ys.length m : Nat)) :: σ) r) : Wk P l Q dr E N Tt cs σ (.e i r) := fun a w hf hH => wEf hf hi hg (by
  obtain ⟨A', ucap, rfl, hu1, hu2⟩ := hR.cellsI (P := P) hk hH.has hC
  obtain ⟨m', rfl, hle, hm'⟩ := hS.arr hn0
  have em : m' = m := by
    cases hiv with
    | none => have a1 : m' = n := hm'; have a2 : m = n := hm; omega
    | some z => cases z <;> first | (exact (hm : False).elim) | (have := hm.2.2; have := hm'.2.2; omega)
  subst em
  have h1' : ∀ q ∈ (ys.take m').flatMap e, q.oneCell' = true := by
    intro q hq
    obtain ⟨y, _, hq⟩ := List.mem_flatMap.1 hq
    exact List.all_eq_true.1 (h1 y) q hq
  have htl : (ys.take m').length ≤ n := by simp; omega
  have hlen : ((ys.take m').flatMap e).length ≤ n * k := by rw [flat_length hk]; exact Nat.mul_le_mul_right _ htl
  obtain ⟨w', hr, hh⟩ := stores_ok (P := P) (o := off) ((ys.take m').flatMap e) 0 c w (hH.toFront hj) h1' (by rw [hc, ← ho, Tup.cells_flat]; simp only [List.length_append, flat_length hk, Tup.list_length] at hlen ⊢; omega)
  have e1 : putAt c (off + 0) ((ys.take m').flatMap e) = c' := by
    rw [← hc', hc, ← ho, Tup.cells_flat, Tup.cells_flat, Tup.list_over n tt _ htl]
    unfold putAt
    have e2 : (pre ++ (Tup.list n tt).flatMap e ++ post).take (pre.length + 0) = pre := by simp
    have e3 : (pre ++ (Tup.list n tt).flatMap e ++ post).drop (pre.length + 0 + ((ys.take m').flatMap e).length) = ((Tup.list n tt).drop (ys.take m').length).flatMap e ++ post := by
      have e4 : (Tup.list n tt).flatMap e = ((Tup.list n tt).take (ys.take m').length).flatMap e ++ ((Tup.list n tt).drop (ys.take m').length).flatMap e := by rw [← List.flatMap_append, List.take_append_drop]
      have e5 : (((Tup.list n tt).take (ys.take m').length).flatMap e).length = ((ys.take m').flatMap e).length := by
        rw [flat_length hk, flat_length hk, List.length_take, Tup.list_length, Nat.min_eq_left htl]
      rw [e4, ← e5]
      simp
    rw [e2, e3]; simp
  rw [e1] at hh
  unfold sliceEl at ht
  split at ht
  case h_2 => cases ht
  rename_i e' hu
  split at ht
  case h_2 => cases ht
  rename_i I hI
  cases ht
  have hsz : szOf P T2 = some I.size := by unfold szOf; rw [hI]; rfl
  have hfc := firstI (P := P) (n := m') hk hu1 hu2
  have hrun : (Builtin.copy_ #[t, t2] ty #[.slice (some ⟨b, off, none⟩) m' n, .slice A' ys.length ucap]).run P w = .ok (.int .i64 (min ys.length m' : Nat)) w' := by
    simp [Builtin.copy_, und_ok hu, size_ok hsz, Builtin.lenOf, hfc, goInt, hr]
  unfold Oper.wp
  simp only [execOp, resolve, List.map_toArray, List.map_cons, List.map_nil, hf.ev hx, hf.ev hy, Sem.run_bind, Sem.run_pure, Result.andThen_ok, invoke, builtin, hrun]
  exact hRN.kt (hf.put hn) (hh.back hj) kk)
end
end Go.BK
