/- Core R: slices.SortFunc, by the shelf's contract. Own work for this claim. -/
import Derived.Test.YtlbbpajjfhmfjaaCoreQ
import Derived.Shelf.SlSortCmp.NoneTotal
namespace Go.BK
open Go.Proofs (sortWorldK CmpLays ltOf)
open Go.Sort (putRowK HoldsK flatK size_flatK get_flatK)
def objAt (w : World) (i : Nat) : Obj := w.heap[i]?.getD (Obj.cells #[] 0 (0, 0))
def allOf (w : World) : HL := (List.range w.heap.size).map fun i => (i, objAt w i)
def envOf (w : World) : Env := ⟨w.os, w.tape, w.output, w.drawn⟩
theorem holds_all (w : World) : BK.Holds (envOf w) w [allOf w] := by
  refine ⟨rfl, rfl, rfl, Nat.le_refl _, ?_, ?_⟩
  · simp only [allOf, List.flatten_cons, List.flatten_nil, List.append_nil, List.map_map]
    have : (Prod.fst ∘ fun i => (i, objAt w i)) = id := rfl
    rw [this, List.map_id]
    exact List.nodup_range
  · intro p hp
    simp only [allOf, List.flatten_cons, List.flatten_nil, List.append_nil, List.mem_map, List.mem_range] at hp
    obtain ⟨i, hi, rfl⟩ := hp
    simp [hi, objAt]
theorem grown_of {w w' : World} (h : BK.Holds (envOf w) w' [allOf w]) : ∃ q os, w' = Go.Sort.grow (w.drewN q) os := by
  refine ⟨w'.drawn - w.drawn, w'.heap.extract w.heap.size w'.heap.size, ?_⟩
  have hm : ∀ i (hi : i < w.heap.size), w'.heap[i]? = some w.heap[i] := by
    intro i hi
    have := h.mem (i, objAt w i) (by simp only [allOf, List.flatten_cons, List.flatten_nil, List.append_nil, List.mem_map, List.mem_range]; exact ⟨i, hi, rfl⟩)
    simpa [hi, objAt] using this
  have hs : w.heap.size ≤ w'.heap.size := by
    rcases Nat.eq_zero_or_pos w.heap.size with h0 | h0
    · omega
    · have := (Array.getElem?_eq_some_iff.1 (hm (w.heap.size - 1) (by omega))).1
      omega
  have hd := h.dr
  have h1 := h.os
  have h2 := h.tape
  have h3 := h.out
  obtain ⟨hp, tp, dn, os, ot⟩ := w'
  simp only [envOf] at hd h1 h2 h3
  subst h1 h2 h3
  simp only [Go.Sort.grow, World.drewN, World.mk.injEq, and_true, true_and]
  refine ⟨?_, by omega⟩
  apply Array.ext_getElem?
  intro i
  simp only [Array.getElem?_append, Array.getElem?_extract]
  by_cases hi : i < w.heap.size
  · rw [if_pos hi]
    have := hm i hi
    simp only at this
    rw [this]; simp [hi]
  · rw [if_neg hi]
    simp only at hs
    rw [show w.heap.size + (i - w.heap.size) = i by omega]
    by_cases hj : i < hp.size
    · rw [if_pos (by omega)]
    · rw [if_neg (by omega), Array.getElem?_eq_none (by omega)]
/-- The sort's own order of a row. -/
def sortK {α : Type} [Inhabited α] (cf : α → α → Int) (xs : List α) : List α := (Go.Sort.pdq (ltOf cf) xs.toArray 0 xs.length (Lib.bitLen xs.length) true true).toList
theorem sortK_sorts {α : Type} [Inhabited α] (cf : α → α → Int) (hO : Go.Sort.SWO (ltOf cf)) (xs : List α) : (sortK cf xs).length = xs.length ∧ (sortK cf xs).Perm xs ∧ Go.Sort.SortedIn (ltOf cf) 0 xs.length (sortK cf xs).toArray := by
  have h := Go.Sort.pdq_sorts (ltOf cf) hO xs.toArray 0 xs.length (Lib.bitLen xs.length) true true (Nat.zero_le _) (by simp) (Or.inl rfl)
  obtain ⟨⟨h1, h2, h3⟩, h4⟩ := h
  refine ⟨by simpa [sortK] using h1, ?_, by simpa [sortK] using h4⟩
  have e : ∀ d : Array α, d.size = xs.length → (d.extract 0 xs.length) = d := fun d hd => by rw [← hd]; simp
  rw [e _ (by simpa using h1), e _ (by simp)] at h3
  simpa [sortK] using h3
theorem flatMap_get {α : Type} {enc : α → List Value} {k : Nat} (hk : ∀ x, (enc x).length = k) : ∀ (ys : List α) (t : Nat), t < ys.length * k → ∃ (h : t / k < ys.length), (ys.flatMap enc)[t]? = (enc ys[t / k])[t % k]?
  | [], t, h => by simp at h
  | y :: ys, t, h => by
    have hk0 : 0 < k := Nat.pos_of_ne_zero (fun e => by subst e; simp at h)
    by_cases ht : t < k
    · refine ⟨by rw [Nat.div_eq_of_lt ht]; simp, ?_⟩
      simp only [Nat.div_eq_of_lt ht, Nat.mod_eq_of_lt ht, List.getElem_cons_zero, List.flatMap_cons]
      rw [List.getElem?_append_left (by rw [hk]; exact ht)]
    · have e1 : t / k = (t - k) / k + 1 := by rw [Nat.div_eq_sub_div hk0 (by omega)]
      have e2 : t % k = (t - k) % k := Nat.mod_eq_sub_mod (by omega)
      have h' : t - k < ys.length * k := by simp only [List.length_cons, Nat.add_mul, Nat.one_mul] at h; omega
      obtain ⟨g1, g2⟩ := flatMap_get hk ys (t - k) h'
      refine ⟨by rw [e1]; simpa using g1, ?_⟩
      simp only [e1, e2, List.getElem_cons_succ, List.flatMap_cons]
      rw [List.getElem?_append_right (by rw [hk]; omega), hk]
      exact g2
theorem flatK_eq {α : Type} [Inhabited α] {enc : α → List Value} {k : Nat} (hk : ∀ x, (enc x).length = k) (d : Array α) : flatK enc k d = (d.toList.flatMap enc).toArray := by
  apply Array.ext
  · rw [size_flatK]; simp [flat_length hk]
  · intro t h1 h2
    have h1' : t < d.size * k := by simpa using h1
    obtain ⟨g1, g2⟩ := flatMap_get hk d.toList t (by simpa using h1')
    have hk0 : 0 < k := Nat.pos_of_ne_zero (fun e => by subst e; simp at h1')
    have hlt : t % k < (enc d.toList[t / k]).length := by rw [hk]; exact Nat.mod_lt _ hk0
    have g3 : (flatK enc k d)[t]! = (enc d[t / k]!)[t % k]! := get_flatK enc k d t h1'
    have g1' : t / k < d.size := by simpa using g1
    rw [getElem!_pos _ t h1, getElem!_pos d _ g1', getElem!_pos _ _ (by simpa using hlt)] at g3
    rw [g3]
    have h2' : t < (d.toList.flatMap enc).length := by simpa using h2
    rw [List.getElem?_eq_getElem h2', List.getElem?_eq_getElem hlt] at g2
    have := Option.some.inj g2
    simpa using this.symm
theorem putRowK_cells {α : Type} [Inhabited α] {enc : α → List Value} {k : Nat} (hk : ∀ x, (enc x).length = k) (pre post : List Value) (xs : List α) (d : Array α) (hd : d.size = xs.length) :
    Go.Sort.putCells id pre.length (flatK enc k d) (pre ++ xs.flatMap enc ++ post).toArray = (pre ++ d.toList.flatMap enc ++ post).toArray := by
  have hl1 : (xs.flatMap enc).length = xs.length * k := flat_length hk _
  have hl2 : (d.toList.flatMap enc).length = xs.length * k := by rw [flat_length hk]; simp [hd]
  rw [flatK_eq hk]
  have hF : ((d.toList.flatMap enc).toArray).size = xs.length * k := by simpa using hl2
  generalize (d.toList.flatMap enc) = F at hl2 hF ⊢
  generalize (xs.flatMap enc) = G at hl1 ⊢
  generalize xs.length * k = q at hl1 hl2 hF
  apply Array.ext_getElem?
  intro t
  simp only [Go.Sort.putCells, Array.getElem?_mapIdx, List.getElem?_toArray, hF, id]
  by_cases h1 : t < pre.length
  · rw [List.append_assoc, List.getElem?_append_left h1, List.append_assoc, List.getElem?_append_left h1, List.getElem?_eq_getElem h1]
    simp only [Option.map_some]
    rw [if_neg (by omega)]
  · have eL : ∀ H : List Value, (pre ++ H ++ post)[t]? = (H ++ post)[t - pre.length]? := fun H => by rw [List.append_assoc, List.getElem?_append_right (by omega)]
    rw [eL, eL]
    by_cases h2 : t - pre.length < q
    · have g1 : t - pre.length < G.length := by omega
      have g2 : t - pre.length < F.length := by omega
      rw [List.getElem?_append_left g1, List.getElem?_append_left g2, List.getElem?_eq_getElem g1, List.getElem?_eq_getElem g2]
      simp only [Option.map_some]
      rw [if_pos (by omega)]
      congr 1
      rw [getElem!_pos _ _ (by simpa using g2)]
      simp
    · rw [List.getElem?_append_right (by omega), List.getElem?_append_right (by omega), hl1, hl2]
      cases post[t - pre.length - q]? with
      | none => rfl
      | some q => simp only [Option.map_some]; rw [if_neg (by omega)]
theorem sort_spec {P : Program} {ρ : Go.Shelf.Ren} {α : Type} [Inhabited α] (L : Go.Proofs.SlLaysF0.n6 P ρ) {k : Nat} (aE : ∀ w, (isAgg (ρ.t 24)).run P w = .ok true w) (zE : ∀ w, (Go.sizeOf (ρ.t 24)).run P w = .ok k w) {enc : α → List Value} (hk : ∀ x, (enc x).length = k) (h1 : ∀ x, (enc x).all Value.oneCell' = true)
    {cf : α → α → Int} (hO : Go.Sort.SWO (ltOf cf)) {g : Nat} (eg : callOk P g = true)
    (hc : ∀ (E : Env) (w : World) (Fs : List HL) (x y : α), BK.Holds E w Fs → BK.Spec P g [.agg (enc x).toArray, .agg (enc y).toArray] w fun v w' => v = .int .i64 (cf x y) ∧ BK.Holds E w' Fs)
    {E : Env} {w : World} {cs : List HL} {c : HL} {v : Value} {xs : List α} {T : Nat} (hOw : Ow enc k T v xs c) (hH : BK.Holds E w (c :: cs)) :
    BK.Spec P (ρ.f 6) [v, .func (.func g) #[] #[]] w fun r w' => ∃ c', r = .tuple #[] ∧ BK.Holds E w' (c' :: cs) ∧ Ow enc k T v (sortK cf xs) c' := by
  obtain ⟨hs1, hs2, _⟩ := sortK_sorts cf hO xs
  rcases hOw with ⟨rfl, rfl, rfl⟩ | ⟨b, pre, post, cap, rfl, rfl, h2, h3, h4⟩
  · have e : sortK cf ([] : List α) = [] := List.eq_nil_of_length_eq_zero (by simpa using hs1)
    rw [e]
    refine (Go.Proofs.AnyF.slices_SortFunc_none L none 0 _ w).mono fun e w' ⟨he, hw⟩ => ?_
    subst hw
    exact ⟨_, he, _, rfl, hH, Ow.empty⟩
  · have hget : w.heap[b]? = some (.cells (pre ++ xs.flatMap enc ++ post).toArray T (0, 0)) := hH.mem (blk b (pre ++ xs.flatMap enc ++ post) T) (by simp)
    have hblk : b < w.heap.size := (Array.getElem?_eq_some_iff.1 hget).1
    have hHK : HoldsK enc k w b pre.length xs.toArray := by
      unfold HoldsK
      rw [flatK_eq hk]
      intro j hj
      have hj' : j < (xs.flatMap enc).length := by simpa using hj
      constructor
      · refine hH.has.cell (T := T) (fz := (0, 0)) (c := pre ++ xs.flatMap enc ++ post) (by simp) ?_
        rw [List.append_assoc, List.getElem?_append_right (by omega), Nat.add_sub_cancel_left, List.getElem?_append_left hj', List.getElem?_eq_getElem hj']
        rw [getElem!_pos _ _ (by simpa using hj)]
        simp
      · simp [World.frozen?, hget]
    have hcmp : CmpLays P g #[] enc k cf b pre.length xs.toArray.size w := by
      intro m os dk _ x y
      have := hc (envOf (sortWorldK enc k w b pre.length m dk os)) _ _ x y (holds_all _)
      refine (show Calls P g _ _ _ from this).mono fun e w' ⟨v, he, hv, hh⟩ => ?_
      subst hv
      exact ⟨he, grown_of hh⟩
    have hrun := Go.Proofs.AnyQ.slices_SortFunc_eq L k aE zE enc hk (fun x q hq => List.all_eq_true.1 (h1 x) q hq) cf hO g #[] b pre.length cap xs.toArray w (fun args w => call_run eg) hcmp hHK hblk (by simp only [List.size_toArray]; omega)
    refine hrun.mono fun e w' ⟨he, n, os, hw⟩ => ?_
    refine ⟨_, he, [blk b (pre ++ (sortK cf xs).flatMap enc ++ post) T], rfl, ?_, .inr ⟨b, pre, post, cap, by rw [hs1], rfl, by rw [hs1]; exact h2, by rw [hs1]; exact h3, by rw [hs1]; exact h4⟩⟩
    subst hw
    have hpc := putRowK_cells hk pre post xs (sortK cf xs).toArray (by simpa using hs1)
    have ed : Go.Sort.pdq (ltOf cf) xs.toArray 0 xs.toArray.size (Lib.bitLen xs.toArray.size) true true = (sortK cf xs).toArray := by simp [sortK]
    rw [ed]
    have hheap : ∀ p ∈ (([blk b (pre ++ (sortK cf xs).flatMap enc ++ post) T] :: cs).flatten), (sortWorldK enc k w b pre.length n (sortK cf xs).toArray os).heap[p.1]? = some p.2 := by
      intro p hp
      have hgr : ∀ (W : World) (os : Array Obj) (i : Nat) (o : Obj), W.heap[i]? = some o → (Go.Sort.grow W os).heap[i]? = some o := by
        intro W os i o h
        have := (Array.getElem?_eq_some_iff.1 h).1
        simp only [Go.Sort.grow]
        rw [Array.getElem?_append_left this]; exact h
      refine hgr _ _ _ _ ?_
      simp only [putRowK, Go.Sort.putRow, Go.Sort.mapBlock, Go.Sort.ahead, Array.getElem?_modify]
      simp only [List.flatten_cons, List.singleton_append, List.mem_cons] at hp
      rcases hp with rfl | hp
      · simp only [if_true, hget, Option.map_some, Go.Sort.onCells, hpc]
      · have hne : b ≠ p.1 := by
          have hnd := hH.nd
          simp only [List.flatten_cons, List.singleton_append, List.map_cons, List.nodup_cons] at hnd
          exact fun e => hnd.1 (List.mem_map.2 ⟨p, hp, e.symm⟩)
        rw [if_neg hne]
        exact hH.mem p (by simp [hp])
    refine ⟨hH.os, hH.tape, hH.out, Nat.le_trans hH.dr ?_, ?_, hheap⟩
    · exact Nat.le_add_right _ _
    · simpa using hH.nd
end Go.BK
