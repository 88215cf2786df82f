/- Plain laws: the keyed sum comes to an end. Own work for this claim. -/
import Derived.Test.YtlbbpajjfhmfjaaPlainA
import Derived.Test.YtlbbpajjfhmfjaaGsip
namespace Go.Proofs
open Go.BK
theorem rot_ok (a b : Int) : Ok (math_bits_RotateLeft64 a b) fun _ => True := by
  unfold math_bits_RotateLeft64
  refine okN fun x hx => okC (by subst hx; simpa using u64_ge _) (okC (by simpa using u64_ge _) (okN fun y _ => okS trivial))
theorem round_ok (s : sip_state) (n : Int) (hn : n ≤ 140737488355328) : Ok (sip_state_round s n) fun _ => True := by
  unfold sip_state_round
  refine okC (by simpa using hn) (okForN (fun _ _ => True) trivial (fun i s _ _ => ?_) fun s _ => okS trivial)
  unfold sip_state_round_b1
  exact okB (rot_ok _ _) fun r1 _ => okN fun x1 _ => okB (rot_ok _ _) fun r2 _ => okB (rot_ok _ _) fun r3 _ => okN fun x2 _ => okB (rot_ok _ _) fun r4 _ => okN fun x3 _ => okN fun x4 _ => okB (rot_ok _ _) fun r5 _ => okN fun x5 _ => okB (rot_ok _ _) fun r6 _ => okS trivial
theorem word_ok (s : sip_state) (m : Int) : Ok (sip_state_word s m) fun _ => True := by
  unfold sip_state_word
  exact okN fun x _ => okB (round_ok _ _ (by omega)) fun r _ => okN fun y _ => okS trivial
theorem number_ok (xs : List Int) (hl : xs.length ≤ 1000000) : Ok (sip_number xs) fun _ => True := by
  unfold sip_number
  refine okForN (fun _ _ => True) trivial (fun i s hi _ => ?_) fun s _ => okS trivial
  unfold sip_number_b1
  exact okX hi (okC (by rw [i64_small (by omega) (by omega)]; simp; omega) (okN fun x _ => okS trivial))
/-- What stands behind one another. -/
theorem concat_ok (xss : List (List Int)) (hl : (xss.map List.length).sum ≤ 1000000) (hn : xss.length ≤ 1000000) : Ok (slices_Concat_byte_byte xss) fun r => r = xss.flatten := by
  unfold slices_Concat_byte_byte
  have hsum : ∀ i (hi : i < xss.length), ((xss.take (i + 1)).map List.length).sum = ((xss.take i).map List.length).sum + xss[i].length := by
    intro i hi
    rw [List.take_succ_eq_append_getElem hi, List.map_append, List.sum_append]
    simp only [List.map_cons, List.map_nil, List.sum_cons, List.sum_nil]
    omega
  have hle : ∀ i, ((xss.take i).map List.length).sum ≤ (xss.map List.length).sum := by
    intro i
    have h : (xss.map List.length).sum = ((xss.take i ++ xss.drop i).map List.length).sum := by rw [List.take_append_drop]
    rw [h, List.map_append, List.sum_append]
    omega
  refine okForN (fun i (s : Int) => s = (((xss.take i).map List.length).sum : Nat)) (by simp) (fun i s hi hs => ?_) fun s1 hs1 => ?_
  · unfold slices_Concat_byte_byte_b1
    have e1 := hsum i hi
    have e2 := hle (i + 1)
    refine okX hi (okN fun x hx => ?_)
    rw [hs, i64_small (by omega) (by omega)] at hx
    exact okF (by simp; omega) (okS (by show x = _; omega))
  · simp only [aft]
    rw [List.take_length] at hs1
    have hG : Ok (slices_Grow_byte_byte_nils s1) fun g => g = [] := by
      unfold slices_Grow_byte_byte_nils slices_Grow_byte_byte_nils_k1
      refine okF (by simp; omega) ?_
      rw [Int.sub_zero, i64_small (by omega) (by omega)]
      exact okI (fun h => okC (by simp at h ⊢; omega) (okC (by simp; omega) (okS (by simp)))) fun h => okS rfl
    refine okB hG fun g hg => ?_
    subst hg
    refine okForN (fun i (s : List Int) => s = (xss.take i).flatten) (by simp) (fun i s hi hs => ?_) fun s2 hs2 => okS (by rw [List.take_length] at hs2; exact hs2)
    unfold slices_Concat_byte_byte_b2
    have e1 := hsum i hi
    have e2 := hle (i + 1)
    have e4 : s.length = ((xss.take i).map List.length).sum := by rw [hs, List.length_flatten]
    refine okX hi (okC (by simp; omega) (okS ?_))
    show _ = _
    rw [hs, List.take_succ_eq_append_getElem hi, List.flatten_append]
    simp
/-- The sum is some number. -/
theorem sum_ok (k : Tup Int 16) (xss : List (List Int)) (hl : (xss.map List.length).sum ≤ 1000000) (hn : xss.length ≤ 1000000) : Ok (sip_Sum k xss) fun h => 0 ≤ h ∧ h < 18446744073709551616 := by
  unfold sip_Sum
  refine okB (number_ok _ (by simp; omega)) fun r1 _ => okB (number_ok _ (by simp [Tup.list_length])) fun r2 _ => okB (concat_ok xss hl hn) fun r3 h3 => ?_
  have hlen : r3.length ≤ 1000000 := by rw [h3, List.length_flatten]; exact hl
  refine okWhile (fun s => s.2.length ≤ 1000000) (fun s => s.2.length) (fun _ => False) (fun s => s.2.length ≤ 1000000) hlen (by unfold FUEL; simp only; omega) (fun s hs => ?_) (fun _ h => h.elim) fun s hs => ?_
  · unfold sip_Sum_b1
    refine okI (fun h => ?_) fun h => okS hs
    have h' : 8 ≤ s.2.length := by have := of_decide_eq_true h; omega
    exact okC (by simp; omega) (okB (number_ok _ (by simp; omega)) fun r7 _ => okB (word_ok _ _) fun r8 _ => okC (by simp; omega) (okS ⟨by simp; omega, by simp; omega⟩))
  · exact okB (number_ok _ hs) fun r4 _ => okB (word_ok _ _) fun r5 _ => okN fun x _ => okB (round_ok _ _ (by omega)) fun r6 _ => okN fun y hy => okS (by subst hy; exact ⟨u64_ge _, u64_lt _⟩)
end Go.Proofs
