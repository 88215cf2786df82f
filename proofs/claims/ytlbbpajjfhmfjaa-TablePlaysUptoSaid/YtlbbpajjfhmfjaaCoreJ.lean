/- Core J: parts of slices, rows that are made, copied, cleared. Own work for this claim. -/
import Derived.Test.YtlbbpajjfhmfjaaCoreI
namespace Go.BK
def mxIs : Option Nat → Nat → Nat → Prop
  | none, cap, m => m = cap
  | some x, _, m => m = x
/-- v' is v[lo:hi] (or v[lo:hi:mx]). -/
def SlOk (v : Value) (k l h : Nat) (mx : Option Nat) (v' : Value) : Prop := ∃ A len cap m, v = .slice A len cap ∧ l ≤ h ∧ h ≤ len ∧ h ≤ m ∧ m ≤ cap ∧ len ≤ cap ∧ mxIs mx cap m ∧ v' = .slice (slA A m l k) (h - l) (m - l)
section
variable {α : Type} {enc : α → List Value} {k T : Nat} {v : Value} {xs : List α} {c C : HL}
theorem flat_cut (xs : List α) (l h : Nat) (hlh : l ≤ h) : xs.flatMap enc = (xs.take l).flatMap enc ++ ((xs.take h).drop l).flatMap enc ++ (xs.drop h).flatMap enc := by
  have e : xs = xs.take l ++ (xs.take h).drop l ++ xs.drop h := by
    have : xs.take l = (xs.take h).take l := by rw [List.take_take, Nat.min_eq_left hlh]
    rw [this, List.take_append_drop, List.take_append_drop]
  exact (congrArg (List.flatMap enc) e).trans (by rw [List.flatMap_append, List.flatMap_append])
theorem cut_length (xs : List α) (l h : Nat) (hh : h ≤ xs.length) : ((xs.take h).drop l).length = h - l := by simp [Nat.min_eq_left hh]
theorem Ow.sl (hO : Ow enc k T v xs c) (hk : ∀ x, (enc x).length = k) {l h : Nat} (mx : Option Nat) (hl : l ≤ h) (hh : h ≤ xs.length) (hm : ∀ x, mx = some x → h ≤ x ∧ x ≤ xs.length) : ∃ v', Ow enc k T v' ((xs.take h).drop l) c ∧ SlOk v k l h mx v' := by
  rcases hO with ⟨rfl, rfl, rfl⟩ | ⟨b, pre, post, cap, rfl, rfl, h1, h2, h3⟩
  · have e1 : h = 0 := by simpa using hh
    have e2 : l = 0 := by omega
    subst e1; subst e2
    refine ⟨.slice none 0 0, .inl ⟨rfl, by simp, rfl⟩, none, 0, 0, 0, rfl, by omega, by omega, by omega, by omega, by omega, ?_, by simp [slA]⟩
    cases mx with
    | none => rfl
    | some x => have := hm x rfl; simp at this; exact this.symm
  · have hmm : ∃ m, h ≤ m ∧ m ≤ cap ∧ mxIs mx cap m := by
      cases mx with
      | none => exact ⟨cap, by omega, by omega, rfl⟩
      | some x => have := hm x rfl; exact ⟨x, this.1, by omega, rfl⟩
    obtain ⟨m, hm1, hm2, hm3⟩ := hmm
    refine ⟨.slice (slA (some ⟨b, pre.length, none⟩) m l k) (h - l) (m - l), .inr ?_, _, _, cap, m, rfl, hl, hh, hm1, hm2, h1, hm3, rfl⟩
    have hcl := cut_length xs l h hh
    by_cases hml : m = l
    · have : h = l := by omega
      subst this
      refine ⟨b, pre, xs.flatMap enc ++ post, m - h, ?_, ?_, ?_, ?_, ?_⟩
      · simp [slA, hml]
      · simp
      · simp
      · simp
      · simp [hml]
    · refine ⟨b, pre ++ (xs.take l).flatMap enc, (xs.drop h).flatMap enc ++ post, m - l, ?_, ?_, ?_, ?_, ?_⟩
      · have e1 : (xs.take l).length = l := by simp; omega
        have : (pre ++ (xs.take l).flatMap enc).length = pre.length + l * k := by rw [List.length_append, flat_length hk, e1]
        rw [slA_some hml, hcl, this]
      · rw [flat_cut xs l h hl]; simp
      · rw [hcl]; omega
      · rw [hcl]; omega
      · rw [hcl, List.length_append, flat_length hk, List.length_drop]
        have : (m - l - (h - l)) * k ≤ (xs.length - h) * k + (cap - xs.length) * k := by
          rw [← Nat.add_mul]; exact Nat.mul_le_mul_right _ (by omega)
        omega
theorem Rd.sl (hR : Rd C enc v xs) (hk : ∀ x, (enc x).length = k) {l h : Nat} (mx : Option Nat) (hl : l ≤ h) (hh : h ≤ xs.length) (hm : ∀ x, mx = some x → h ≤ x ∧ x ≤ xs.length) : ∃ v', Rd C enc v' ((xs.take h).drop l) ∧ SlOk v k l h mx v' := by
  obtain ⟨A, cap, rfl, h1, h2, h4⟩ := hR
  have hmm : ∃ m, h ≤ m ∧ m ≤ cap ∧ mxIs mx cap m := by
    cases mx with
    | none => exact ⟨cap, by omega, by omega, rfl⟩
    | some x => have := hm x rfl; exact ⟨x, this.1, by omega, rfl⟩
  obtain ⟨m, hm1, hm2, hm3⟩ := hmm
  have hcl := cut_length xs l h hh
  refine ⟨.slice (slA A m l k) (h - l) (m - l), ⟨_, m - l, by rw [hcl], by rw [hcl]; omega, by rw [hcl]; omega, ?_⟩, _, _, cap, m, rfl, hl, hh, hm1, hm2, h1, hm3, rfl⟩
  by_cases hml : m = l
  · exact .inl (List.eq_nil_of_length_eq_zero (by rw [hcl]; omega))
  · rcases h4 with rfl | ⟨b, pre, post, T', fz, rfl, hmem⟩
    · exact .inl (by simp)
    · refine .inr ⟨b, pre ++ (xs.take l).flatMap enc, (xs.drop h).flatMap enc ++ post, T', fz, ?_, ?_⟩
      · have e1 : (xs.take l).length = l := by simp; omega
        have : (pre ++ (xs.take l).flatMap enc).length = pre.length + l * k := by rw [List.length_append, flat_length hk, e1]
        rw [slA_some hml, this]
      · rw [flat_cut xs l h hl] at hmem
        simpa using hmem
/-- A part of a variable's block reads as a list. -/
theorem Rd.arr {b o : Nat} {cells pre post : List Value} {T : TypeId} (hc : cells = pre ++ xs.flatMap enc ++ post) (ho : pre.length = o) (hl : Nat.ble xs.length 1000000 = true) : Rd [blk b cells T] enc (.slice (some ⟨b, o, none⟩) xs.length xs.length) xs := by
  have hle : xs.length ≤ 1000000 := by simpa [Nat.ble_eq] using hl
  subst hc; subst ho
  exact ⟨_, _, rfl, Nat.le_refl _, by omega, .inr ⟨b, pre, post, T, (0, 0), rfl, by simp⟩⟩
end
section
variable {P : Program} {l : List Oper} {Q : Exit → Act → World → Prop} {dr : Bool} {S : World → Prop} {a : Act} {w : World} {N : Nat} {σ : List (Nat × Value)} {i d : Nat} {r : Plan} {o : Oper} {v : Value}
variable {ty : TypeId} {pos : String} {af : Array Edge} {g : Option (Nat × Bool)} {dst : Option Tmp} {cs cs' : List HL} {E : Env}
/-- A bound as the walk has it: left out, or a number. -/
def bNum (dflt : Nat) : Option Value → Nat → Prop
  | none, m => m = dflt
  | some (.int _ i), m => 0 ≤ i ∧ m = i.toNat
  | _, _ => False
theorem bNum.is {dflt most m : Nat} {v : Option Value} (h : bNum dflt v m) (hm : m ≤ most) : bIs dflt most v m := by
  cases v with
  | none => exact h
  | some v => cases v <;> first | exact h | (exact ⟨h.1, by have := h.2; omega, h.2⟩)
theorem rSlO {t e n kk l' h' : Nat} {x : Operand} {lo hi mx : Option Operand} {len cap : Nat} {A : Option Addr} {mn : Option Nat} {v' : Value} {vlo vhi vmx : Option Value} (hf : Fr a N σ) (hx : ev σ x = some v) (ht : sliceEl P t = some (e, n, kk))
    (hlo : optev σ lo = some vlo) (hhi : optev σ hi = some vhi) (hmx : optev σ mx = some vmx) (hs : SlOk v n l' h' mn v') (hl : bNum 0 vlo l') (hh : ∀ A len cap, v = .slice A len cap → bNum len vhi h') (hm : match mn with | none => vmx = none | some m => bNum 0 vmx m ∧ vmx.isSome = true) (hc : (vhi.isSome || vmx.isNone) = true) :
    Runs P S a ⟨dst, .slice t x lo hi mx, ty, pos, af, g⟩ v' := by
  obtain ⟨A, len, cap, m, rfl, h1, h2, h3, h4, h5, h6, rfl⟩ := hs
  refine rSl hf hx ht hlo hhi hmx ?_ ((hh _ _ _ rfl).is h3) (hl.is h1) hc
  cases mn with
  | none => subst hm; exact h6
  | some q =>
    have h6' : m = q := h6
    subst h6'
    obtain ⟨hm1, hm2⟩ := hm
    cases vmx with
    | none => cases hm2
    | some u =>
      cases u <;> first | (exact hm1.elim) | exact ⟨hm1.1, by have := hm1.2; omega, hm1.2⟩
/-- The same of an array's variable. -/
theorem rSaO {t e n k b off l' h' : Nat} {x : Operand} {lo hi : Option Operand} {vlo vhi : Option Value} {v' : Value} (hf : Fr a N σ) (hx : ev σ x = some (ptr b off)) (ht : arrEl P t = some (n, e, k))
    (hlo : optev σ lo = some vlo) (hhi : optev σ hi = some vhi) (hs : SlOk (.slice (some ⟨b, off, none⟩) n n) k l' h' none v') (hl : bNum 0 vlo l') (hh : bNum n vhi h') :
    Runs P S a ⟨dst, .slice t x lo hi none, ty, pos, af, g⟩ v' := by
  obtain ⟨A, len, cap, m, hv, h1, h2, h3, h4, h5, h6, rfl⟩ := hs
  cases hv
  have h6' : m = n := h6
  subst h6'
  exact rSa hf hx ht hlo hhi rfl rfl (hh.is h3) (hl.is h1) (by simp)
/-- A row is made. -/
theorem eMk {α : Type} {enc : α → List Value} {z : α} {t k T by_ : Nat} {x y : Operand} {len cap : Int} {kl kc : IntKind} (hf : Fr a N σ) (hi : nth l i = some ⟨some d, .makeSlice t x y, ty, pos, af, none⟩) (hn : Nat.blt d N = true) (hx : ev σ x = some (.int kl len)) (hy : ev σ y = some (.int kc cap))
    (hs : sliceEl P t = some (T, k, by_)) (hz : zCells P T = some (enc z)) (hk : (enc z).length = k) (h0 : (decide (0 ≤ len) && decide (len ≤ cap) && decide (cap ≤ 4294967296) && Nat.ble by_ 65536) = true) (hH : Holds E w cs)
    (kk : ∀ v c a' w', Ow enc k T v (List.replicate len.toNat z) c → (∃ A, v = .slice A len.toNat cap.toNat) → Holds E w' (c :: cs) → Fr a' N ((d, v) :: σ) → Kt P l Q dr S i r a' w') : planWp P l.toArray Q dr S (.e i r) a w := by
  refine e0 hi rfl ?_
  simp only [Bool.and_eq_true, decide_eq_true_eq, Nat.ble_eq] at h0
  obtain ⟨⟨⟨h1, h2⟩, h3⟩, h4⟩ := h0
  unfold sliceEl at hs
  split at hs
  case h_2 => cases hs
  rename_i e hu
  split at hs
  case h_2 => cases hs
  rename_i I hI
  cases hs
  have hsz : szOf P T = some I.size := by unfold szOf; rw [hI]; rfl
  obtain ⟨zv, hz1, hz2⟩ := zero_ok (w := w) hz
  have wr : ∀ n : Int, 0 ≤ n → n ≤ 4294967296 → IntKind.i64.wrap n = n := by
    intro n g1 g2
    simp only [IntKind.wrap, IntKind.bits, IntKind.signed]
    have e1 : n % (2 ^ 64 : Int) = n := Int.emod_eq_of_lt g1 (by omega)
    simp only [e1]
    rw [if_neg]
    simp only [Bool.true_and, decide_eq_true_eq]; omega
  have w1 := wr len h1 (by omega)
  have w2 := wr cap (by omega) h3
  have hby : ¬ ((I.bytes : Int) * cap > 2 ^ 48) := by
    have : (I.bytes : Int) * cap ≤ 65536 * 4294967296 := Int.mul_le_mul (by omega) h3 (by omega) (by omega)
    omega
  have hcap0 : ¬ cap < 0 := by omega
  have hlen0 : ¬ len < 0 := by omega
  have hlc : ¬ len > cap := by omega
  have hcells : ∃ q : List Value, (cap.toNat * I.size = 0 → q.toArray = #[]) ∧ (cap.toNat * I.size ≠ 0 → zv.cells = q.toArray) ∧ (Array.range (cap.toNat * I.size)).map (q.toArray[· % q.toArray.size]!) = ((List.replicate cap.toNat z).flatMap enc).toArray := by
    by_cases hz0 : cap.toNat * I.size = 0
    · refine ⟨[], fun _ => rfl, fun h => absurd hz0 h, ?_⟩
      rw [hz0]
      have : ((List.replicate cap.toNat z).flatMap enc).length = 0 := by simp [hk, hz0]
      rw [List.eq_nil_of_length_eq_zero this]; simp
    · refine ⟨enc z, fun h => absurd h hz0, fun _ => hz2, ?_⟩
      apply Array.ext
      · simp [hk]
      · intro j hj1 hj2
        have hIpos : 0 < I.size := Nat.pos_of_ne_zero (fun h => hz0 (by rw [h]; simp))
        have hlt : j % I.size < (enc z).length := by rw [hk]; exact Nat.mod_lt _ hIpos
        simp only [Array.getElem_map, Array.getElem_range, List.size_toArray, hk, List.getElem_toArray]
        have key : ∀ (n j : Nat) (h : j < ((List.replicate n z).flatMap enc).length), ((List.replicate n z).flatMap enc)[j] = (enc z)[j % I.size]'(by rw [hk]; exact Nat.mod_lt _ hIpos) := by
          intro n
          induction n with
          | zero => intro j h; simp at h
          | succ n ih =>
            intro j h
            simp only [List.replicate_succ, List.flatMap_cons]
            by_cases hjl : j < I.size
            · rw [List.getElem_append_left (by rw [hk]; exact hjl)]
              simp [Nat.mod_eq_of_lt hjl]
            · rw [List.getElem_append_right (by rw [hk]; omega)]
              have := ih (j - (enc z).length) (by simp only [List.replicate_succ, List.flatMap_cons, List.length_append] at h; omega)
              rw [this]
              congr 1
              rw [hk]
              exact (Nat.mod_eq_sub_mod (by omega)).symm
        rw [key]
        simp [hlt]
  obtain ⟨q, hq0, hq1, hq2⟩ := hcells
  have e5 : (List.replicate cap.toNat z).flatMap enc = [] ++ (List.replicate len.toNat z).flatMap enc ++ (List.replicate (cap.toNat - len.toNat) z).flatMap enc := by
    rw [List.nil_append, ← List.flatMap_append, List.replicate_append_replicate]
    congr 2
    omega
  have fin_ := kk (.slice (some ⟨w.heap.size, 0, none⟩) len.toNat cap.toNat) [blk w.heap.size ([] ++ (List.replicate len.toNat z).flatMap enc ++ (List.replicate (cap.toNat - len.toNat) z).flatMap enc) T] (a.put (some d) (.slice (some ⟨w.heap.size, 0, none⟩) len.toNat cap.toNat)) _ (.inr ⟨w.heap.size, [], _, cap.toNat, by simp, rfl, by simp; omega, by simp; omega, by simp [hk]⟩) ⟨_, rfl⟩ (by rw [← e5]; exact hH.alloc _) (hf.put hn)
  unfold Oper.wp
  simp only [execOp, hf.ev hx, hf.ev hy, Instr.makeSlice, Sem.run_bind, und_ok hu, Result.andThen_ok, asInt, asIntOf, Sem.run_pure, info_ok hI, w1, w2, hby, hcap0, hlen0, hlc, decide_false, Bool.or_self, Bool.false_eq_true, if_false, run_askRoom, size_ok hsz]
  by_cases hz0 : cap.toNat * I.size = 0
  · rw [hq0 hz0] at hq2
    simp only [if_pos hz0, Sem.run_bind, Sem.run_pure, Result.andThen_ok, hq2, newRow_ok]
    exact fin_
  · have hq1' := hq1 hz0
    simp only [if_neg hz0, Sem.run_bind, Sem.run_pure, Result.andThen_ok, hz1, hq1', hq2, newRow_ok]
    exact fin_
end
end Go.BK
