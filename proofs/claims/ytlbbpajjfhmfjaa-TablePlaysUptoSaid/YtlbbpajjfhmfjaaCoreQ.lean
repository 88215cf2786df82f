/- Core Q: bytes compared, slices of slices built, append of a make. Own work for this claim. -/
import Derived.Test.YtlbbpajjfhmfjaaCoreP
import Derived.Laws.Externs
import Derived.Lib.AppendZeros
namespace Go.BK
theorem loadBytes_ok {P : Program} {w : World} (b : Nat) : ∀ (xs : List Int) (o : Nat) (acc : ByteArray), (∀ j v, (xs.map fun n => Value.int .u8 n)[j]? = some v → w.cell? ⟨b, o + j, none⟩ = some v) →
    (Extern.Bytes.loadBytes ⟨b, o, none⟩ xs.length acc).run P w = .ok (xs.foldl (fun r n => r.push (UInt8.ofNat n.toNat)) acc) w
  | [], o, acc, _ => by simp [Extern.Bytes.loadBytes]
  | x :: xs, o, acc, h => by
    have h0 : w.cell? ⟨b, o, none⟩ = some (.int .u8 x) := by simpa using h 0 (.int .u8 x) (by simp)
    have ih := loadBytes_ok (P := P) (w := w) b xs (o + 1) (acc.push x.toNat.toUInt8) (fun j v hv => by
      have := h (j + 1) v (by simpa using hv)
      rwa [show o + 1 + j = o + (j + 1) by omega])
    simp only [List.length_cons, Extern.Bytes.loadBytes, Sem.run_bind, load_ok h0, Result.andThen_ok, Addr.add]
    exact ih
theorem map_flat8 (xs : List Int) : xs.flatMap (fun y => [Value.int .u8 y]) = xs.map (fun n => Value.int .u8 n) := by
  induction xs with
  | nil => rfl
  | cons a r ih => simp [List.flatMap_cons, ih]
theorem Rd.bytesOf {P : Program} {C : HL} {xs : List Int} {v : Value} {w : World} {cs : List HL} (h : Rd C (fun y => [.int .u8 y]) v xs) (hC : In C cs) (hw : Has cs w) : (Extern.Bytes.bytesOf v).run P w = .ok (ofB xs) w := by
  obtain ⟨A, cap, rfl, h1, h2, h4⟩ := h
  rcases h4 with rfl | ⟨b, pre, post, T, fz, rfl, hm⟩
  · cases A <;> simp [Extern.Bytes.bytesOf, Extern.Bytes.loadBytes, ofB] <;> rfl
  · simp only [Extern.Bytes.bytesOf]
    refine loadBytes_ok b xs pre.length _ fun j v hv => hw.cell (hC _ hm) ?_
    rw [List.append_assoc, List.getElem?_append_right (by omega), Nat.add_sub_cancel_left, map_flat8, List.getElem?_append_left (List.getElem?_eq_some_iff.1 hv).1]
    exact hv
/-- How two rows of bytes stand. -/
def bcmp (xs ys : List Int) : Int := Extern.BytealgCompare.cmp (ofB xs) (ofB ys)
def cmpOk (P : Program) (f : FuncId) : Bool := match P.funcs[f]? with
  | some fn => !(fn.name == "runtime.NumGoroutine") && fn.body.isNone && (Extern.findNext fn).isNone
  | none => false
section
variable {P : Program} {l : List Oper} {Q : Exit → Act → World → Prop} {dr : Bool} {S : World → Prop} {a : Act} {w : World} {E : Env} {N : Nat} {Tt : Tl} {cs cs' : List HL} {σ : List (Nat × Value)} {i d : Nat} {r : Plan} {o : Oper} {v : Value}
variable {ty : TypeId} {pos : String} {af : Array Edge} {g : Option (Nat × Bool)} {dst : Option Tmp} {x y : Operand}
theorem wCmp {f : FuncId} {fn : Func} {args : List Operand} {ts : Array TypeId} {xs ys : List Int} {u : Value} {C C' : HL} (hi : nth l i = some ⟨some d, .call ⟨.value (.func f), args.toArray, ts⟩, ty, pos, af, g⟩) (hg : Gd l σ ⟨some d, .call ⟨.value (.func f), args.toArray, ts⟩, ty, pos, af, g⟩) (hn : Nat.blt d N = true) (hx : evs σ args = some [v, u])
    (hf0 : P.funcs[f]? = some fn) (hk : cmpOk P f = true) (he : Extern.find fn = some Extern.BytealgCompare.compare) (h1 : Rd C (fun y => [.int .u8 y]) v xs) (hC : In C cs) (h2 : Rd C' (fun y => [.int .u8 y]) u ys) (hC' : In C' cs)
    (hr : RN dr l i Tt cs) (kk : Wk P l Q dr E N Tt cs ((d, .int .i64 (bcmp xs ys)) :: σ) r) : Wk P l Q dr E N Tt cs σ (.e i r) := fun a w hf hH => wEf hf hi hg (by
  unfold cmpOk at hk
  rw [hf0] at hk
  simp only [Bool.and_eq_true, Bool.not_eq_true', Option.isNone_iff_eq_none] at hk
  have hrun := run_callFunc_extern hf0 hk.1.1 (by simp [hk.1.2]) hk.2 he #[v, u] w
  have e1 : (Extern.BytealgCompare.compare #[v, u]).run P w = .ok (.int .i64 (bcmp xs ys)) w := by
    show (do pure (goInt (Extern.BytealgCompare.cmp (← Extern.Bytes.bytesOf v) (← Extern.Bytes.bytesOf u))) : Sem Value).run P w = _
    simp only [Sem.run_bind, h1.bytesOf (P := P) hC hH.has, h2.bytesOf (P := P) hC' hH.has, Result.andThen_ok, Sem.run_pure, bcmp, goInt]
  unfold Oper.wp
  simp only [execOp, resolve, List.map_toArray, hf.evs hx, Act.eval, Deferred.ofValue, Sem.run_bind, Sem.run_pure, Result.andThen_ok, invoke, Array.append_empty, Array.empty_append, hrun, e1]
  exact hr.kt (hf.put hn) hH kk)
end
/-- A slice of slices, just built. -/
theorem rdpG {α : Type} {C c : HL} {k T : Nat} {R : HL → List Value → α → Prop} {v : Value} {gs : List (Tup Value k)} {xs : List α} (h : Ow (raw k) k T v gs c) (hs : Sub c C) (ha : All2 (fun g x => R C (raw k g) x) gs xs) : RdP C k R v xs := ⟨gs, h.rd.mono hs, ha⟩
def intK (P : Program) (t : TypeId) : Bool := match P.underlying t with | some (.int _) => true | _ => false
section
variable {P : Program} {l : List Oper} {Q : Exit → Act → World → Prop} {dr : Bool} {S : World → Prop} {a : Act} {w : World} {E : Env} {N : Nat} {Tt : Tl} {cs cs' : List HL} {σ : List (Nat × Value)} {i d : Nat} {r : Plan} {o : Oper} {v : Value}
variable {ty : TypeId} {pos : String} {af : Array Edge} {g : Option (Nat × Bool)} {dst : Option Tmp} {x y : Operand}
/-- append(nil, make(n)...). -/
theorem wApZ {α : Type} {enc : α → List Value} {z : α} {t tn k T by_ : Nat} {kn : IntKind} {n : Int} (hi : nth l i = some ⟨some d, .call ⟨.builtin .append, #[x, y], #[t, tn]⟩, ty, pos, af, g⟩) (hg : Gd l σ ⟨some d, .call ⟨.builtin .append, #[x, y], #[t, tn]⟩, ty, pos, af, g⟩) (hn : Nat.blt d N = true)
    (hx : ev σ x = some (.slice none 0 0)) (hy : ev σ y = some (.int kn n)) (ht : sliceEl P t = some (T, k, by_)) (htn : intK P tn = true) (hz : zCells P T = some (enc z)) (hk : ∀ x, (enc x).length = k) (hk0 : Nat.blt 0 k = true)
    (hb : (decide (0 ≤ n) && decide (n * by_ ≤ 140737488355328) && decide (n ≤ 140737488355328)) = true)
    (kk : ∀ v' c', Ow enc k T v' (List.replicate n.toNat z) c' → RN dr l i Tt (c' :: cs) ∧ Wk P l Q dr E N Tt (c' :: cs) ((d, v') :: σ) r) : Wk P l Q dr E N Tt cs σ (.e i r) := fun a w hf hH => wEf hf hi hg (by
  simp only [Bool.and_eq_true, decide_eq_true_eq] at hb
  obtain ⟨⟨hb0, hb1⟩, hb2⟩ := hb
  have ht0 := ht
  unfold sliceEl at ht
  split at ht
  case h_2 => cases ht
  rename_i e hu
  split at ht
  case h_2 => cases ht
  rename_i I hI
  cases ht
  unfold intK at htn
  split at htn
  case h_2 => cases htn
  rename_i k2 hu2
  obtain ⟨zz, hz1, hz2⟩ : ∃ zz, I.zero = some zz ∧ zz.cells = (enc z).toArray := by
    unfold zCells at hz
    rw [hI] at hz
    simp only [Option.bind_some] at hz
    cases hzo : I.zero with
    | none => rw [hzo] at hz; cases hz
    | some q => rw [hzo] at hz; simp at hz; exact ⟨q, rfl, by rw [← hz]⟩
  have hsz : szOf P T = some I.size := by unfold szOf; rw [hI]; rfl
  obtain ⟨m, rfl⟩ := Int.eq_ofNat_of_zero_le hb0
  have hk0' : 0 < I.size := by simpa [Nat.blt_eq] using hk0
  have key : ∃ v' c' w', (Builtin.append_ #[t, tn] ty #[.slice none 0 0, .int kn (m : Int)]).run P w = .ok v' w' ∧ Ow enc I.size T v' (List.replicate m z) c' ∧ Holds E w' (c' :: cs) := by
    by_cases hm : m = 0
    · subst hm
      refine ⟨.slice none 0 0, [], w, ?_, Ow.empty, hH.nil⟩
      have hw : IntKind.i64.wrap (0 : Int) = 0 := by decide
      have hbb : ¬ ((0 : Int) * (I.bytes : Int) > 281474976710656) := by simp
      simp [Builtin.append_, und_ok hu, und_ok hu2, size_ok hsz, asInt, asIntOf, hw, info_ok hI]
    · have hr := Lib.run_append_nil_zeros (P := P) w t tn ty T I zz kn k2 hu hu2 hI hz1 m (by omega) hk0' (by omega) (by omega)
      refine ⟨_, _, _, hr, .inr ⟨w.heap.size, [], (List.replicate (grownCap w m 0 T - m) z).flatMap enc, grownCap w m 0 T, by simp, rfl, ?_, by simp; omega, ?_⟩, ?_⟩
      · simp only [List.length_replicate]
        unfold grownCap Question.cut
        exact Nat.le_add_right _ _
      · rw [flat_length hk]; simp
      · have hrep : ∀ q, Builtin.zeroCells (enc z).toArray q = ((List.replicate q z).flatMap enc).toArray := by
          intro q
          unfold Builtin.zeroCells
          apply Array.ext
          · simp [hk]
          · intro j hj1 hj2
            have hlt : j % I.size < (enc z).length := by rw [hk]; exact Nat.mod_lt _ hk0'
            simp only [Array.getElem_map, Array.getElem_range, List.size_toArray, hk, List.getElem_toArray]
            have key : ∀ (n j : Nat) (h : j < ((List.replicate n z).flatMap enc).length), ((List.replicate n z).flatMap enc)[j] = (enc z)[j % I.size]'(by rw [hk]; exact Nat.mod_lt _ hk0') := by
              intro n
              induction n with
              | zero => intro j h; simp at h
              | succ n ih =>
                intro j h
                simp only [List.replicate_succ, List.flatMap_cons]
                by_cases hjl : j < I.size
                · rw [List.getElem_append_left (by rw [hk]; exact hjl)]
                  simp [Nat.mod_eq_of_lt hjl]
                · rw [List.getElem_append_right (by rw [hk]; omega)]
                  have hkz := hk z
                  have := ih (j - (enc z).length) (by simp only [List.replicate_succ, List.flatMap_cons, List.length_append] at h; omega)
                  rw [this]
                  congr 1
                  rw [hk]
                  exact (Nat.mod_eq_sub_mod (by omega)).symm
            rw [key]
            simp [hlt]
        have := (hH.drew (w.drawn + 1)).alloc (.cells (Builtin.zeroCells zz.cells m ++ Builtin.zeroCells zz.cells (grownCap w m 0 T - m)) T)
        have e3 : blk w.heap.size ([] ++ (List.replicate m z).flatMap enc ++ (List.replicate (grownCap w m 0 T - m) z).flatMap enc) T = (w.heap.size, Obj.cells (Builtin.zeroCells zz.cells m ++ Builtin.zeroCells zz.cells (grownCap w m 0 T - m)) T) := by
          simp [blk, hz2, hrep]
        rw [e3]
        exact this
  obtain ⟨v', c', w', hr, hO', hH'⟩ := key
  obtain ⟨g1, g2⟩ := kk v' c' (by simpa using hO')
  unfold Oper.wp
  simp only [execOp, resolve, List.map_toArray, List.map_cons, List.map_nil, hf.ev hx, hf.ev hy, Sem.run_bind, Sem.run_pure, Result.andThen_ok, invoke, builtin, hr]
  exact g1.kt (hf.put hn) hH' g2)
end
section
variable {P : Program} {l : List Oper} {Q : Exit → Act → World → Prop} {dr : Bool} {E : Env} {N : Nat} {Tt : Tl} {cs : List HL} {σ : List (Nat × Value)} {i d : Nat} {r : Plan} {o : Oper}
theorem wGnU {j t : Nat} {oj : Oper} {want : Bool} (hi : nth l i = some o) (hg : o.guard = some (j, want)) (hj : nth l j = some oj) (ht : oj.dst = some t) (hc : look σ t = some undef)
    (hd : o.dst = some d) (hn : Nat.blt d N = true) (k : Wk P l Q dr E N Tt cs ((d, undef) :: σ) r) : Wk P l Q dr E N Tt cs σ (.y i r) :=
  wG (v := undef) hi hg hj ht hc (c := false) rfl hd hn (fun h => by cases h) k
theorem wGeU {j t : Nat} {oj : Oper} {want : Bool} (hi : nth l i = some o) (hg : o.guard = some (j, want)) (hj : nth l j = some oj) (ht : oj.dst = some t) (hc : look σ t = some undef)
    (hd : o.dst = some d) (hn : Nat.blt d N = true) (hR : RN dr l i Tt cs) (k : Wk P l Q dr E N Tt cs ((d, undef) :: σ) r) : Wk P l Q dr E N Tt cs σ (.e i r) :=
  fun a w hf hH => egT hf hi hg hj ht hc (c := false) rfl (fun h => by cases h) fun _ => hR.kt (by rw [hd]; exact hf.put hn) hH k
theorem wGe0U {j t : Nat} {oj : Oper} {want : Bool} (hi : nth l i = some o) (hg : o.guard = some (j, want)) (hj : nth l j = some oj) (ht : oj.dst = some t) (hc : look σ t = some undef)
    (hd : o.dst = none) (hR : RN dr l i Tt cs) (k : Wk P l Q dr E N Tt cs σ r) : Wk P l Q dr E N Tt cs σ (.e i r) :=
  fun a w hf hH => egT hf hi hg hj ht hc (c := false) rfl (fun h => by cases h) fun _ => hR.kt (by rw [hd]; exact hf) hH k
end
end Go.BK
