/- Core I: equality of structs and arrays of plain cells. Own work for this claim. -/
import Derived.Test.YtlbbpajjfhmfjaaCoreH
import Derived.Laws.StructEq
namespace Go.BK
def leafEq : List Value → List Value → Bool
  | [.int _ a], [.int _ b] => a == b
  | [.bool a], [.bool b] => a == b
  | [.string a], [.string b] => a == b
  | _, _ => false
def leafOk (D : TypeDesc) : List Value → Bool
  | [.int k _] => match D with | .int k' => k == k' | _ => false
  | [.bool _] => match D with | .bool => true | _ => false
  | [.string _] => match D with | .string => true | _ => false
  | _ => false
def cmpB (P : Program) : Nat → Nat → List Value → List Value → Bool
  | 0, _, _, _ => false
  | d + 1, t, xs, ys => match P.underlying t with
    | some (.struct fs) => fs.toList.all fun f => cmpB P d f.type (sub xs f.offset (P.cellsOf f.type)) (sub ys f.offset (P.cellsOf f.type))
    | some (.array n e) => (List.range n).all fun i => cmpB P d e (sub xs (i * P.cellsOf e) (P.cellsOf e)) (sub ys (i * P.cellsOf e) (P.cellsOf e))
    | _ => leafEq xs ys
def shapeB (P : Program) : Nat → Nat → List Value → Bool
  | 0, _, _ => false
  | d + 1, t, xs => match P.underlying t with
    | some (.struct fs) => !P.stoodInHeld t && fs.toList.all fun f => f.name != "_" && (P.info? f.type).isSome && Nat.ble (f.offset + P.cellsOf f.type) xs.length && shapeB P d f.type (sub xs f.offset (P.cellsOf f.type))
    | some (.array n e) => (P.info? e).isSome && Nat.ble (n * P.cellsOf e) xs.length && (List.range n).all fun i => shapeB P d e (sub xs (i * P.cellsOf e) (P.cellsOf e))
    | some D => leafOk D xs
    | none => false
/-- Cells as a value of a type. -/
def valT (P : Program) (t : Nat) (xs : List Value) : Value := match aggB P t with
  | some true => .agg xs.toArray
  | _ => xs.headD (.tuple #[])
section
variable {P : Program} {w : World}
theorem cellsOf_sz {t : Nat} (h : (P.info? t).isSome = true) : szOf P t = some (P.cellsOf t) := by
  unfold szOf Program.cellsOf
  cases hi : P.info? t with
  | none => rw [hi] at h; cases h
  | some I => simp
theorem part_ok {t off : Nat} {xs : List Value} (hs : (P.info? t).isSome = true) (hl : off + P.cellsOf t ≤ xs.length) (h1 : aggB P t = some true ∨ (aggB P t = some false ∧ P.cellsOf t = 1)) :
    (part t xs.toArray off).run P w = .ok (valT P t (sub xs off (P.cellsOf t))) w := by
  rcases h1 with h1 | ⟨h1, h2⟩
  · simp only [part, Sem.run_bind, agg_ok h1, Result.andThen_ok, if_true, size_ok (cellsOf_sz hs), Sem.run_pure, valT, h1]
    congr 2
    simp [sub, Nat.add_sub_cancel_left]
  · have hlt : off < xs.length := by omega
    simp only [part, Sem.run_bind, agg_ok h1, Result.andThen_ok, Bool.false_eq_true, if_false, List.getElem?_toArray, List.getElem?_eq_getElem hlt, Sem.run_pure, valT, h1, h2]
    congr 1
    simp only [sub]
    rw [List.drop_eq_getElem_cons hlt]
    rfl
def isAggD : TypeDesc → Bool
  | .struct _ | .array _ _ => true
  | _ => false
theorem aggB_of {t : Nat} {D : TypeDesc} (h : P.underlying t = some D) : aggB P t = some (isAggD D) := by
  unfold aggB
  rw [h]
  cases D <;> rfl
theorem leaf_len {D : TypeDesc} {xs : List Value} (h : leafOk D xs = true) : xs.length = 1 := by
  match xs, h with
  | [_], _ => rfl
  | [], h => simp [leafOk] at h
  | a :: b :: r, h => cases a <;> simp [leafOk] at h
theorem shape_agg {d t : Nat} {xs : List Value} (h : shapeB P (d + 1) t xs = true) (hl : xs.length = P.cellsOf t) : aggB P t = some true ∨ (aggB P t = some false ∧ P.cellsOf t = 1) := by
  unfold shapeB at h
  cases hu : P.underlying t with
  | none => rw [hu] at h; cases h
  | some D =>
    rw [aggB_of hu]
    rw [hu] at h
    cases D <;> first
      | exact .inl rfl
      | (refine .inr ⟨rfl, ?_⟩
         rw [← hl]
         exact leaf_len h)
theorem cmp_ok : ∀ (d t : Nat) (xs ys : List Value) (w : World), shapeB P d t xs = true → shapeB P d t ys = true → (Op.equalIn d t (valT P t xs) (valT P t ys)).run P w = .ok (cmpB P d t xs ys) w := by
  intro d
  induction d with
  | zero => intro t xs ys w h; cases h
  | succ d ih =>
    intro t xs ys w hx hy
    cases hu : P.underlying t with
    | none => unfold shapeB at hx; rw [hu] at hx; cases hx
    | some D =>
      have ha := aggB_of hu
      by_cases hs : ∃ fs, D = .struct fs
      · obtain ⟨fs, rfl⟩ := hs
        replace ha : aggB P t = some true := ha
        have hfo : P.fieldsOf t = fs := by unfold Program.fieldsOf; rw [hu]
        unfold shapeB at hx hy
        simp only [hu, Bool.and_eq_true, Bool.not_eq_true'] at hx hy
        have e1 : valT P t xs = .agg xs.toArray := by unfold valT; rw [ha]
        have e2 : valT P t ys = .agg ys.toArray := by unfold valT; rw [ha]
        rw [e1, e2, run_equalIn_struct w d t _ _ (by rw [hfo]; exact hu) hx.1, hfo]
        unfold cmpB
        simp only [hu]
        have hx2 := hx.2
        have hy2 := hy.2
        generalize fs.toList = fl at hx2 hy2 ⊢
        clear hx hy hfo hu ha e1 e2
        induction fl with
        | nil => simp [Op.eqFields]
        | cons f fl ihf =>
          simp only [List.all_cons, Bool.and_eq_true, bne_iff_ne, ne_eq, Nat.ble_eq] at hx2 hy2
          obtain ⟨⟨⟨⟨hn, hi⟩, hl⟩, hsx⟩, hx3⟩ := hx2
          obtain ⟨⟨⟨⟨_, _⟩, hl'⟩, hsy⟩, hy3⟩ := hy2
          have hag : aggB P f.type = some true ∨ (aggB P f.type = some false ∧ P.cellsOf f.type = 1) := by
            cases d with
            | zero => cases hsx
            | succ d => exact shape_agg hsx (sub_length _ _ _ hl)
          have h3 := ih f.type _ _ w hsx hsy
          simp only [Op.eqFields, ne_eq, hn, not_false_eq_true, if_true, Sem.run_bind, part_ok hi hl hag, part_ok hi hl' hag, Result.andThen_ok, h3, List.all_cons]
          cases cmpB P d f.type (sub xs f.offset (P.cellsOf f.type)) (sub ys f.offset (P.cellsOf f.type))
          · simp
          · simp only [Bool.not_true, Bool.false_eq_true, if_false, Bool.true_and]
            exact ihf hx3 hy3
      · by_cases hr : ∃ n e, D = .array n e
        · obtain ⟨n, e, rfl⟩ := hr
          replace ha : aggB P t = some true := ha
          unfold shapeB at hx hy
          simp only [hu, Bool.and_eq_true, Nat.ble_eq] at hx hy
          obtain ⟨⟨hi, hlx⟩, hx2⟩ := hx
          obtain ⟨⟨_, hly⟩, hy2⟩ := hy
          have e1 : valT P t xs = .agg xs.toArray := by unfold valT; rw [ha]
          have e2 : valT P t ys = .agg ys.toArray := by unfold valT; rw [ha]
          rw [e1, e2]
          unfold cmpB
          simp only [hu]
          simp only [Op.equalIn, Sem.run_bind, und_ok hu, Result.andThen_ok, size_ok (cellsOf_sz hi), Std.Legacy.Range.forIn_eq_forIn_range', Std.Legacy.Range.size]
          have key : ∀ (m j : Nat), j + m = n → ∀ w, (forIn (List.range' j m) ((none, ()) : Option Bool × Unit) (fun i r => do
              let a ← part e xs.toArray (i * P.cellsOf e)
              let b ← part e ys.toArray (i * P.cellsOf e)
              let c ← Op.equalIn d e a b
              if (!c) = true then pure (ForInStep.done (some false, ())) else pure (ForInStep.yield (none, ()))) : Sem _).run P w = .ok (if ((List.range' j m).all fun i => cmpB P d e (sub xs (i * P.cellsOf e) (P.cellsOf e)) (sub ys (i * P.cellsOf e) (P.cellsOf e))) then (none, ()) else (some false, ())) w := by
            intro m
            induction m with
            | zero => intro j _ w; simp
            | succ m ihm =>
              intro j hj w
              have hjn : j < n := by omega
              have hle : j * P.cellsOf e + P.cellsOf e ≤ n * P.cellsOf e := by
                rw [← Nat.succ_mul]; exact Nat.mul_le_mul_right _ hjn
              have hsx := List.all_eq_true.1 hx2 j (List.mem_range.2 hjn)
              have hsy := List.all_eq_true.1 hy2 j (List.mem_range.2 hjn)
              have hag : aggB P e = some true ∨ (aggB P e = some false ∧ P.cellsOf e = 1) := by
                cases d with
                | zero => cases hsx
                | succ d => exact shape_agg hsx (sub_length _ _ _ (by omega))
              have h3 := ih e _ _ w hsx hsy
              simp only [List.range'_succ, List.forIn_cons, Sem.run_bind, part_ok hi (Nat.le_trans hle hlx) hag, part_ok hi (Nat.le_trans hle hly) hag, Result.andThen_ok, h3, List.all_cons]
              cases cmpB P d e (sub xs (j * P.cellsOf e) (P.cellsOf e)) (sub ys (j * P.cellsOf e) (P.cellsOf e))
              · simp
              · simp only [Bool.not_true, Bool.false_eq_true, if_false, Sem.run_pure, Result.andThen_ok, Bool.true_and]
                exact ihm (j + 1) (by omega) w
          have hk := key n 0 (by omega) w
          simp only [Nat.sub_zero, Nat.add_sub_cancel, Nat.div_one]
          rw [hk]
          rw [List.range_eq_range']
          cases ((List.range' 0 n).all fun i => cmpB P d e (sub xs (i * P.cellsOf e) (P.cellsOf e)) (sub ys (i * P.cellsOf e) (P.cellsOf e))) <;> rfl
        · have hd : isAggD D = false := by
            cases D <;> first | rfl | exact absurd ⟨_, rfl⟩ hs | exact absurd ⟨_, _, rfl⟩ hr
          have e1 : valT P t xs = xs.headD (.tuple #[]) := by unfold valT; rw [ha, hd]
          have e2 : valT P t ys = ys.headD (.tuple #[]) := by unfold valT; rw [ha, hd]
          rw [e1, e2]
          have hx' : leafOk D xs = true := by
            unfold shapeB at hx
            rw [hu] at hx
            cases D <;> first | exact hx | cases hd
          have hy' : leafOk D ys = true := by
            unfold shapeB at hy
            rw [hu] at hy
            cases D <;> first | exact hy | cases hd
          have hc : cmpB P (d + 1) t xs ys = leafEq xs ys := by
            unfold cmpB
            rw [hu]
            cases D <;> first | rfl | cases hd
          rw [hc]
          match xs, ys, leaf_len hx', leaf_len hy' with
          | [x], [y], _, _ =>
            cases D <;> cases x <;> (first | (simp [leafOk] at hx'; done) | skip) <;> cases y <;> (first | (simp [leafOk] at hy'; done) | skip)
            · simp only [List.headD_cons, Op.equalIn, Sem.run_bind, und_ok hu, Result.andThen_ok, Sem.run_pure, leafEq]
            · rename_i k k1 a _ k2 b _
              have h1 : k1 = k := by simpa [leafOk] using hx'
              have h2 : k2 = k := by simpa [leafOk] using hy'
              subst h1; subst h2
              simp only [List.headD_cons, Op.equalIn, Sem.run_bind, und_ok hu, Result.andThen_ok, Sem.run_pure, leafEq, if_true]
            · simp only [List.headD_cons, Op.equalIn, Sem.run_bind, und_ok hu, Result.andThen_ok, Sem.run_pure, leafEq]
/-- '==' on a type is equality of the plain values. -/
def EqOk {α : Type} [DecidableEq α] (P : Program) (t : Nat) (enc : α → List Value) : Prop := P.eqGuardType P.depth t = false ∧ ∀ x y w, (Op.equal t (.agg (enc x).toArray) (.agg (enc y).toArray)).run P w = .ok (decide (x = y)) w
theorem EqOk.of {α : Type} [DecidableEq α] {t : Nat} {enc : α → List Value} (hg : P.eqGuardType P.depth t = false) (ha : aggB P t = some true) (hs : ∀ x, shapeB P 10000 t (enc x) = true) (hc : ∀ x y, cmpB P 10000 t (enc x) (enc y) = decide (x = y)) : EqOk P t enc :=
  ⟨hg, fun x y w => by
    have := cmp_ok (P := P) 10000 t (enc x) (enc y) w (hs x) (hs y)
    rw [hc] at this
    unfold valT at this
    rw [ha] at this
    exact this⟩
end
section
variable {P : Program} {S : World → Prop} {a : Act} {w : World} {N : Nat} {σ : List (Nat × Value)} {ty : TypeId} {pos : String} {af : Array Edge} {g : Option (Nat × Bool)} {dst : Option Tmp} {α : Type} [DecidableEq α] {enc : α → List Value}
theorem rFlE {t u : TypeId} {x y : Operand} {p q : α} (hf : Fr a N σ) (hx : ev σ x = some (.agg (enc p).toArray)) (hy : ev σ y = some (.agg (enc q).toArray)) (ht : EqOk P t enc) : Runs P S a ⟨dst, .binOp .eql t x y u, ty, pos, af, g⟩ (.bool (decide (p = q))) := fun w _ => by
  have h := ht.2 p q w
  simp only [execOp, hf.ev hx, hf.ev hy, Sem.run_bind, run_eqGuard_agg w .eql t x y _ _ ht.1, Result.andThen_ok, binOp]
  rw [h]; rfl
theorem rFlN {t u : TypeId} {x y : Operand} {p q : α} (hf : Fr a N σ) (hx : ev σ x = some (.agg (enc p).toArray)) (hy : ev σ y = some (.agg (enc q).toArray)) (ht : EqOk P t enc) : Runs P S a ⟨dst, .binOp .neq t x y u, ty, pos, af, g⟩ (.bool (decide (p ≠ q))) := fun w _ => by
  have h := ht.2 p q w
  simp only [execOp, hf.ev hx, hf.ev hy, Sem.run_bind, run_eqGuard_agg w .neq t x y _ _ ht.1, Result.andThen_ok, binOp]
  rw [h]
  simp only [Result.andThen_ok, Sem.run_pure, decide_not]
end
end Go.BK
