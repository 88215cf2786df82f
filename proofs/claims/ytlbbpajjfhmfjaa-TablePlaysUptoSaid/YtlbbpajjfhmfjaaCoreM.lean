/- Core M: small steps that the generator's second form needs. Own work for this claim. -/
import Derived.Test.YtlbbpajjfhmfjaaCoreL
namespace Go.BK
section
variable {C D c : HL}
theorem growL0 : ∀ p ∈ C, p ∈ C ++ c := fun _ h => List.mem_append_left _ h
theorem growR0 : ∀ p ∈ c, p ∈ C ++ c := fun _ h => List.mem_append_right _ h
theorem growL : ∀ p ∈ C ++ D, p ∈ C ++ (D ++ c) := fun _ h => by rw [← List.append_assoc]; exact List.mem_append_left _ h
theorem growR : ∀ p ∈ c, p ∈ C ++ (D ++ c) := fun _ h => by rw [← List.append_assoc]; exact List.mem_append_right _ h
theorem growA : ∀ p ∈ (C ++ D) ++ c, p ∈ C ++ (D ++ c) := fun _ h => by rwa [← List.append_assoc]
end
theorem RdP.nil {α : Type} (C : HL) (k : Nat) (R : HL → List Value → α → Prop) : RdP C k R (.slice none 0 0) ([] : List α) := ⟨[], Rd.nil _ _, trivial⟩
theorem sub_consG {cs cs' : List HL} {c c' : HL} {j : Nat} (hc : nth cs j = some c') (hs : ∀ p ∈ c, p ∈ c') (h : ∀ p ∈ cs'.flatten, p ∈ cs.flatten) : ∀ p ∈ (c :: cs').flatten, p ∈ cs.flatten := by
  intro p hp
  simp only [List.flatten_cons, List.mem_append] at hp
  rcases hp with hp | hp
  · exact memV hc (hs p hp)
  · exact h p hp
theorem Holds.eq {E : Env} {w : World} {cs cs' : List HL} (h : Holds E w cs) (e : cs = cs') : Holds E w cs' := e ▸ h
/-- A field's place in a struct's cells: where, how many, whether itself a row. -/
def fldOf (P : Program) (t fi : Nat) : Option (Nat × Nat × Bool) :=
  match P.underlying t with
  | some (.struct fs) => match fs[fi]? with
    | some f => match aggB P f.type, szOf P f.type with
      | some b, some n => some (f.offset, n, b)
      | _, _ => none
    | none => none
  | _ => none
section
variable {P : Program} {l : List Oper} {Q : Exit → Act → World → Prop} {dr : Bool} {S : World → Prop} {a : Act} {w : World} {N : Nat} {σ : List (Nat × Value)} {i d : Nat} {r : Plan} {o : Oper} {v : Value}
variable {ty : TypeId} {pos : String} {af : Array Edge} {g : Option (Nat × Bool)} {dst : Option Tmp} {cs cs' : List HL} {E : Env}
theorem rFld {t fi off n : Nat} {x : Operand} {cells : List Value} (hf : Fr a N σ) (hx : ev σ x = some (.agg cells.toArray)) (h : fldOf P t fi = some (off, n, false)) (hv : nth cells off = some v) : Runs P S a ⟨dst, .field t x fi, ty, pos, af, g⟩ v := fun w _ => by
  unfold fldOf at h
  split at h
  case h_2 => cases h
  rename_i fs hu
  split at h
  case h_2 => cases h
  rename_i f hfi
  split at h
  case h_2 => cases h
  rename_i b n' hb hn
  cases h
  rw [nth_eq] at hv
  simp only [execOp, hf.ev hx, Instr.field, Sem.run_bind, und_ok hu, Result.andThen_ok, hfi, asAgg, Sem.run_pure, part, agg_ok hb, Bool.false_eq_true, if_false, List.getElem?_toArray, hv]
theorem rFlds {t fi off n : Nat} {x : Operand} {cells vs : List Value} (hf : Fr a N σ) (hx : ev σ x = some (.agg cells.toArray)) (h : fldOf P t fi = some (off, n, true)) (hv : sub cells off n = vs) : Runs P S a ⟨dst, .field t x fi, ty, pos, af, g⟩ (.agg vs.toArray) := fun w _ => by
  unfold fldOf at h
  split at h
  case h_2 => cases h
  rename_i fs hu
  split at h
  case h_2 => cases h
  rename_i f hfi
  split at h
  case h_2 => cases h
  rename_i b n' hb hn
  cases h
  subst hv
  have e : cells.toArray.extract f.offset (f.offset + n) = (sub cells f.offset n).toArray := by simp [sub]
  simp only [execOp, hf.ev hx, Instr.field, Sem.run_bind, und_ok hu, Result.andThen_ok, hfi, asAgg, Sem.run_pure, part, agg_ok hb, if_true, size_ok hn, e]
end
/-! ends of functions without results -/
section
variable {P : Program} {a : Act} {w : World} {N : Nat} {σ : List (Nat × Value)} {fn : Func} {R : Value → World → Prop}
theorem rt0 (hf : Fr a N σ) (hr : fn.results = #[]) (h : R (.tuple #[]) w) : bodyPost P fn (fun e w' => ∃ v, e = .returned v ∧ R v w') .ret a w := ret0' hf hr h
end
/-- A function entered; its post under a letter, for those without results. -/
theorem enterQ0 {P : Program} {w : World} {f : FuncId} {fn : Func} {c : Code} {vs : List Value} {R : Value → World → Prop} (hf : P.funcs[f]? = some fn) (hb : fn.body = some c) (hn : Nat.ble vs.length fn.ntmps = true) (hr : fn.results = #[])
    (h : ∀ a (Q : Exit → Act → World → Prop), NP Q → (∀ a w, bodyPost P fn (fun e w' => ∃ v, e = .returned v ∧ R v w') .ret a w → Q .ret a w) → (∀ a w, bodyPost P fn (fun e w' => ∃ v, e = .returned v ∧ R v w') .normal a w → Q .normal a w) →
      Fr a fn.ntmps ((List.range vs.length).zip vs) → c.wp P Q a w) : Spec P f vs w R :=
  enter hf hb hn fun a hf => h a _ inferInstance (fun _ _ h => h) (fun _ _ h => h) hf
end Go.BK
