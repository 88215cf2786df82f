/- The order of prefixes' bytes. Own work for this claim. -/
import Derived.Test.YtlbbpajjfhmfjaaCoreR
import Derived.Lib.Bytealg
namespace Go.BK
open Go.Proofs (ltOf)
/-- Lexicographic order of bytes. -/
def ltL : List UInt8 → List UInt8 → Bool
  | [], [] => false
  | [], _ :: _ => true
  | _ :: _, [] => false
  | a :: x, b :: y => a < b || (a == b && ltL x y)
theorem cmp_ltL : ∀ a b : List UInt8, decide (Lib.compareBytes a b < 0) = ltL a b
  | [], [] => rfl
  | [], _ :: _ => rfl
  | _ :: _, [] => rfl
  | a :: x, b :: y => by
    have ih := cmp_ltL x y
    simp only [Lib.compareBytes, ltL]
    by_cases h1 : a < b
    · simp [h1]
    · by_cases h2 : b < a
      · have : a ≠ b := fun e => by subst e; exact h1 h2
        simp [h1, h2, this]
      · have : a = b := UInt8.le_antisymm (UInt8.not_lt.1 h2) (UInt8.not_lt.1 h1)
        subst this
        simp [h1, ih]
theorem ltL_irrefl : ∀ a : List UInt8, ltL a a = false
  | [] => rfl
  | a :: x => by simp [ltL, ltL_irrefl x, UInt8.lt_irrefl]
theorem u8tri (a b : UInt8) : a < b ∨ a = b ∨ b < a := by
  rcases Nat.lt_trichotomy a.toNat b.toNat with h | h | h
  · exact .inl (UInt8.lt_iff_toNat_lt.2 h)
  · exact .inr (.inl (UInt8.toNat_inj.1 h))
  · exact .inr (.inr (UInt8.lt_iff_toNat_lt.2 h))
theorem ltL_iff {a b : UInt8} {x y : List UInt8} : ltL (a :: x) (b :: y) = true ↔ a < b ∨ a = b ∧ ltL x y = true := by
  simp [ltL]
theorem ltL_trans : ∀ a b c : List UInt8, ltL a b = true → ltL b c = true → ltL a c = true
  | [], [], _, h, _ => by cases h
  | [], _ :: _, [], _, h => by cases h
  | [], _ :: _, _ :: _, _, _ => rfl
  | _ :: _, [], _, h, _ => by cases h
  | _ :: _, _ :: _, [], _, h => by cases h
  | a :: x, b :: y, c :: z, h1, h2 => by
    rw [ltL_iff] at *
    rcases h1 with h1 | ⟨rfl, h1⟩
    · rcases h2 with h2 | ⟨rfl, h2⟩
      · exact .inl (UInt8.lt_trans h1 h2)
      · exact .inl h1
    · rcases h2 with h2 | ⟨rfl, h2⟩
      · exact .inl h2
      · exact .inr ⟨rfl, ltL_trans x y z h1 h2⟩
theorem ltL_tri : ∀ a b : List UInt8, ltL a b = true ∨ a = b ∨ ltL b a = true
  | [], [] => .inr (.inl rfl)
  | [], _ :: _ => .inl rfl
  | _ :: _, [] => .inr (.inr rfl)
  | a :: x, b :: y => by
    rw [ltL_iff, ltL_iff]
    rcases u8tri a b with h | rfl | h
    · exact .inl (.inl h)
    · rcases ltL_tri x y with h | rfl | h
      · exact .inl (.inr ⟨rfl, h⟩)
      · exact .inr (.inl rfl)
      · exact .inr (.inr (.inr ⟨rfl, h⟩))
    · exact .inr (.inr (.inl h))
theorem ltL_ntrans (a b c : List UInt8) (h1 : ltL a b = false) (h2 : ltL b c = false) : ltL a c = false := by
  cases h : ltL a c with
  | false => rfl
  | true =>
    rcases ltL_tri a b with g | rfl | g
    · rw [g] at h1; cases h1
    · rw [h] at h2; cases h2
    · have := ltL_trans b a c g h
      rw [this] at h2; cases h2
def toU (xs : List Int) : List UInt8 := xs.map fun n => UInt8.ofNat n.toNat
theorem ofB_toList (xs : List Int) : (ofB xs).data.toList = toU xs := by
  have key : ∀ (xs : List Int) (acc : ByteArray), (xs.foldl (fun r n => r.push (UInt8.ofNat n.toNat)) acc).data.toList = acc.data.toList ++ toU xs := by
    intro xs
    induction xs with
    | nil => intro acc; simp [toU]
    | cons x r ih => intro acc; simp only [List.foldl_cons, ih]; simp [toU, ByteArray.push]
  have := key xs ByteArray.empty
  simpa [ofB] using this
theorem bcmp_lt (xs ys : List Int) : decide (bcmp xs ys < 0) = ltL (toU xs) (toU ys) := by
  unfold bcmp
  rw [Lib.cmp_eq, cmp_ltL, ofB_toList, ofB_toList]
theorem swo_bcmp {α : Type} (f : α → List Int) : Go.Sort.SWO (ltOf fun x y => bcmp (f x) (f y)) := by
  have e : ∀ x y, ltOf (fun x y => bcmp (f x) (f y)) x y = ltL (toU (f x)) (toU (f y)) := fun x y => bcmp_lt _ _
  refine ⟨fun x => ?_, fun x y z => ?_, fun x y z => ?_⟩
  · rw [e]; exact ltL_irrefl _
  · rw [e, e, e]; exact ltL_trans _ _ _
  · rw [e, e, e]; exact ltL_ntrans _ _ _
end Go.BK
