/- Plain laws: loops and numbers. Own work for this claim. -/
import Derived.Test.YtlbbpajjfhmfjaaCoreQ
namespace Go.BK
theorem bd_some {α β : Type} {x : α} {f : α → Option β} : bd (some x) f = f x := rfl
theorem bd_of {α β : Type} {o : Option α} {x : α} {f : α → Option β} (h : o = some x) : bd o f = f x := by rw [h]; rfl
theorem ck_of {β : Type} {c : Bool} {x : Option β} (h : c = true) : ck c x = x := by rw [h]; rfl
theorem sel_t {β : Type} {c : Bool} {x y : β} (h : c = true) : sel c x y = x := by rw [h]; rfl
theorem sel_f {β : Type} {c : Bool} {x y : β} (h : c = false) : sel c x y = y := by rw [h]; rfl
/-- A loop that counts, by an invariant. -/
theorem forN_inv {R S : Type} {f : Nat → S → Option (Out R S)} (I : Nat → S → Prop) (Rr : R → Prop) (B : S → Prop) (N : Nat)
    (step : ∀ i s, i < N → I i s → ∃ o, f i s = some o ∧ match o with | .ret r => Rr r | .brk s => B s | .nxt s => I (i + 1) s) :
    ∀ (n i : Nat) (s : S), i + n = N → I i s → ∃ o, forN f n i s = some o ∧ match o with | .ret r => Rr r | .brk s => B s | .nxt s => I N s
  | 0, i, s, h, hI => ⟨.nxt s, rfl, by obtain rfl : i = N := by omega
                                       exact hI⟩
  | n + 1, i, s, h, hI => by
    obtain ⟨o, h1, h2⟩ := step i s (by omega) hI
    cases o with
    | ret r => exact ⟨.ret r, by simp only [forN, h1]; rfl, h2⟩
    | brk s => exact ⟨.brk s, by simp only [forN, h1]; rfl, h2⟩
    | nxt s' =>
      obtain ⟨o, g1, g2⟩ := forN_inv I Rr B N step n (i + 1) s' (by omega) h2
      exact ⟨o, by simp only [forN, h1]; exact g1, g2⟩
/-- .. with neither an end ahead nor a result. -/
theorem forN_nxt {R S : Type} {f : Nat → S → Option (Out R S)} (I : Nat → S → Prop) (N : Nat)
    (step : ∀ i s, i < N → I i s → ∃ s', f i s = some (.nxt s') ∧ I (i + 1) s') {s : S} (h0 : I 0 s) : ∃ s', forN f N 0 s = some (.nxt s') ∧ I N s' := by
  obtain ⟨o, h1, h2⟩ := forN_inv I (fun _ => False) (fun _ => False) N (fun i s hi hI => by
    obtain ⟨s', g1, g2⟩ := step i s hi hI
    exact ⟨_, g1, g2⟩) N 0 s (by omega) h0
  cases o with
  | ret r => exact h2.elim
  | brk s => exact h2.elim
  | nxt s => exact ⟨s, h1, h2⟩
/-- A loop, by a measure. -/
theorem whileN_inv {R S : Type} {f : S → Option (Out R S)} (I : S → Prop) (m : S → Nat) (Rr : R → Prop) (B : S → Prop)
    (step : ∀ s, I s → ∃ o, f s = some o ∧ match o with | .ret r => Rr r | .brk s => B s | .nxt s' => I s' ∧ m s' < m s) :
    ∀ (n : Nat) (s : S), m s < n → I s → ∃ o, whileN f n s = some o ∧ match o with | .ret r => Rr r | .brk s => B s | .nxt _ => False
  | 0, s, h, _ => by omega
  | n + 1, s, h, hI => by
    obtain ⟨o, h1, h2⟩ := step s hI
    cases o with
    | ret r => exact ⟨.ret r, by simp only [whileN, h1]; rfl, h2⟩
    | brk s => exact ⟨.brk s, by simp only [whileN, h1]; rfl, h2⟩
    | nxt s' =>
      obtain ⟨o, g1, g2⟩ := whileN_inv I m Rr B step n s' (by omega) h2.1
      exact ⟨o, by simp only [whileN, h1]; exact g1, g2⟩
theorem forN_congr {R S : Type} {f g : Nat → S → Option (Out R S)} (h : ∀ i s, f i s = g i s) (n i : Nat) (s : S) : forN f n i s = forN g n i s := by
  have : f = g := by funext i s; exact h i s
  rw [this]
theorem ix_nat {α : Type} (xs : List α) (i : Nat) : ix xs (i : Int) = xs[i]? := by simp [ix]
theorem ix_get {α : Type} {xs : List α} {i : Nat} (h : i < xs.length) : ix xs (i : Int) = some xs[i] := by simp [ix, h]
theorem ix_map {α β : Type} (f : α → β) (xs : List α) (i : Int) : ix (xs.map f) i = (ix xs i).map f := by
  unfold ix; split <;> simp
/-! numbers -/
theorem i64_small {n : Int} (h : -9223372036854775808 ≤ n) (h' : n ≤ 9223372036854775807) : IntKind.i64.wrap n = n := by rw [IntKind.wrap_i64]; omega
theorem u64_eq (n : Int) : IntKind.u64.wrap n = n % 18446744073709551616 := by simp [IntKind.wrap, IntKind.bits, IntKind.signed]
theorem u64_small {n : Int} (h : 0 ≤ n) (h' : n < 18446744073709551616) : IntKind.u64.wrap n = n := by rw [u64_eq]; omega
theorem u64_ge (n : Int) : 0 ≤ IntKind.u64.wrap n := by rw [u64_eq]; omega
theorem u64_lt (n : Int) : IntKind.u64.wrap n < 18446744073709551616 := by rw [u64_eq]; omega
theorem neB {n : Int} (h : n ≠ 0) : (n != 0) = true := by simpa using h
/-! what comes to an end, with Q -/
def Ok {α : Type} (o : Option α) (Q : α → Prop) : Prop := ∃ x, o = some x ∧ Q x
theorem okS {α : Type} {x : α} {Q : α → Prop} (h : Q x) : Ok (some x) Q := ⟨x, rfl, h⟩
theorem okB {α β : Type} {o : Option α} {f : α → Option β} {P : α → Prop} {Q : β → Prop} (h : Ok o P) (k : ∀ x, P x → Ok (f x) Q) : Ok (bd o f) Q := by
  obtain ⟨x, h1, h2⟩ := h
  obtain ⟨y, h3, h4⟩ := k x h2
  exact ⟨y, by rw [h1]; exact h3, h4⟩
theorem okN {α β : Type} {t : α} {f : α → Option β} {Q : β → Prop} (k : ∀ x, x = t → Ok (f x) Q) : Ok (nm t f) Q := k t rfl
theorem okC {β : Type} {c : Bool} {x : Option β} {Q : β → Prop} (h : c = true) (k : Ok x Q) : Ok (ck c x) Q := by subst h; exact k
theorem okI {β : Type} {c : Bool} {x y : Option β} {Q : β → Prop} (k1 : c = true → Ok x Q) (k2 : c = false → Ok y Q) : Ok (sel c x y) Q := by
  cases c
  · exact k2 rfl
  · exact k1 rfl
theorem okT {β : Type} {c : Bool} {x y : Option β} {Q : β → Prop} (h : c = true) (k : Ok x Q) : Ok (sel c x y) Q := by subst h; exact k
theorem okF {β : Type} {c : Bool} {x y : Option β} {Q : β → Prop} (h : c = false) (k : Ok y Q) : Ok (sel c x y) Q := by subst h; exact k
theorem okM {α : Type} {o : Option α} {P Q : α → Prop} (h : Ok o P) (k : ∀ x, P x → Q x) : Ok o Q := by
  obtain ⟨x, h1, h2⟩ := h
  exact ⟨x, h1, k x h2⟩
theorem okX {α β : Type} {xs : List α} {i : Nat} {f : α → Option β} {Q : β → Prop} (h : i < xs.length) (k : Ok (f xs[i]) Q) : Ok (bd (ix xs (i : Int)) f) Q := by rw [ix_get h]; exact k
theorem okE {α : Type} {o : Option α} {x : α} (h : o = some x) : Ok o (fun y => y = x) := ⟨x, h, rfl⟩
/-- A loop that counts, and what is behind it. -/
theorem okFor {R S β : Type} {f : Nat → S → Option (Out R S)} {k : Out R S → Option β} {N : Nat} {s : S} {Q : β → Prop} (I : Nat → S → Prop) (Rr : R → Prop) (B : S → Prop) (h0 : I 0 s)
    (step : ∀ i s, i < N → I i s → Ok (f i s) fun | .ret r => Rr r | .brk s => B s | .nxt s => I (i + 1) s)
    (hr : ∀ r, Rr r → Ok (k (.ret r)) Q) (hb : ∀ s, B s → Ok (k (.brk s)) Q) (hn : ∀ s, I N s → Ok (k (.nxt s)) Q) : Ok (bd (forN f N 0 s) k) Q := by
  obtain ⟨o, h1, h2⟩ := forN_inv I Rr B N (fun i s hi hI => by
    obtain ⟨o, g1, g2⟩ := step i s hi hI
    exact ⟨o, g1, by cases o <;> exact g2⟩) N 0 s (by omega) h0
  rw [h1]
  show Ok (k o) Q
  cases o with
  | ret r => exact hr r h2
  | brk s => exact hb s h2
  | nxt s => exact hn s h2
/-- .. that always goes to its end. -/
theorem okForN {R S β : Type} {f : Nat → S → Option (Out R S)} {k : Out R S → Option β} {N : Nat} {s : S} {Q : β → Prop} (I : Nat → S → Prop) (h0 : I 0 s)
    (step : ∀ i s, i < N → I i s → Ok (f i s) fun | .nxt s => I (i + 1) s | _ => False) (hn : ∀ s, I N s → Ok (k (.nxt s)) Q) : Ok (bd (forN f N 0 s) k) Q :=
  okFor I (fun _ => False) (fun _ => False) h0 (fun i s hi hI => okM (step i s hi hI) fun o ho => by cases o <;> exact ho) (fun _ h => h.elim) (fun _ h => h.elim) hn
theorem okWhile {R S β : Type} {f : S → Option (Out R S)} {k : Out R S → Option β} {n : Nat} {s : S} {Q : β → Prop} (I : S → Prop) (m : S → Nat) (Rr : R → Prop) (B : S → Prop) (h0 : I s) (hm : m s < n)
    (step : ∀ s, I s → Ok (f s) fun | .ret r => Rr r | .brk s => B s | .nxt s' => I s' ∧ m s' < m s)
    (hr : ∀ r, Rr r → Ok (k (.ret r)) Q) (hb : ∀ s, B s → Ok (k (.brk s)) Q) : Ok (bd (whileN f n s) k) Q := by
  obtain ⟨o, h1, h2⟩ := whileN_inv I m Rr B (fun s hI => by
    obtain ⟨o, g1, g2⟩ := step s hI
    exact ⟨o, g1, by cases o <;> exact g2⟩) n s hm h0
  rw [h1]
  show Ok (k o) Q
  cases o with
  | ret r => exact hr r h2
  | brk s => exact hb s h2
  | nxt s => exact h2.elim
end Go.BK
