/- Core O: the steps that a program prints, second part. Own work for this claim. -/
import Derived.Test.YtlbbpajjfhmfjaaCoreN
import Derived.Laws.BytesString
namespace Go.BK
theorem spl {α : Type} {c : Bool} {x y r : α} {G : Prop} (h : sel c x y = r) (h1 : c = true → x = r → G) (h2 : c = false → y = r → G) : G := by
  cases c
  · exact h2 rfl h
  · exact h1 rfl h
theorem nT {b : Bool} (h : b = true) : (!b) = false := by subst h; rfl
theorem nF {b : Bool} (h : b = false) : (!b) = true := by subst h; rfl
theorem nT2 {b : Bool} (h : (!b) = true) : b = false := by cases b <;> simp_all
theorem nF2 {b : Bool} (h : (!b) = false) : b = true := by cases b <;> simp_all
theorem OO.nil {α : Type} {ob : Nat → α → HL → Prop} {p : Option Addr} {x : Option α} {h : HL} (hO : OO ob p x h) (hx : x.isNone = true) : p = Option.none ∧ h = [] := by
  rcases hO with ⟨h1, _, h2⟩ | ⟨b, y, _, rfl, _⟩
  · exact ⟨h1, h2⟩
  · cases hx
theorem OO.res {α : Type} {ob : Nat → α → HL → Prop} {p : Option Addr} {x : Option α} {h : HL} {y : α} (hO : OO ob p x h) (hx : x = Option.some y) : ∃ b, p = Option.some (Addr.mk b 0 Option.none) ∧ ob b y h := by
  subst hx
  rcases hO with ⟨_, h1, _⟩ | ⟨b, y', h1, h2, h3⟩
  · cases h1
  · cases h2; exact ⟨b, h1, h3⟩
theorem beqI (a b : Int) : (a == b) = decide (a = b) := rfl
theorem beqB : ∀ a b : Bool, (a == b) = decide (a = b) := by decide
def Tup.eqB {α : Type} (f : α → α → Bool) : (n : Nat) → Tup α n → Tup α n → Bool
  | 0, _, _ => true
  | n + 1, t, u => f t.1 u.1 && Tup.eqB f n t.2 u.2
theorem Tup.eqB_dec {α : Type} [DecidableEq α] {f : α → α → Bool} (h : ∀ a b, f a b = decide (a = b)) : (n : Nat) → (t u : Tup α n) → Tup.eqB f n t u = decide (t = u)
  | 0, t, u => by simp [Tup.eqB]; cases t; cases u; rfl
  | n + 1, t, u => by
    simp only [Tup.eqB, h, Tup.eqB_dec h n]
    rw [← Bool.decide_and]
    refine decide_eq_decide.2 ⟨fun ⟨h1, h2⟩ => ?_, fun h => ?_⟩
    · exact Prod.ext h1 h2
    · subst h; exact ⟨rfl, rfl⟩
/-- An element that is held: at m of block b stands number i, z. -/
def Foc {α : Type} (enc : α → List Value) (k T : Nat) (v : Value) (xs : List α) (i : Nat) (z : α) (c : HL) (b m : Nat) : Prop := Focus enc k T v xs i z c b m ∧ xs[i]? = some z
section
variable {α : Type} {enc : α → List Value} {k T i b m : Nat} {v : Value} {xs : List α} {z : α} {c : HL}
theorem Foc.own (h : Foc enc k T v xs i z c b m) : Ow enc k T v xs c := h.1.own h.2
theorem Foc.elem (h : Foc enc k T v xs i z c b m) : ElemAt c b m (enc z) := h.1.elem
theorem Ow.att {iv : Int} (h : Ow enc k T v xs c) (hk : ∀ x, (enc x).length = k) (hz : ix xs iv = some z) : ∃ b m, Foc enc k T v xs iv.toNat z c b m ∧ IxOk v k iv b m := by
  obtain ⟨b, m, h1, h2⟩ := h.at hk hz
  exact ⟨b, m, ⟨h1, (ixS hz).2.1⟩, h2⟩
end
theorem RP.mono {α : Type} {k : Nat} {R : HL → List Value → α → Prop} (hR : RMono R) : RMono (fun C g (xs : List α) => ∃ v, g = [v] ∧ RdP C k R v xs) := fun _ _ _ _ s ⟨v, hg, h⟩ => ⟨v, hg, h.mono hR s⟩
def RP {α : Type} (k : Nat) (R : HL → List Value → α → Prop) (C : HL) (g : List Value) (xs : List α) : Prop := ∃ v, g = [v] ∧ RdP C k R v xs
/-- A slice of the program's own, of things that hold slices, which lie in C. -/
def OwP {α : Type} (C : HL) (k T : Nat) (R : HL → List Value → α → Prop) (v : Value) (xs : List α) (c : HL) : Prop := ∃ gs : List (Tup Value k), Ow (raw k) k T v gs c ∧ All2 (fun g x => R C (raw k g) x) gs xs
theorem OwP.empty {α : Type} {C : HL} {k T : Nat} {R : HL → List Value → α → Prop} : OwP C k T R (.slice none 0 0) ([] : List α) [] := ⟨[], Ow.empty, trivial⟩
theorem OwP.mono {α : Type} {C C' : HL} {k T : Nat} {R : HL → List Value → α → Prop} {v : Value} {xs : List α} {c : HL} (h : OwP C k T R v xs c) (hR : RMono R) (hs : Sub C C') : OwP C' k T R v xs c := by
  obtain ⟨gs, h1, h2⟩ := h
  exact ⟨gs, h1, h2.imp fun _ _ => hR _ _ _ _ hs⟩
theorem OwP.le {α : Type} {C : HL} {k T : Nat} {R : HL → List Value → α → Prop} {v : Value} {xs : List α} {c : HL} (h : OwP C k T R v xs c) : xs.length ≤ 140737488355328 := by
  obtain ⟨gs, h1, h2⟩ := h
  rw [← all2_length h2]; exact h1.le
theorem OwP.hd {α : Type} {C : HL} {k T : Nat} {R : HL → List Value → α → Prop} {v : Value} {xs : List α} {c : HL} (h : OwP C k T R v xs c) : ∃ A n k, v = .slice A n k := by
  obtain ⟨gs, h1, _⟩ := h
  exact h1.hd
theorem OwP.rdp {α : Type} {C C' : HL} {k T : Nat} {R : HL → List Value → α → Prop} {v : Value} {xs : List α} {c : HL} (h : OwP C k T R v xs c) (hR : RMono R) (h1 : Sub c C') (h2 : Sub C C') : RdP C' k R v xs := by
  obtain ⟨gs, g1, g2⟩ := h
  exact ⟨gs, g1.rd.mono h1, g2.imp fun _ _ => hR _ _ _ _ h2⟩
theorem OwP.at {α : Type} {C c : HL} {k T : Nat} {R : HL → List Value → α → Prop} {v : Value} {xs : List α} {iv : Int} {z : α} (h : OwP C k T R v xs c) (hz : ix xs iv = some z) : ∃ g b m, ElemAt c b m (raw k g) ∧ IxOk v k iv b m ∧ R C (raw k g) z := by
  obtain ⟨gs, h1, h2⟩ := h
  obtain ⟨h0, h3, _, _⟩ := ixS hz
  obtain ⟨g, hg, hR⟩ := all2_get h2 _ _ h3
  have hi : ix gs iv = some g := by unfold ix; rw [if_pos h0]; exact hg
  obtain ⟨b, m, hE, hI⟩ := h1.rd.at (raw_len k) hi
  exact ⟨g, b, m, hE, hI, hR⟩

/-! ### Parts of slices -/
/-- What the slice instruction makes of v with these bounds. -/
def SlW (v : Value) (k : Nat) (lo hi mx : Option Value) (v' : Value) : Prop := ∃ A len cap l h m, v = .slice A len cap ∧ bIs cap cap mx m ∧ bIs len m hi h ∧ bIs 0 h lo l ∧ (hi.isSome || mx.isNone) = true ∧ v' = .slice (slA A m l k) (h - l) (m - l)
theorem SlOk.w {v v' : Value} {k l h : Nat} {mx : Option Nat} (hs : SlOk v k l h mx v') {lo hi vmx : Option Value} (hl : bNum 0 lo l) (hh : ∀ A len cap, v = .slice A len cap → bNum len hi h) (hm : match mx with | none => vmx = none | some m => bNum 0 vmx m ∧ vmx.isSome = true) (hc : (hi.isSome || vmx.isNone) = true) : SlW v k lo hi vmx v' := by
  obtain ⟨A, len, cap, m, rfl, h1, h2, h3, h4, h5, h6, rfl⟩ := hs
  refine ⟨A, len, cap, l, h, m, rfl, ?_, (hh _ _ _ rfl).is h3, hl.is h1, hc, rfl⟩
  cases mx with
  | none => subst hm; exact h6
  | some q =>
    have h6' : m = q := h6
    subst h6'
    obtain ⟨hm1, hm2⟩ := hm
    cases vmx with
    | none => cases hm2
    | some u => cases u <;> first | (exact hm1.elim) | exact ⟨hm1.1, by have := hm1.2; omega, hm1.2⟩
section
variable {α : Type} {enc : α → List Value} {k T : Nat} {v : Value} {xs : List α} {c C : HL} {kl kh km : IntKind}
theorem Ow.len {A : Option Addr} {n cap : Nat} (h : Ow enc k T (.slice A n cap) xs c) : n = xs.length := by
  rcases h with ⟨h1, rfl, _⟩ | ⟨b, pre, post, cap', h1, _⟩ <;> cases h1 <;> rfl
theorem Rd.len {A : Option Addr} {n cap : Nat} (h : Rd C enc (.slice A n cap) xs) : n = xs.length := by
  obtain ⟨A', cap', h1, _⟩ := h; cases h1; rfl
theorem Ow.slLH {l h : Int} (hk : ∀ x, (enc x).length = k) (hO : Ow enc k T v xs c) (hc : (decide (0 ≤ l) && decide (l ≤ h) && decide (h ≤ (xs.length : Int))) = true) : ∃ v', Ow enc k T v' ((xs.take h.toNat).drop l.toNat) c ∧ SlW v k (some (.int kl l)) (some (.int kh h)) none v' := by
  simp only [Bool.and_eq_true, decide_eq_true_eq] at hc
  obtain ⟨v', h1, h2⟩ := hO.sl hk (l := l.toNat) (h := h.toNat) none (by omega) (by omega) (fun x hx => by cases hx)
  exact ⟨v', h1, h2.w ⟨hc.1.1, rfl⟩ (fun _ _ _ _ => ⟨by omega, rfl⟩) rfl rfl⟩
theorem Ow.slH {h : Int} (hk : ∀ x, (enc x).length = k) (hO : Ow enc k T v xs c) (hc : (decide (0 ≤ h) && decide (h ≤ (xs.length : Int))) = true) : ∃ v', Ow enc k T v' (xs.take h.toNat) c ∧ SlW v k none (some (.int kh h)) none v' := by
  simp only [Bool.and_eq_true, decide_eq_true_eq] at hc
  obtain ⟨v', h1, h2⟩ := hO.sl hk (l := 0) (h := h.toNat) none (by omega) (by omega) (fun x hx => by cases hx)
  exact ⟨v', by simpa using h1, h2.w rfl (fun _ _ _ _ => ⟨by omega, rfl⟩) rfl rfl⟩
theorem Ow.slHM {h m : Int} (hk : ∀ x, (enc x).length = k) (hO : Ow enc k T v xs c) (hc : (decide (0 ≤ h) && decide (h ≤ (xs.length : Int)) && decide (h ≤ m) && decide (m ≤ (xs.length : Int))) = true) : ∃ v', Ow enc k T v' (xs.take h.toNat) c ∧ SlW v k none (some (.int kh h)) (some (.int km m)) v' := by
  simp only [Bool.and_eq_true, decide_eq_true_eq] at hc
  obtain ⟨v', h1, h2⟩ := hO.sl hk (l := 0) (h := h.toNat) (some m.toNat) (by omega) (by omega) (fun x hx => by cases hx; omega)
  exact ⟨v', by simpa using h1, h2.w rfl (fun _ _ _ _ => ⟨by omega, rfl⟩) ⟨⟨by omega, rfl⟩, rfl⟩ rfl⟩
theorem Ow.slL {l : Int} (hk : ∀ x, (enc x).length = k) (hO : Ow enc k T v xs c) (hc : (decide (0 ≤ l) && decide (l ≤ (xs.length : Int))) = true) : ∃ v', Ow enc k T v' (xs.drop l.toNat) c ∧ SlW v k (some (.int kl l)) none none v' := by
  simp only [Bool.and_eq_true, decide_eq_true_eq] at hc
  obtain ⟨v', h1, h2⟩ := hO.sl hk (l := l.toNat) (h := xs.length) none (by omega) (by omega) (fun x hx => by cases hx)
  refine ⟨v', by simpa using h1, h2.w ⟨hc.1, rfl⟩ (fun A n cap hv => ?_) rfl rfl⟩
  subst hv
  exact hO.len.symm
theorem Ow.slN (hk : ∀ x, (enc x).length = k) (hO : Ow enc k T v xs c) : ∃ v', Ow enc k T v' xs c ∧ SlW v k none none none v' := by
  obtain ⟨v', h1, h2⟩ := hO.sl hk (l := 0) (h := xs.length) none (by omega) (by omega) (fun x hx => by cases hx)
  refine ⟨v', by simpa using h1, h2.w rfl (fun A n cap hv => ?_) rfl rfl⟩
  subst hv
  exact hO.len.symm
theorem Rd.slLH {l h : Int} (hk : ∀ x, (enc x).length = k) (hO : Rd C enc v xs) (hc : (decide (0 ≤ l) && decide (l ≤ h) && decide (h ≤ (xs.length : Int))) = true) : ∃ v', Rd C enc v' ((xs.take h.toNat).drop l.toNat) ∧ SlW v k (some (.int kl l)) (some (.int kh h)) none v' := by
  simp only [Bool.and_eq_true, decide_eq_true_eq] at hc
  obtain ⟨v', h1, h2⟩ := hO.sl hk (l := l.toNat) (h := h.toNat) none (by omega) (by omega) (fun x hx => by cases hx)
  exact ⟨v', h1, h2.w ⟨hc.1.1, rfl⟩ (fun _ _ _ _ => ⟨by omega, rfl⟩) rfl rfl⟩
theorem Rd.slH {h : Int} (hk : ∀ x, (enc x).length = k) (hO : Rd C enc v xs) (hc : (decide (0 ≤ h) && decide (h ≤ (xs.length : Int))) = true) : ∃ v', Rd C enc v' (xs.take h.toNat) ∧ SlW v k none (some (.int kh h)) none v' := by
  simp only [Bool.and_eq_true, decide_eq_true_eq] at hc
  obtain ⟨v', h1, h2⟩ := hO.sl hk (l := 0) (h := h.toNat) none (by omega) (by omega) (fun x hx => by cases hx)
  exact ⟨v', by simpa using h1, h2.w rfl (fun _ _ _ _ => ⟨by omega, rfl⟩) rfl rfl⟩
theorem Rd.slHM {h m : Int} (hk : ∀ x, (enc x).length = k) (hO : Rd C enc v xs) (hc : (decide (0 ≤ h) && decide (h ≤ (xs.length : Int)) && decide (h ≤ m) && decide (m ≤ (xs.length : Int))) = true) : ∃ v', Rd C enc v' (xs.take h.toNat) ∧ SlW v k none (some (.int kh h)) (some (.int km m)) v' := by
  simp only [Bool.and_eq_true, decide_eq_true_eq] at hc
  obtain ⟨v', h1, h2⟩ := hO.sl hk (l := 0) (h := h.toNat) (some m.toNat) (by omega) (by omega) (fun x hx => by cases hx; omega)
  exact ⟨v', by simpa using h1, h2.w rfl (fun _ _ _ _ => ⟨by omega, rfl⟩) ⟨⟨by omega, rfl⟩, rfl⟩ rfl⟩
theorem Rd.slL {l : Int} (hk : ∀ x, (enc x).length = k) (hO : Rd C enc v xs) (hc : (decide (0 ≤ l) && decide (l ≤ (xs.length : Int))) = true) : ∃ v', Rd C enc v' (xs.drop l.toNat) ∧ SlW v k (some (.int kl l)) none none v' := by
  simp only [Bool.and_eq_true, decide_eq_true_eq] at hc
  obtain ⟨v', h1, h2⟩ := hO.sl hk (l := l.toNat) (h := xs.length) none (by omega) (by omega) (fun x hx => by cases hx)
  refine ⟨v', by simpa using h1, h2.w ⟨hc.1, rfl⟩ (fun A n cap hv => ?_) rfl rfl⟩
  subst hv
  exact hO.len.symm
theorem Rd.slN (hk : ∀ x, (enc x).length = k) (hO : Rd C enc v xs) : ∃ v', Rd C enc v' xs ∧ SlW v k none none none v' := by
  obtain ⟨v', h1, h2⟩ := hO.sl hk (l := 0) (h := xs.length) none (by omega) (by omega) (fun x hx => by cases hx)
  refine ⟨v', by simpa using h1, h2.w rfl (fun A n cap hv => ?_) rfl rfl⟩
  subst hv
  exact hO.len.symm
/-- A part of an array's variable, to be read. -/
theorem arLH {n b T o : Nat} {t : Tup α n} {l h : Int} {cells pre post : List Value} {e : α → List Value} (hk : ∀ x, (e x).length = k) (hc : cells = pre ++ Tup.cells e n t ++ post) (ho : pre.length = o) (hx : (decide (0 ≤ l) && decide (l ≤ h) && decide (h ≤ (n : Int))) = true) (hn : Nat.ble n 1000000 = true := by rfl) :
    ∃ v', Rd [blk b cells T] e v' (((Tup.list n t).take h.toNat).drop l.toNat) ∧ SlW (.slice (some ⟨b, o, none⟩) n n) k (some (.int kl l)) (some (.int kh h)) none v' := by
  have hR : Rd [blk b cells T] e (.slice (some ⟨b, o, none⟩) n n) (Tup.list n t) := by
    have := Rd.arr (xs := Tup.list n t) (enc := e) (b := b) (T := T) (cells := cells) (pre := pre) (post := post) (by rw [← Tup.cells_flat]; exact hc) ho (by rw [Tup.list_length]; exact hn)
    rwa [Tup.list_length] at this
  exact hR.slLH hk (by rw [Tup.list_length]; exact hx)
theorem arH {n b T o : Nat} {t : Tup α n} {l h : Int} {cells pre post : List Value} {e : α → List Value} (hk : ∀ x, (e x).length = k) (hc : cells = pre ++ Tup.cells e n t ++ post) (ho : pre.length = o) (hx : (decide (0 ≤ l) && decide (l ≤ h) && decide (h ≤ (n : Int))) = true) (hn : Nat.ble n 1000000 = true := by rfl) :
    ∃ v', Rd [blk b cells T] e v' ((Tup.list n t).take h.toNat) ∧ SlW (.slice (some ⟨b, o, none⟩) n n) k none (some (.int kh h)) none v' := by
  simp only [Bool.and_eq_true, decide_eq_true_eq] at hx
  have hR : Rd [blk b cells T] e (.slice (some ⟨b, o, none⟩) n n) (Tup.list n t) := by
    have := Rd.arr (xs := Tup.list n t) (enc := e) (b := b) (T := T) (cells := cells) (pre := pre) (post := post) (by rw [← Tup.cells_flat]; exact hc) ho (by rw [Tup.list_length]; exact hn)
    rwa [Tup.list_length] at this
  exact hR.slH hk (by rw [Tup.list_length]; simp only [Bool.and_eq_true, decide_eq_true_eq]; omega)
theorem arS {n b T o : Nat} {t : Tup α n} {l h : Int} {cells pre post : List Value} {e : α → List Value} (hk : ∀ x, (e x).length = k) (hc : cells = pre ++ Tup.cells e n t ++ post) (ho : pre.length = o) (hx : (decide (0 ≤ l) && decide (l ≤ h) && decide (h ≤ (n : Int))) = true) (hn : Nat.ble n 1000000 = true := by rfl) :
    ∃ v', Rd [blk b cells T] e v' (Tup.list n t) ∧ SlW (.slice (some ⟨b, o, none⟩) n n) k none none none v' := by
  have hR : Rd [blk b cells T] e (.slice (some ⟨b, o, none⟩) n n) (Tup.list n t) := by
    have := Rd.arr (xs := Tup.list n t) (enc := e) (b := b) (T := T) (cells := cells) (pre := pre) (post := post) (by rw [← Tup.cells_flat]; exact hc) ho (by rw [Tup.list_length]; exact hn)
    rwa [Tup.list_length] at this
  exact hR.slN hk
end
theorem arL {α : Type} {k : Nat} {kl : IntKind} {n b T o : Nat} {t : Tup α n} {l h : Int} {cells pre post : List Value} {e : α → List Value} (hk : ∀ x, (e x).length = k) (hc : cells = pre ++ Tup.cells e n t ++ post) (ho : pre.length = o) (hx : (decide (0 ≤ l) && decide (l ≤ h) && decide (h ≤ (n : Int))) = true) (hn : Nat.ble n 1000000 = true := by rfl) :
    ∃ v', Rd [blk b cells T] e v' ((Tup.list n t).drop l.toNat) ∧ SlW (.slice (some ⟨b, o, none⟩) n n) k (some (.int kl l)) none none v' := by
  simp only [Bool.and_eq_true, decide_eq_true_eq] at hx
  have hR : Rd [blk b cells T] e (.slice (some ⟨b, o, none⟩) n n) (Tup.list n t) := by
    have := Rd.arr (xs := Tup.list n t) (enc := e) (b := b) (T := T) (cells := cells) (pre := pre) (post := post) (by rw [← Tup.cells_flat]; exact hc) ho (by rw [Tup.list_length]; exact hn)
    rwa [Tup.list_length] at this
  exact hR.slL hk (by rw [Tup.list_length]; simp only [Bool.and_eq_true, decide_eq_true_eq]; omega)
theorem Runs.lit {P : Program} {S : World → Prop} {a : Act} {o : Oper} {kd : IntKind} {m n : Int} (h : Runs P S a o (.int kd m)) (e : m = n) : Runs P S a o (.int kd n) := e ▸ h
section
variable {P : Program} {l : List Oper} {Q : Exit → Act → World → Prop} {dr : Bool} {S : World → Prop} {a : Act} {w : World} {E : Env} {N : Nat} {Tt : Tl} {cs cs' : List HL} {σ : List (Nat × Value)} {i d : Nat} {r : Plan} {o : Oper} {v : Value}
variable {ty : TypeId} {pos : String} {af : Array Edge} {g : Option (Nat × Bool)} {dst : Option Tmp} {x y : Operand} {c1 c2 : Code} {id : Nat}
theorem rSlP {t e n kk : Nat} {lo hi mx : Option Operand} {vlo vhi vmx : Option Value} {v' : Value} (hf : Fr a N σ) (hx : ev σ x = some v) (ht : sliceEl P t = some (e, n, kk)) (hlo : optev σ lo = some vlo) (hhi : optev σ hi = some vhi) (hmx : optev σ mx = some vmx) (hs : SlW v n vlo vhi vmx v') :
    Runs P S a ⟨dst, .slice t x lo hi mx, ty, pos, af, g⟩ v' := by
  obtain ⟨A, len, cap, l', h', m', rfl, hm, hh, hl, hc, rfl⟩ := hs
  exact rSl hf hx ht hlo hhi hmx hm hh hl hc
theorem rSaP {t e n k b off : Nat} {lo hi : Option Operand} {vlo vhi : Option Value} {v' : Value} (hf : Fr a N σ) (hx : ev σ x = some (ptr b off)) (ht : arrEl P t = some (n, e, k)) (hlo : optev σ lo = some vlo) (hhi : optev σ hi = some vhi) (hs : SlW (.slice (some ⟨b, off, none⟩) n n) k vlo vhi none v') :
    Runs P S a ⟨dst, .slice t x lo hi none, ty, pos, af, g⟩ v' := by
  obtain ⟨A, len, cap, l', h', m', hv, hm, hh, hl, hc, rfl⟩ := hs
  cases hv
  exact rSa hf hx ht hlo hhi rfl hm hh hl hc
theorem rPkT {c : Operand} {b : Bool} (hf : Fr a N σ) (hc : ev σ c = some (.bool b)) (hb : b = true) (hx : ev σ x = some v) : Runs P S a ⟨dst, .pick c x y, ty, pos, af, g⟩ v := fun w _ => by
  subst hb; simp only [execOp, hf.ev hc, hf.ev hx, asBool]; rfl
theorem rPkF {c : Operand} {b : Bool} (hf : Fr a N σ) (hc : ev σ c = some (.bool b)) (hb : b = false) (hy : ev σ y = some v) : Runs P S a ⟨dst, .pick c x y, ty, pos, af, g⟩ v := fun w _ => by
  subst hb; simp only [execOp, hf.ev hc, hf.ev hy, asBool]; rfl
theorem rAxK {t e n k b off m : Nat} {ik : IntKind} {iv : Int} {i : Nat} (hf : Fr a N σ) (hx : ev σ x = some (ptr b off)) (hy : ev σ y = some (.int ik iv)) (h : arrEl P t = some (n, e, k)) (hi : iv = (i : Int)) (h1 : i < n) (hm : m = off + i * k) : Runs P S a ⟨dst, .indexAddr t x y, ty, pos, af, g⟩ (ptr b m) :=
  rAx hf hx hy h (by omega) (by omega) (by rw [hm, hi]; rfl)
theorem rLenQ {α : Type} {C c : HL} {kk T : Nat} {R : HL → List Value → α → Prop} {xs : List α} {t e n k : Nat} {ts : Array TypeId} (hf : Fr a N σ) (hx : ev σ x = some v) (hR : OwP C kk T R v xs c) (ht : ts[0]? = some t) (h : sliceEl P t = some (e, n, k)) :
    Runs P S a ⟨dst, .call ⟨.builtin .len, #[x], ts⟩, ty, pos, af, g⟩ (.int .i64 (xs.length : Int)) := by
  obtain ⟨gs, h1, h2⟩ := hR
  rw [← all2_length h2]
  exact rLenR hf hx h1.rd ht h
/-! bytes to a string -/
def ofB (xs : List Int) : ByteArray := xs.foldl (fun r n => r.push (UInt8.ofNat n.toNat)) ByteArray.empty
def strB (P : Program) (s t : Nat) : Bool := match P.underlying s, P.underlying t with
  | some (.slice e), some .string => (match P.underlying e with | some (.int .u8) => true | _ => false) && (match P.info? e with | some i => i.size == 1 | none => false)
  | _, _ => false
theorem Rd.bytes {C : HL} {xs : List Int} {v : Value} {w : World} (h : Rd C (fun y => [.int .u8 y]) v xs) (hC : In C cs) (hw : Has cs w) : (Conv.bytesToString v).run P w = .ok (.string (ofB xs)) w := by
  obtain ⟨A, cap, rfl, h1, h2, h4⟩ := h
  rcases h4 with rfl | ⟨b, pre, post, T, fz, rfl, hm⟩
  · cases A with
    | none => rfl
    | some ad => exact run_bytesToString w ad 0 cap [] (by simp [loadCells, loadCellsFrom])
  · have hr := run_loads (P := P) (w := w) b pre.length (pre ++ xs.flatMap (fun y => [.int .u8 y]) ++ post) (fun i v hv => hw.cell (hC _ hm) hv) xs.length 0 #[] (by have := flat_length (enc := fun y : Int => [Value.int .u8 y]) (k := 1) (fun _ => rfl) xs; simp only [List.length_append]; omega)
    refine run_bytesToString w _ _ _ xs ?_
    simp only [loadCells, hr]
    have e : sub (pre ++ xs.flatMap (fun y => [Value.int .u8 y]) ++ post) (pre.length + 0) xs.length = xs.map (fun n => Value.int .u8 n) := by
      have : ∀ xs : List Int, xs.flatMap (fun y => [Value.int .u8 y]) = xs.map (fun n => Value.int .u8 n) := by
        intro xs
        induction xs with
        | nil => rfl
        | cons a r ih => simp [List.flatMap_cons, ih]
      rw [this, Nat.add_zero]
      have h := sub_mid pre (xs.map fun n => Value.int .u8 n) post pre.length rfl
      rwa [List.length_map] at h
    rw [e]
    simp
theorem rStrB {s t : Nat} {C : HL} {xs : List Int} (hf : Fr a N σ) (hx : ev σ x = some v) (hR : Rd C (fun y => [.int .u8 y]) v xs) (hC : In C cs) (h : strB P s t = true) : Runs P (Has cs) a ⟨dst, .convert s t x, ty, pos, af, g⟩ (.string (ofB xs)) := fun w hw => by
  unfold strB at h
  split at h
  case h_2 => cases h
  rename_i e hs ht
  simp only [Bool.and_eq_true] at h
  obtain ⟨h1, h2⟩ := h
  split at h1
  case h_2 => cases h1
  rename_i he
  obtain ⟨A, cap, hv, _⟩ := id hR
  subst hv
  have hb := hR.bytes (P := P) hC hw
  simp only [execOp, hf.ev hx, convert, Sem.run_bind, und_ok hs, und_ok ht, Result.andThen_ok, und_ok he, hb, Sem.run_pure]
/-! entering and leaving -/
theorem ent {f : FuncId} {fn : Func} {c : Code} {vs : List Value} {Rw : Value → World → Prop} {w : World} (hf : P.funcs[f]? = some fn) (hb : fn.body = some c) (hH : Holds E w cs) (k : ∀ (Q : Exit → Act → World → Prop), NP Q → (∀ a w, bodyPost P fn (fun e w' => ∃ v, e = .returned v ∧ Rw v w') .ret a w → Q .ret a w) → Wc P Q E fn.ntmps cs ((List.range vs.length).zip vs) c)
    (hn : Nat.ble vs.length fn.ntmps = true := by rfl) : Spec P f vs w Rw := enter hf hb hn fun a hfr => k _ inferInstance (fun _ _ h => h) a w hfr hH
theorem entN {f : FuncId} {fn : Func} {c : Code} {vs : List Value} {Rw : Value → World → Prop} {w : World} (hf : P.funcs[f]? = some fn) (hb : fn.body = some c) (_ : fn.results = #[]) (hH : Holds E w cs) (k : ∀ (Q : Exit → Act → World → Prop), NP Q → (∀ a w, bodyPost P fn (fun e w' => ∃ v, e = .returned v ∧ Rw v w') .ret a w → Q .ret a w) ∧ (∀ a w, bodyPost P fn (fun e w' => ∃ v, e = .returned v ∧ Rw v w') .normal a w → Q .normal a w) → Wc P Q E fn.ntmps cs ((List.range vs.length).zip vs) c)
    (hn : Nat.ble vs.length fn.ntmps = true := by rfl) : Spec P f vs w Rw := enter hf hb hn fun a hfr => k _ inferInstance ⟨fun _ _ h => h, fun _ _ h => h⟩ a w hfr hH
variable {fn : Func} {Rw : Value → World → Prop} {v1 v2 v3 : Value} {r1 r2 r3 : ResultVar}
theorem wRet1 (hq : ∀ a w, bodyPost P fn (fun e w' => ∃ v, e = .returned v ∧ Rw v w') .ret a w → Q .ret a w) (hr : fn.results = #[r1]) (h1 : ∀ a w, Fr a N σ → Holds E w cs → ResIs P a w r1 v1) (h : ∀ w, Holds E w cs → Rw v1 w) : Wc P Q E N cs σ .ret :=
  fun a w hf hH => wp_ret (hq a w (rt1 hf hr (h1 a w hf hH) (h w hH)))
theorem wRet2 (hq : ∀ a w, bodyPost P fn (fun e w' => ∃ v, e = .returned v ∧ Rw v w') .ret a w → Q .ret a w) (hr : fn.results = #[r1, r2]) (h1 : ∀ a w, Fr a N σ → Holds E w cs → ResIs P a w r1 v1) (h2 : ∀ a w, Fr a N σ → Holds E w cs → ResIs P a w r2 v2) (h : ∀ w, Holds E w cs → Rw (.tuple #[v1, v2]) w) : Wc P Q E N cs σ .ret :=
  fun a w hf hH => wp_ret (hq a w (rt2 hf hr (h1 a w hf hH) (h2 a w hf hH) (h w hH)))
theorem wRet3 (hq : ∀ a w, bodyPost P fn (fun e w' => ∃ v, e = .returned v ∧ Rw v w') .ret a w → Q .ret a w) (hr : fn.results = #[r1, r2, r3]) (h1 : ∀ a w, Fr a N σ → Holds E w cs → ResIs P a w r1 v1) (h2 : ∀ a w, Fr a N σ → Holds E w cs → ResIs P a w r2 v2) (h3 : ∀ a w, Fr a N σ → Holds E w cs → ResIs P a w r3 v3) (h : ∀ w, Holds E w cs → Rw (.tuple #[v1, v2, v3]) w) : Wc P Q E N cs σ .ret :=
  fun a w hf hH => wp_ret (hq a w (rt3 hf hr (h1 a w hf hH) (h2 a w hf hH) (h3 a w hf hH) (h w hH)))
theorem wRet0 (hq : ∀ a w, bodyPost P fn (fun e w' => ∃ v, e = .returned v ∧ Rw v w') .ret a w → Q .ret a w) (hr : fn.results = #[]) (h : ∀ w, Holds E w cs → Rw (.tuple #[]) w) : Wc P Q E N cs σ .ret :=
  fun a w hf hH => wp_ret (hq a w (rt0 hf hr (h w hH)))
theorem wRetN (hq : ∀ a w, bodyPost P fn (fun e w' => ∃ v, e = .returned v ∧ Rw v w') .normal a w → Q .normal a w) (hr : fn.results = #[]) (h : ∀ w, Holds E w cs → Rw (.tuple #[]) w) : Wx Q .normal E N cs σ :=
  fun a w hf hH => hq a w (ret0 hf hr (h w hH))
theorem wIf2 {b : Bool} {β : Type} {X Y rr : β} (hc : ev σ x = some (.bool b)) (hr : sel b X Y = rr) (h1 : b = true → X = rr → Wc P Q E N cs σ c1) (h2 : b = false → Y = rr → Wc P Q E N cs σ c2) : Wc P Q E N cs σ (.cond x c1 c2) :=
  wIf hc (fun h => h1 h (selT hr h)) (fun h => h2 h (selF hr h))
/-- So many rounds of a loop. -/
def Wr (P : Program) (Q : Exit → Act → World → Prop) (E : Env) (N : Nat) (cs : List HL) (σ : List (Nat × Value)) (c : Code) (n : Nat) : Prop := ∀ a w, Fr a N σ → Holds E w cs → Code.rounds P c Q n a w
theorem wUn (n : Nat) (k : Wr P (Exit.inBlock id Q) E N cs σ c1 n) : Wc P Q E N cs σ (.block id (.loop c1)) := fun a w hf hH => wp_block (wp_loop_rounds n (k a w hf hH))
theorem wUr {n : Nat} (k : Wc P (Exit.then (Code.rounds P c1 Q n) Q) E N cs σ c1) : Wr P Q E N cs σ c1 (n + 1) := fun a w hf hH => k a w hf hH
theorem wNu {n : Nat} (k : Wr P Q E N cs σ c1 n) : Wx (Exit.then (Code.rounds P c1 Q n) Q) .normal E N cs σ := k
theorem wLp {α : Type} {c : Code} (I : Nat → α → Act → World → Prop) {n : Nat} {s : α} (h0 : ∀ a w, Fr a N σ → Holds E w cs → I n s a w)
    (round : ∀ n s a w, I n s a w → c.wp P (Exit.then (fun a' w' => ∃ m s', m < n ∧ I m s' a' w') (Exit.inBlock id Q)) a w) : Wc P Q E N cs σ (.block id (.loop c)) := fun a w hf hH => wp_block (cLoop I (h0 a w hf hH) round)
/-! effects -/
theorem wBs {α : Type} {enc : α → List Value} {xs : List α} {t len k T by_ : Nat} {parts : List (Nat × Operand)} {pv : List (Nat × Value)} (hi : nth l i = some ⟨some d, .buildSlice t len parts.toArray, ty, pos, af, g⟩) (hg : Gd l σ ⟨some d, .buildSlice t len parts.toArray, ty, pos, af, g⟩) (hn : Nat.blt d N = true) (hp : evps σ parts = some pv)
    (hs : sliceEl P t = some (T, k, by_)) (hb : builtS P t len pv = some (xs.flatMap enc)) (hl : xs.length = len) (hle : Nat.ble len 1000000 = true)
    (kk : ∀ v c, Ow enc k T v xs c → RN dr l i Tt (c :: cs) ∧ Wk P l Q dr E N Tt (c :: cs) ((d, v) :: σ) r) : Wk P l Q dr E N Tt cs σ (.e i r) := fun a w hf hH => wEf hf hi hg (by
  obtain ⟨e, n, b, he, hr⟩ := builtS_run (w := w) hb
  rw [hs] at he
  cases he
  have h1 : (parts.toArray.map fun (i, x) => (i, a.eval x)) = pv.toArray := by rw [List.map_toArray, hf.evps hp]
  have hle' : len ≤ 1000000 := by simpa [Nat.ble_eq] using hle
  unfold Oper.wp
  simp only [execOp, h1, Sem.run_bind, hr, Result.andThen_ok, Sem.run_pure]
  subst hl
  obtain ⟨g1, g2⟩ := kk (.slice (some ⟨w.heap.size, 0, none⟩) xs.length xs.length) [blk w.heap.size (xs.flatMap enc) T] (.inr ⟨w.heap.size, [], [], xs.length, rfl, by simp, Nat.le_refl _, by omega, by simp⟩)
  exact g1.kt (hf.put hn) (hH.alloc _) g2)
theorem oMk {K : Act → World → Prop} {α : Type} {enc : α → List Value} {z : α} {t k T by_ : Nat} {x y : Operand} {len cap : Int} {kl kc : IntKind} (hf : Fr a N σ) (hn : Nat.blt d N = true) (hx : ev σ x = some (.int kl len)) (hy : ev σ y = some (.int kc cap))
    (hs : sliceEl P t = some (T, k, by_)) (hz : zCells P T = some (enc z)) (hk : (enc z).length = k) (h0 : (decide (0 ≤ len) && decide (len ≤ cap) && decide (cap ≤ 4294967296) && Nat.ble by_ 65536) = true) (hH : Holds E w cs)
    (kk : ∀ v c a' w', Ow enc k T v (List.replicate len.toNat z) c → (∃ A, v = .slice A len.toNat cap.toNat) → Holds E w' (c :: cs) → Fr a' N ((d, v) :: σ) → K a' w') : Oper.wp P ⟨some d, .makeSlice t x y, ty, pos, af, g⟩ a w K Q := by
  simp only [Bool.and_eq_true, decide_eq_true_eq, Nat.ble_eq] at h0
  obtain ⟨⟨⟨h1, h2⟩, h3⟩, h4⟩ := h0
  unfold sliceEl at hs
  split at hs
  case h_2 => cases hs
  rename_i e hu
  split at hs
  case h_2 => cases hs
  rename_i I hI
  cases hs
  have hsz : szOf P T = some I.size := by unfold szOf; rw [hI]; rfl
  obtain ⟨zv, hz1, hz2⟩ := zero_ok (w := w) hz
  have wr : ∀ n : Int, 0 ≤ n → n ≤ 4294967296 → IntKind.i64.wrap n = n := by
    intro n g1 g2
    simp only [IntKind.wrap, IntKind.bits, IntKind.signed]
    have e1 : n % (2 ^ 64 : Int) = n := Int.emod_eq_of_lt g1 (by omega)
    simp only [e1]
    rw [if_neg]
    simp only [Bool.true_and, decide_eq_true_eq]; omega
  have w1 := wr len h1 (by omega)
  have w2 := wr cap (by omega) h3
  have hby : ¬ ((I.bytes : Int) * cap > 2 ^ 48) := by
    have : (I.bytes : Int) * cap ≤ 65536 * 4294967296 := Int.mul_le_mul (by omega) h3 (by omega) (by omega)
    omega
  have hcap0 : ¬ cap < 0 := by omega
  have hlen0 : ¬ len < 0 := by omega
  have hlc : ¬ len > cap := by omega
  have hcells : ∃ q : List Value, (cap.toNat * I.size = 0 → q.toArray = #[]) ∧ (cap.toNat * I.size ≠ 0 → zv.cells = q.toArray) ∧ (Array.range (cap.toNat * I.size)).map (q.toArray[· % q.toArray.size]!) = ((List.replicate cap.toNat z).flatMap enc).toArray := by
    by_cases hz0 : cap.toNat * I.size = 0
    · refine ⟨[], fun _ => rfl, fun h => absurd hz0 h, ?_⟩
      rw [hz0]
      have : ((List.replicate cap.toNat z).flatMap enc).length = 0 := by simp [hk, hz0]
      rw [List.eq_nil_of_length_eq_zero this]; simp
    · refine ⟨enc z, fun h => absurd h hz0, fun _ => hz2, ?_⟩
      apply Array.ext
      · simp [hk]
      · intro j hj1 hj2
        have hIpos : 0 < I.size := Nat.pos_of_ne_zero (fun h => hz0 (by rw [h]; simp))
        have hlt : j % I.size < (enc z).length := by rw [hk]; exact Nat.mod_lt _ hIpos
        simp only [Array.getElem_map, Array.getElem_range, List.size_toArray, hk, List.getElem_toArray]
        have key : ∀ (n j : Nat) (h : j < ((List.replicate n z).flatMap enc).length), ((List.replicate n z).flatMap enc)[j] = (enc z)[j % I.size]'(by rw [hk]; exact Nat.mod_lt _ hIpos) := by
          intro n
          induction n with
          | zero => intro j h; simp at h
          | succ n ih =>
            intro j h
            simp only [List.replicate_succ, List.flatMap_cons]
            by_cases hjl : j < I.size
            · rw [List.getElem_append_left (by rw [hk]; exact hjl)]
              simp [Nat.mod_eq_of_lt hjl]
            · rw [List.getElem_append_right (by rw [hk]; omega)]
              have := ih (j - (enc z).length) (by simp only [List.replicate_succ, List.flatMap_cons, List.length_append] at h; omega)
              rw [this]
              congr 1
              rw [hk]
              exact (Nat.mod_eq_sub_mod (by omega)).symm
        rw [key]
        simp [hlt]
  obtain ⟨q, hq0, hq1, hq2⟩ := hcells
  have e5 : (List.replicate cap.toNat z).flatMap enc = [] ++ (List.replicate len.toNat z).flatMap enc ++ (List.replicate (cap.toNat - len.toNat) z).flatMap enc := by
    rw [List.nil_append, ← List.flatMap_append, List.replicate_append_replicate]
    congr 2
    omega
  have fin_ := kk (.slice (some ⟨w.heap.size, 0, none⟩) len.toNat cap.toNat) [blk w.heap.size ([] ++ (List.replicate len.toNat z).flatMap enc ++ (List.replicate (cap.toNat - len.toNat) z).flatMap enc) T] (a.put (some d) (.slice (some ⟨w.heap.size, 0, none⟩) len.toNat cap.toNat)) _ (.inr ⟨w.heap.size, [], _, cap.toNat, by simp, rfl, by simp; omega, by simp; omega, by simp [hk]⟩) ⟨_, rfl⟩ (by rw [← e5]; exact hH.alloc _) (hf.put hn)
  unfold Oper.wp
  simp only [execOp, hf.ev hx, hf.ev hy, Instr.makeSlice, Sem.run_bind, und_ok hu, Result.andThen_ok, asInt, asIntOf, Sem.run_pure, info_ok hI, w1, w2, hby, hcap0, hlen0, hlc, decide_false, Bool.or_self, Bool.false_eq_true, if_false, run_askRoom, size_ok hsz]
  by_cases hz0 : cap.toNat * I.size = 0
  · rw [hq0 hz0] at hq2
    simp only [if_pos hz0, Sem.run_bind, Sem.run_pure, Result.andThen_ok, hq2, newRow_ok]
    exact fin_
  · have hq1' := hq1 hz0
    simp only [if_neg hz0, Sem.run_bind, Sem.run_pure, Result.andThen_ok, hz1, hq1', hq2, newRow_ok]
    exact fin_
theorem wMk {α : Type} {enc : α → List Value} {z : α} {t k T by_ : Nat} {x y : Operand} {len cap : Int} {kl kc : IntKind} (hi : nth l i = some ⟨some d, .makeSlice t x y, ty, pos, af, g⟩) (hg : Gd l σ ⟨some d, .makeSlice t x y, ty, pos, af, g⟩) (hn : Nat.blt d N = true) (hx : ev σ x = some (.int kl len)) (hy : ev σ y = some (.int kc cap))
    (hs : sliceEl P t = some (T, k, by_)) (hz : zCells P T = some (enc z)) (hk : (enc z).length = k) (h0 : (decide (0 ≤ len) && decide (len ≤ cap) && decide (cap ≤ 4294967296) && Nat.ble by_ 65536) = true)
    (kk : ∀ v c, Ow enc k T v (List.replicate len.toNat z) c → (∃ A, v = .slice A len.toNat cap.toNat) → RN dr l i Tt (c :: cs) ∧ Wk P l Q dr E N Tt (c :: cs) ((d, v) :: σ) r) : Wk P l Q dr E N Tt cs σ (.e i r) := fun a w hf hH => wEf hf hi hg
  (oMk hf hn hx hy hs hz hk h0 hH fun v c a' w' hO hA hH' hf' => by obtain ⟨g1, g2⟩ := kk v c hO hA; exact g1.kt hf' hH' g2)
theorem wSel (j : Nat) {α : Type} {enc : α → List Value} {xs : List α} {c : HL} {k T t b m off q : Nat} {z z' : α} {u : Value} (hi : nth l i = some ⟨none, .store t x y, ty, pos, af, g⟩) (hg : Gd l σ ⟨none, .store t x y, ty, pos, af, g⟩) (hx : ev σ x = some (ptr b (m + off))) (hy : ev σ y = some v) (hv : v.oneCell' = true) (hn : szOf P t = some 1) (hF : Foc enc k T u xs q z c b m) (hj : nth cs j = some c)
    (hl : Nat.blt off (enc z).length = true) (hz : (enc z).set off v = enc z') (kk : ∀ c', Foc enc k T u (xs.set q z') q z' c' b m → RN dr l i Tt (cs.set j c') ∧ Wk P l Q dr E N Tt (cs.set j c') σ r) : Wk P l Q dr E N Tt cs σ (.e i r) := fun a w hf hH => wEf hf hi hg (by
  obtain ⟨⟨pre, post, rfl, rfl, hO⟩, hq⟩ := hF
  have hlt : off < (enc z).length := by simpa [Nat.blt_eq] using hl
  refine BK.wSt hf hx hy hv hn (hH.toFront hj) (by simp; omega) fun w' hH' => ?_
  rw [set_mid _ _ _ _ _ hlt, hz] at hH'
  obtain ⟨g1, g2⟩ := kk _ ⟨⟨pre, post, rfl, rfl, fun x' => by rw [List.set_set]; exact hO x'⟩, by simp [(List.getElem?_eq_some_iff.1 hq).1]⟩
  exact g1.kt hf (hH'.back hj) g2)
theorem wSels (j : Nat) {α : Type} {enc : α → List Value} {xs : List α} {c : HL} {k T t b m off q : Nat} {z z' : α} {vs : List Value} {u : Value} (hi : nth l i = some ⟨none, .store t x y, ty, pos, af, g⟩) (hg : Gd l σ ⟨none, .store t x y, ty, pos, af, g⟩) (hx : ev σ x = some (ptr b (m + off))) (hy : ev σ y = some (.agg vs.toArray)) (hv : vs.all Value.oneCell' = true) (hn : szOf P t = some vs.length) (hF : Foc enc k T u xs q z c b m) (hj : nth cs j = some c)
    (hl : Nat.ble (off + vs.length) (enc z).length = true) (hz : putAt (enc z) off vs = enc z') (kk : ∀ c', Foc enc k T u (xs.set q z') q z' c' b m → RN dr l i Tt (cs.set j c') ∧ Wk P l Q dr E N Tt (cs.set j c') σ r) : Wk P l Q dr E N Tt cs σ (.e i r) := fun a w hf hH => wEf hf hi hg (by
  obtain ⟨⟨pre, post, rfl, rfl, hO⟩, hq⟩ := hF
  have hle : off + vs.length ≤ (enc z).length := Nat.le_of_ble_eq_true hl
  refine BK.wSs hf hx hy (allOne hv) hn (hH.toFront hj) (by simp; omega) fun w' hH' => ?_
  rw [putAt_mid _ _ _ _ _ hle, hz] at hH'
  obtain ⟨g1, g2⟩ := kk _ ⟨⟨pre, post, rfl, rfl, fun x' => by rw [List.set_set]; exact hO x'⟩, by simp [(List.getElem?_eq_some_iff.1 hq).1]⟩
  exact g1.kt hf (hH'.back hj) g2)
theorem tup_len {α : Type} {e : α → List Value} {k n o m : Nat} {tt : Tup α n} {pre post c : List Value} {iv : Int} {z : α} (hk : ∀ x, (e x).length = k) (hz : ix (Tup.list n tt) iv = some z) (hc : c = pre ++ Tup.cells e n tt ++ post) (ho : o + m ≤ k) : pre.length + iv.toNat * k + o + m ≤ c.length := by
  obtain ⟨h0, h1, h2, h3⟩ := ixS hz
  rw [Tup.list_length] at h3
  have : (iv.toNat + 1) * k ≤ n * k := Nat.mul_le_mul_right _ h3
  rw [hc, Tup.cells_flat]
  simp only [List.length_append, flat_length hk, Tup.list_length, Nat.add_mul, Nat.one_mul] at this ⊢
  omega
theorem wSa (j : Nat) {α : Type} {e : α → List Value} {k n : Nat} {tt : Tup α n} {pre post c' : List Value} {t b off o : Nat} {iv : Int} {z z' : α} {c : List Value} {T : TypeId} (hi : nth l i = some ⟨none, .store t x y, ty, pos, af, g⟩) (hg : Gd l σ ⟨none, .store t x y, ty, pos, af, g⟩) (hx : ev σ x = some (ptr b (off + iv.toNat * k + o))) (hy : ev σ y = some v) (hv : v.oneCell' = true) (hn : szOf P t = some 1)
    (hk : ∀ x, (e x).length = k) (hz : ix (Tup.list n tt) iv = some z) (hj : nth cs j = some [blk b c T]) (hc : c = pre ++ Tup.cells e n tt ++ post) (hb : pre.length = off) (ho : Nat.blt o k = true) (hs : (e z).set o v = e z') (hc' : pre ++ Tup.cells e n (Tup.set n tt iv.toNat z') ++ post = c')
    (hR : RN dr l i Tt (cs.set j [blk b c' T])) (kk : Wk P l Q dr E N Tt (cs.set j [blk b c' T]) σ r) : Wk P l Q dr E N Tt cs σ (.e i r) := by
  have ho' : o < k := by simpa [Nat.blt_eq] using ho
  subst hb
  have hlen := tup_len (m := 1) (o := o) hk hz hc (by omega)
  refine wSto j c' hi hg hx hy hv hn hj (by rw [Nat.blt_eq]; omega) ?_ hR kk
  rw [set_putAt _ _ _ (by omega), hc, tup_put hk hz (by simp; omega) (by rw [← set_putAt _ _ _ (by rw [hk]; exact ho')]; exact hs), hc']
theorem wSas (j : Nat) {α : Type} {e : α → List Value} {k n : Nat} {tt : Tup α n} {pre post c' vs : List Value} {t b off o : Nat} {iv : Int} {z z' : α} {c : List Value} {T : TypeId} (hi : nth l i = some ⟨none, .store t x y, ty, pos, af, g⟩) (hg : Gd l σ ⟨none, .store t x y, ty, pos, af, g⟩) (hx : ev σ x = some (ptr b (off + iv.toNat * k + o))) (hy : ev σ y = some (.agg vs.toArray)) (hv : vs.all Value.oneCell' = true) (hn : szOf P t = some vs.length)
    (hk : ∀ x, (e x).length = k) (hz : ix (Tup.list n tt) iv = some z) (hj : nth cs j = some [blk b c T]) (hc : c = pre ++ Tup.cells e n tt ++ post) (hb : pre.length = off) (ho : Nat.ble (o + vs.length) k = true) (hs : putAt (e z) o vs = e z') (hc' : pre ++ Tup.cells e n (Tup.set n tt iv.toNat z') ++ post = c')
    (hR : RN dr l i Tt (cs.set j [blk b c' T])) (kk : Wk P l Q dr E N Tt (cs.set j [blk b c' T]) σ r) : Wk P l Q dr E N Tt cs σ (.e i r) := by
  have ho' : o + vs.length ≤ k := Nat.le_of_ble_eq_true ho
  subst hb
  have hlen := tup_len hk hz hc ho'
  refine wSts j c' hi hg hx hy hv hn hj (by simpa [Nat.ble_eq] using hlen) ?_ hR kk
  rw [hc, tup_put hk hz ho' hs, hc']
end
end Go.BK
