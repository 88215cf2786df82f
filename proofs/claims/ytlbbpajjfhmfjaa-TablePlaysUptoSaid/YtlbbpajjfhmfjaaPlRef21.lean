/- Plain laws: the document's table, and the order of prefixes. Own work for this claim. -/
import Derived.Test.YtlbbpajjfhmfjaaPlTab
import Derived.Test.YtlbbpajjfhmfjaaGref21
namespace Go.Proofs
open Go.BK
/-! ### The order -/
def ltI : List Int → List Int → Bool
  | [], [] => false
  | [], _ :: _ => true
  | _ :: _, [] => false
  | a :: x, b :: y => decide (a < b) || (decide (a = b) && ltI x y)
def lessP (a b : api_Prefix) : Bool := if a.V6 != b.V6 then b.V6 else ltI (Tup.list 7 a.Addr) (Tup.list 7 b.Addr)
theorem ltI_iff {a b : Int} {x y : List Int} : ltI (a :: x) (b :: y) = true ↔ a < b ∨ a = b ∧ ltI x y = true := by simp [ltI]
theorem ltI_irrefl : ∀ a : List Int, ltI a a = false
  | [] => rfl
  | a :: x => by simp [ltI, ltI_irrefl x]
theorem ltI_trans : ∀ a b c : List Int, ltI a b = true → ltI b c = true → ltI a c = true
  | [], [], _, h, _ => by cases h
  | [], _ :: _, [], _, h => by cases h
  | [], _ :: _, _ :: _, _, _ => rfl
  | _ :: _, [], _, h, _ => by cases h
  | _ :: _, _ :: _, [], _, h => by cases h
  | a :: x, b :: y, c :: z, h1, h2 => by
    rw [ltI_iff] at *
    rcases h1 with h1 | ⟨rfl, h1⟩
    · rcases h2 with h2 | ⟨rfl, h2⟩
      · exact .inl (by omega)
      · exact .inl h1
    · rcases h2 with h2 | ⟨rfl, h2⟩
      · exact .inl h2
      · exact .inr ⟨rfl, ltI_trans x y z h1 h2⟩
theorem ltI_tri : ∀ a b : List Int, ltI a b = true ∨ a = b ∨ ltI b a = true
  | [], [] => .inr (.inl rfl)
  | [], _ :: _ => .inl rfl
  | _ :: _, [] => .inr (.inr rfl)
  | a :: x, b :: y => by
    rw [ltI_iff, ltI_iff]
    rcases Int.lt_trichotomy a b with h | rfl | h
    · exact .inl (.inl h)
    · rcases ltI_tri x y with h | rfl | h
      · exact .inl (.inr ⟨rfl, h⟩)
      · exact .inr (.inl rfl)
      · exact .inr (.inr (.inr ⟨rfl, h⟩))
    · exact .inr (.inr (.inl h))
theorem Tup.list_inj {α : Type} : ∀ (n : Nat) (t u : Tup α n), Tup.list n t = Tup.list n u → t = u
  | 0, _, _, _ => rfl
  | n + 1, t, u, h => by
    simp only [Tup.list, List.cons.injEq] at h
    exact Prod.ext h.1 (Tup.list_inj n t.2 u.2 h.2)
theorem lessP_irrefl (a : api_Prefix) : lessP a a = false := by simp [lessP, ltI_irrefl]
theorem lessP_trans {a b c : api_Prefix} (h1 : lessP a b = true) (h2 : lessP b c = true) : lessP a c = true := by
  unfold lessP at *
  cases hA : a.V6 <;> cases hB : b.V6 <;> cases hC : c.V6 <;> simp_all <;> exact ltI_trans _ _ _ h1 h2
theorem lessP_tri (a b : api_Prefix) : lessP a b = true ∨ a = b ∨ lessP b a = true := by
  obtain ⟨v, A⟩ := a
  obtain ⟨u, B⟩ := b
  unfold lessP
  rcases ltI_tri (Tup.list 7 A) (Tup.list 7 B) with h | h | h
  · cases v <;> cases u <;> simp [h]
  · have := Tup.list_inj 7 A B h
    subst this
    cases v <;> cases u <;> simp [ltI_irrefl]
  · cases v <;> cases u <;> simp [h]
theorem lessP_asymm {a b : api_Prefix} (h1 : lessP a b = true) (h2 : lessP b a = true) : False := by
  have := lessP_trans h1 h2
  rw [lessP_irrefl] at this
  cases this
/-- A prefix whose bytes are bytes. -/
def okPx (p : api_Prefix) : Prop := ∀ n ∈ Tup.list 7 p.Addr, 0 ≤ n ∧ n ≤ 255
theorem u8_lt {a b : Int} (ha : 0 ≤ a ∧ a ≤ 255) (hb : 0 ≤ b ∧ b ≤ 255) : (UInt8.ofNat a.toNat < UInt8.ofNat b.toNat) ↔ a < b := by
  rw [UInt8.lt_iff_toNat_lt]
  simp only [UInt8.toNat_ofNat']
  rw [Nat.mod_eq_of_lt (by omega), Nat.mod_eq_of_lt (by omega)]
  omega
theorem u8_eq {a b : Int} (ha : 0 ≤ a ∧ a ≤ 255) (hb : 0 ≤ b ∧ b ≤ 255) : (UInt8.ofNat a.toNat = UInt8.ofNat b.toNat) ↔ a = b := by
  rw [← UInt8.toNat_inj]
  simp only [UInt8.toNat_ofNat']
  rw [Nat.mod_eq_of_lt (by omega), Nat.mod_eq_of_lt (by omega)]
  omega
theorem ltL_ltI : ∀ {x y : List Int}, (∀ n ∈ x, 0 ≤ n ∧ n ≤ 255) → (∀ n ∈ y, 0 ≤ n ∧ n ≤ 255) → ltL (toU x) (toU y) = ltI x y
  | [], [], _, _ => rfl
  | [], _ :: _, _, _ => rfl
  | _ :: _, [], _, _ => rfl
  | a :: x, b :: y, hx, hy => by
    have ih := ltL_ltI (x := x) (y := y) (fun n hn => hx n (by simp [hn])) (fun n hn => hy n (by simp [hn]))
    have h1 := u8_lt (hx a (by simp)) (hy b (by simp))
    have h2 := u8_eq (hx a (by simp)) (hy b (by simp))
    have ih' : ltL (List.map (fun n => UInt8.ofNat n.toNat) x) (List.map (fun n => UInt8.ofNat n.toNat) y) = ltI x y := ih
    simp only [toU, List.map_cons, ltL, ltI, ih']
    congr 1
    · simp only [h1]
    · congr 1
      rw [Bool.eq_iff_iff]
      simp [h2]
theorem pcf_less {a b : api_Prefix} (ha : okPx a) (hb : okPx b) : decide (pcf a b < 0) = lessP a b := by
  unfold pcf
  rw [bcmp_lt, ltL_ltI]
  · unfold lessP pbytes
    cases a.V6 <;> cases b.V6 <;> simp [ltI]
  · intro n hn
    rcases List.mem_cons.1 hn with rfl | hn
    · split <;> omega
    · exact ha n hn
  · intro n hn
    rcases List.mem_cons.1 hn with rfl | hn
    · split <;> omega
    · exact hb n hn
/-- What is sorted is the one sorted list. -/
theorem sortP_eq {xs ys : List api_Prefix} (hv : ∀ p ∈ xs, okPx p) (hn : xs.Nodup) (hp : xs.Perm ys) (hs : ys.Pairwise fun a b => lessP a b = true) : sortP xs = ys := by
  obtain ⟨h1, h2, h3⟩ := sortK_sorts pcf (swo_bcmp pbytes) xs
  have hv' : ∀ p ∈ sortK pcf xs, okPx p := fun p hp' => hv p (h2.mem_iff.1 hp')
  refine List.Perm.eq_of_pairwise (le := fun a b => lessP b a = false) (fun a b ha hb g1 g2 => ?_) ?_ ?_ (h2.trans hp)
  · rcases lessP_tri a b with h | h | h
    · rw [h] at g2; cases g2
    · exact h
    · rw [h] at g1; cases g1
  · show (sortK pcf xs).Pairwise _
    rw [List.pairwise_iff_getElem]
    intro i j hi hj hij
    have := h3 i j (by omega) hij (by rw [← h1]; exact hj)
    rw [← pcf_less (hv' _ (List.getElem_mem _)) (hv' _ (List.getElem_mem _))]
    have e1 : (sortK pcf xs).toArray[i]! = (sortK pcf xs)[i] := by simp [hi]
    have e2 : (sortK pcf xs).toArray[j]! = (sortK pcf xs)[j] := by simp [hj]
    rw [e1, e2] at this
    exact this
  · exact hs.imp fun {a b} h => by
      cases g : lessP b a with
      | false => rfl
      | true => exact (lessP_asymm h g).elim
/-! ### The document's table -/
theorem take_ltI : ∀ {x y : List Int} {i : Nat} (hx : i < x.length) (hy : i < y.length), x.take i = y.take i → x[i] ≠ y[i] → ltI x y = decide (x[i] < y[i])
  | [], _, i, hx, _, _, _ => by simp at hx
  | _ :: _, [], i, _, hy, _, _ => by simp at hy
  | a :: x, b :: y, 0, _, _, _, hne => by
    simp only [List.getElem_cons_zero] at hne ⊢
    simp [ltI, hne]
  | a :: x, b :: y, i + 1, hx, hy, ht, hne => by
    simp only [List.take_succ_cons, List.cons.injEq] at ht
    obtain ⟨rfl, ht⟩ := ht
    have := take_ltI (x := x) (y := y) (i := i) (by simpa using hx) (by simpa using hy) ht (by simpa using hne)
    simp [ltI, this]
def gless (A B : List Int) (i : Nat) (_ : Unit) : Option (Out Bool Unit) :=
  bd (ix A (i : Int)) fun e1 => bd (ix B (i : Int)) fun e2 => sel (e1 != e2) (bd (ix A (i : Int)) fun e3 => bd (ix B (i : Int)) fun e4 => some (.ret (decide (e3 < e4)))) (some (.nxt ()))
theorem gless_ok (A B : List Int) (lA : A.length = 7) (lB : B.length = 7) : Ok (bd (forN (gless A B) 7 0 ()) fun o1 => aft id (fun (s1 : Unit) => some false) o1) fun r => r = ltI A B := by
  refine okFor (fun i _ => A.take i = B.take i) (fun r => r = ltI A B) (fun _ => False) (by simp) (fun i s hi hI => ?_) (fun r hr => okS hr) (fun _ h => h.elim) fun s hI => okS ?_
  · unfold gless
    have iA : i < A.length := by omega
    have iB : i < B.length := by omega
    refine okX iA (okX iB (okI (fun h => okX iA (okX iB (okS ?_))) fun h => okS ?_))
    · exact (take_ltI iA iB hI (by simpa using h)).symm
    · show _ = _
      have : A[i] = B[i] := by simpa using h
      rw [List.take_succ_eq_append_getElem iA, List.take_succ_eq_append_getElem iB, hI, this]
  · have : A = B := by
      have e1 : A.take 7 = A := by rw [← lA]; simp
      have e2 : B.take 7 = B := by rw [← lB]; simp
      rw [← e1, ← e2]; exact hI
    subst this
    exact (ltI_irrefl A).symm
theorem rless_ok (a b : api_Prefix) : Ok (ref21_Less a b) fun r => r = lessP a b := by
  unfold ref21_Less
  refine okI (fun h => okS (by simp [lessP] at h ⊢; simp [h])) fun h => ?_
  have hv : a.V6 = b.V6 := by simpa using h
  have hL : lessP a b = ltI (Tup.list 7 a.Addr) (Tup.list 7 b.Addr) := by simp [lessP, hv]
  rw [hL]
  exact gless_ok _ _ (Tup.list_length _ _) (Tup.list_length _ _)
theorem split_at {α : Type} {l : List α} {i : Nat} (hi : i < l.length) : l = l.take i ++ l[i] :: l.drop (i + 1) := by rw [← List.drop_eq_getElem_cons hi, List.take_append_drop]
theorem rfind_ok (w : List ref21_Entry) (p : api_Prefix) : Ok (ref21_Find w p) fun r => (∃ A e B, w = A ++ e :: B ∧ e.P = p ∧ (∀ x ∈ A, x.P ≠ p) ∧ r = (A.length : Nat)) ∨ (r = -1 ∧ ∀ e ∈ w, e.P ≠ p) := by
  unfold ref21_Find
  refine okFor (fun i _ => ∀ x ∈ w.take i, x.P ≠ p) (fun r => ∃ A e B, w = A ++ e :: B ∧ e.P = p ∧ (∀ x ∈ A, x.P ≠ p) ∧ r = (A.length : Nat)) (fun _ => False) (by simp) (fun i s hi hI => ?_) (fun r hr => okS (.inl hr)) (fun _ h => h.elim) fun s hI => okS (.inr ⟨rfl, by simpa using hI⟩)
  unfold ref21_Find_b1
  refine okX hi (okI (fun h => okS ⟨w.take i, w[i], _, split_at hi, by simpa using h, hI, by simp; omega⟩) fun h => okS fun x hx => ?_)
  rw [List.take_succ_eq_append_getElem hi] at hx
  rcases List.mem_append.1 hx with hx | hx
  · exact hI x hx
  · obtain rfl : x = w[i] := by simpa using hx
    simpa using h
theorem set_mid {α : Type} (A : List α) (e y : α) (B : List α) : (A ++ e :: B).set A.length y = A ++ y :: B := by
  rw [List.set_append_right _ _ (by omega)]; simp
theorem rput_ok (w : List ref21_Entry) (room : Int) (p : api_Prefix) (v : Int) (hl : w.length ≤ 1000) : Ok (ref21_Put w room p v) fun r =>
    (∃ A e B, w = A ++ e :: B ∧ e.P = p ∧ r = (A ++ { e with V := v } :: B, true)) ∨ ((∀ e ∈ w, e.P ≠ p) ∧ room ≤ w.length ∧ r = (w, false)) ∨
    ((∀ e ∈ w, e.P ≠ p) ∧ (w.length : Int) < room ∧ ∃ A B, w = A ++ B ∧ r = (A ++ ⟨p, v⟩ :: B, true) ∧ (∀ e ∈ A, lessP e.P p = true) ∧ ∀ e B', B = e :: B' → lessP e.P p = false) := by
  unfold ref21_Put
  simp only [List.nil_append]
  refine okC (by simp; omega) (okB (rfind_ok w p) fun r1 hr => ?_)
  rcases hr with ⟨A, e, B, hw, hp, hA, hr⟩ | ⟨hr, hno⟩
  · subst hr
    refine okT (by simp) ?_
    have hi : A.length < w.length := by rw [hw]; simp
    have hg : w[A.length] = e := by subst hw; simp
    refine okX hi (okS (.inl ⟨A, e, B, hw, hp, ?_⟩))
    rw [hg, Int.toNat_natCast]
    subst hw
    rw [set_mid]
  · subst hr
    refine okF rfl (okI (fun h => okS (.inr (.inl ⟨hno, by simpa using h, rfl⟩))) fun h => ?_)
    have hroom : (w.length : Int) < room := by simpa using h
    refine okWhile (fun s : Int => ∃ i : Nat, s = i ∧ i ≤ w.length ∧ ∀ e ∈ w.take i, lessP e.P p = true) (fun s => w.length - s.toNat) (fun _ => False) (fun s => ∃ i : Nat, s = i ∧ i ≤ w.length ∧ (∀ e ∈ w.take i, lessP e.P p = true) ∧ ∀ e B', w.drop i = e :: B' → lessP e.P p = false) ⟨0, rfl, by omega, by simp⟩ (by unfold FUEL; omega) (fun s hI => ?_) (fun _ h => h.elim) fun s hB => ?_
    · obtain ⟨i, rfl, hi, hA⟩ := hI
      unfold ref21_Put_b1 ref21_Put_k1
      refine okI (fun h => ?_) fun h => okF rfl (okS ⟨i, rfl, hi, hA, fun e B' hd => ?_⟩)
      · have hlt : i < w.length := by simpa using h
        refine okX hlt (okB (rless_ok _ _) fun r2 hr2 => okI (fun h => okS ?_) fun h => okS ?_)
        · rw [i64_small (by omega) (by omega)]
          refine ⟨⟨i + 1, by omega, by omega, fun e he => ?_⟩, by simp; omega⟩
          rw [List.take_succ_eq_append_getElem hlt] at he
          rcases List.mem_append.1 he with he | he
          · exact hA e he
          · obtain rfl : e = w[i] := by simpa using he
            rw [← hr2]; exact h
        · refine ⟨i, rfl, hi, hA, fun e B' hd => ?_⟩
          rw [List.drop_eq_getElem_cons hlt] at hd
          obtain ⟨rfl, _⟩ := List.cons.inj hd
          rw [← hr2]; exact h
      · have hge : w.length ≤ i := by simpa using h
        rw [List.drop_eq_nil_of_le hge] at hd
        cases hd
    · obtain ⟨i, rfl, hi, hA, hBd⟩ := hB
      refine okC (by simp; omega) (okC (by simp; omega) (okC (by simp; omega) (okC (by simp; omega) (okS (.inr (.inr ⟨hno, hroom, w.take i, w.drop i, by simp, ?_, hA, hBd⟩))))))
      simp
theorem rdel_ok (w : List ref21_Entry) (p : api_Prefix) (hl : w.length ≤ 1000) : Ok (ref21_Del w p) fun r => (∃ A e B, w = A ++ e :: B ∧ e.P = p ∧ r = A ++ B) ∨ (r = w ∧ ∀ e ∈ w, e.P ≠ p) := by
  unfold ref21_Del
  refine okB (rfind_ok w p) fun r1 hr => ?_
  rcases hr with ⟨A, e, B, hw, hp, hA, hr⟩ | ⟨hr, hno⟩
  · subst hr
    have hlen : w.length = A.length + (B.length + 1) := by rw [hw]; simp
    refine okF (by simp) (okC (by simp; omega) ?_)
    rw [i64_small (by omega) (by omega)]
    refine okC (by simp; omega) (okC (by simp; omega) (okC (by simp; omega) (okS (.inl ⟨A, e, B, hw, hp, ?_⟩))))
    subst hw
    rw [show ((A.length : Int) + 1).toNat = A.length + 1 by omega]
    simp [List.drop_append]
  · subst hr
    exact okT rfl (okS (.inr ⟨rfl, hno⟩))
theorem rprefixes_ok (w : List ref21_Entry) (hl : w.length ≤ 1000) : Ok (ref21_Prefixes w) fun r => r = w.map (·.P) := by
  unfold ref21_Prefixes
  refine okForN (fun i s => s = (w.take i).map (·.P)) (by simp) (fun i s hi hs => ?_) fun s hs => okS (by rw [hs, List.take_length])
  unfold ref21_Prefixes_b1
  have : s.length ≤ i := by rw [hs]; simp; omega
  refine okX hi (okC (by simp; omega) (okS ?_))
  show _ = _
  rw [hs, List.take_succ_eq_append_getElem hi, List.map_append]
  rfl
theorem rsame_ok (xs ys : List api_Prefix) : Ok (ref21_Same xs ys) fun r => r = decide (xs = ys) := by
  unfold ref21_Same
  refine okI (fun h => okS ?_) fun h => ?_
  · have : xs.length ≠ ys.length := by
      have : ¬ ((xs.length : Int) = ys.length) := by simpa using h
      omega
    have : xs ≠ ys := fun e => this (by rw [e])
    simp [this]
  · have hl : xs.length = ys.length := by
      have : ((xs.length : Int) = ys.length) := by simpa using h
      omega
    refine okFor (fun i _ => xs.take i = ys.take i) (fun r => r = decide (xs = ys)) (fun _ => False) (by simp) (fun i s hi hI => ?_) (fun r hr => okS hr) (fun _ h => h.elim) fun s hI => okS ?_
    · unfold ref21_Same_b1
      have hi' : i < ys.length := by omega
      refine okX hi (okX hi' (okI (fun h => okS ?_) fun h => okS ?_))
      · have hne : xs[i] ≠ ys[i] := by simpa using h
        have : xs ≠ ys := fun e => hne (by simp [e])
        show _ = _
        simp [this]
      · have he : xs[i] = ys[i] := by simpa using h
        show _ = _
        rw [List.take_succ_eq_append_getElem hi, List.take_succ_eq_append_getElem hi', hI, he]
    · have : xs = ys := by
        have e1 : xs.take xs.length = xs := by simp
        have e2 : ys.take xs.length = ys := by rw [hl]; simp
        rw [← e1, ← e2]; exact hI
      simp [this]
end Go.Proofs
