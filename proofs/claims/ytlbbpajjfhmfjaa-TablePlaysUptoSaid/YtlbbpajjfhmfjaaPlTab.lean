/- Plain laws: where a prefix is looked for. Own work for this claim. -/
import Derived.Test.YtlbbpajjfhmfjaaPlSip
import Derived.Test.YtlbbpajjfhmfjaaGtable
namespace Go.Proofs
open Go.BK
abbrev KS := List (Int × api_Prefix)
def hsh (L : Nat) (p : api_Prefix) : Nat := match sip_Sum (Tup.rep 0 16) [pbytes p] with | some h => h.toNat % L | none => 0
def prb (L : Nat) (p : api_Prefix) (j : Nat) : Nat := (hsh L p + j) % L
def gk1 (l : KS) (x2 y2 : Int) : Option (Out (Int × Int) Int) := bd (ix l x2) fun e1 => sel (e1.1 == 0) (some (.brk y2)) (some (.nxt y2))
def gb1 (l : KS) (p : api_Prefix) (x1 : Int) (i : Nat) (s1 : Int) : Option (Out (Int × Int) Int) :=
  ck ((l.length : Int) != 0) (nm ((Int.tmod (IntKind.i64.wrap ((IntKind.i64.wrap x1) + (i : Int))) (l.length : Int))) fun x2 => bd (ix l x2) fun e2 => nm (((e2.1 == 1) && (decide (e2.2 = p)))) fun x3 => sel x3 (some (.ret (x2, s1))) (sel ((e2.1 != 1) && (decide (s1 < 0))) (gk1 l x2 x2) (gk1 l x2 s1)))
def gfind (l : KS) (p : api_Prefix) : Option (Int × Int) :=
  bd (sip_Sum (Tup.rep 0 16) ([pbytes p] : List (List Int))) fun r2 => ck ((IntKind.u64.wrap (l.length : Int)) != 0) (nm ((Int.tmod r2 (IntKind.u64.wrap (l.length : Int)))) fun x1 => bd (forN (gb1 l p x1) l.length 0 (-1)) fun o1 => aft id (fun (s1 : Int) => some ((-1), s1)) o1)
def stt (l : KS) (i : Nat) : Option Int := (l[i]?).map Prod.fst
def Spot (l : KS) (p : api_Prefix) (n : Nat) (s : Int) : Prop := (s = -1 ∧ ∀ j, j < n → stt l (prb l.length p j) = some 1) ∨ ∃ j, j < n ∧ s = (prb l.length p j : Nat) ∧ stt l (prb l.length p j) ≠ some 1 ∧ ∀ j', j' < j → stt l (prb l.length p j') = some 1
def FindR (l : KS) (p : api_Prefix) (r : Int × Int) : Prop :=
  (∃ j, j < l.length ∧ r.1 = (prb l.length p j : Nat) ∧ l[prb l.length p j]? = some (1, p)) ∨
  (r.1 = -1 ∧ (∀ j, j < l.length → l[prb l.length p j]? = some (1, p) → ∃ j', j' < j ∧ stt l (prb l.length p j') = some 0) ∧ Spot l p l.length r.2 ∨ r.1 = -1 ∧ (∀ j, j < l.length → l[prb l.length p j]? = some (1, p) → ∃ j', j' < j ∧ stt l (prb l.length p j') = some 0) ∧ ∃ n, n ≤ l.length ∧ Spot l p n r.2 ∧ 0 ≤ r.2)
theorem prb_lt {L : Nat} (h : 0 < L) (p : api_Prefix) (j : Nat) : prb L p j < L := Nat.mod_lt _ h
theorem gfind_ok (l : KS) (p : api_Prefix) (h0 : 0 < l.length) (h1 : l.length ≤ 1000) : Ok (gfind l p) (FindR l p) := by
  unfold gfind
  have hs : Ok (sip_Sum (Tup.rep 0 16) [pbytes p]) fun h => 0 ≤ h ∧ h < 18446744073709551616 := sum_ok _ _ (by simp [pbytes, Tup.list_length]) (by simp)
  obtain ⟨h, he, hl1, hl2⟩ := hs
  have hh : hsh l.length p = h.toNat % l.length := by unfold hsh; rw [he]
  refine okB (okE he) fun r2 hr2 => ?_
  subst hr2
  rw [u64_small (by omega) (by omega)]
  refine okC (neB (by omega)) (okN fun x1 hx1 => ?_)
  have hx : x1 = (hsh l.length p : Nat) := by
    rw [hx1, hh, Int.tmod_eq_emod_of_nonneg hl1]
    obtain ⟨m, rfl⟩ := Int.eq_ofNat_of_zero_le hl1
    simp
  have hlt : hsh l.length p < l.length := by rw [hh]; exact Nat.mod_lt _ h0
  clear hx1 hh he hl1 hl2
  subst hx
  refine okFor (fun i s => (∀ j, j < i → stt l (prb l.length p j) ≠ some 0 ∧ l[prb l.length p j]? ≠ some (1, p)) ∧ Spot l p i s) (fun r => FindR l p r) (fun s => FindR l p (-1, s)) ⟨fun j hj => by omega, .inl ⟨rfl, fun j hj => by omega⟩⟩ (fun i s hi ⟨hA, hB⟩ => ?_) (fun r hr => okS hr) (fun s hs => okS hs) fun s ⟨hA, hB⟩ => okS (.inr (.inl ⟨rfl, fun j hj hq => absurd hq (hA j hj).2, hB⟩))
  unfold gb1
  refine okC (neB (by omega)) (okN fun x2 hx2 => ?_)
  have hx : x2 = (prb l.length p i : Nat) := by
    rw [hx2, i64_small (n := ((hsh l.length p : Nat) : Int)) (by omega) (by omega), i64_small (by omega) (by omega), Int.tmod_eq_emod_of_nonneg (by omega)]
    rfl
  clear hx2
  subst hx
  have hp := prb_lt h0 p i
  refine okX hp (okN fun x3 hx3 => ?_)
  have hst : stt l (prb l.length p i) = some l[prb l.length p i].1 := by simp [stt, hp]
  have hget : l[prb l.length p i]? = some l[prb l.length p i] := List.getElem?_eq_getElem hp
  refine okI (fun h => okS ?_) fun h => ?_
  · rw [h] at hx3
    have := hx3.symm
    simp only [Bool.and_eq_true, beq_iff_eq, decide_eq_true_eq] at this
    refine .inl ⟨i, hi, rfl, ?_⟩
    rw [hget]
    exact congrArg some (Prod.ext this.1 this.2)
  · have hne : l[prb l.length p i]? ≠ some (1, p) := by
      intro hq
      rw [hget] at hq
      have := Option.some.inj hq
      rw [h] at hx3
      simp [this] at hx3
    have key : ∀ s', Spot l p (i + 1) s' → Ok (gk1 l (prb l.length p i : Nat) s') fun | .ret r => FindR l p r | .brk s => FindR l p (-1, s) | .nxt s => (∀ j, j < i + 1 → stt l (prb l.length p j) ≠ some 0 ∧ l[prb l.length p j]? ≠ some (1, p)) ∧ Spot l p (i + 1) s := by
      intro s' hs'
      unfold gk1
      refine okX hp (okI (fun h => okS ?_) fun h => okS ?_)
      · have h0' : l[prb l.length p i].1 = 0 := by simpa using h
        have hs0 : stt l (prb l.length p i) = some 0 := by rw [hst, h0']
        refine .inr (.inr ⟨rfl, fun j hj hq => ?_, i + 1, by omega, hs', ?_⟩)
        · rcases Nat.lt_trichotomy j i with g | g | g
          · exact absurd hq (hA j g).2
          · subst g; exact absurd hq hne
          · exact ⟨i, g, hs0⟩
        · rcases hs' with ⟨_, hall⟩ | ⟨j, _, e, _⟩
          · have := hall i (by omega)
            rw [hs0] at this
            cases this
          · rw [e]; omega
      · have h0' : l[prb l.length p i].1 ≠ 0 := by simpa using h
        refine ⟨fun j hj => ?_, hs'⟩
        by_cases g : j = i
        · subst g
          refine ⟨?_, hne⟩
          rw [hst]
          simpa using h0'
        · exact hA j (by omega)
    refine okI (fun h => okM (key _ ?_) fun o ho => by cases o <;> exact ho) fun h => okM (key _ ?_) fun o ho => by cases o <;> exact ho
    · simp only [Bool.and_eq_true, bne_iff_ne, ne_eq, decide_eq_true_eq] at h
      rcases hB with ⟨hs1, hall⟩ | ⟨j, hj, e, _⟩
      · refine .inr ⟨i, by omega, rfl, ?_, hall⟩
        rw [hst]
        simpa using h.1
      · omega
    · rcases hB with ⟨hs1, hall⟩ | ⟨j, hj, e, h2, h3⟩
      · subst hs1
        have he : l[prb l.length p i].1 = 1 := by simpa using h
        refine .inl ⟨rfl, fun j hj => ?_⟩
        by_cases g : j = i
        · subst g; rw [hst, he]
        · exact hall j (by omega)
      · exact .inr ⟨j, by omega, e, h2, h3⟩
/-! ### the places -/
def InvK (l : KS) : Prop := ∀ i p, l[i]? = some (1, p) → (∃ j, j < l.length ∧ prb l.length p j = i ∧ ∀ j', j' < j → stt l (prb l.length p j') ≠ some 0) ∧ ∀ i', l[i']? = some (1, p) → i' = i
theorem prb_all {L : Nat} (h : 0 < L) (p : api_Prefix) {i : Nat} (hi : i < L) : ∃ j, j < L ∧ prb L p j = i := by
  have hh : hsh L p < L := by
    unfold hsh
    split
    · exact Nat.mod_lt _ h
    · exact h
  by_cases g : hsh L p ≤ i
  · refine ⟨i - hsh L p, by omega, ?_⟩
    unfold prb
    rw [show hsh L p + (i - hsh L p) = i by omega]
    exact Nat.mod_eq_of_lt hi
  · refine ⟨i + L - hsh L p, by omega, ?_⟩
    unfold prb
    rw [show hsh L p + (i + L - hsh L p) = i + L by omega, Nat.add_mod_right]
    exact Nat.mod_eq_of_lt hi
/-- What a search tells of places in order. -/
theorem findR_inv {l : KS} {p : api_Prefix} {r : Int × Int} (h0 : 0 < l.length) (hI : InvK l) (hR : FindR l p r) :
    (∃ i : Nat, r.1 = i ∧ i < l.length ∧ l[i]? = some (1, p)) ∨ (r.1 = -1 ∧ (∀ i : Nat, l[i]? ≠ some (1, p)) ∧ ((∃ i : Nat, i < l.length ∧ stt l i ≠ some 1) → ∃ j, j < l.length ∧ r.2 = (prb l.length p j : Nat) ∧ stt l (prb l.length p j) ≠ some 1 ∧ ∀ j', j' < j → stt l (prb l.length p j') = some 1)) := by
  rcases hR with ⟨j, hj, e, hq⟩ | hR
  · exact .inl ⟨_, e, prb_lt h0 _ _, hq⟩
  · have hno : r.1 = -1 ∧ (∀ j, j < l.length → l[prb l.length p j]? = some (1, p) → ∃ j', j' < j ∧ stt l (prb l.length p j') = some 0) := by
      rcases hR with ⟨a, b, _⟩ | ⟨a, b, _⟩ <;> exact ⟨a, b⟩
    refine .inr ⟨hno.1, fun i hq => ?_, fun ⟨i, hi, hst⟩ => ?_⟩
    · obtain ⟨⟨j, hj, e, hpath⟩, _⟩ := hI i p hq
      subst e
      obtain ⟨j', hj', h0'⟩ := hno.2 j hj hq
      exact hpath j' hj' h0'
    · rcases hR with ⟨_, _, hS⟩ | ⟨_, _, n, hn, hS, hpos⟩
      · rcases hS with ⟨_, hall⟩ | hS
        · obtain ⟨j, hj, e⟩ := prb_all h0 p hi
          exact absurd (e ▸ hall j hj) hst
        · exact hS
      · rcases hS with ⟨e, _⟩ | ⟨j, hj, g⟩
        · omega
        · exact ⟨j, by omega, g⟩
theorem stt_set {l : KS} {i k : Nat} {x : Int × api_Prefix} (hi : i < l.length) : stt (l.set i x) k = if k = i then some x.1 else stt l k := by
  unfold stt
  rw [List.getElem?_set]
  by_cases h : i = k
  · subst h; simp [hi]
  · rw [if_neg h, if_neg (Ne.symm h)]
theorem invK_put {l : KS} {p : api_Prefix} {j : Nat} (h0 : 0 < l.length) (hI : InvK l) (hno : ∀ i : Nat, l[i]? ≠ some (1, p)) (hj : j < l.length) (hpath : ∀ j', j' < j → stt l (prb l.length p j') = some 1) : InvK (l.set (prb l.length p j) (1, p)) := by
  intro i q hq
  have hlt := prb_lt h0 p j
  simp only [List.length_set]
  rw [List.getElem?_set] at hq
  have hother : ∀ i' : Nat, (l.set (prb l.length p j) (1, p))[i']? = some (1, q) → i' ≠ prb l.length p j → l[i']? = some (1, q) := by
    intro i' h hne
    rw [List.getElem?_set, if_neg (Ne.symm hne)] at h
    exact h
  by_cases g : prb l.length p j = i
  · subst g
    simp only [if_true, hlt] at hq
    obtain rfl : p = q := by simpa using hq
    refine ⟨⟨j, hj, rfl, fun j' hj' => ?_⟩, fun i' hi' => ?_⟩
    · rw [stt_set hlt]
      split
      · simp
      · rw [hpath j' hj']; simp
    · by_cases e : i' = prb l.length p j
      · exact e
      · exact absurd (hother i' hi' e) (hno i')
  · rw [if_neg g] at hq
    obtain ⟨⟨k, hk, e, hp⟩, hu⟩ := hI i q hq
    refine ⟨⟨k, hk, e, fun j' hj' => ?_⟩, fun i' hi' => ?_⟩
    · rw [stt_set hlt]
      split
      · simp
      · exact hp j' hj'
    · by_cases e' : i' = prb l.length p j
      · subst e'
        rw [List.getElem?_set, if_pos rfl, if_pos hlt] at hi'
        obtain rfl : p = q := by simpa using hi'
        exact absurd hq (hno i)
      · exact hu i' (hother i' hi' e')
theorem invK_del {l : KS} {i : Nat} {z : api_Prefix} (hi : i < l.length) (hI : InvK l) : InvK (l.set i (2, z)) := by
  intro k q hq
  simp only [List.length_set]
  have hother : ∀ i' : Nat, (l.set i (2, z))[i']? = some (1, q) → l[i']? = some (1, q) := by
    intro i' h
    rw [List.getElem?_set] at h
    by_cases g : i = i'
    · subst g; simp [hi] at h
    · rw [if_neg g] at h; exact h
  obtain ⟨⟨j, hj, e, hp⟩, hu⟩ := hI k q (hother k hq)
  refine ⟨⟨j, hj, e, fun j' hj' => ?_⟩, fun i' hi' => hu i' (hother i' hi')⟩
  rw [stt_set hi]
  split
  · simp
  · exact hp j' hj'
theorem invK_clear (L : Nat) (z : api_Prefix) : InvK (List.replicate L (0, z)) := by
  intro i p h
  rw [List.getElem?_replicate] at h
  split at h
  · have := Option.some.inj h; cases this
  · cases h
/-- One place of a row is turned: what is picked of it. -/
theorem filterMap_set {α β : Type} (f : α → Option β) {l : List α} {i : Nat} (hi : i < l.length) : ∃ A B, l.filterMap f = A ++ (f l[i]).toList ++ B ∧ ∀ y, (l.set i y).filterMap f = A ++ (f y).toList ++ B := by
  refine ⟨(l.take i).filterMap f, (l.drop (i + 1)).filterMap f, ?_, fun y => ?_⟩
  · have e : l = l.take i ++ l[i] :: l.drop (i + 1) := by rw [← List.drop_eq_getElem_cons hi, List.take_append_drop]
    conv => lhs; rw [e]
    rw [List.filterMap_append, List.append_assoc]
    congr 1
    cases h : f l[i] <;> simp only [List.filterMap_cons, h, Option.toList, List.nil_append, List.singleton_append]
  · rw [List.set_eq_take_append_cons_drop, if_pos hi, List.filterMap_append, List.append_assoc]
    congr 1
    cases h : f y <;> simp [List.filterMap_cons, h]
theorem filterMap_all {α β : Type} (f : α → Option β) : ∀ (l : List α), (∀ x ∈ l, ∃ b, f x = some b) → (l.filterMap f).length = l.length
  | [], _ => rfl
  | x :: r, h => by
    obtain ⟨b, hb⟩ := h x (by simp)
    rw [List.filterMap_cons, hb]
    simp [filterMap_all f r fun y hy => h y (by simp [hy])]
end Go.Proofs
