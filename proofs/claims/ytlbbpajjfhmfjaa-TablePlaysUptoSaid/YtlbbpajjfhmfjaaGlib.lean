/- Walks of the functions of package lib: each shows that the code comes to what a plain Lean function gives. Printed by a program of mine. Own work for this claim. -/
import Derived.Test.YtlbbpajjfhmfjaaG0
set_option linter.unusedVariables false
set_option maxRecDepth 100000
namespace Go.Proofs
open Go.BK
def slices_Grow_byte_byte_nils_k1 (y1 : (List Int)) : Option (List Int) :=
  some y1
def slices_Grow_byte_byte_nils (p1 : Int) : Option (List Int) :=
  sel (decide (p1 < 0)) (none) (sel (decide ((IntKind.i64.wrap (p1 - 0)) > 0)) (ck (decide (0 ≤ (IntKind.i64.wrap (p1 - 0))) && decide ((IntKind.i64.wrap (p1 - 0)) * 1 ≤ 140737488355328) && decide ((IntKind.i64.wrap (p1 - 0)) ≤ 140737488355328)) (ck (decide (0 ≤ 0) && decide (0 ≤ ((List.replicate (IntKind.i64.wrap (p1 - 0)).toNat 0).length : Int))) (slices_Grow_byte_byte_nils_k1 ((List.replicate (IntKind.i64.wrap (p1 - 0)).toNat 0).take 0)))) (slices_Grow_byte_byte_nils_k1 []))
def slices_Concat_byte_byte_b2 (p0 : (List (List Int))) (i : Nat) (s2 : (List Int)) : Option (Out (List Int) (List Int)) :=
  bd (ix p0 (i : Int)) fun e1 => ck (decide ((s2.length + e1.length) * 1 ≤ 140737488355328)) (some (.nxt (s2 ++ e1)))
def slices_Concat_byte_byte_b1 (p0 : (List (List Int))) (i : Nat) (s1 : Int) : Option (Out (List Int) Int) :=
  bd (ix p0 (i : Int)) fun e2 => nm ((IntKind.i64.wrap (s1 + (e2.length : Int)))) fun x1 => sel (decide (x1 < 0)) (none) (some (.nxt x1))
def slices_Concat_byte_byte (p0 : (List (List Int))) : Option (List Int) :=
  bd (forN (slices_Concat_byte_byte_b1 p0) p0.length 0 0) fun o1 => aft id (fun (s1 : Int) => bd (slices_Grow_byte_byte_nils s1) fun r1 => bd (forN (slices_Concat_byte_byte_b2 p0) p0.length 0 r1) fun o3 => aft id (fun (s2 : (List Int)) => some s2) o3) o1
def math_bits_RotateLeft64 (p0 : Int) (p1 : Int) : Option Int :=
  nm ((IntKind.u64.wrap ((BitVec.ofInt IntKind.u64.bits (IntKind.u64.wrap p1) &&& BitVec.ofInt IntKind.u64.bits 63).toNat : Int))) fun x1 => ck (decide (0 ≤ x1)) (ck (decide (0 ≤ (IntKind.u64.wrap (64 - x1)))) (nm ((IntKind.u64.wrap ((BitVec.ofInt IntKind.u64.bits (IntKind.u64.wrap (p0 * 2 ^ (min (Int.toNat x1) IntKind.u64.bits))) ||| BitVec.ofInt IntKind.u64.bits (Int.fdiv p0 (2 ^ (min (Int.toNat (IntKind.u64.wrap (64 - x1))) IntKind.u64.bits)))).toNat : Int))) fun x2 => some x2))
def bytes_Compare (p0 : (List Int)) (p1 : (List Int)) : Option Int :=
  some (bcmp p0 p1)

theorem slices_Grow_byte_byte_nils_w {E : Env} {w : World} {Fs : List HL} {p1 : Int} {r : (List Int)} (hr : slices_Grow_byte_byte_nils p1 = some r)  (hH : Holds E w (Fs)) :
    BK.Spec Try.prog 124 [.slice none 0 0, .int .i64 p1] w fun v w' => ∃ (u0 : Value) (d0 : HL), v = u0 ∧ Holds E w' (d0 :: Fs) ∧ Ow (fun y => [.int .u8 y]) 1 5 u0 r d0 := by
  unfold slices_Grow_byte_byte_nils at hr
  refine ent Try.func124 rfl hH fun Q _ hq => ?_
  refine wF [(0, .slice none 0 0), (1, .int .i64 p1)] rfl ?_
  refine wSq ?_
  refine wT ?_
  refine wAs rfl rfl rfl ?_
  refine wE ?_
  refine wN ?_
  refine wSq ?_
  refine wSq ?_
  refine wT ?_
  refine wMv rfl rfl rfl ?_
  refine wInt rfl rfl rfl rfl rfl ?_
  refine wE ?_
  refine wN ?_
  refine wIf2 rfl hr (fun hc1 hr => ?_) (fun hc1 hr => ?_)
  ·
    cases hr
  ·
    refine wS ?_
    refine wN ?_
    refine wJ (fun a w => ∃ (y1 : (List Int)) (v1 : Value) (c1 : HL), Fr a 27 [(0, v1)] ∧ Holds E w (c1 :: Fs) ∧ Ow (fun y => [.int .u8 y]) 1 5 v1 y1 c1 ∧ slices_Grow_byte_byte_nils_k1 y1 = some r) ?_ ?_
    ·
      refine wSq ?_
      refine wT ?_
      refine wMv rfl rfl rfl ?_
      refine wMv rfl rfl rfl ?_
      refine wY rfl rfl rfl rfl (fun a hf => rCap hf rfl rfl se_24) ?_
      refine wMv rfl rfl rfl ?_
      refine wY rfl rfl rfl rfl (fun a hf => rLen hf rfl rfl se_24) ?_
      refine wInt (v := .int .i64 0) rfl rfl rfl (by kernel_rfl) rfl ?_
      refine wInt rfl rfl rfl rfl rfl ?_
      refine wAs rfl rfl rfl ?_
      refine wE ?_
      refine wN ?_
      refine wSq ?_
      refine wT ?_
      refine wMv rfl rfl rfl ?_
      refine wInt rfl rfl rfl rfl rfl ?_
      refine wE ?_
      refine wN ?_
      refine wIf2 rfl hr (fun hc2 hr => ?_) (fun hc2 hr => ?_)
      ·
        refine wT ?_
        refine wMv rfl rfl rfl ?_
        refine wMv rfl rfl rfl ?_
        refine wY rfl rfl rfl rfl (fun a hf => rCap hf rfl rfl se_24) ?_
        refine wY rfl rfl rfl rfl (fun a hf => rSl hf rfl se_24 rfl rfl rfl rfl ⟨by decide, by decide, rfl⟩ rfl rfl) ?_
        refine wMv rfl rfl rfl ?_
        obtain ⟨hk1, hr⟩ := ckS hr
        refine wApZ (enc := (fun y => [.int .u8 y])) (z := 0) rfl (gd0 rfl) rfl rfl rfl se_24 ik_3 zc_5 (fun _ => rfl) rfl hk1 fun v2 c2 hO2 => ⟨rn0, ?_⟩
        refine wMv rfl rfl rfl ?_
        refine wY rfl rfl rfl rfl (fun a hf => rLen hf rfl rfl se_24) ?_
        obtain ⟨hk2, hr⟩ := ckS hr
        obtain ⟨v3, hO3, hS1⟩ := Ow.slH (h := 0) (k := 1) (fun _ => rfl) hO2 hk2
        refine wY rfl rfl rfl rfl (fun a hf => rSlP hf rfl se_24 rfl rfl rfl hS1) ?_
        refine wAs rfl rfl rfl ?_
        refine wE ?_
        exact fun a w hf hH => ⟨((List.replicate (IntKind.i64.wrap (p1 - 0)).toNat 0).take 0), v3, c2, hf.sub _ rfl, hH, hO3, hr⟩
      ·
        refine wS ?_
        exact fun a w hf hH => ⟨[], (.slice none 0 0), [], hf.sub _ rfl, (hH.grp 0 [[]] rfl), Ow.empty, hr⟩
    ·
      rintro a w ⟨y1, v1, c1, hf, hH, hO1, hr⟩
      refine jI hf hH ?_
      clear hf hH a w
      unfold slices_Grow_byte_byte_nils_k1 at hr
      refine wSq ?_
      refine wT ?_
      refine wMv rfl rfl rfl ?_
      refine wAs rfl rfl rfl ?_
      refine wE ?_
      refine wN ?_
      cases hr
      exact wRet1 hq rfl (fun a w hf hH => resT hf rfl) fun w hH => ⟨_, _, rfl, (hH.grp 1 [[0]] rfl), hO1⟩

theorem slices_Concat_byte_byte_w {E : Env} {w : World} {Fs : List HL} {C0 : HL} {vp0 : Value} {p0 : (List (List Int))} {r : (List Int)} (hr : slices_Concat_byte_byte p0 = some r) (hRp0 : RdP C0 1 (RS (fun y => [.int .u8 y])) vp0 p0) (hH : Holds E w (C0 :: Fs)) :
    BK.Spec Try.prog 107 [vp0] w fun v w' => ∃ (u0 : Value) (d0 : HL), v = u0 ∧ Holds E w' (C0 :: d0 :: Fs) ∧ Ow (fun y => [.int .u8 y]) 1 5 u0 r d0 := by
  unfold slices_Concat_byte_byte at hr
  refine ent Try.func107 rfl hH fun Q _ hq => ?_
  refine wF [(0, vp0)] rfl ?_
  refine wSq ?_
  refine wT ?_
  refine wAs rfl rfl rfl ?_
  refine wE ?_
  refine wN ?_
  refine wSq ?_
  refine wT ?_
  refine wAs rfl rfl rfl ?_
  refine wE ?_
  refine wN ?_
  refine wSq ?_
  refine wSq ?_
  refine wT ?_
  refine wMv rfl rfl rfl ?_
  refine wY rfl rfl rfl rfl (fun a hf => rLenP hf rfl hRp0 rfl se_195) ?_
  refine wMv rfl rfl rfl ?_
  refine wE ?_
  refine wN ?_
  obtain ⟨o1, ho1, hra1⟩ := bdS hr
  refine wJ1 (fun a w => ∃ (s1 : Int) , Fr a 36 [(0, vp0), (3, .int .i64 s1)] ∧ Holds E w (C0 :: Fs) ∧ (o1 = .brk s1 ∨ o1 = .nxt s1)) ?_ ?_
  ·
    refine wLp (α := Int) (fun n (s1 : Int) a w => ∃ (i : Nat) , i + n = p0.length ∧ Fr a 36 [(0, vp0), (3, .int .i64 s1), (9, vp0), (10, .int .i64 (p0.length : Int)), (11, .int .i64 (i : Int))] ∧ Holds E w (C0 :: Fs) ∧ forN (slices_Concat_byte_byte_b1 p0) n i s1 = some o1) (n := p0.length) (s := 0) (fun a w hf hH => ⟨0, by simp, hf.sub _ rfl, hH, ho1⟩) ?_
    rintro n s1 a w ⟨i, hi, hf, hH, ho1⟩
    refine jI hf hH ?_
    clear hf hH a w
    refine wSq (wT ?_)
    refine wInt rfl rfl rfl rfl rfl ?_
    refine wE ?_
    refine wN ?_
    refine wSq (wIf rfl (fun hc => ?_) (fun hc => ?_))
    rotate_left
    · obtain rfl : n = 0 := by simp at hc; omega
      cases ho1
      refine wX (wXt (wXt (wXh ?_)))
      exact fun a w hf hH => ⟨s1, hf.sub _ rfl, hH, .inr rfl⟩
    refine wS (wN ?_)
    obtain ⟨n, rfl⟩ : ∃ m, n = m + 1 := ⟨n - 1, by simp at hc; omega⟩
    obtain ⟨o2, hr, ho1⟩ := bdS ho1
    unfold slices_Concat_byte_byte_b1 at hr
    refine wSq ?_
    refine wB ?_
    refine wSq ?_
    refine wT ?_
    obtain ⟨e2, he2, hr⟩ := bdS hr
    obtain ⟨g2, b2, me2, hE2, hI2, hR3⟩ := hRp0.at he2
    obtain ⟨v5, hg2, hR4⟩ := hR3
    rw [hg2] at hE2
    refine wIxO rfl rfl rfl se_195 hI2 rfl ?_
    refine wLdE (off := 0) rfl rfl hE2 ag_24 (inJ 0 rfl) rfl rfl ?_
    refine wAs rfl rfl rfl ?_
    refine wE ?_
    refine wN ?_
    refine wSq ?_
    refine wT ?_
    refine wMv rfl rfl rfl ?_
    refine wMv rfl rfl rfl ?_
    refine wY rfl rfl rfl rfl (fun a hf => rLenR hf rfl hR4 rfl se_24) ?_
    refine wInt rfl rfl rfl rfl rfl ?_
    obtain ⟨x1, hx1, hr⟩ := nmS hr
    refine wAs rfl (evI rfl hx1) rfl ?_
    refine wE ?_
    refine wN ?_
    refine wSq ?_
    refine wT ?_
    refine wMv rfl rfl rfl ?_
    refine wInt rfl rfl rfl rfl rfl ?_
    refine wE ?_
    refine wN ?_
    refine wIf2 rfl hr (fun hc1 hr => ?_) (fun hc1 hr => ?_)
    ·
      cases hr
    ·
      refine wS ?_
      refine wBn ?_
      cases hr
      refine wN (wT ?_)
      refine wInt rfl rfl rfl rfl rfl ?_
      refine wMv rfl (evI rfl (i64c i (by have := hRp0.le; omega))) rfl ?_
      refine wE ?_
      exact fun a w hf hH => ⟨n, x1, Nat.lt_succ_self n, i + 1, by omega, hf.sub _ rfl, hH, ho1⟩
  ·
    rintro a w ⟨s1, hf, hH, hbn⟩
    have hr := aftS hra1 hbn
    refine jX hf hH ?_
    clear hf hH a w
    refine wN ?_
    refine wSq ?_
    refine wT ?_
    refine wMv rfl rfl rfl ?_
    obtain ⟨r1, hr1, hr⟩ := bdS hr
    refine wCl rfl (gd0 rfl) rfl rfl ck_124 (fun w hH => slices_Grow_byte_byte_nils_w hr1 hH) ?_
    rintro _ w ⟨v1, c1, hV, hH, hO1⟩
    obtain rfl := hV.symm
    refine ⟨_, hH, rn0, ?_⟩
    refine wAs rfl rfl rfl ?_
    refine wE ?_
    refine wN ?_
    refine wSq ?_
    refine wSq ?_
    refine wT ?_
    refine wMv rfl rfl rfl ?_
    refine wY rfl rfl rfl rfl (fun a hf => rLenP hf rfl hRp0 rfl se_195) ?_
    refine wMv rfl rfl rfl ?_
    refine wE ?_
    refine wN ?_
    obtain ⟨o3, ho2, hra2⟩ := bdS hr
    refine wJ1 (fun a w => ∃ (s2 : (List Int)) (v2 : Value) (c2 : HL), Fr a 36 [(6, v2)] ∧ Holds E w (C0 :: c2 :: Fs) ∧ Ow (fun y => [.int .u8 y]) 1 5 v2 s2 c2 ∧ (o3 = .brk s2 ∨ o3 = .nxt s2)) ?_ ?_
    ·
      refine wLp (α := (List Int)) (fun n (s2 : (List Int)) a w => ∃ (i : Nat) (v2 : Value) (c2 : HL), i + n = p0.length ∧ Fr a 36 [(6, v2), (25, vp0), (26, .int .i64 (p0.length : Int)), (27, .int .i64 (i : Int))] ∧ Holds E w (C0 :: c2 :: Fs) ∧ Ow (fun y => [.int .u8 y]) 1 5 v2 s2 c2 ∧ forN (slices_Concat_byte_byte_b2 p0) n i s2 = some o3) (n := p0.length) (s := r1) (fun a w hf hH => ⟨0, v1, c1, by simp, hf.sub _ rfl, (hH.grp 2 [[1], [0]] rfl), hO1, ho2⟩) ?_
      rintro n s2 a w ⟨i, v2, c2, hi, hf, hH, hO2, ho2⟩
      refine jI hf hH ?_
      clear hf hH a w
      refine wSq (wT ?_)
      refine wInt rfl rfl rfl rfl rfl ?_
      refine wE ?_
      refine wN ?_
      refine wSq (wIf rfl (fun hc => ?_) (fun hc => ?_))
      rotate_left
      · obtain rfl : n = 0 := by simp at hc; omega
        cases ho2
        refine wX (wXt (wXt (wXh ?_)))
        exact fun a w hf hH => ⟨s2, v2, c2, hf.sub _ rfl, hH, hO2, .inr rfl⟩
      refine wS (wN ?_)
      obtain ⟨n, rfl⟩ : ∃ m, n = m + 1 := ⟨n - 1, by simp at hc; omega⟩
      obtain ⟨o4, hr, ho2⟩ := bdS ho2
      unfold slices_Concat_byte_byte_b2 at hr
      refine wSq ?_
      refine wB ?_
      refine wSq ?_
      refine wT ?_
      obtain ⟨e1, he1, hr⟩ := bdS hr
      obtain ⟨g1, b1, me1, hE1, hI1, hR1⟩ := hRp0.at he1
      obtain ⟨v3, hg1, hR2⟩ := hR1
      rw [hg1] at hE1
      refine wIxO rfl rfl rfl se_195 hI1 rfl ?_
      refine wLdE (off := 0) rfl rfl hE1 ag_24 (inJ 0 rfl) rfl rfl ?_
      refine wAs rfl rfl rfl ?_
      refine wE ?_
      refine wN ?_
      refine wT ?_
      refine wMv rfl rfl rfl ?_
      refine wMv rfl rfl rfl ?_
      obtain ⟨hk1, hr⟩ := ckS hr
      refine wAp 1 (k := 1) rfl (gd0 rfl) rfl rfl rfl hO2 hR2 rfl (inJ 0 rfl) (fun _ => rfl) (fun _ => rfl) se_24 zc_5 rfl rfl hk1 fun v4 c3 hO3 => ⟨rn0, ?_⟩
      refine wAs rfl rfl rfl ?_
      refine wE ?_
      refine wBn ?_
      cases hr
      refine wN (wT ?_)
      refine wInt rfl rfl rfl rfl rfl ?_
      refine wMv rfl (evI rfl (i64c i (by have := hRp0.le; omega))) rfl ?_
      refine wE ?_
      exact fun a w hf hH => ⟨n, (s2 ++ e1), Nat.lt_succ_self n, i + 1, v4, c3, by omega, hf.sub _ rfl, hH, hO3, ho2⟩
    ·
      rintro a w ⟨s2, v2, c2, hf, hH, hO2, hbn⟩
      have hr := aftS hra2 hbn
      refine jX hf hH ?_
      clear hf hH a w
      refine wN ?_
      refine wSq ?_
      refine wT ?_
      refine wMv rfl rfl rfl ?_
      refine wAs rfl rfl rfl ?_
      refine wE ?_
      refine wN ?_
      cases hr
      exact wRet1 hq rfl (fun a w hf hH => resT hf rfl) fun w hH => ⟨_, _, rfl, (hH.grp 2 [[0], [1]] rfl), hO2⟩

theorem math_bits_RotateLeft64_w {E : Env} {w : World} {Fs : List HL} {p0 : Int} {p1 : Int} {r : Int} (hr : math_bits_RotateLeft64 p0 p1 = some r)  (hH : Holds E w (Fs)) :
    BK.Spec Try.prog 125 [.int .u64 p0, .int .i64 p1] w fun v w' => v = .int .u64 r ∧ Holds E w' (Fs) := by
  unfold math_bits_RotateLeft64 at hr
  refine ent Try.func125 rfl hH fun Q _ hq => ?_
  refine wF [(0, .int .u64 p0), (1, .int .i64 p1)] rfl ?_
  refine wSq ?_
  refine wT ?_
  refine wAs rfl rfl rfl ?_
  refine wE ?_
  refine wN ?_
  refine wSq ?_
  refine wT ?_
  refine wMv rfl rfl rfl ?_
  refine wCv rfl rfl ii_165 us_3 rfl ?_
  refine wInt rfl rfl rfl rfl rfl ?_
  obtain ⟨x1, hx1, hr⟩ := nmS hr
  refine wAs rfl (evI rfl hx1) rfl ?_
  refine wE ?_
  refine wN ?_
  refine wSq ?_
  refine wT ?_
  refine wMv rfl rfl rfl ?_
  refine wMv rfl rfl rfl ?_
  obtain ⟨hk1, hr⟩ := ckS hr
  refine wY rfl rfl rfl rfl (fun a hf => rShl hf rfl rfl (ge0 hk1)) ?_
  refine wMv rfl rfl rfl ?_
  refine wMv rfl rfl rfl ?_
  refine wInt rfl rfl rfl rfl rfl ?_
  obtain ⟨hk2, hr⟩ := ckS hr
  refine wY rfl rfl rfl rfl (fun a hf => rShr hf rfl rfl (ge0 hk2)) ?_
  refine wInt rfl rfl rfl rfl rfl ?_
  obtain ⟨x2, hx2, hr⟩ := nmS hr
  refine wAs rfl (evI rfl hx2) rfl ?_
  refine wE ?_
  refine wN ?_
  cases hr
  exact wRet1 hq rfl (fun a w hf hH => resT hf rfl) fun w hH => ⟨rfl, (hH.grp 0 [] rfl)⟩

theorem bytes_Compare_w {E : Env} {w : World} {Fs : List HL} {C0 : HL} {vp0 : Value} {p0 : (List Int)} {vp1 : Value} {p1 : (List Int)} {r : Int} (hr : bytes_Compare p0 p1 = some r) (hRp0 : Rd C0 (fun y => [.int .u8 y]) vp0 p0) (hRp1 : Rd C0 (fun y => [.int .u8 y]) vp1 p1) (hH : Holds E w (C0 :: Fs)) :
    BK.Spec Try.prog 58 [vp0, vp1] w fun v w' => v = .int .i64 r ∧ Holds E w' (C0 :: Fs) := by
  unfold bytes_Compare at hr
  refine ent Try.func58 rfl hH fun Q _ hq => ?_
  refine wF [(0, vp0), (1, vp1)] rfl ?_
  refine wSq ?_
  refine wT ?_
  refine wAs rfl rfl rfl ?_
  refine wE ?_
  refine wN ?_
  refine wSq ?_
  refine wT ?_
  refine wMv rfl rfl rfl ?_
  refine wMv rfl rfl rfl ?_
  refine wCmp rfl (gd0 rfl) rfl rfl Try.func94 cmpo_94 cmpf_94 hRp0 (inJ 0 rfl) hRp1 (inJ 0 rfl) rn0 ?_
  refine wAs rfl rfl rfl ?_
  refine wE ?_
  refine wN ?_
  cases hr
  exact wRet1 hq rfl (fun a w hf hH => resT hf rfl) fun w hH => ⟨rfl, (hH.grp 1 [[0]] rfl)⟩
end Go.Proofs
