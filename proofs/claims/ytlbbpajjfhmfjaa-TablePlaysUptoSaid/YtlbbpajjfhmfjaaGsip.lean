/- Walks of the functions of package sip: each shows that the code comes to what a plain Lean function gives. Printed by a program of mine. Own work for this claim. -/
import Derived.Test.YtlbbpajjfhmfjaaG0
import Derived.Test.YtlbbpajjfhmfjaaGlib
set_option linter.unusedVariables false
set_option maxRecDepth 100000
namespace Go.Proofs
open Go.BK
def sip_number_b1 (p0 : (List Int)) (i : Nat) (s1 : Int) : Option (Out Int Int) :=
  bd (ix p0 (i : Int)) fun e1 => ck (decide (0 ≤ (IntKind.i64.wrap (8 * (i : Int))))) (nm ((IntKind.u64.wrap ((BitVec.ofInt IntKind.u64.bits s1 ||| BitVec.ofInt IntKind.u64.bits (IntKind.u64.wrap ((IntKind.u64.wrap e1) * 2 ^ (min (Int.toNat (IntKind.i64.wrap (8 * (i : Int)))) IntKind.u64.bits)))).toNat : Int))) fun x1 => some (.nxt x1))
def sip_number (p0 : (List Int)) : Option Int :=
  bd (forN (sip_number_b1 p0) p0.length 0 0) fun o1 => aft id (fun (s1 : Int) => some s1) o1
def sip_state_round_b1 (i : Nat) (s1 : sip_state) : Option (Out sip_state sip_state) :=
  bd (math_bits_RotateLeft64 s1.b 13) fun r1 => nm ((IntKind.u64.wrap ((BitVec.ofInt IntKind.u64.bits r1 ^^^ BitVec.ofInt IntKind.u64.bits (IntKind.u64.wrap (s1.a + s1.b))).toNat : Int))) fun x1 => bd (math_bits_RotateLeft64 (IntKind.u64.wrap (s1.a + s1.b)) 32) fun r2 => bd (math_bits_RotateLeft64 s1.d 16) fun r3 => nm ((IntKind.u64.wrap ((BitVec.ofInt IntKind.u64.bits r3 ^^^ BitVec.ofInt IntKind.u64.bits (IntKind.u64.wrap (s1.c + s1.d))).toNat : Int))) fun x2 => bd (math_bits_RotateLeft64 x2 21) fun r4 => nm ((IntKind.u64.wrap ((BitVec.ofInt IntKind.u64.bits r4 ^^^ BitVec.ofInt IntKind.u64.bits (IntKind.u64.wrap (r2 + x2))).toNat : Int))) fun x3 => nm ((IntKind.u64.wrap ((IntKind.u64.wrap (s1.c + s1.d)) + x1))) fun x4 => bd (math_bits_RotateLeft64 x1 17) fun r5 => nm ((IntKind.u64.wrap ((BitVec.ofInt IntKind.u64.bits r5 ^^^ BitVec.ofInt IntKind.u64.bits x4).toNat : Int))) fun x5 => bd (math_bits_RotateLeft64 x4 32) fun r6 => some (.nxt (⟨(IntKind.u64.wrap (r2 + x2)), x5, r6, x3⟩ : sip_state))
def sip_state_round (p0 : sip_state) (p1 : Int) : Option sip_state :=
  ck (decide (p1 ≤ 140737488355328)) (bd (forN sip_state_round_b1 p1.toNat 0 p0) fun o1 => aft id (fun (s1 : sip_state) => some s1) o1)
def sip_state_word (p0 : sip_state) (p1 : Int) : Option sip_state :=
  nm ((IntKind.u64.wrap ((BitVec.ofInt IntKind.u64.bits p0.d ^^^ BitVec.ofInt IntKind.u64.bits p1).toNat : Int))) fun x1 => bd (sip_state_round ({ p0 with d := x1 } : sip_state) 2) fun r1 => nm ((IntKind.u64.wrap ((BitVec.ofInt IntKind.u64.bits r1.a ^^^ BitVec.ofInt IntKind.u64.bits p1).toNat : Int))) fun x2 => some ({ r1 with a := x2 } : sip_state)
def sip_Sum_b1 (s1 : (sip_state × (List Int))) : Option (Out Int (sip_state × (List Int))) :=
  sel (decide ((s1.2.length : Int) ≥ 8)) (ck (decide (0 ≤ 8) && decide (8 ≤ (s1.2.length : Int))) (bd (sip_number (s1.2.take 8)) fun r7 => bd (sip_state_word s1.1 r7) fun r8 => ck (decide (8 ≤ (s1.2.length : Int))) (some (.nxt (r8, (s1.2.drop 8)))))) (some (.brk (s1.1, s1.2)))
def sip_Sum (p0 : (Tup Int 16)) (p1 : (List (List Int))) : Option Int :=
  bd (sip_number ((Tup.list 16 p0).take 8)) fun r1 => bd (sip_number ((Tup.list 16 p0).drop 8)) fun r2 => bd (slices_Concat_byte_byte p1) fun r3 => bd (whileN sip_Sum_b1 FUEL ((⟨(IntKind.u64.wrap ((BitVec.ofInt IntKind.u64.bits r1 ^^^ BitVec.ofInt IntKind.u64.bits 8317987319222330741).toNat : Int)), (IntKind.u64.wrap ((BitVec.ofInt IntKind.u64.bits r2 ^^^ BitVec.ofInt IntKind.u64.bits 7237128888997146477).toNat : Int)), (IntKind.u64.wrap ((BitVec.ofInt IntKind.u64.bits r1 ^^^ BitVec.ofInt IntKind.u64.bits 7816392313619706465).toNat : Int)), (IntKind.u64.wrap ((BitVec.ofInt IntKind.u64.bits r2 ^^^ BitVec.ofInt IntKind.u64.bits 8387220255154660723).toNat : Int))⟩ : sip_state), r3)) fun o1 => aft id (fun (s1 : (sip_state × (List Int))) => bd (sip_number s1.2) fun r4 => bd (sip_state_word s1.1 (IntKind.u64.wrap ((BitVec.ofInt IntKind.u64.bits r4 ||| BitVec.ofInt IntKind.u64.bits (IntKind.u64.wrap ((IntKind.u64.wrap (r3.length : Int)) * 72057594037927936))).toNat : Int))) fun r5 => nm ((IntKind.u64.wrap ((BitVec.ofInt IntKind.u64.bits r5.c ^^^ BitVec.ofInt IntKind.u64.bits 255).toNat : Int))) fun x1 => bd (sip_state_round ({ r5 with c := x1 } : sip_state) 4) fun r6 => nm ((IntKind.u64.wrap ((BitVec.ofInt IntKind.u64.bits (IntKind.u64.wrap ((BitVec.ofInt IntKind.u64.bits (IntKind.u64.wrap ((BitVec.ofInt IntKind.u64.bits r6.a ^^^ BitVec.ofInt IntKind.u64.bits r6.b).toNat : Int)) ^^^ BitVec.ofInt IntKind.u64.bits r6.c).toNat : Int)) ^^^ BitVec.ofInt IntKind.u64.bits r6.d).toNat : Int))) fun x2 => some x2) o1

theorem sip_number_w {E : Env} {w : World} {Fs : List HL} {C0 : HL} {vp0 : Value} {p0 : (List Int)} {r : Int} (hr : sip_number p0 = some r) (hRp0 : Rd C0 (fun y => [.int .u8 y]) vp0 p0) (hH : Holds E w (C0 :: Fs)) :
    BK.Spec Try.prog 106 [vp0] w fun v w' => v = .int .u64 r ∧ Holds E w' (C0 :: Fs) := by
  unfold sip_number at hr
  refine ent Try.func106 rfl hH fun Q _ hq => ?_
  refine wF [(0, vp0)] rfl ?_
  refine wSq ?_
  refine wT ?_
  refine wAs rfl rfl rfl ?_
  refine wE ?_
  refine wN ?_
  refine wSq ?_
  refine wT ?_
  refine wAs rfl rfl rfl ?_
  refine wE ?_
  refine wN ?_
  refine wSq ?_
  refine wSq ?_
  refine wT ?_
  refine wMv rfl rfl rfl ?_
  refine wY rfl rfl rfl rfl (fun a hf => rLenR hf rfl hRp0 rfl se_24) ?_
  refine wMv rfl rfl rfl ?_
  refine wE ?_
  refine wN ?_
  obtain ⟨o1, ho1, hra1⟩ := bdS hr
  refine wJ1 (fun a w => ∃ (s1 : Int) , Fr a 22 [(3, .int .u64 s1)] ∧ Holds E w (C0 :: Fs) ∧ (o1 = .brk s1 ∨ o1 = .nxt s1)) ?_ ?_
  ·
    refine wLp (α := Int) (fun n (s1 : Int) a w => ∃ (i : Nat) , i + n = p0.length ∧ Fr a 22 [(3, .int .u64 s1), (6, vp0), (7, .int .i64 (p0.length : Int)), (8, .int .i64 (i : Int))] ∧ Holds E w (C0 :: Fs) ∧ forN (sip_number_b1 p0) n i s1 = some o1) (n := p0.length) (s := 0) (fun a w hf hH => ⟨0, by simp, hf.sub _ rfl, hH, ho1⟩) ?_
    rintro n s1 a w ⟨i, hi, hf, hH, ho1⟩
    refine jI hf hH ?_
    clear hf hH a w
    refine wSq (wT ?_)
    refine wInt rfl rfl rfl rfl rfl ?_
    refine wE ?_
    refine wN ?_
    refine wSq (wIf rfl (fun hc => ?_) (fun hc => ?_))
    rotate_left
    · obtain rfl : n = 0 := by simp at hc; omega
      cases ho1
      refine wX (wXt (wXt (wXh ?_)))
      exact fun a w hf hH => ⟨s1, hf.sub _ rfl, hH, .inr rfl⟩
    refine wS (wN ?_)
    obtain ⟨n, rfl⟩ : ∃ m, n = m + 1 := ⟨n - 1, by simp at hc; omega⟩
    obtain ⟨o2, hr, ho1⟩ := bdS ho1
    unfold sip_number_b1 at hr
    refine wSq ?_
    refine wB ?_
    refine wSq ?_
    refine wT ?_
    refine wMv rfl rfl rfl ?_
    obtain ⟨e1, he1, hr⟩ := bdS hr
    obtain ⟨b1, me1, hE1, hI1⟩ := hRp0.at (k := 1) (fun _ => rfl) he1
    refine wIxO rfl rfl rfl se_24 hI1 rfl ?_
    refine wLdE (off := 0) rfl rfl hE1 ag_5 (inJ 0 rfl) rfl rfl ?_
    refine wAs rfl rfl rfl ?_
    refine wAs rfl rfl rfl ?_
    refine wE ?_
    refine wN ?_
    refine wT ?_
    refine wMv rfl rfl rfl ?_
    refine wMv rfl rfl rfl ?_
    refine wCv rfl rfl ii_68 us_5 rfl ?_
    refine wMv rfl rfl rfl ?_
    refine wInt rfl rfl rfl rfl rfl ?_
    obtain ⟨hk1, hr⟩ := ckS hr
    refine wY rfl rfl rfl rfl (fun a hf => rShl hf rfl rfl (ge0 hk1)) ?_
    refine wInt rfl rfl rfl rfl rfl ?_
    obtain ⟨x1, hx1, hr⟩ := nmS hr
    refine wAs rfl (evI rfl hx1) rfl ?_
    refine wE ?_
    refine wBn ?_
    cases hr
    refine wN (wT ?_)
    refine wInt rfl rfl rfl rfl rfl ?_
    refine wMv rfl (evI rfl (i64c i (by have := hRp0.le; omega))) rfl ?_
    refine wE ?_
    exact fun a w hf hH => ⟨n, x1, Nat.lt_succ_self n, i + 1, by omega, hf.sub _ rfl, hH, ho1⟩
  ·
    rintro a w ⟨s1, hf, hH, hbn⟩
    have hr := aftS hra1 hbn
    refine jX hf hH ?_
    clear hf hH a w
    refine wN ?_
    refine wSq ?_
    refine wT ?_
    refine wMv rfl rfl rfl ?_
    refine wAs rfl rfl rfl ?_
    refine wE ?_
    refine wN ?_
    cases hr
    exact wRet1 hq rfl (fun a w hf hH => resT hf rfl) fun w hH => ⟨rfl, (hH.grp 1 [[0]] rfl)⟩

theorem sip_state_round_w {E : Env} {w : World} {Fs : List HL} {bp0 : Nat} {p0 : sip_state} {hp0 : HL} {p1 : Int} {r : sip_state} (hr : sip_state_round p0 p1 = some r) (hBp0 : ob_sip_state bp0 p0 hp0) (hH : Holds E w (hp0 :: Fs)) :
    BK.Spec Try.prog 109 [ptr bp0 0, .int .i64 p1] w fun v w' => ∃ (h0' : HL), v = .tuple #[] ∧ Holds E w' (h0' :: Fs) ∧ ob_sip_state bp0 r h0' := by
  unfold sip_state_round at hr
  refine entN Try.func109 rfl rfl hH fun Q _ ⟨hq, hqn⟩ => ?_
  refine wF [(0, ptr bp0 0), (1, .int .i64 p1)] rfl ?_
  refine wSq ?_
  refine wT ?_
  refine wMv rfl rfl rfl ?_
  refine wMv rfl rfl rfl ?_
  refine wE ?_
  refine wN ?_
  obtain rfl := hBp0
  obtain ⟨hk1, hr⟩ := ckS hr
  obtain ⟨o1, ho1, hra1⟩ := bdS hr
  refine wJ1 (fun a w => ∃ (s1 : sip_state) , Fr a 120 [] ∧ Holds E w ([blk bp0 (enc_sip_state s1) 199] :: Fs) ∧ (o1 = .brk s1 ∨ o1 = .nxt s1)) ?_ ?_
  ·
    refine wLp (α := sip_state) (fun n (s1 : sip_state) a w => ∃ (i : Nat) , i + n = p1.toNat ∧ Fr a 120 [(0, ptr bp0 0), (4, .int .i64 p1), (5, .int .i64 (i : Int))] ∧ Holds E w ([blk bp0 (enc_sip_state s1) 199] :: Fs) ∧ forN sip_state_round_b1 n i s1 = some o1) (n := p1.toNat) (s := p0) (fun a w hf hH => ⟨0, by simp, hf.sub _ rfl, hH, ho1⟩) ?_
    rintro n s1 a w ⟨i, hi, hf, hH, ho1⟩
    refine jI hf hH ?_
    clear hf hH a w
    refine wSq (wT ?_)
    refine wInt rfl rfl rfl rfl rfl ?_
    refine wE ?_
    refine wN ?_
    refine wSq (wIf rfl (fun hc => ?_) (fun hc => ?_))
    rotate_left
    · obtain rfl : n = 0 := by simp at hc; omega
      cases ho1
      refine wX (wXt (wXt (wXh ?_)))
      exact fun a w hf hH => ⟨s1, hf.sub _ rfl, hH, .inr rfl⟩
    refine wS (wN ?_)
    obtain ⟨n, rfl⟩ : ∃ m, n = m + 1 := ⟨n - 1, by simp at hc; omega⟩
    obtain ⟨o2, hr, ho1⟩ := bdS ho1
    unfold sip_state_round_b1 at hr
    refine wSq ?_
    refine wB ?_
    refine wSq ?_
    refine wD mix_ (.y 0 (.y 1 (.y 2 (.y 3 (.y 4 (.y 5 (.y 6 (.y 7 (.y 8 (.y 9 (.y 10 (.e 11 .done)))))))))))) (by kernel_rfl) ?_
    refine wMv rfl rfl rfl ?_
    refine wNc rfl rfl rfl ?_
    refine wFa rfl rfl fo_199_0 rfl ?_
    refine wLd 0 rfl rfl ag_68 rfl rfl rfl ?_
    refine wMv rfl rfl rfl ?_
    refine wNc rfl rfl rfl ?_
    refine wFa rfl rfl fo_199_1 rfl ?_
    refine wLd 0 rfl rfl ag_68 rfl rfl rfl ?_
    refine wInt rfl rfl rfl rfl rfl ?_
    refine wNc rfl rfl rfl ?_
    refine wFa rfl rfl fo_199_0 rfl ?_
    refine wSto 0 (enc_sip_state ({ s1 with a := (IntKind.u64.wrap (s1.a + s1.b)) } : sip_state)) rfl (gd0 rfl) rfl rfl rfl sz_68 rfl rfl rfl (rnB (by kernel_rfl) (rnB (by kernel_rfl) rnN)) ?_
    refine wE ?_
    refine wN ?_
    refine wSq ?_
    refine wD mix_ (.y 0 (.y 1 (.y 2 (.y 3 (.y 4 (.y 6 (.y 7 (.y 8 (.y 9 (.e 5 (.y 10 (.y 11 (.y 12 (.e 13 .done)))))))))))))) (by kernel_rfl) ?_
    refine wMv rfl rfl rfl ?_
    refine wMv rfl rfl rfl ?_
    refine wNc rfl rfl rfl ?_
    refine wFa rfl rfl fo_199_1 rfl ?_
    refine wLd 0 rfl rfl ag_68 rfl rfl rfl ?_
    refine wMv rfl rfl rfl ?_
    refine wNc rfl rfl rfl ?_
    refine wFa rfl rfl fo_199_0 rfl ?_
    refine wLd 0 rfl rfl ag_68 rfl rfl rfl ?_
    obtain ⟨r1, hr1, hr⟩ := bdS hr
    refine wCl rfl (gd0 rfl) rfl rfl ck_125 (fun w hH => math_bits_RotateLeft64_w hr1 hH) ?_
    rintro _ w ⟨rfl, hH⟩
    refine ⟨_, hH, (rnI (inJ0 (j := 0) rfl) (rnI (inJ0 (j := 0) rfl) rnN)), ?_⟩
    refine wInt rfl rfl rfl rfl rfl ?_
    refine wNc rfl rfl rfl ?_
    refine wFa rfl rfl fo_199_1 rfl ?_
    obtain ⟨x1, hx1, hr⟩ := nmS hr
    refine wSto 0 (enc_sip_state ({ s1 with a := (IntKind.u64.wrap (s1.a + s1.b)), b := x1 } : sip_state)) rfl (gd0 rfl) rfl (evI rfl hx1) rfl sz_68 rfl rfl rfl (rnB (by kernel_rfl) (rnB (by kernel_rfl) rnN)) ?_
    refine wE ?_
    refine wN ?_
    refine wSq ?_
    refine wT ?_
    refine wMv rfl rfl rfl ?_
    refine wMv rfl rfl rfl ?_
    refine wNc rfl rfl rfl ?_
    refine wFa rfl rfl fo_199_0 rfl ?_
    refine wLd 0 rfl rfl ag_68 rfl rfl rfl ?_
    obtain ⟨r2, hr2, hr⟩ := bdS hr
    refine wCl rfl (gd0 rfl) rfl rfl ck_125 (fun w hH => math_bits_RotateLeft64_w hr2 hH) ?_
    rintro _ w ⟨rfl, hH⟩
    refine ⟨_, hH, rn0, ?_⟩
    refine wNc rfl rfl rfl ?_
    refine wFa rfl rfl fo_199_0 rfl ?_
    refine wSto 0 (enc_sip_state ({ s1 with a := r2, b := x1 } : sip_state)) rfl (gd0 rfl) rfl rfl rfl sz_68 rfl rfl rfl rn0 ?_
    refine wE ?_
    refine wN ?_
    refine wSq ?_
    refine wD mix_ (.y 0 (.y 1 (.y 2 (.y 3 (.y 4 (.y 5 (.y 6 (.y 7 (.y 8 (.y 9 (.y 10 (.e 11 .done)))))))))))) (by kernel_rfl) ?_
    refine wMv rfl rfl rfl ?_
    refine wNc rfl rfl rfl ?_
    refine wFa rfl rfl fo_199_2 rfl ?_
    refine wLd 0 rfl rfl ag_68 rfl rfl rfl ?_
    refine wMv rfl rfl rfl ?_
    refine wNc rfl rfl rfl ?_
    refine wFa rfl rfl fo_199_3 rfl ?_
    refine wLd 0 rfl rfl ag_68 rfl rfl rfl ?_
    refine wInt rfl rfl rfl rfl rfl ?_
    refine wNc rfl rfl rfl ?_
    refine wFa rfl rfl fo_199_2 rfl ?_
    refine wSto 0 (enc_sip_state ({ s1 with a := r2, b := x1, c := (IntKind.u64.wrap (s1.c + s1.d)) } : sip_state)) rfl (gd0 rfl) rfl rfl rfl sz_68 rfl rfl rfl (rnB (by kernel_rfl) (rnB (by kernel_rfl) rnN)) ?_
    refine wE ?_
    refine wN ?_
    refine wSq ?_
    refine wD mix_ (.y 0 (.y 1 (.y 2 (.y 3 (.y 4 (.y 6 (.y 7 (.y 8 (.y 9 (.e 5 (.y 10 (.y 11 (.y 12 (.e 13 .done)))))))))))))) (by kernel_rfl) ?_
    refine wMv rfl rfl rfl ?_
    refine wMv rfl rfl rfl ?_
    refine wNc rfl rfl rfl ?_
    refine wFa rfl rfl fo_199_3 rfl ?_
    refine wLd 0 rfl rfl ag_68 rfl rfl rfl ?_
    refine wMv rfl rfl rfl ?_
    refine wNc rfl rfl rfl ?_
    refine wFa rfl rfl fo_199_2 rfl ?_
    refine wLd 0 rfl rfl ag_68 rfl rfl rfl ?_
    obtain ⟨r3, hr3, hr⟩ := bdS hr
    refine wCl rfl (gd0 rfl) rfl rfl ck_125 (fun w hH => math_bits_RotateLeft64_w hr3 hH) ?_
    rintro _ w ⟨rfl, hH⟩
    refine ⟨_, hH, (rnI (inJ0 (j := 0) rfl) (rnI (inJ0 (j := 0) rfl) rnN)), ?_⟩
    refine wInt rfl rfl rfl rfl rfl ?_
    refine wNc rfl rfl rfl ?_
    refine wFa rfl rfl fo_199_3 rfl ?_
    obtain ⟨x2, hx2, hr⟩ := nmS hr
    refine wSto 0 (enc_sip_state (⟨r2, x1, (IntKind.u64.wrap (s1.c + s1.d)), x2⟩ : sip_state)) rfl (gd0 rfl) rfl (evI rfl hx2) rfl sz_68 rfl rfl rfl (rnB (by kernel_rfl) (rnB (by kernel_rfl) rnN)) ?_
    refine wE ?_
    refine wN ?_
    refine wSq ?_
    refine wD mix_ (.y 0 (.y 1 (.y 2 (.y 3 (.y 4 (.y 5 (.y 6 (.y 7 (.y 8 (.y 9 (.y 10 (.e 11 .done)))))))))))) (by kernel_rfl) ?_
    refine wMv rfl rfl rfl ?_
    refine wNc rfl rfl rfl ?_
    refine wFa rfl rfl fo_199_0 rfl ?_
    refine wLd 0 rfl rfl ag_68 rfl rfl rfl ?_
    refine wMv rfl rfl rfl ?_
    refine wNc rfl rfl rfl ?_
    refine wFa rfl rfl fo_199_3 rfl ?_
    refine wLd 0 rfl rfl ag_68 rfl rfl rfl ?_
    refine wInt rfl rfl rfl rfl rfl ?_
    refine wNc rfl rfl rfl ?_
    refine wFa rfl rfl fo_199_0 rfl ?_
    refine wSto 0 (enc_sip_state (⟨(IntKind.u64.wrap (r2 + x2)), x1, (IntKind.u64.wrap (s1.c + s1.d)), x2⟩ : sip_state)) rfl (gd0 rfl) rfl rfl rfl sz_68 rfl rfl rfl (rnB (by kernel_rfl) (rnB (by kernel_rfl) rnN)) ?_
    refine wE ?_
    refine wN ?_
    refine wSq ?_
    refine wD mix_ (.y 0 (.y 1 (.y 2 (.y 3 (.y 4 (.y 6 (.y 7 (.y 8 (.y 9 (.e 5 (.y 10 (.y 11 (.y 12 (.e 13 .done)))))))))))))) (by kernel_rfl) ?_
    refine wMv rfl rfl rfl ?_
    refine wMv rfl rfl rfl ?_
    refine wNc rfl rfl rfl ?_
    refine wFa rfl rfl fo_199_3 rfl ?_
    refine wLd 0 rfl rfl ag_68 rfl rfl rfl ?_
    refine wMv rfl rfl rfl ?_
    refine wNc rfl rfl rfl ?_
    refine wFa rfl rfl fo_199_0 rfl ?_
    refine wLd 0 rfl rfl ag_68 rfl rfl rfl ?_
    obtain ⟨r4, hr4, hr⟩ := bdS hr
    refine wCl rfl (gd0 rfl) rfl rfl ck_125 (fun w hH => math_bits_RotateLeft64_w hr4 hH) ?_
    rintro _ w ⟨rfl, hH⟩
    refine ⟨_, hH, (rnI (inJ0 (j := 0) rfl) (rnI (inJ0 (j := 0) rfl) rnN)), ?_⟩
    refine wInt rfl rfl rfl rfl rfl ?_
    refine wNc rfl rfl rfl ?_
    refine wFa rfl rfl fo_199_3 rfl ?_
    obtain ⟨x3, hx3, hr⟩ := nmS hr
    refine wSto 0 (enc_sip_state (⟨(IntKind.u64.wrap (r2 + x2)), x1, (IntKind.u64.wrap (s1.c + s1.d)), x3⟩ : sip_state)) rfl (gd0 rfl) rfl (evI rfl hx3) rfl sz_68 rfl rfl rfl (rnB (by kernel_rfl) (rnB (by kernel_rfl) rnN)) ?_
    refine wE ?_
    refine wN ?_
    refine wSq ?_
    refine wD mix_ (.y 0 (.y 1 (.y 2 (.y 3 (.y 4 (.y 5 (.y 6 (.y 7 (.y 8 (.y 9 (.y 10 (.e 11 .done)))))))))))) (by kernel_rfl) ?_
    refine wMv rfl rfl rfl ?_
    refine wNc rfl rfl rfl ?_
    refine wFa rfl rfl fo_199_2 rfl ?_
    refine wLd 0 rfl rfl ag_68 rfl rfl rfl ?_
    refine wMv rfl rfl rfl ?_
    refine wNc rfl rfl rfl ?_
    refine wFa rfl rfl fo_199_1 rfl ?_
    refine wLd 0 rfl rfl ag_68 rfl rfl rfl ?_
    refine wInt rfl rfl rfl rfl rfl ?_
    refine wNc rfl rfl rfl ?_
    refine wFa rfl rfl fo_199_2 rfl ?_
    obtain ⟨x4, hx4, hr⟩ := nmS hr
    refine wSto 0 (enc_sip_state (⟨(IntKind.u64.wrap (r2 + x2)), x1, x4, x3⟩ : sip_state)) rfl (gd0 rfl) rfl (evI rfl hx4) rfl sz_68 rfl rfl rfl (rnB (by kernel_rfl) (rnB (by kernel_rfl) rnN)) ?_
    refine wE ?_
    refine wN ?_
    refine wSq ?_
    refine wD mix_ (.y 0 (.y 1 (.y 2 (.y 3 (.y 4 (.y 6 (.y 7 (.y 8 (.y 9 (.e 5 (.y 10 (.y 11 (.y 12 (.e 13 .done)))))))))))))) (by kernel_rfl) ?_
    refine wMv rfl rfl rfl ?_
    refine wMv rfl rfl rfl ?_
    refine wNc rfl rfl rfl ?_
    refine wFa rfl rfl fo_199_1 rfl ?_
    refine wLd 0 rfl rfl ag_68 rfl rfl rfl ?_
    refine wMv rfl rfl rfl ?_
    refine wNc rfl rfl rfl ?_
    refine wFa rfl rfl fo_199_2 rfl ?_
    refine wLd 0 rfl rfl ag_68 rfl rfl rfl ?_
    obtain ⟨r5, hr5, hr⟩ := bdS hr
    refine wCl rfl (gd0 rfl) rfl rfl ck_125 (fun w hH => math_bits_RotateLeft64_w hr5 hH) ?_
    rintro _ w ⟨rfl, hH⟩
    refine ⟨_, hH, (rnI (inJ0 (j := 0) rfl) (rnI (inJ0 (j := 0) rfl) rnN)), ?_⟩
    refine wInt rfl rfl rfl rfl rfl ?_
    refine wNc rfl rfl rfl ?_
    refine wFa rfl rfl fo_199_1 rfl ?_
    obtain ⟨x5, hx5, hr⟩ := nmS hr
    refine wSto 0 (enc_sip_state (⟨(IntKind.u64.wrap (r2 + x2)), x5, x4, x3⟩ : sip_state)) rfl (gd0 rfl) rfl (evI rfl hx5) rfl sz_68 rfl rfl rfl (rnB (by kernel_rfl) (rnB (by kernel_rfl) rnN)) ?_
    refine wE ?_
    refine wN ?_
    refine wT ?_
    refine wMv rfl rfl rfl ?_
    refine wMv rfl rfl rfl ?_
    refine wNc rfl rfl rfl ?_
    refine wFa rfl rfl fo_199_2 rfl ?_
    refine wLd 0 rfl rfl ag_68 rfl rfl rfl ?_
    obtain ⟨r6, hr6, hr⟩ := bdS hr
    refine wCl rfl (gd0 rfl) rfl rfl ck_125 (fun w hH => math_bits_RotateLeft64_w hr6 hH) ?_
    rintro _ w ⟨rfl, hH⟩
    refine ⟨_, hH, rn0, ?_⟩
    refine wNc rfl rfl rfl ?_
    refine wFa rfl rfl fo_199_2 rfl ?_
    refine wSto 0 (enc_sip_state (⟨(IntKind.u64.wrap (r2 + x2)), x5, r6, x3⟩ : sip_state)) rfl (gd0 rfl) rfl rfl rfl sz_68 rfl rfl rfl rn0 ?_
    refine wE ?_
    refine wBn ?_
    cases hr
    refine wN (wT ?_)
    refine wInt rfl rfl rfl rfl rfl ?_
    refine wMv rfl (evI rfl (i64c i (by have := of_decide_eq_true hk1; omega))) rfl ?_
    refine wE ?_
    exact fun a w hf hH => ⟨n, (⟨(IntKind.u64.wrap (r2 + x2)), x5, r6, x3⟩ : sip_state), Nat.lt_succ_self n, i + 1, by omega, hf.sub _ rfl, hH, ho1⟩
  ·
    rintro a w ⟨s1, hf, hH, hbn⟩
    have hr := aftS hra1 hbn
    refine jX hf hH ?_
    clear hf hH a w
    cases hr
    exact wRetN hqn rfl fun w hH => ⟨_, rfl, (hH.grp 1 [[0]] rfl), rfl⟩

theorem sip_state_word_w {E : Env} {w : World} {Fs : List HL} {bp0 : Nat} {p0 : sip_state} {hp0 : HL} {p1 : Int} {r : sip_state} (hr : sip_state_word p0 p1 = some r) (hBp0 : ob_sip_state bp0 p0 hp0) (hH : Holds E w (hp0 :: Fs)) :
    BK.Spec Try.prog 108 [ptr bp0 0, .int .u64 p1] w fun v w' => ∃ (h0' : HL), v = .tuple #[] ∧ Holds E w' (h0' :: Fs) ∧ ob_sip_state bp0 r h0' := by
  unfold sip_state_word at hr
  refine entN Try.func108 rfl rfl hH fun Q _ ⟨hq, hqn⟩ => ?_
  refine wF [(0, ptr bp0 0), (1, .int .u64 p1)] rfl ?_
  refine wSq ?_
  obtain rfl := hBp0
  refine wT ?_
  refine wMv rfl rfl rfl ?_
  refine wNc rfl rfl rfl ?_
  refine wFa rfl rfl fo_199_3 rfl ?_
  refine wLd 0 rfl rfl ag_68 rfl rfl rfl ?_
  refine wMv rfl rfl rfl ?_
  refine wInt rfl rfl rfl rfl rfl ?_
  refine wNc rfl rfl rfl ?_
  refine wFa rfl rfl fo_199_3 rfl ?_
  obtain ⟨x1, hx1, hr⟩ := nmS hr
  refine wSto 0 (enc_sip_state ({ p0 with d := x1 } : sip_state)) rfl (gd0 rfl) rfl (evI rfl hx1) rfl sz_68 rfl rfl rfl rn0 ?_
  refine wE ?_
  refine wN ?_
  refine wSq ?_
  refine wT ?_
  refine wMv rfl rfl rfl ?_
  obtain ⟨r1, hr1, hr⟩ := bdS hr
  refine wCl rfl (gd0 rfl) rfl rfl ck_109 (fun w hH => sip_state_round_w hr1 rfl hH) ?_
  rintro _ w ⟨h1, rfl, hH, hB1⟩
  refine ⟨_, hH, rn0, ?_⟩
  refine wE ?_
  refine wN ?_
  obtain rfl := hB1
  refine wT ?_
  refine wMv rfl rfl rfl ?_
  refine wNc rfl rfl rfl ?_
  refine wFa rfl rfl fo_199_0 rfl ?_
  refine wLd 0 rfl rfl ag_68 rfl rfl rfl ?_
  refine wMv rfl rfl rfl ?_
  refine wInt rfl rfl rfl rfl rfl ?_
  refine wNc rfl rfl rfl ?_
  refine wFa rfl rfl fo_199_0 rfl ?_
  obtain ⟨x2, hx2, hr⟩ := nmS hr
  refine wSto 0 (enc_sip_state ({ r1 with a := x2 } : sip_state)) rfl (gd0 rfl) rfl (evI rfl hx2) rfl sz_68 rfl rfl rfl rn0 ?_
  refine wE ?_
  cases hr
  exact wRetN hqn rfl fun w hH => ⟨_, rfl, (hH.grp 1 [[0]] rfl), rfl⟩

theorem sip_Sum_w {E : Env} {w : World} {Fs : List HL} {C0 : HL} {p0 : (Tup Int 16)} {vp1 : Value} {p1 : (List (List Int))} {r : Int} (hr : sip_Sum p0 p1 = some r) (hRp1 : RdP C0 1 (RS (fun y => [.int .u8 y])) vp1 p1) (hH : Holds E w (C0 :: Fs)) :
    BK.Spec Try.prog 91 [.agg ((Tup.cells (fun y => [.int .u8 y]) 16) p0).toArray, vp1] w fun v w' => v = .int .u64 r ∧ Holds E w' (C0 :: Fs) := by
  unfold sip_Sum at hr
  refine ent Try.func91 rfl hH fun Q _ hq => ?_
  refine wF [(0, .agg ((Tup.cells (fun y => [.int .u8 y]) 16) p0).toArray), (1, vp1)] rfl ?_
  refine wSq ?_
  refine wT ?_
  refine wBox (vs := ((Tup.cells (fun y => [.int .u8 y]) 16) p0)) rfl (gd0 rfl) rfl rfl fun b1 => ⟨rn0, ?_⟩
  refine wAs rfl rfl rfl ?_
  refine wE ?_
  refine wN ?_
  refine wSq ?_
  refine wD mix_ (.y 0 (.y 2 (.e 1 (.e 3 (.y 4 (.y 5 .done)))))) (by kernel_rfl) ?_
  obtain ⟨v1, hR1, hS1⟩ := arH (t := p0) (l := 0) (h := 8) (b := b1) (T := 95) (cells := ((Tup.cells (fun y => [.int .u8 y]) 16) p0)) (pre := []) (post := []) (o := 0) (k := 1) (e := (fun y => [.int .u8 y])) (fun _ => rfl) rfl rfl (by decide)
  refine wY rfl rfl rfl rfl (fun a hf => rSaP hf rfl ae_95 rfl rfl hS1) ?_
  obtain ⟨v2, hR2, hS2⟩ := arL (t := p0) (l := 8) (h := 16) (b := b1) (T := 95) (cells := ((Tup.cells (fun y => [.int .u8 y]) 16) p0)) (pre := []) (post := []) (o := 0) (k := 1) (e := (fun y => [.int .u8 y])) (fun _ => rfl) rfl rfl (by decide)
  refine wY rfl rfl rfl rfl (fun a hf => rSaP hf rfl ae_95 rfl rfl hS2) ?_
  obtain ⟨r1, hr1, hr⟩ := bdS hr
  refine wCl rfl (gd0 rfl) rfl rfl ck_106 (fun w hH => sip_number_w hr1 hR1 hH) ?_
  rintro _ w ⟨rfl, hH⟩
  refine ⟨_, hH, rnN, ?_⟩
  obtain ⟨r2, hr2, hr⟩ := bdS hr
  refine wCl rfl (gd0 rfl) rfl rfl ck_106 (fun w hH => sip_number_w hr2 hR2 hH) ?_
  rintro _ w ⟨rfl, hH⟩
  refine ⟨_, hH, rnN, ?_⟩
  refine wAs rfl rfl rfl ?_
  refine wAs rfl rfl rfl ?_
  refine wE ?_
  refine wN ?_
  refine wSq ?_
  refine wT ?_
  refine wMv rfl rfl rfl ?_
  refine wInt rfl rfl rfl rfl rfl ?_
  refine wMv rfl rfl rfl ?_
  refine wInt rfl rfl rfl rfl rfl ?_
  refine wMv rfl rfl rfl ?_
  refine wInt rfl rfl rfl rfl rfl ?_
  refine wMv rfl rfl rfl ?_
  refine wInt rfl rfl rfl rfl rfl ?_
  refine wBd (enc_sip_state (⟨(IntKind.u64.wrap ((BitVec.ofInt IntKind.u64.bits r1 ^^^ BitVec.ofInt IntKind.u64.bits 8317987319222330741).toNat : Int)), (IntKind.u64.wrap ((BitVec.ofInt IntKind.u64.bits r2 ^^^ BitVec.ofInt IntKind.u64.bits 7237128888997146477).toNat : Int)), (IntKind.u64.wrap ((BitVec.ofInt IntKind.u64.bits r1 ^^^ BitVec.ofInt IntKind.u64.bits 7816392313619706465).toNat : Int)), (IntKind.u64.wrap ((BitVec.ofInt IntKind.u64.bits r2 ^^^ BitVec.ofInt IntKind.u64.bits 8387220255154660723).toNat : Int))⟩ : sip_state)) rfl rfl (by kernel_rfl) rfl ?_
  refine wBox (vs := (enc_sip_state (⟨(IntKind.u64.wrap ((BitVec.ofInt IntKind.u64.bits r1 ^^^ BitVec.ofInt IntKind.u64.bits 8317987319222330741).toNat : Int)), (IntKind.u64.wrap ((BitVec.ofInt IntKind.u64.bits r2 ^^^ BitVec.ofInt IntKind.u64.bits 7237128888997146477).toNat : Int)), (IntKind.u64.wrap ((BitVec.ofInt IntKind.u64.bits r1 ^^^ BitVec.ofInt IntKind.u64.bits 7816392313619706465).toNat : Int)), (IntKind.u64.wrap ((BitVec.ofInt IntKind.u64.bits r2 ^^^ BitVec.ofInt IntKind.u64.bits 8387220255154660723).toNat : Int))⟩ : sip_state))) rfl (gd0 rfl) rfl rfl fun b2 => ⟨rn0, ?_⟩
  refine wAs rfl rfl rfl ?_
  refine wE ?_
  refine wN ?_
  refine wSq ?_
  refine wT ?_
  refine wMv rfl rfl rfl ?_
  obtain ⟨r3, hr3, hr⟩ := bdS hr
  refine wCl rfl (gd0 rfl) rfl rfl ck_107 (fun w hH => slices_Concat_byte_byte_w hr3 hRp1 (hH.grp 3 [[2], [0], [1]] rfl)) ?_
  rintro _ w ⟨v3, c1, hV, hH, hO1⟩
  obtain rfl := hV.symm
  refine ⟨_, hH, rn0, ?_⟩
  refine wAs rfl rfl rfl ?_
  refine wE ?_
  refine wN ?_
  refine wSq ?_
  refine wT ?_
  refine wMv rfl rfl rfl ?_
  refine wY rfl rfl rfl rfl (fun a hf => rLenR hf rfl hO1.rd rfl se_24) ?_
  refine wAs rfl rfl rfl ?_
  refine wE ?_
  refine wN ?_
  refine wSq ?_
  obtain ⟨o1, ho1, hra1⟩ := bdS hr
  refine wJ1 (fun a w => ∃ (s1 : (sip_state × (List Int))) (h1 : HL) (v4 : Value) (c2 : HL), Fr a 74 [(7, ptr b2 0), (8, v4), (9, .int .i64 (r3.length : Int))] ∧ Holds E w (C0 :: h1 :: c2 :: Fs) ∧ ob_sip_state b2 s1.1 h1 ∧ Ow (fun y => [.int .u8 y]) 1 5 v4 s1.2 c2 ∧ (o1 = .brk s1 ∨ o1 = .nxt s1)) ?_ ?_
  ·
    refine wLp (α := (sip_state × (List Int))) (fun n (s1 : (sip_state × (List Int))) a w => ∃ (h1 : HL) (v4 : Value) (c2 : HL), Fr a 74 [(7, ptr b2 0), (8, v4), (9, .int .i64 (r3.length : Int))] ∧ Holds E w (C0 :: h1 :: c2 :: Fs) ∧ ob_sip_state b2 s1.1 h1 ∧ Ow (fun y => [.int .u8 y]) 1 5 v4 s1.2 c2 ∧ whileN sip_Sum_b1 n s1 = some o1) (n := FUEL) (s := ((⟨(IntKind.u64.wrap ((BitVec.ofInt IntKind.u64.bits r1 ^^^ BitVec.ofInt IntKind.u64.bits 8317987319222330741).toNat : Int)), (IntKind.u64.wrap ((BitVec.ofInt IntKind.u64.bits r2 ^^^ BitVec.ofInt IntKind.u64.bits 7237128888997146477).toNat : Int)), (IntKind.u64.wrap ((BitVec.ofInt IntKind.u64.bits r1 ^^^ BitVec.ofInt IntKind.u64.bits 7816392313619706465).toNat : Int)), (IntKind.u64.wrap ((BitVec.ofInt IntKind.u64.bits r2 ^^^ BitVec.ofInt IntKind.u64.bits 8387220255154660723).toNat : Int))⟩ : sip_state), r3)) (fun a w hf hH => ⟨_, v3, c1, hf.sub _ rfl, (hH.grp 4 [[0], [2], [1]] rfl), rfl, hO1, ho1⟩) ?_
    rintro n s1 a w ⟨h1, v4, c2, hf, hH, hB1, hO2, ho1⟩
    refine jI hf hH ?_
    clear hf hH a w
    cases n with
    | zero => cases ho1
    | succ n =>
      obtain ⟨o2, hr, ho1⟩ := bdS ho1
      unfold sip_Sum_b1 at hr
      refine wSq ?_
      refine wSq ?_
      refine wT ?_
      refine wMv rfl rfl rfl ?_
      refine wY rfl rfl rfl rfl (fun a hf => rLenR hf rfl hO2.rd rfl se_24) ?_
      refine wInt rfl rfl rfl rfl rfl ?_
      refine wE ?_
      refine wN ?_
      refine wIf2 rfl hr (fun hc1 hr => ?_) (fun hc1 hr => ?_)
      ·
        refine wS ?_
        refine wN ?_
        refine wSq ?_
        refine wB ?_
        refine wT ?_
        refine wMv rfl rfl rfl ?_
        refine wMv rfl rfl rfl ?_
        obtain ⟨hk1, hr⟩ := ckS hr
        obtain ⟨v5, hO3, hS3⟩ := Ow.slH (h := 8) (k := 1) (fun _ => rfl) hO2 hk1
        refine wY rfl rfl rfl rfl (fun a hf => rSlP hf rfl se_24 rfl rfl rfl hS3) ?_
        obtain ⟨r7, hr7, hr⟩ := bdS hr
        refine wCl rfl (gd0 rfl) rfl rfl ck_106 (fun w hH => sip_number_w hr7 hO3.rd (hH.grp 3 [[2], [0], [1]] rfl)) ?_
        rintro _ w ⟨rfl, hH⟩
        refine ⟨_, hH, rn0, ?_⟩
        obtain ⟨r8, hr8, hr⟩ := bdS hr
        refine wCl rfl (gd0 rfl) rfl rfl ck_108 (fun w hH => sip_state_word_w hr8 hB1 (hH.grp 3 [[2], [0], [1]] rfl)) ?_
        rintro _ w ⟨h4, rfl, hH, hB4⟩
        refine ⟨_, hH, rn0, ?_⟩
        refine wE ?_
        refine wBn ?_
        refine wN ?_
        refine wT ?_
        refine wMv rfl rfl rfl ?_
        obtain ⟨hk2, hr⟩ := ckS hr
        obtain ⟨v6, hO4, hS4⟩ := Ow.slL (l := 8) (k := 1) (fun _ => rfl) hO2 hk2
        refine wY rfl rfl rfl rfl (fun a hf => rSlP hf rfl se_24 rfl rfl rfl hS4) ?_
        refine wAs rfl rfl rfl ?_
        refine wE ?_
        cases hr
        exact fun a w hf hH => ⟨n, (r8, (s1.2.drop 8)), Nat.lt_succ_self n, _, v6, c2, hf.sub _ rfl, (hH.grp 3 [[2], [0], [1]] rfl), hB4, hO4, ho1⟩
      ·
        refine wX (wXt (wXt (wXh ?_)))
        cases hr
        obtain rfl := stpB ho1
        exact fun a w hf hH => ⟨(s1.1, s1.2), _, v4, c2, hf.sub _ rfl, hH, hB1, hO2, .inl rfl⟩
  ·
    rintro a w ⟨s1, h1, v4, c2, hf, hH, hB1, hO2, hbn⟩
    have hr := aftS hra1 hbn
    refine jX hf hH ?_
    clear hf hH a w
    refine wN ?_
    refine wSq ?_
    refine wT ?_
    refine wMv rfl rfl rfl ?_
    refine wMv rfl rfl rfl ?_
    obtain ⟨r4, hr4, hr⟩ := bdS hr
    refine wCl rfl (gd0 rfl) rfl rfl ck_106 (fun w hH => sip_number_w hr4 hO2.rd (hH.grp 3 [[2], [0], [1]] rfl)) ?_
    rintro _ w ⟨rfl, hH⟩
    refine ⟨_, hH, rn0, ?_⟩
    refine wMv rfl rfl rfl ?_
    refine wCv rfl rfl ii_68 us_3 rfl ?_
    refine wY rfl rfl rfl rfl (fun a hf => rShc (p := 72057594037927936) hf rfl rfl (by decide) (by decide)) ?_
    refine wInt rfl rfl rfl rfl rfl ?_
    obtain ⟨r5, hr5, hr⟩ := bdS hr
    refine wCl rfl (gd0 rfl) rfl rfl ck_108 (fun w hH => sip_state_word_w hr5 hB1 (hH.grp 3 [[2], [0], [1]] rfl)) ?_
    rintro _ w ⟨h2, rfl, hH, hB2⟩
    refine ⟨_, hH, rn0, ?_⟩
    refine wE ?_
    refine wN ?_
    refine wSq ?_
    obtain rfl := hB2
    refine wT ?_
    refine wMv rfl rfl rfl ?_
    refine wNc rfl rfl rfl ?_
    refine wFa rfl rfl fo_199_2 rfl ?_
    refine wLd 0 rfl rfl ag_68 rfl rfl rfl ?_
    refine wInt rfl rfl rfl rfl rfl ?_
    refine wNc rfl rfl rfl ?_
    refine wFa rfl rfl fo_199_2 rfl ?_
    obtain ⟨x1, hx1, hr⟩ := nmS hr
    refine wSto 0 (enc_sip_state ({ r5 with c := x1 } : sip_state)) rfl (gd0 rfl) rfl (evI rfl hx1) rfl sz_68 rfl rfl rfl rn0 ?_
    refine wE ?_
    refine wN ?_
    refine wSq ?_
    refine wT ?_
    refine wMv rfl rfl rfl ?_
    obtain ⟨r6, hr6, hr⟩ := bdS hr
    refine wCl rfl (gd0 rfl) rfl rfl ck_109 (fun w hH => sip_state_round_w hr6 rfl hH) ?_
    rintro _ w ⟨h3, rfl, hH, hB3⟩
    refine ⟨_, hH, rn0, ?_⟩
    refine wE ?_
    refine wN ?_
    refine wSq ?_
    obtain rfl := hB3
    refine wD mix_ (.y 0 (.y 1 (.y 2 (.y 3 (.y 4 (.y 5 (.y 6 (.y 7 (.y 8 (.y 9 (.y 10 (.y 11 (.y 12 (.y 13 (.y 14 (.y 15 (.y 16 (.y 17 (.y 18 (.y 19 .done)))))))))))))))))))) (by kernel_rfl) ?_
    refine wMv rfl rfl rfl ?_
    refine wNc rfl rfl rfl ?_
    refine wFa rfl rfl fo_199_0 rfl ?_
    refine wLd 0 rfl rfl ag_68 rfl rfl rfl ?_
    refine wMv rfl rfl rfl ?_
    refine wNc rfl rfl rfl ?_
    refine wFa rfl rfl fo_199_1 rfl ?_
    refine wLd 0 rfl rfl ag_68 rfl rfl rfl ?_
    refine wInt rfl rfl rfl rfl rfl ?_
    refine wMv rfl rfl rfl ?_
    refine wNc rfl rfl rfl ?_
    refine wFa rfl rfl fo_199_2 rfl ?_
    refine wLd 0 rfl rfl ag_68 rfl rfl rfl ?_
    refine wInt rfl rfl rfl rfl rfl ?_
    refine wMv rfl rfl rfl ?_
    refine wNc rfl rfl rfl ?_
    refine wFa rfl rfl fo_199_3 rfl ?_
    refine wLd 0 rfl rfl ag_68 rfl rfl rfl ?_
    refine wInt rfl rfl rfl rfl rfl ?_
    obtain ⟨x2, hx2, hr⟩ := nmS hr
    refine wAs rfl (evI rfl hx2) rfl ?_
    refine wE ?_
    refine wN ?_
    cases hr
    exact wRet1 hq rfl (fun a w hf hH => resT hf rfl) fun w hH => ⟨rfl, (hH.grp 3 [[2]] rfl)⟩
end Go.Proofs
