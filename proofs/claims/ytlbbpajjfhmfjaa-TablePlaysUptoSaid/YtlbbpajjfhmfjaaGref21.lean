/- Walks of the functions of package ref21: each shows that the code comes to what a plain Lean function gives. Printed by a program of mine. Own work for this claim. -/
import Derived.Test.YtlbbpajjfhmfjaaG0
set_option linter.unusedVariables false
set_option maxRecDepth 100000
namespace Go.Proofs
open Go.BK
def ref21_Find_b1 (p0 : (List ref21_Entry)) (p1 : api_Prefix) (i : Nat) (s1 : Unit) : Option (Out Int Unit) :=
  bd (ix p0 (i : Int)) fun e1 => sel (decide (e1.P = p1)) (some (.ret (i : Int))) (some (.nxt ()))
def ref21_Find (p0 : (List ref21_Entry)) (p1 : api_Prefix) : Option Int :=
  bd (forN (ref21_Find_b1 p0 p1) p0.length 0 ()) fun o1 => aft id (fun (s1 : Unit) => some (-1)) o1
def ref21_Less_b1 (p0 : api_Prefix) (p1 : api_Prefix) (i : Nat) (s1 : Unit) : Option (Out Bool Unit) :=
  bd (ix (Tup.list 7 p0.Addr) (i : Int)) fun e1 => bd (ix (Tup.list 7 p1.Addr) (i : Int)) fun e2 => sel (e1 != e2) (bd (ix (Tup.list 7 p0.Addr) (i : Int)) fun e3 => bd (ix (Tup.list 7 p1.Addr) (i : Int)) fun e4 => some (.ret (decide (e3 < e4)))) (some (.nxt ()))
def ref21_Less (p0 : api_Prefix) (p1 : api_Prefix) : Option Bool :=
  sel (p0.V6 != p1.V6) (some p1.V6) (bd (forN (ref21_Less_b1 p0 p1) 7 0 ()) fun o1 => aft id (fun (s1 : Unit) => some false) o1)
def ref21_Put_k1 (s1 : Int) (y2 : Bool) : Option (Out ((List ref21_Entry) × Bool) Int) :=
  sel y2 (some (.nxt (IntKind.i64.wrap (s1 + 1)))) (some (.brk s1))
def ref21_Put_b1 (p0 : (List ref21_Entry)) (p2 : api_Prefix) (s1 : Int) : Option (Out ((List ref21_Entry) × Bool) Int) :=
  sel (decide (s1 < (p0.length : Int))) (bd (ix p0 s1) fun e2 => bd (ref21_Less e2.P p2) fun r2 => ref21_Put_k1 s1 r2) (ref21_Put_k1 s1 false)
def ref21_Put (p0 : (List ref21_Entry)) (p1 : Int) (p2 : api_Prefix) (p3 : Int) : Option ((List ref21_Entry) × Bool) :=
  ck (decide ((([] : List ref21_Entry).length + p0.length) * 16 ≤ 140737488355328)) (bd (ref21_Find p0 p2) fun r1 => sel (decide (r1 ≥ 0)) (bd (ix (([] : List ref21_Entry) ++ p0) r1) fun e1 => some (((([] : List ref21_Entry) ++ p0).set r1.toNat ({ e1 with V := p3 } : ref21_Entry)), true)) (sel (decide ((p0.length : Int) ≥ p1)) (some (p0, false)) (bd (whileN (ref21_Put_b1 p0 p2) FUEL 0) fun o1 => aft id (fun (s1 : Int) => ck (decide (0 ≤ s1) && decide (s1 ≤ ((([] : List ref21_Entry) ++ p0).length : Int)) && decide (s1 ≤ s1) && decide (s1 ≤ ((([] : List ref21_Entry) ++ p0).length : Int))) (ck (decide (0 ≤ s1) && decide (s1 ≤ (p0.length : Int))) (ck (decide ((((([] : List ref21_Entry) ++ p0).take s1.toNat).length + [(⟨p2, p3⟩ : ref21_Entry)].length) * 16 ≤ 140737488355328)) (ck (decide (((((([] : List ref21_Entry) ++ p0).take s1.toNat) ++ [(⟨p2, p3⟩ : ref21_Entry)]).length + (p0.drop s1.toNat).length) * 16 ≤ 140737488355328)) (some (((((([] : List ref21_Entry) ++ p0).take s1.toNat) ++ [(⟨p2, p3⟩ : ref21_Entry)]) ++ (p0.drop s1.toNat)), true)))))) o1)))
def ref21_Del (p0 : (List ref21_Entry)) (p1 : api_Prefix) : Option (List ref21_Entry) :=
  bd (ref21_Find p0 p1) fun r1 => sel (decide (r1 < 0)) (some p0) (ck (decide (0 ≤ r1) && decide (r1 ≤ (p0.length : Int))) (ck (decide (0 ≤ (IntKind.i64.wrap (r1 + 1))) && decide ((IntKind.i64.wrap (r1 + 1)) ≤ (p0.length : Int))) (ck (decide ((([] : List ref21_Entry).length + (p0.take r1.toNat).length) * 16 ≤ 140737488355328)) (ck (decide (((([] : List ref21_Entry) ++ (p0.take r1.toNat)).length + (p0.drop (IntKind.i64.wrap (r1 + 1)).toNat).length) * 16 ≤ 140737488355328)) (some ((([] : List ref21_Entry) ++ (p0.take r1.toNat)) ++ (p0.drop (IntKind.i64.wrap (r1 + 1)).toNat)))))))
def ref21_Prefixes_b1 (p0 : (List ref21_Entry)) (i : Nat) (s1 : (List api_Prefix)) : Option (Out (List api_Prefix) (List api_Prefix)) :=
  bd (ix p0 (i : Int)) fun e1 => ck (decide ((s1.length + [e1.P].length) * 8 ≤ 140737488355328)) (some (.nxt (s1 ++ [e1.P])))
def ref21_Prefixes (p0 : (List ref21_Entry)) : Option (List api_Prefix) :=
  bd (forN (ref21_Prefixes_b1 p0) p0.length 0 []) fun o1 => aft id (fun (s1 : (List api_Prefix)) => some s1) o1
def ref21_Same_b1 (p0 : (List api_Prefix)) (p1 : (List api_Prefix)) (i : Nat) (s1 : Unit) : Option (Out Bool Unit) :=
  bd (ix p0 (i : Int)) fun e1 => bd (ix p1 (i : Int)) fun e2 => sel (decide (e1 ≠ e2)) (some (.ret false)) (some (.nxt ()))
def ref21_Same (p0 : (List api_Prefix)) (p1 : (List api_Prefix)) : Option Bool :=
  sel ((p0.length : Int) != (p1.length : Int)) (some false) (bd (forN (ref21_Same_b1 p0 p1) p0.length 0 ()) fun o1 => aft id (fun (s1 : Unit) => some true) o1)

theorem ref21_Find_w {E : Env} {w : World} {Fs : List HL} {C0 : HL} {vp0 : Value} {p0 : (List ref21_Entry)} {p1 : api_Prefix} {r : Int} (hr : ref21_Find p0 p1 = some r) (hRp0 : Rd C0 enc_ref21_Entry vp0 p0) (hH : Holds E w (C0 :: Fs)) :
    BK.Spec Try.prog 20 [vp0, .agg (enc_api_Prefix p1).toArray] w fun v w' => v = .int .i64 r ∧ Holds E w' (C0 :: Fs) := by
  unfold ref21_Find at hr
  refine ent Try.func20 rfl hH fun Q _ hq => ?_
  refine wF [(0, vp0), (1, .agg (enc_api_Prefix p1).toArray)] rfl ?_
  refine wSq ?_
  refine wT ?_
  refine wBox (vs := (enc_api_Prefix p1)) rfl (gd0 rfl) rfl rfl fun b1 => ⟨rn0, ?_⟩
  refine wAs rfl rfl rfl ?_
  refine wE ?_
  refine wN ?_
  refine wSq ?_
  refine wSq ?_
  refine wT ?_
  refine wMv rfl rfl rfl ?_
  refine wY rfl rfl rfl rfl (fun a hf => rLenR hf rfl hRp0 rfl se_47) ?_
  refine wMv rfl rfl rfl ?_
  refine wE ?_
  refine wN ?_
  obtain ⟨o1, ho1, hra1⟩ := bdS hr
  refine wJ1 (fun a w => ∃ (s1 : Unit) , Fr a 20 [] ∧ Holds E w (C0 :: [blk b1 (enc_api_Prefix p1) 42] :: Fs) ∧ (o1 = .brk s1 ∨ o1 = .nxt s1)) ?_ ?_
  ·
    refine wLp (α := Unit) (fun n (s1 : Unit) a w => ∃ (i : Nat) , i + n = p0.length ∧ Fr a 20 [(0, vp0), (3, ptr b1 0), (7, .int .i64 (p0.length : Int)), (8, .int .i64 (i : Int))] ∧ Holds E w (C0 :: [blk b1 (enc_api_Prefix p1) 42] :: Fs) ∧ forN (ref21_Find_b1 p0 p1) n i s1 = some o1) (n := p0.length) (s := ()) (fun a w hf hH => ⟨0, by simp, hf.sub _ rfl, (hH.grp 2 [[1], [0]] rfl), ho1⟩) ?_
    rintro n s1 a w ⟨i, hi, hf, hH, ho1⟩
    refine jI hf hH ?_
    clear hf hH a w
    refine wSq (wT ?_)
    refine wInt rfl rfl rfl rfl rfl ?_
    refine wE ?_
    refine wN ?_
    refine wSq (wIf rfl (fun hc => ?_) (fun hc => ?_))
    rotate_left
    · obtain rfl : n = 0 := by simp at hc; omega
      cases ho1
      refine wX (wXt (wXt (wXh ?_)))
      exact fun a w hf hH => ⟨s1, hf.sub _ rfl, hH, .inr rfl⟩
    refine wS (wN ?_)
    obtain ⟨n, rfl⟩ : ∃ m, n = m + 1 := ⟨n - 1, by simp at hc; omega⟩
    obtain ⟨o2, hr, ho1⟩ := bdS ho1
    unfold ref21_Find_b1 at hr
    refine wSq ?_
    refine wB ?_
    refine wSq ?_
    refine wT ?_
    refine wMv rfl rfl rfl ?_
    refine wAs rfl rfl rfl ?_
    refine wE ?_
    refine wN ?_
    refine wSq ?_
    refine wD mix_ (.y 0 (.y 1 (.y 2 (.y 3 (.y 4 (.y 5 (.y 6 .done))))))) (by kernel_rfl) ?_
    refine wMv rfl rfl rfl ?_
    refine wMv rfl rfl rfl ?_
    obtain ⟨e1, he1, hr⟩ := bdS hr
    obtain ⟨b2, me1, hE1, hI1⟩ := hRp0.at (k := 9) (fun _ => rfl) he1
    refine wIxO rfl rfl rfl se_47 hI1 rfl ?_
    refine wFa rfl rfl fo_54_0 rfl ?_
    refine wLsE (enc_api_Prefix e1.P) (off := 0) rfl rfl hE1 ag_42 sz_42 (inJ 0 rfl) rfl rfl rfl ?_
    refine wLs 1 (enc_api_Prefix p1) rfl rfl ag_42 sz_42 rfl rfl rfl rfl ?_
    refine wY rfl rfl rfl rfl (fun a hf => rFlE hf rfl rfl eqF_42) ?_
    refine wE ?_
    refine wN ?_
    refine wIf2 rfl hr (fun hc1 hr => ?_) (fun hc1 hr => ?_)
    ·
      refine wSq ?_
      refine wT ?_
      refine wMv rfl rfl rfl ?_
      refine wAs rfl rfl rfl ?_
      refine wE ?_
      refine wN ?_
      cases hr
      obtain rfl := stpR ho1
      obtain rfl := aftR hra1
      exact wRet1 hq rfl (fun a w hf hH => resT hf rfl) fun w hH => ⟨rfl, (hH.grp 2 [[0]] rfl)⟩
    ·
      refine wS ?_
      refine wBn ?_
      cases hr
      refine wN (wT ?_)
      refine wInt rfl rfl rfl rfl rfl ?_
      refine wMv rfl (evI rfl (i64c i (by have := hRp0.le; omega))) rfl ?_
      refine wE ?_
      exact fun a w hf hH => ⟨n, (), Nat.lt_succ_self n, i + 1, by omega, hf.sub _ rfl, hH, ho1⟩
  ·
    rintro a w ⟨s1, hf, hH, hbn⟩
    have hr := aftS hra1 hbn
    refine jX hf hH ?_
    clear hf hH a w
    refine wN ?_
    refine wSq ?_
    refine wT ?_
    refine wAs rfl rfl rfl ?_
    refine wE ?_
    refine wN ?_
    cases hr
    exact wRet1 hq rfl (fun a w hf hH => resT hf rfl) fun w hH => ⟨rfl, (hH.grp 2 [[0]] rfl)⟩

theorem ref21_Less_w {E : Env} {w : World} {Fs : List HL} {p0 : api_Prefix} {p1 : api_Prefix} {r : Bool} (hr : ref21_Less p0 p1 = some r)  (hH : Holds E w (Fs)) :
    BK.Spec Try.prog 60 [.agg (enc_api_Prefix p0).toArray, .agg (enc_api_Prefix p1).toArray] w fun v w' => v = .bool r ∧ Holds E w' (Fs) := by
  unfold ref21_Less at hr
  refine ent Try.func60 rfl hH fun Q _ hq => ?_
  refine wF [(0, .agg (enc_api_Prefix p0).toArray), (1, .agg (enc_api_Prefix p1).toArray)] rfl ?_
  refine wSq ?_
  refine wT ?_
  refine wBox (vs := (enc_api_Prefix p0)) rfl (gd0 rfl) rfl rfl fun b1 => ⟨rn0, ?_⟩
  refine wBox (vs := (enc_api_Prefix p1)) rfl (gd0 rfl) rfl rfl fun b2 => ⟨rn0, ?_⟩
  refine wAs rfl rfl rfl ?_
  refine wE ?_
  refine wN ?_
  refine wSq ?_
  refine wSq ?_
  refine wT ?_
  refine wFa rfl rfl fo_42_0 rfl ?_
  refine wLd 1 rfl rfl ag_4 rfl rfl rfl ?_
  refine wFa rfl rfl fo_42_0 rfl ?_
  refine wLd 0 rfl rfl ag_4 rfl rfl rfl ?_
  refine wY rfl rfl rfl rfl (fun a hf => rBooN hf rfl rfl ub_4) ?_
  refine wE ?_
  refine wN ?_
  refine wIf2 rfl hr (fun hc1 hr => ?_) (fun hc1 hr => ?_)
  ·
    refine wSq ?_
    refine wT ?_
    refine wFa rfl rfl fo_42_0 rfl ?_
    refine wLd 0 rfl rfl ag_4 rfl rfl rfl ?_
    refine wAs rfl rfl rfl ?_
    refine wE ?_
    refine wN ?_
    cases hr
    exact wRet1 hq rfl (fun a w hf hH => resT hf rfl) fun w hH => ⟨rfl, (hH.grp 2 [] rfl)⟩
  ·
    refine wS ?_
    refine wN ?_
    refine wSq ?_
    refine wSq ?_
    refine wT ?_
    refine wMv rfl rfl rfl ?_
    refine wE ?_
    refine wN ?_
    obtain ⟨o1, ho1, hra1⟩ := bdS hr
    refine wJ1 (fun a w => ∃ (s1 : Unit) , Fr a 35 [] ∧ Holds E w ([blk b1 (enc_api_Prefix p0) 42] :: [blk b2 (enc_api_Prefix p1) 42] :: Fs) ∧ (o1 = .brk s1 ∨ o1 = .nxt s1)) ?_ ?_
    ·
      refine wLp (α := Unit) (fun n (s1 : Unit) a w => ∃ (i : Nat) , i + n = 7 ∧ Fr a 35 [(2, ptr b1 0), (3, ptr b2 0), (13, .int .i64 (i : Int))] ∧ Holds E w ([blk b1 (enc_api_Prefix p0) 42] :: [blk b2 (enc_api_Prefix p1) 42] :: Fs) ∧ forN (ref21_Less_b1 p0 p1) n i s1 = some o1) (n := 7) (s := ()) (fun a w hf hH => ⟨0, by simp, hf.sub _ rfl, (hH.grp 2 [[1], [0]] rfl), ho1⟩) ?_
      rintro n s1 a w ⟨i, hi, hf, hH, ho1⟩
      refine jI hf hH ?_
      clear hf hH a w
      refine wSq (wT ?_)
      refine wInt rfl rfl rfl rfl rfl ?_
      refine wE ?_
      refine wN ?_
      refine wSq (wIf rfl (fun hc => ?_) (fun hc => ?_))
      rotate_left
      · obtain rfl : n = 0 := by simp at hc; omega
        cases ho1
        refine wX (wXt (wXt (wXh ?_)))
        exact fun a w hf hH => ⟨s1, hf.sub _ rfl, hH, .inr rfl⟩
      refine wS (wN ?_)
      obtain ⟨n, rfl⟩ : ∃ m, n = m + 1 := ⟨n - 1, by simp at hc; omega⟩
      obtain ⟨o2, hr, ho1⟩ := bdS ho1
      unfold ref21_Less_b1 at hr
      refine wSq ?_
      refine wB ?_
      refine wSq ?_
      refine wT ?_
      refine wMv rfl rfl rfl ?_
      refine wAs rfl rfl rfl ?_
      refine wE ?_
      refine wN ?_
      refine wSq ?_
      refine wD mix_ (.y 0 (.y 1 (.y 2 (.y 3 (.y 4 (.y 5 (.y 6 (.y 7 (.y 8 .done))))))))) (by kernel_rfl) ?_
      refine wMv rfl rfl rfl ?_
      refine wFa rfl rfl fo_42_1 rfl ?_
      obtain ⟨e1, he1, hr⟩ := bdS hr
      have hE1 := Tup.at (e := (fun y => [.int .u8 y])) (b := b1) (T := 42) (c := (enc_api_Prefix p0)) (pre := [.bool p0.V6]) (post := []) (base := 1) (k := 1) (fun _ => rfl) he1 rfl rfl
      refine wY rfl rfl rfl rfl (fun a hf => rAxT hf rfl rfl ae_40 hE1) ?_
      refine wYr rfl rfl rfl rfl (inJ 0 rfl) (fun a hf cs hC => rLdI (off := 0) hf rfl hE1.1 ag_5 hC rfl) ?_
      refine wMv rfl rfl rfl ?_
      refine wFa rfl rfl fo_42_1 rfl ?_
      obtain ⟨e2, he2, hr⟩ := bdS hr
      have hE2 := Tup.at (e := (fun y => [.int .u8 y])) (b := b2) (T := 42) (c := (enc_api_Prefix p1)) (pre := [.bool p1.V6]) (post := []) (base := 1) (k := 1) (fun _ => rfl) he2 rfl rfl
      refine wY rfl rfl rfl rfl (fun a hf => rAxT hf rfl rfl ae_40 hE2) ?_
      refine wYr rfl rfl rfl rfl (inJ 1 rfl) (fun a hf cs hC => rLdI (off := 0) hf rfl hE2.1 ag_5 hC rfl) ?_
      refine wInt rfl rfl rfl rfl rfl ?_
      refine wE ?_
      refine wN ?_
      refine wIf2 rfl hr (fun hc2 hr => ?_) (fun hc2 hr => ?_)
      ·
        refine wSq ?_
        refine wD mix_ (.y 0 (.y 1 (.y 2 (.y 3 (.y 4 (.y 5 (.y 6 (.y 7 (.y 8 (.y 9 .done)))))))))) (by kernel_rfl) ?_
        refine wMv rfl rfl rfl ?_
        refine wFa rfl rfl fo_42_1 rfl ?_
        obtain ⟨e3, he3, hr⟩ := bdS hr
        have hE3 := Tup.at (e := (fun y => [.int .u8 y])) (b := b1) (T := 42) (c := (enc_api_Prefix p0)) (pre := [.bool p0.V6]) (post := []) (base := 1) (k := 1) (fun _ => rfl) he3 rfl rfl
        refine wY rfl rfl rfl rfl (fun a hf => rAxT hf rfl rfl ae_40 hE3) ?_
        refine wYr rfl rfl rfl rfl (inJ 0 rfl) (fun a hf cs hC => rLdI (off := 0) hf rfl hE3.1 ag_5 hC rfl) ?_
        refine wMv rfl rfl rfl ?_
        refine wFa rfl rfl fo_42_1 rfl ?_
        obtain ⟨e4, he4, hr⟩ := bdS hr
        have hE4 := Tup.at (e := (fun y => [.int .u8 y])) (b := b2) (T := 42) (c := (enc_api_Prefix p1)) (pre := [.bool p1.V6]) (post := []) (base := 1) (k := 1) (fun _ => rfl) he4 rfl rfl
        refine wY rfl rfl rfl rfl (fun a hf => rAxT hf rfl rfl ae_40 hE4) ?_
        refine wYr rfl rfl rfl rfl (inJ 1 rfl) (fun a hf cs hC => rLdI (off := 0) hf rfl hE4.1 ag_5 hC rfl) ?_
        refine wInt rfl rfl rfl rfl rfl ?_
        refine wAs rfl rfl rfl ?_
        refine wE ?_
        refine wN ?_
        cases hr
        obtain rfl := stpR ho1
        obtain rfl := aftR hra1
        exact wRet1 hq rfl (fun a w hf hH => resT hf rfl) fun w hH => ⟨rfl, (hH.grp 2 [] rfl)⟩
      ·
        refine wS ?_
        refine wBn ?_
        cases hr
        refine wN (wT ?_)
        refine wInt rfl rfl rfl rfl rfl ?_
        refine wMv rfl (evI rfl (i64c i (by omega))) rfl ?_
        refine wE ?_
        exact fun a w hf hH => ⟨n, (), Nat.lt_succ_self n, i + 1, by omega, hf.sub _ rfl, hH, ho1⟩
    ·
      rintro a w ⟨s1, hf, hH, hbn⟩
      have hr := aftS hra1 hbn
      refine jX hf hH ?_
      clear hf hH a w
      refine wN ?_
      refine wSq ?_
      refine wT ?_
      refine wAs rfl rfl rfl ?_
      refine wE ?_
      refine wN ?_
      cases hr
      exact wRet1 hq rfl (fun a w hf hH => resT hf rfl) fun w hH => ⟨rfl, (hH.grp 2 [] rfl)⟩

theorem ref21_Put_w {E : Env} {w : World} {Fs : List HL} {C0 : HL} {vp0 : Value} {p0 : (List ref21_Entry)} {p1 : Int} {p2 : api_Prefix} {p3 : Int} {r : ((List ref21_Entry) × Bool)} (hr : ref21_Put p0 p1 p2 p3 = some r) (hRp0 : Rd C0 enc_ref21_Entry vp0 p0) (hH : Holds E w (C0 :: Fs)) :
    BK.Spec Try.prog 22 [vp0, .int .i64 p1, .agg (enc_api_Prefix p2).toArray, .int .i64 p3] w fun v w' => ∃ (C' : HL) (u0 : Value), v = .tuple #[u0, .bool r.2] ∧ Holds E w' (C' :: Fs) ∧ Sub C0 C' ∧ Rd C' enc_ref21_Entry u0 r.1 := by
  unfold ref21_Put at hr
  refine ent Try.func22 rfl hH fun Q _ hq => ?_
  refine wF [(0, vp0), (1, .int .i64 p1), (2, .agg (enc_api_Prefix p2).toArray), (3, .int .i64 p3)] rfl ?_
  refine wSq ?_
  refine wT ?_
  refine wBox (vs := (enc_api_Prefix p2)) rfl (gd0 rfl) rfl rfl fun b1 => ⟨rn0, ?_⟩
  refine wAs rfl rfl rfl ?_
  refine wAs rfl rfl rfl ?_
  refine wE ?_
  refine wN ?_
  refine wSq ?_
  refine wT ?_
  refine wBs (enc := enc_ref21_Entry) (xs := ([] : List ref21_Entry)) rfl (gd0 rfl) rfl rfl se_47 (by kernel_rfl) rfl rfl fun v1 c1 hO1 => ⟨rn0, ?_⟩
  refine wMv rfl rfl rfl ?_
  obtain ⟨hk1, hr⟩ := ckS hr
  refine wAp 0 (k := 9) rfl (gd0 rfl) rfl rfl rfl hO1 hRp0 rfl (inJ 2 rfl) (fun _ => rfl) (fun _ => rfl) se_47 zc_54 rfl rfl hk1 fun v2 c2 hO2 => ⟨rn0, ?_⟩
  refine wAs rfl rfl rfl ?_
  refine wE ?_
  refine wN ?_
  refine wSq ?_
  refine wSq ?_
  refine wT ?_
  refine wMv rfl rfl rfl ?_
  refine wLs 1 (enc_api_Prefix p2) rfl rfl ag_42 sz_42 rfl rfl rfl rfl ?_
  obtain ⟨r1, hr1, hr⟩ := bdS hr
  refine wCl rfl (gd0 rfl) rfl rfl ck_20 (fun w hH => ref21_Find_w hr1 hRp0 (hH.grp 3 [[2], [0], [1]] rfl)) ?_
  rintro _ w ⟨rfl, hH⟩
  refine ⟨_, hH, rn0, ?_⟩
  refine wAs rfl rfl rfl ?_
  refine wE ?_
  refine wN ?_
  refine wSq ?_
  refine wT ?_
  refine wMv rfl rfl rfl ?_
  refine wInt rfl rfl rfl rfl rfl ?_
  refine wE ?_
  refine wN ?_
  refine wIf2 rfl hr (fun hc1 hr => ?_) (fun hc1 hr => ?_)
  ·
    refine wSq ?_
    refine wT ?_
    refine wMv rfl rfl rfl ?_
    refine wMv rfl rfl rfl ?_
    refine wMv rfl rfl rfl ?_
    obtain ⟨e1, he1, hr⟩ := bdS hr
    obtain ⟨b2, me1, hE1, hI1⟩ := hO2.att (k := 9) (fun _ => rfl) he1
    refine wIxO rfl rfl rfl se_47 hI1 rfl ?_
    refine wFa rfl rfl fo_54_1 rfl ?_
    refine wSel 1 (off := 8) (z' := ({ e1 with V := p3 } : ref21_Entry)) rfl (gd0 rfl) rfl rfl rfl sz_3 hE1 rfl rfl rfl fun c3 hF1 => ⟨rn0, ?_⟩
    refine wE ?_
    refine wN ?_
    refine wSq ?_
    refine wT ?_
    refine wMv rfl rfl rfl ?_
    refine wAs rfl rfl rfl ?_
    refine wAs rfl rfl rfl ?_
    refine wE ?_
    refine wN ?_
    cases hr
    exact wRet2 hq rfl (fun a w hf hH => resT hf rfl) (fun a w hf hH => resT hf rfl) fun w hH => ⟨_, _, rfl, (hH.grp 3 [[0, 1]] rfl), Sub.l, (hF1.own.rd.mono (Sub.r Sub.l))⟩
  ·
    refine wS ?_
    refine wN ?_
    refine wSq ?_
    refine wSq ?_
    refine wT ?_
    refine wMv rfl rfl rfl ?_
    refine wY rfl rfl rfl rfl (fun a hf => rLenR hf rfl hRp0 rfl se_47) ?_
    refine wMv rfl rfl rfl ?_
    refine wInt rfl rfl rfl rfl rfl ?_
    refine wE ?_
    refine wN ?_
    refine wIf2 rfl hr (fun hc2 hr => ?_) (fun hc2 hr => ?_)
    ·
      refine wSq ?_
      refine wT ?_
      refine wMv rfl rfl rfl ?_
      refine wAs rfl rfl rfl ?_
      refine wAs rfl rfl rfl ?_
      refine wE ?_
      refine wN ?_
      cases hr
      exact wRet2 hq rfl (fun a w hf hH => resT hf rfl) (fun a w hf hH => resT hf rfl) fun w hH => ⟨_, _, rfl, (hH.grp 3 [[0]] rfl), Sub.rfl, hRp0⟩
    ·
      refine wS ?_
      refine wN ?_
      refine wSq ?_
      refine wT ?_
      refine wAs rfl rfl rfl ?_
      refine wE ?_
      refine wN ?_
      refine wSq ?_
      obtain ⟨o1, ho1, hra1⟩ := bdS hr
      refine wJ1 (fun a w => ∃ (s1 : Int) , Fr a 60 [(0, vp0), (3, .int .i64 p3), (6, ptr b1 0), (10, v2), (12, .int .i64 s1)] ∧ Holds E w (C0 :: [blk b1 (enc_api_Prefix p2) 42] :: c2 :: Fs) ∧ (o1 = .brk s1 ∨ o1 = .nxt s1)) ?_ ?_
      ·
        refine wLp (α := Int) (fun n (s1 : Int) a w => Fr a 60 [(0, vp0), (3, .int .i64 p3), (6, ptr b1 0), (10, v2), (12, .int .i64 s1)] ∧ Holds E w (C0 :: [blk b1 (enc_api_Prefix p2) 42] :: c2 :: Fs) ∧ whileN (ref21_Put_b1 p0 p2) n s1 = some o1) (n := FUEL) (s := 0) (fun a w hf hH => ⟨hf.sub _ rfl, (hH.grp 3 [[0], [2], [1]] rfl), ho1⟩) ?_
        rintro n s1 a w ⟨hf, hH, ho1⟩
        refine jI hf hH ?_
        clear hf hH a w
        cases n with
        | zero => cases ho1
        | succ n =>
          obtain ⟨o2, hr, ho1⟩ := bdS ho1
          unfold ref21_Put_b1 at hr
          refine wSq ?_
          refine wJ (fun a w => ∃ (y2 : Bool), Fr a 60 [(0, vp0), (3, .int .i64 p3), (6, ptr b1 0), (10, v2), (12, .int .i64 s1), (44, .bool y2)] ∧ Holds E w (C0 :: [blk b1 (enc_api_Prefix p2) 42] :: c2 :: Fs) ∧ ref21_Put_k1 s1 y2 = some o2) ?_ ?_
          ·
            refine wD mix_ (.y 0 (.y 1 (.y 2 (.y 3 (.y 4 (.y 5 (.y 6 (.y 7 (.y 8 (.y 9 (.y 10 (.e 11 (.y 12 .done))))))))))))) (by kernel_rfl) ?_
            refine wMv rfl rfl rfl ?_
            refine wMv rfl rfl rfl ?_
            refine wY rfl rfl rfl rfl (fun a hf => rLenR hf rfl hRp0 rfl se_47) ?_
            refine wInt rfl rfl rfl rfl rfl ?_
            refine wMv rfl rfl rfl ?_
            refine spl hr (fun hc4 hr => ?_) (fun hc4 hr => ?_)
            ·
              refine wGt rfl rfl rfl rfl rfl hc4 rfl rfl (fun a hf => rMv hf rfl) ?_
              refine wGt rfl rfl rfl rfl rfl hc4 rfl rfl (fun a hf => rMv hf rfl) ?_
              obtain ⟨e2, he2, hr⟩ := bdS hr
              obtain ⟨b3, me2, hE2, hI2⟩ := hRp0.at (k := 9) (fun _ => rfl) he2
              refine wGt rfl rfl rfl rfl rfl hc4 rfl rfl (fun a hf => rIxO hf rfl rfl se_47 hI2) ?_
              refine wGt rfl rfl rfl rfl rfl hc4 rfl rfl (fun a hf => rFa hf rfl fo_54_0) ?_
              refine wGtr rfl rfl rfl rfl rfl hc4 rfl rfl (inJ 0 rfl) (fun a hf cs hC => rLsI (off := 0) (vs := (enc_api_Prefix e2.P)) hf rfl hE2 ag_42 sz_42 hC rfl rfl) ?_
              refine wGtr rfl rfl rfl rfl rfl hc4 rfl rfl (inJ0 (j := 1) rfl) (fun a hf cs hC => rLs (vs := (enc_api_Prefix p2)) hf rfl ag_42 sz_42 (m1 hC) (Nat.le_of_ble_eq_true rfl) rfl) ?_
              obtain ⟨r2, hr2, hr⟩ := bdS hr
              refine wCl rfl (gd1 rfl rfl rfl rfl hc4) rfl rfl ck_60 (fun w hH => ref21_Less_w hr2 hH) ?_
              rintro _ w ⟨rfl, hH⟩
              refine ⟨_, hH, (rnI (inJ0 (j := 1) rfl) (rnI (inJ 0 rfl) rnN)), ?_⟩
              refine wY rfl rfl rfl rfl (fun a hf => rPkT hf rfl hc4 rfl) ?_
              refine wE ?_
              exact fun a w hf hH => ⟨r2, hf.sub _ rfl, hH, hr⟩
            ·
              refine wGn rfl rfl rfl rfl rfl hc4 rfl rfl ?_
              refine wGn rfl rfl rfl rfl rfl hc4 rfl rfl ?_
              refine wGn rfl rfl rfl rfl rfl hc4 rfl rfl ?_
              refine wGn rfl rfl rfl rfl rfl hc4 rfl rfl ?_
              refine wGn rfl rfl rfl rfl rfl hc4 rfl rfl ?_
              refine wGn rfl rfl rfl rfl rfl hc4 rfl rfl ?_
              refine wGe rfl rfl rfl rfl rfl hc4 rfl rfl rnN ?_
              refine wY rfl rfl rfl rfl (fun a hf => rPkF hf rfl hc4 rfl) ?_
              refine wE ?_
              exact fun a w hf hH => ⟨false, hf.sub _ rfl, hH, hr⟩
          ·
            rintro a w ⟨y2, hf, hH, hr⟩
            refine jI hf hH ?_
            clear hf hH a w
            unfold ref21_Put_k1 at hr
            refine wIf2 rfl hr (fun hc3 hr => ?_) (fun hc3 hr => ?_)
            ·
              refine wS ?_
              refine wN ?_
              refine wB ?_
              refine wT ?_
              refine wMv rfl rfl rfl ?_
              refine wInt rfl rfl rfl rfl rfl ?_
              refine wAs rfl rfl rfl ?_
              refine wE ?_
              refine wBn ?_
              cases hr
              exact fun a w hf hH => ⟨n, (IntKind.i64.wrap (s1 + 1)), Nat.lt_succ_self n, hf.sub _ rfl, hH, ho1⟩
            ·
              refine wX (wXt (wXt (wXh ?_)))
              cases hr
              obtain rfl := stpB ho1
              exact fun a w hf hH => ⟨s1, hf.sub _ rfl, hH, .inl rfl⟩
      ·
        rintro a w ⟨s1, hf, hH, hbn⟩
        have hr := aftS hra1 hbn
        refine jX hf hH ?_
        clear hf hH a w
        refine wN ?_
        refine wSq ?_
        refine wD mix_ (.y 0 (.y 1 (.y 2 (.y 3 (.y 4 (.y 5 (.y 6 (.y 9 (.y 10 (.y 11 (.e 7 (.e 8 (.e 12 (.y 13 (.y 14 .done))))))))))))))) (by kernel_rfl) ?_
        refine wMv rfl rfl rfl ?_
        refine wMv rfl rfl rfl ?_
        refine wMv rfl rfl rfl ?_
        obtain ⟨hk2, hr⟩ := ckS hr
        obtain ⟨v3, hO3, hS1⟩ := Ow.slHM (h := s1) (m := s1) (k := 9) (fun _ => rfl) hO2 hk2
        refine wY rfl rfl rfl rfl (fun a hf => rSlP hf rfl se_47 rfl rfl rfl hS1) ?_
        refine wLs 1 (enc_api_Prefix p2) rfl rfl ag_42 sz_42 rfl rfl rfl rfl ?_
        refine wMv rfl rfl rfl ?_
        refine wBd (enc_ref21_Entry (⟨p2, p3⟩ : ref21_Entry)) rfl rfl (by kernel_rfl) rfl ?_
        refine wMv rfl rfl rfl ?_
        refine wMv rfl rfl rfl ?_
        obtain ⟨hk3, hr⟩ := ckS hr
        obtain ⟨v4, hR1, hS2⟩ := Rd.slL (l := s1) (k := 9) (fun _ => rfl) hRp0 hk3
        refine wY rfl rfl rfl rfl (fun a hf => rSlP hf rfl se_47 rfl rfl rfl hS2) ?_
        refine wBs (enc := enc_ref21_Entry) (xs := [(⟨p2, p3⟩ : ref21_Entry)]) rfl (gd0 rfl) rfl rfl se_47 (by kernel_rfl) rfl rfl fun v5 c4 hO4 => ⟨(rnI (inJ0 (j := 2) rfl) rnN), ?_⟩
        obtain ⟨hk4, hr⟩ := ckS hr
        refine wAp 3 (k := 9) rfl (gd0 rfl) rfl rfl rfl hO3 hO4.rd rfl (inJ 0 rfl) (fun _ => rfl) (fun _ => rfl) se_47 zc_54 rfl rfl hk4 fun v6 c5 hO5 => ⟨(rnI (inJ0 (j := 2) rfl) rnN), ?_⟩
        obtain ⟨hk5, hr⟩ := ckS hr
        refine wAp 3 (k := 9) rfl (gd0 rfl) rfl rfl rfl hO5 hR1 rfl (inJ 1 rfl) (fun _ => rfl) (fun _ => rfl) se_47 zc_54 rfl rfl hk5 fun v7 c6 hO6 => ⟨(rnI (inJ0 (j := 2) rfl) rnN), ?_⟩
        refine wAs rfl rfl rfl ?_
        refine wAs rfl rfl rfl ?_
        refine wE ?_
        refine wN ?_
        cases hr
        exact wRet2 hq rfl (fun a w hf hH => resT hf rfl) (fun a w hf hH => resT hf rfl) fun w hH => ⟨_, _, rfl, (hH.grp 4 [[1, 3]] rfl), Sub.l, (hO6.rd.mono (Sub.r Sub.l))⟩

theorem ref21_Del_w {E : Env} {w : World} {Fs : List HL} {C0 : HL} {vp0 : Value} {p0 : (List ref21_Entry)} {p1 : api_Prefix} {r : (List ref21_Entry)} (hr : ref21_Del p0 p1 = some r) (hRp0 : Rd C0 enc_ref21_Entry vp0 p0) (hH : Holds E w (C0 :: Fs)) :
    BK.Spec Try.prog 23 [vp0, .agg (enc_api_Prefix p1).toArray] w fun v w' => ∃ (C' : HL) (u0 : Value), v = u0 ∧ Holds E w' (C' :: Fs) ∧ Sub C0 C' ∧ Rd C' enc_ref21_Entry u0 r := by
  unfold ref21_Del at hr
  refine ent Try.func23 rfl hH fun Q _ hq => ?_
  refine wF [(0, vp0), (1, .agg (enc_api_Prefix p1).toArray)] rfl ?_
  refine wSq ?_
  refine wT ?_
  refine wBox (vs := (enc_api_Prefix p1)) rfl (gd0 rfl) rfl rfl fun b1 => ⟨rn0, ?_⟩
  refine wAs rfl rfl rfl ?_
  refine wE ?_
  refine wN ?_
  refine wSq ?_
  refine wT ?_
  refine wMv rfl rfl rfl ?_
  refine wLs 0 (enc_api_Prefix p1) rfl rfl ag_42 sz_42 rfl rfl rfl rfl ?_
  obtain ⟨r1, hr1, hr⟩ := bdS hr
  refine wCl rfl (gd0 rfl) rfl rfl ck_20 (fun w hH => ref21_Find_w hr1 hRp0 (hH.grp 2 [[1], [0]] rfl)) ?_
  rintro _ w ⟨rfl, hH⟩
  refine ⟨_, hH, rn0, ?_⟩
  refine wAs rfl rfl rfl ?_
  refine wE ?_
  refine wN ?_
  refine wSq ?_
  refine wSq ?_
  refine wT ?_
  refine wMv rfl rfl rfl ?_
  refine wInt rfl rfl rfl rfl rfl ?_
  refine wE ?_
  refine wN ?_
  refine wIf2 rfl hr (fun hc1 hr => ?_) (fun hc1 hr => ?_)
  ·
    refine wSq ?_
    refine wT ?_
    refine wMv rfl rfl rfl ?_
    refine wAs rfl rfl rfl ?_
    refine wE ?_
    refine wN ?_
    cases hr
    exact wRet1 hq rfl (fun a w hf hH => resT hf rfl) fun w hH => ⟨_, _, rfl, (hH.grp 2 [[0]] rfl), Sub.rfl, hRp0⟩
  ·
    refine wS ?_
    refine wN ?_
    refine wSq ?_
    refine wD mix_ (.y 1 (.y 2 (.y 3 (.y 5 (.y 6 (.y 7 (.y 8 (.e 0 (.e 4 (.e 9 (.y 10 .done))))))))))) (by kernel_rfl) ?_
    refine wMv rfl rfl rfl ?_
    refine wMv rfl rfl rfl ?_
    obtain ⟨hk1, hr⟩ := ckS hr
    obtain ⟨v1, hR1, hS1⟩ := Rd.slH (h := r1) (k := 9) (fun _ => rfl) hRp0 hk1
    refine wY rfl rfl rfl rfl (fun a hf => rSlP hf rfl se_47 rfl rfl rfl hS1) ?_
    refine wMv rfl rfl rfl ?_
    refine wMv rfl rfl rfl ?_
    refine wInt rfl rfl rfl rfl rfl ?_
    obtain ⟨hk2, hr⟩ := ckS hr
    obtain ⟨v2, hR2, hS2⟩ := Rd.slL (l := (IntKind.i64.wrap (r1 + 1))) (k := 9) (fun _ => rfl) hRp0 hk2
    refine wY rfl rfl rfl rfl (fun a hf => rSlP hf rfl se_47 rfl rfl rfl hS2) ?_
    refine wBs (enc := enc_ref21_Entry) (xs := ([] : List ref21_Entry)) rfl (gd0 rfl) rfl rfl se_47 (by kernel_rfl) rfl rfl fun v3 c1 hO1 => ⟨rnN, ?_⟩
    obtain ⟨hk3, hr⟩ := ckS hr
    refine wAp 0 (k := 9) rfl (gd0 rfl) rfl rfl rfl hO1 hR1 rfl (inJ 1 rfl) (fun _ => rfl) (fun _ => rfl) se_47 zc_54 rfl rfl hk3 fun v4 c2 hO2 => ⟨rnN, ?_⟩
    obtain ⟨hk4, hr⟩ := ckS hr
    refine wAp 0 (k := 9) rfl (gd0 rfl) rfl rfl rfl hO2 hR2 rfl (inJ 1 rfl) (fun _ => rfl) (fun _ => rfl) se_47 zc_54 rfl rfl hk4 fun v5 c3 hO3 => ⟨rnN, ?_⟩
    refine wAs rfl rfl rfl ?_
    refine wE ?_
    refine wN ?_
    cases hr
    exact wRet1 hq rfl (fun a w hf hH => resT hf rfl) fun w hH => ⟨_, _, rfl, (hH.grp 3 [[1, 0]] rfl), Sub.l, (hO3.rd.mono (Sub.r Sub.l))⟩

theorem ref21_Prefixes_w {E : Env} {w : World} {Fs : List HL} {C0 : HL} {vp0 : Value} {p0 : (List ref21_Entry)} {r : (List api_Prefix)} (hr : ref21_Prefixes p0 = some r) (hRp0 : Rd C0 enc_ref21_Entry vp0 p0) (hH : Holds E w (C0 :: Fs)) :
    BK.Spec Try.prog 25 [vp0] w fun v w' => ∃ (u0 : Value) (d0 : HL), v = u0 ∧ Holds E w' (C0 :: d0 :: Fs) ∧ Ow enc_api_Prefix 8 42 u0 r d0 := by
  unfold ref21_Prefixes at hr
  refine ent Try.func25 rfl hH fun Q _ hq => ?_
  refine wF [(0, vp0)] rfl ?_
  refine wSq ?_
  refine wT ?_
  refine wAs rfl rfl rfl ?_
  refine wE ?_
  refine wN ?_
  refine wSq ?_
  refine wT ?_
  refine wAs rfl rfl rfl ?_
  refine wE ?_
  refine wN ?_
  refine wSq ?_
  refine wSq ?_
  refine wT ?_
  refine wMv rfl rfl rfl ?_
  refine wY rfl rfl rfl rfl (fun a hf => rLenR hf rfl hRp0 rfl se_47) ?_
  refine wMv rfl rfl rfl ?_
  refine wE ?_
  refine wN ?_
  obtain ⟨o1, ho1, hra1⟩ := bdS hr
  refine wJ1 (fun a w => ∃ (s1 : (List api_Prefix)) (v1 : Value) (c1 : HL), Fr a 20 [(3, v1)] ∧ Holds E w (C0 :: c1 :: Fs) ∧ Ow enc_api_Prefix 8 42 v1 s1 c1 ∧ (o1 = .brk s1 ∨ o1 = .nxt s1)) ?_ ?_
  ·
    refine wLp (α := (List api_Prefix)) (fun n (s1 : (List api_Prefix)) a w => ∃ (i : Nat) (v1 : Value) (c1 : HL), i + n = p0.length ∧ Fr a 20 [(0, vp0), (3, v1), (6, .int .i64 (p0.length : Int)), (7, .int .i64 (i : Int))] ∧ Holds E w (C0 :: c1 :: Fs) ∧ Ow enc_api_Prefix 8 42 v1 s1 c1 ∧ forN (ref21_Prefixes_b1 p0) n i s1 = some o1) (n := p0.length) (s := []) (fun a w hf hH => ⟨0, (.slice none 0 0), [], by simp, hf.sub _ rfl, (hH.grp 1 [[0], []] rfl), Ow.empty, ho1⟩) ?_
    rintro n s1 a w ⟨i, v1, c1, hi, hf, hH, hO1, ho1⟩
    refine jI hf hH ?_
    clear hf hH a w
    refine wSq (wT ?_)
    refine wInt rfl rfl rfl rfl rfl ?_
    refine wE ?_
    refine wN ?_
    refine wSq (wIf rfl (fun hc => ?_) (fun hc => ?_))
    rotate_left
    · obtain rfl : n = 0 := by simp at hc; omega
      cases ho1
      refine wX (wXt (wXt (wXh ?_)))
      exact fun a w hf hH => ⟨s1, v1, c1, hf.sub _ rfl, hH, hO1, .inr rfl⟩
    refine wS (wN ?_)
    obtain ⟨n, rfl⟩ : ∃ m, n = m + 1 := ⟨n - 1, by simp at hc; omega⟩
    obtain ⟨o2, hr, ho1⟩ := bdS ho1
    unfold ref21_Prefixes_b1 at hr
    refine wSq ?_
    refine wB ?_
    refine wSq ?_
    refine wT ?_
    refine wMv rfl rfl rfl ?_
    refine wAs rfl rfl rfl ?_
    refine wE ?_
    refine wN ?_
    refine wT ?_
    refine wMv rfl rfl rfl ?_
    refine wMv rfl rfl rfl ?_
    refine wMv rfl rfl rfl ?_
    obtain ⟨e1, he1, hr⟩ := bdS hr
    obtain ⟨b1, me1, hE1, hI1⟩ := hRp0.at (k := 9) (fun _ => rfl) he1
    refine wIxO rfl rfl rfl se_47 hI1 rfl ?_
    refine wFa rfl rfl fo_54_0 rfl ?_
    refine wLsE (enc_api_Prefix e1.P) (off := 0) rfl rfl hE1 ag_42 sz_42 (inJ 0 rfl) rfl rfl rfl ?_
    refine wBs (enc := enc_api_Prefix) (xs := [e1.P]) rfl (gd0 rfl) rfl rfl se_44 (by kernel_rfl) rfl rfl fun v2 c2 hO2 => ⟨rn0, ?_⟩
    obtain ⟨hk1, hr⟩ := ckS hr
    refine wAp 2 (k := 8) rfl (gd0 rfl) rfl rfl rfl hO1 hO2.rd rfl (inJ 0 rfl) (fun _ => rfl) (fun _ => rfl) se_44 zc_42 rfl rfl hk1 fun v3 c3 hO3 => ⟨rn0, ?_⟩
    refine wAs rfl rfl rfl ?_
    refine wE ?_
    refine wBn ?_
    cases hr
    refine wN (wT ?_)
    refine wInt rfl rfl rfl rfl rfl ?_
    refine wMv rfl (evI rfl (i64c i (by have := hRp0.le; omega))) rfl ?_
    refine wE ?_
    exact fun a w hf hH => ⟨n, (s1 ++ [e1.P]), Nat.lt_succ_self n, i + 1, v3, c3, by omega, hf.sub _ rfl, (hH.grp 3 [[1], [2]] rfl), hO3, ho1⟩
  ·
    rintro a w ⟨s1, v1, c1, hf, hH, hO1, hbn⟩
    have hr := aftS hra1 hbn
    refine jX hf hH ?_
    clear hf hH a w
    refine wN ?_
    refine wSq ?_
    refine wT ?_
    refine wMv rfl rfl rfl ?_
    refine wAs rfl rfl rfl ?_
    refine wE ?_
    refine wN ?_
    cases hr
    exact wRet1 hq rfl (fun a w hf hH => resT hf rfl) fun w hH => ⟨_, _, rfl, (hH.grp 2 [[0], [1]] rfl), hO1⟩

theorem ref21_Same_w {E : Env} {w : World} {Fs : List HL} {C0 : HL} {vp0 : Value} {p0 : (List api_Prefix)} {vp1 : Value} {p1 : (List api_Prefix)} {r : Bool} (hr : ref21_Same p0 p1 = some r) (hRp0 : Rd C0 enc_api_Prefix vp0 p0) (hRp1 : Rd C0 enc_api_Prefix vp1 p1) (hH : Holds E w (C0 :: Fs)) :
    BK.Spec Try.prog 24 [vp0, vp1] w fun v w' => v = .bool r ∧ Holds E w' (C0 :: Fs) := by
  unfold ref21_Same at hr
  refine ent Try.func24 rfl hH fun Q _ hq => ?_
  refine wF [(0, vp0), (1, vp1)] rfl ?_
  refine wSq ?_
  refine wT ?_
  refine wAs rfl rfl rfl ?_
  refine wE ?_
  refine wN ?_
  refine wSq ?_
  refine wSq ?_
  refine wT ?_
  refine wMv rfl rfl rfl ?_
  refine wY rfl rfl rfl rfl (fun a hf => rLenR hf rfl hRp0 rfl se_44) ?_
  refine wMv rfl rfl rfl ?_
  refine wY rfl rfl rfl rfl (fun a hf => rLenR hf rfl hRp1 rfl se_44) ?_
  refine wInt rfl rfl rfl rfl rfl ?_
  refine wE ?_
  refine wN ?_
  refine wIf2 rfl hr (fun hc1 hr => ?_) (fun hc1 hr => ?_)
  ·
    refine wSq ?_
    refine wT ?_
    refine wAs rfl rfl rfl ?_
    refine wE ?_
    refine wN ?_
    cases hr
    exact wRet1 hq rfl (fun a w hf hH => resT hf rfl) fun w hH => ⟨rfl, (hH.grp 1 [[0]] rfl)⟩
  ·
    refine wS ?_
    refine wN ?_
    refine wSq ?_
    refine wSq ?_
    refine wT ?_
    refine wMv rfl rfl rfl ?_
    refine wY rfl rfl rfl rfl (fun a hf => rLenR hf rfl hRp0 rfl se_44) ?_
    refine wMv rfl rfl rfl ?_
    refine wE ?_
    refine wN ?_
    obtain ⟨o1, ho1, hra1⟩ := bdS hr
    refine wJ1 (fun a w => ∃ (s1 : Unit) , Fr a 26 [] ∧ Holds E w (C0 :: Fs) ∧ (o1 = .brk s1 ∨ o1 = .nxt s1)) ?_ ?_
    ·
      refine wLp (α := Unit) (fun n (s1 : Unit) a w => ∃ (i : Nat) , i + n = p0.length ∧ Fr a 26 [(0, vp0), (1, vp1), (12, .int .i64 (p0.length : Int)), (13, .int .i64 (i : Int))] ∧ Holds E w (C0 :: Fs) ∧ forN (ref21_Same_b1 p0 p1) n i s1 = some o1) (n := p0.length) (s := ()) (fun a w hf hH => ⟨0, by simp, hf.sub _ rfl, hH, ho1⟩) ?_
      rintro n s1 a w ⟨i, hi, hf, hH, ho1⟩
      refine jI hf hH ?_
      clear hf hH a w
      refine wSq (wT ?_)
      refine wInt rfl rfl rfl rfl rfl ?_
      refine wE ?_
      refine wN ?_
      refine wSq (wIf rfl (fun hc => ?_) (fun hc => ?_))
      rotate_left
      · obtain rfl : n = 0 := by simp at hc; omega
        cases ho1
        refine wX (wXt (wXt (wXh ?_)))
        exact fun a w hf hH => ⟨s1, hf.sub _ rfl, hH, .inr rfl⟩
      refine wS (wN ?_)
      obtain ⟨n, rfl⟩ : ∃ m, n = m + 1 := ⟨n - 1, by simp at hc; omega⟩
      obtain ⟨o2, hr, ho1⟩ := bdS ho1
      unfold ref21_Same_b1 at hr
      refine wSq ?_
      refine wB ?_
      refine wSq ?_
      refine wT ?_
      refine wMv rfl rfl rfl ?_
      refine wAs rfl rfl rfl ?_
      refine wE ?_
      refine wN ?_
      refine wSq ?_
      refine wD mix_ (.y 0 (.y 1 (.y 2 (.y 3 (.y 4 (.y 5 (.y 6 (.y 7 (.y 8 .done))))))))) (by kernel_rfl) ?_
      refine wMv rfl rfl rfl ?_
      refine wMv rfl rfl rfl ?_
      obtain ⟨e1, he1, hr⟩ := bdS hr
      obtain ⟨b1, me1, hE1, hI1⟩ := hRp0.at (k := 8) (fun _ => rfl) he1
      refine wIxO rfl rfl rfl se_44 hI1 rfl ?_
      refine wLsE (enc_api_Prefix e1) (off := 0) rfl rfl hE1 ag_42 sz_42 (inJ 0 rfl) rfl rfl rfl ?_
      refine wMv rfl rfl rfl ?_
      refine wMv rfl rfl rfl ?_
      obtain ⟨e2, he2, hr⟩ := bdS hr
      obtain ⟨b2, me2, hE2, hI2⟩ := hRp1.at (k := 8) (fun _ => rfl) he2
      refine wIxO rfl rfl rfl se_44 hI2 rfl ?_
      refine wLsE (enc_api_Prefix e2) (off := 0) rfl rfl hE2 ag_42 sz_42 (inJ 0 rfl) rfl rfl rfl ?_
      refine wY rfl rfl rfl rfl (fun a hf => rFlN hf rfl rfl eqF_42) ?_
      refine wE ?_
      refine wN ?_
      refine wIf2 rfl hr (fun hc2 hr => ?_) (fun hc2 hr => ?_)
      ·
        refine wSq ?_
        refine wT ?_
        refine wAs rfl rfl rfl ?_
        refine wE ?_
        refine wN ?_
        cases hr
        obtain rfl := stpR ho1
        obtain rfl := aftR hra1
        exact wRet1 hq rfl (fun a w hf hH => resT hf rfl) fun w hH => ⟨rfl, (hH.grp 1 [[0]] rfl)⟩
      ·
        refine wS ?_
        refine wBn ?_
        cases hr
        refine wN (wT ?_)
        refine wInt rfl rfl rfl rfl rfl ?_
        refine wMv rfl (evI rfl (i64c i (by have := hRp0.le; omega))) rfl ?_
        refine wE ?_
        exact fun a w hf hH => ⟨n, (), Nat.lt_succ_self n, i + 1, by omega, hf.sub _ rfl, hH, ho1⟩
    ·
      rintro a w ⟨s1, hf, hH, hbn⟩
      have hr := aftS hra1 hbn
      refine jX hf hH ?_
      clear hf hH a w
      refine wN ?_
      refine wSq ?_
      refine wT ?_
      refine wAs rfl rfl rfl ?_
      refine wE ?_
      refine wN ?_
      cases hr
      exact wRet1 hq rfl (fun a w hf hH => resT hf rfl) fun w hH => ⟨rfl, (hH.grp 1 [[0]] rfl)⟩
end Go.Proofs
