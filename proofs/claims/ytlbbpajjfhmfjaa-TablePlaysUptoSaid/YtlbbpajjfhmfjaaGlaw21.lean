/- Walks of the functions of package law21: each shows that the code comes to what a plain Lean function gives. Printed by a program of mine. Own work for this claim. -/
import Derived.Test.YtlbbpajjfhmfjaaG0
import Derived.Test.YtlbbpajjfhmfjaaGref21
import Derived.Test.YtlbbpajjfhmfjaaGtable
set_option linter.unusedVariables false
set_option maxRecDepth 100000
namespace Go.Proofs
open Go.BK
def law21_awake_k1 (y2 : Bool) : Option Bool :=
  some y2
def law21_awake : Option Bool :=
  bd (table_New_int 1) fun r1 => bd (r1.1) fun y1 => bd (table_Table_int_Get y1 z_api_Prefix) fun r2 => sel (r1.2 == 0) (bd (table_Table_int_Put y1 z_api_Prefix 5) fun r3 => sel r3.2 (bd (table_Table_int_Len r3.1) fun r4 => sel (r4 == 1) (sel (r2.1 == 0) (law21_awake_k1 (!r2.2)) (law21_awake_k1 false)) (law21_awake_k1 false)) (law21_awake_k1 false)) (law21_awake_k1 false)
def law21_TablePlays_k1 (y1 : Bool) : Option Bool :=
  some y1
def law21_TablePlays_k5 (y11 : Bool) : Option (Out Bool Unit) :=
  sel y11 (some (.ret false)) (some (.nxt ()))
def law21_TablePlays_b2 (y6 : table_Table_int) (y7 : (List ref21_Entry)) (ii : Nat) (s4 : Unit) : Option (Out Bool Unit) :=
  bd (ix y7 (ii : Int)) fun e2 => bd (table_Table_int_Get y6 e2.P) fun r10 => sel (!r10.2) (law21_TablePlays_k5 true) (bd (ix y7 (ii : Int)) fun e3 => law21_TablePlays_k5 (r10.1 != e3.V))
def law21_TablePlays_k4 (y6 : table_Table_int) (y7 : (List ref21_Entry)) (y10 : Bool) : Option (Out Bool (table_Table_int × (List ref21_Entry))) :=
  sel y10 (some (.ret false)) (bd (forN (law21_TablePlays_b2 y6 y7) y7.length 0 ()) fun o3 => aft (fun r => Out.ret r) (fun (s4 : Unit) => some (.nxt (y6, y7))) o3)
def law21_TablePlays_k3 (y6 : table_Table_int) (y7 : (List ref21_Entry)) (y8 : Bool) (y9 : Bool) : Option (Out Bool (table_Table_int × (List ref21_Entry))) :=
  sel (y8 != y9) (law21_TablePlays_k4 y6 y7 true) (bd (table_Table_int_Len y6) fun r11 => sel (r11 != (y7.length : Int)) (law21_TablePlays_k4 y6 y7 true) (bd (table_Table_int_All y6) fun r12 => bd (ref21_Prefixes y7) fun r13 => bd (ref21_Same r12 r13) fun r14 => law21_TablePlays_k4 y6 y7 (!r14)))
def law21_TablePlays_k2 (p0 : Int) (s2 : (table_Table_int × (List ref21_Entry))) (e1 : law21_Act) (r8 : Int) (y5 : Bool) : Option (Out Bool (table_Table_int × (List ref21_Entry))) :=
  sel y5 (some (.ret false)) (sel (decide ((Int.tmod e1.Kind 3) < 2)) (bd (table_Table_int_Put s2.1 e1.P e1.N) fun r15 => bd (ref21_Put s2.2 p0 e1.P e1.N) fun r16 => law21_TablePlays_k3 r15.1 r16.1 r15.2 r16.2) (bd (table_Table_int_Del s2.1 e1.P) fun r17 => bd (ref21_Del s2.2 e1.P) fun r18 => law21_TablePlays_k3 r17.1 r18 r17.2 (decide (r8 ≥ 0))))
def law21_TablePlays_b1 (p0 : Int) (p1 : (List law21_Act)) (i : Nat) (s2 : (table_Table_int × (List ref21_Entry))) : Option (Out Bool (table_Table_int × (List ref21_Entry))) :=
  bd (ix p1 (i : Int)) fun e1 => bd (ref21_Find s2.2 e1.P) fun r8 => bd (table_Table_int_Get s2.1 e1.P) fun r9 => sel (r9.2 != (decide (r8 ≥ 0))) (law21_TablePlays_k2 p0 s2 e1 r8 true) (sel r9.2 (bd (ix s2.2 r8) fun e4 => sel (r9.1 != e4.V) (law21_TablePlays_k2 p0 s2 e1 r8 true) (law21_TablePlays_k2 p0 s2 e1 r8 false)) (law21_TablePlays_k2 p0 s2 e1 r8 (r9.1 != 0)))
def law21_TablePlays (p0 : Int) (p1 : (List law21_Act)) : Option Bool :=
  bd (law21_awake) fun r1 => sel ((!r1) || (decide ((p1.length : Int) > 200))) (bd (law21_awake) fun r2 => some r2) (bd (table_New_int p0) fun r3 => sel ((decide (p0 < 1)) || (decide (p0 > 64))) (sel (r3.2 == 1) (sel (r3.1.isNone) (bd (table_Table_int_Put_nil z_api_Prefix 1) fun r4 => sel (!r4) (bd (table_Table_int_Len_nil) fun r5 => sel (r5 == 0) (bd (table_Table_int_All_nil) fun r6 => sel ((r6.length : Int) == 0) (bd (table_Table_int_Del_nil z_api_Prefix) fun r7 => law21_TablePlays_k1 (!r7)) (law21_TablePlays_k1 false)) (law21_TablePlays_k1 false)) (law21_TablePlays_k1 false)) (law21_TablePlays_k1 false)) (law21_TablePlays_k1 false)) (bd (r3.1) fun y2 => bd (forN (law21_TablePlays_b1 p0 p1) p1.length 0 (y2, [])) fun o1 => aft id (fun (s2 : (table_Table_int × (List ref21_Entry))) => some (r3.2 == 0)) o1))
def law21_TableTexts_k1 (y6 : Bool) : Option Bool :=
  some y6
def law21_TableTexts_k2 (p0 : (List api_Prefix)) (s4 : (table_Table_string × (List ref21_Entry))) (i : Nat) (y7 : table_Table_string) (y8 : Bool) : Option (Out Bool (table_Table_string × (List ref21_Entry))) :=
  sel y8 (some (.ret false)) (bd (ix p0 (i : Int)) fun e3 => bd (ref21_Del s4.2 e3) fun r11 => some (.nxt (y7, r11)))
def law21_TableTexts_b2 (p0 : (List api_Prefix)) (p1 : ByteArray) (i : Nat) (s4 : (table_Table_string × (List ref21_Entry))) : Option (Out Bool (table_Table_string × (List ref21_Entry))) :=
  bd (ix p0 (i : Int)) fun e1 => bd (table_Table_string_Get s4.1 e1) fun r9 => bd (ix p0 (i : Int)) fun e2 => bd (ref21_Find s4.2 e2) fun r10 => sel (r9.2 != (decide (r10 ≥ 0))) (law21_TableTexts_k2 p0 s4 i s4.1 true) (sel r9.2 (sel (!(r9.1.toList == p1.toList)) (law21_TableTexts_k2 p0 s4 i s4.1 true) (bd (ix p0 (i : Int)) fun e4 => bd (table_Table_string_Del s4.1 e4) fun r12 => law21_TableTexts_k2 p0 s4 i r12.1 (r12.2 != (decide (r10 ≥ 0))))) (bd (ix p0 (i : Int)) fun e5 => bd (table_Table_string_Del s4.1 e5) fun r13 => law21_TableTexts_k2 p0 s4 i r13.1 (r13.2 != (decide (r10 ≥ 0)))))
def law21_TableTexts_b1 (p0 : (List api_Prefix)) (p1 : ByteArray) (i : Nat) (s2 : (table_Table_string × (List ref21_Entry))) : Option (Out Bool (table_Table_string × (List ref21_Entry))) :=
  bd (ix p0 (i : Int)) fun e6 => bd (table_Table_string_Put s2.1 e6 p1) fun r14 => bd (ix p0 (i : Int)) fun e7 => bd (ref21_Put s2.2 64 e7 0) fun r15 => some (.nxt (r14.1, r15.1))
def law21_TableTexts (p0 : (List api_Prefix)) (p1 : ByteArray) : Option Bool :=
  bd (law21_awake) fun r1 => sel ((!r1) || (decide ((p0.length : Int) > 30))) (bd (law21_awake) fun r2 => some r2) (bd (table_New_string 64) fun r3 => bd (r3.1) fun y1 => bd (forN (law21_TableTexts_b1 p0 p1) p0.length 0 (y1, [])) fun o1 => aft id (fun (s2 : (table_Table_string × (List ref21_Entry))) => bd (table_Table_string_All s2.1) fun r4 => bd (ref21_Prefixes s2.2) fun r5 => bd (ref21_Same r4 r5) fun r6 => sel (!r6) (some false) (bd (forN (law21_TableTexts_b2 p0 p1) p0.length 0 (s2.1, s2.2)) fun o3 => aft id (fun (s4 : (table_Table_string × (List ref21_Entry))) => bd (table_Table_string_Len s4.1) fun r7 => sel (r7 == 0) (bd (table_Table_string_All s4.1) fun r8 => law21_TableTexts_k1 ((r8.length : Int) == 0)) (law21_TableTexts_k1 false)) o3)) o1)

theorem law21_awake_w {E : Env} {w : World} {Fs : List HL}  {r : Bool} (hr : law21_awake = some r)  (hH : Holds E w (Fs)) :
    BK.Spec Try.prog 14 [] w fun v w' => v = .bool r ∧ Holds E w' (Fs) := by
  unfold law21_awake at hr
  refine ent Try.func14 rfl hH fun Q _ hq => ?_
  refine wF [] rfl ?_
  refine wSq ?_
  refine wT ?_
  refine wAs rfl rfl rfl ?_
  refine wE ?_
  refine wN ?_
  refine wSq ?_
  refine wT ?_
  obtain ⟨r1, hr1, hr⟩ := bdS hr
  refine wCl rfl (gd0 rfl) rfl rfl ck_15 (fun w hH => table_New_int_w hr1 hH) ?_
  rintro _ w ⟨pn1, h1, rfl, hH, hB1⟩
  refine ⟨_, hH, rn0, ?_⟩
  refine wMv rfl rfl rfl ?_
  refine wEx rfl rfl rfl rfl ?_
  refine wEx rfl rfl rfl rfl ?_
  refine wAs rfl rfl rfl ?_
  refine wAs rfl rfl rfl ?_
  refine wE ?_
  refine wN ?_
  refine wSq ?_
  refine wT ?_
  refine wMv rfl rfl rfl ?_
  refine wBd (enc_api_Prefix z_api_Prefix) rfl rfl (by kernel_rfl) rfl ?_
  obtain ⟨y1, hy1, hr⟩ := bdS hr
  obtain ⟨b1, rfl, hB2⟩ := hB1.res hy1
  obtain ⟨r2, hr2, hr⟩ := bdS hr
  refine wCl rfl (gd0 rfl) rfl rfl ck_21 (fun w hH => table_Table_int_Get_w hr2 hB2 hH) ?_
  rintro _ w ⟨rfl, hH⟩
  refine ⟨_, hH, rn0, ?_⟩
  refine wMv rfl rfl rfl ?_
  refine wEx rfl rfl rfl rfl ?_
  refine wEx rfl rfl rfl rfl ?_
  refine wAs rfl rfl rfl ?_
  refine wAs rfl rfl rfl ?_
  refine wE ?_
  refine wN ?_
  refine wJ (fun a w => ∃ (y2 : Bool), Fr a 35 [(0, .bool y2)] ∧ Holds E w (Fs) ∧ law21_awake_k1 y2 = some r) ?_ ?_
  ·
    refine wT ?_
    refine wMv rfl rfl rfl ?_
    refine wInt rfl rfl rfl rfl rfl ?_
    refine wMv rfl rfl rfl ?_
    refine spl hr (fun hc1 hr => ?_) (fun hc1 hr => ?_)
    ·
      refine wGt rfl rfl rfl rfl rfl hc1 rfl rfl (fun a hf => rMv hf rfl) ?_
      refine wGt rfl rfl rfl rfl rfl hc1 rfl rfl (fun a hf => rBld (vs := (enc_api_Prefix z_api_Prefix)) hf rfl (by kernel_rfl)) ?_
      obtain ⟨r3, hr3, hr⟩ := bdS hr
      refine wCl rfl (gd1 rfl rfl rfl rfl hc1) rfl rfl ck_16 (fun w hH => table_Table_int_Put_w hr3 hB2 hH) ?_
      rintro _ w ⟨h2, rfl, hH, hB3⟩
      refine ⟨_, hH, rn0, ?_⟩
      refine wY rfl rfl rfl rfl (fun a hf => rPkT hf rfl hc1 rfl) ?_
      refine wMv rfl rfl rfl ?_
      refine spl hr (fun hc2 hr => ?_) (fun hc2 hr => ?_)
      ·
        refine wGt rfl rfl rfl rfl rfl hc2 rfl rfl (fun a hf => rMv hf rfl) ?_
        obtain ⟨r4, hr4, hr⟩ := bdS hr
        refine wCl rfl (gd1 rfl rfl rfl rfl hc2) rfl rfl ck_17 (fun w hH => table_Table_int_Len_w hr4 hB3 hH) ?_
        rintro _ w ⟨rfl, hH⟩
        refine ⟨_, hH, rn0, ?_⟩
        refine wGt rfl rfl rfl rfl rfl hc2 rfl rfl (fun a hf => rInt hf rfl rfl rfl) ?_
        refine wY rfl rfl rfl rfl (fun a hf => rPkT hf rfl hc2 rfl) ?_
        refine wMv rfl rfl rfl ?_
        refine spl hr (fun hc3 hr => ?_) (fun hc3 hr => ?_)
        ·
          refine wGt rfl rfl rfl rfl rfl hc3 rfl rfl (fun a hf => rMv hf rfl) ?_
          refine wGt rfl rfl rfl rfl rfl hc3 rfl rfl (fun a hf => rInt hf rfl rfl rfl) ?_
          refine wY rfl rfl rfl rfl (fun a hf => rPkT hf rfl hc3 rfl) ?_
          refine wMv rfl rfl rfl ?_
          refine spl hr (fun hc4 hr => ?_) (fun hc4 hr => ?_)
          ·
            refine wGt rfl rfl rfl rfl rfl hc4 rfl rfl (fun a hf => rMv hf rfl) ?_
            refine wGt rfl rfl rfl rfl rfl hc4 rfl rfl (fun a hf => rNot hf rfl) ?_
            refine wY rfl rfl rfl rfl (fun a hf => rPkT hf rfl hc4 rfl) ?_
            refine wAs rfl rfl rfl ?_
            refine wE ?_
            exact fun a w hf hH => ⟨(!r2.2), hf.sub _ rfl, (hH.grp 1 [] rfl), hr⟩
          ·
            refine wGn rfl rfl rfl rfl rfl hc4 rfl rfl ?_
            refine wGn rfl rfl rfl rfl rfl hc4 rfl rfl ?_
            refine wY rfl rfl rfl rfl (fun a hf => rPkF hf rfl hc4 rfl) ?_
            refine wAs rfl rfl rfl ?_
            refine wE ?_
            exact fun a w hf hH => ⟨false, hf.sub _ rfl, (hH.grp 1 [] rfl), hr⟩
        ·
          refine wGn rfl rfl rfl rfl rfl hc3 rfl rfl ?_
          refine wGn rfl rfl rfl rfl rfl hc3 rfl rfl ?_
          refine wY rfl rfl rfl rfl (fun a hf => rPkF hf rfl hc3 rfl) ?_
          refine wMv rfl rfl rfl ?_
          refine wGn rfl rfl rfl rfl rfl rfl rfl rfl ?_
          refine wGn rfl rfl rfl rfl rfl rfl rfl rfl ?_
          refine wY rfl rfl rfl rfl (fun a hf => rPkF hf rfl rfl rfl) ?_
          refine wAs rfl rfl rfl ?_
          refine wE ?_
          exact fun a w hf hH => ⟨false, hf.sub _ rfl, (hH.grp 1 [] rfl), hr⟩
      ·
        refine wGn rfl rfl rfl rfl rfl hc2 rfl rfl ?_
        refine wGe rfl rfl rfl rfl rfl hc2 rfl rfl rn0 ?_
        refine wGn rfl rfl rfl rfl rfl hc2 rfl rfl ?_
        refine wY rfl rfl rfl rfl (fun a hf => rPkF hf rfl hc2 rfl) ?_
        refine wMv rfl rfl rfl ?_
        refine wGn rfl rfl rfl rfl rfl rfl rfl rfl ?_
        refine wGn rfl rfl rfl rfl rfl rfl rfl rfl ?_
        refine wY rfl rfl rfl rfl (fun a hf => rPkF hf rfl rfl rfl) ?_
        refine wMv rfl rfl rfl ?_
        refine wGn rfl rfl rfl rfl rfl rfl rfl rfl ?_
        refine wGn rfl rfl rfl rfl rfl rfl rfl rfl ?_
        refine wY rfl rfl rfl rfl (fun a hf => rPkF hf rfl rfl rfl) ?_
        refine wAs rfl rfl rfl ?_
        refine wE ?_
        exact fun a w hf hH => ⟨false, hf.sub _ rfl, (hH.grp 1 [] rfl), hr⟩
    ·
      refine wGn rfl rfl rfl rfl rfl hc1 rfl rfl ?_
      refine wGn rfl rfl rfl rfl rfl hc1 rfl rfl ?_
      refine wGe rfl rfl rfl rfl rfl hc1 rfl rfl rn0 ?_
      refine wY rfl rfl rfl rfl (fun a hf => rPkF hf rfl hc1 rfl) ?_
      refine wMv rfl rfl rfl ?_
      refine wGn rfl rfl rfl rfl rfl rfl rfl rfl ?_
      refine wGe rfl rfl rfl rfl rfl rfl rfl rfl rn0 ?_
      refine wGn rfl rfl rfl rfl rfl rfl rfl rfl ?_
      refine wY rfl rfl rfl rfl (fun a hf => rPkF hf rfl rfl rfl) ?_
      refine wMv rfl rfl rfl ?_
      refine wGn rfl rfl rfl rfl rfl rfl rfl rfl ?_
      refine wGn rfl rfl rfl rfl rfl rfl rfl rfl ?_
      refine wY rfl rfl rfl rfl (fun a hf => rPkF hf rfl rfl rfl) ?_
      refine wMv rfl rfl rfl ?_
      refine wGn rfl rfl rfl rfl rfl rfl rfl rfl ?_
      refine wGn rfl rfl rfl rfl rfl rfl rfl rfl ?_
      refine wY rfl rfl rfl rfl (fun a hf => rPkF hf rfl rfl rfl) ?_
      refine wAs rfl rfl rfl ?_
      refine wE ?_
      exact fun a w hf hH => ⟨false, hf.sub _ rfl, (hH.grp 1 [] rfl), hr⟩
  ·
    rintro a w ⟨y2, hf, hH, hr⟩
    refine jI hf hH ?_
    clear hf hH a w
    unfold law21_awake_k1 at hr
    cases hr
    exact wRet1 hq rfl (fun a w hf hH => resT hf rfl) fun w hH => ⟨rfl, (hH.grp 0 [] rfl)⟩

theorem law21_TablePlays_w {E : Env} {w : World} {Fs : List HL} {C0 : HL} {p0 : Int} {vp1 : Value} {p1 : (List law21_Act)} {r : Bool} (hr : law21_TablePlays p0 p1 = some r) (hRp1 : Rd C0 enc_law21_Act vp1 p1) (hH : Holds E w (C0 :: Fs)) :
    BK.Spec Try.prog 4 [.int .i64 p0, vp1] w fun v w' => v = .bool r ∧ Holds E w' (C0 :: Fs) := by
  unfold law21_TablePlays at hr
  have hnd0 := hH.nd0
  refine ent Try.func4 rfl hH fun Q _ hq => ?_
  refine wF [(0, .int .i64 p0), (1, vp1)] rfl ?_
  refine wSq ?_
  refine wT ?_
  refine wAs rfl rfl rfl ?_
  refine wE ?_
  refine wN ?_
  refine wSq ?_
  refine wSq ?_
  refine wT ?_
  obtain ⟨r1, hr1, hr⟩ := bdS hr
  refine wCl rfl (gd0 rfl) rfl rfl ck_14 (fun w hH => law21_awake_w hr1 hH) ?_
  rintro _ w ⟨rfl, hH⟩
  refine ⟨_, hH, rn0, ?_⟩
  refine wNt rfl rfl rfl ?_
  refine wMv rfl rfl rfl ?_
  refine wG rfl rfl rfl rfl rfl rfl rfl rfl (fun hc a hf => rMv hf rfl) ?_
  refine wG rfl rfl rfl rfl rfl rfl rfl rfl (fun hc a hf => rLenR hf (evg rfl hc) hRp1 rfl se_35) ?_
  refine wG rfl rfl rfl rfl rfl rfl rfl rfl (fun hc a hf => rInt hf (evg rfl hc) rfl rfl) ?_
  refine wY rfl rfl rfl rfl (fun a hf => rOr hf rfl rfl rfl) ?_
  refine wE ?_
  refine wN ?_
  refine wIf2 rfl hr (fun hc1 hr => ?_) (fun hc1 hr => ?_)
  ·
    refine wSq ?_
    refine wT ?_
    obtain ⟨r2, hr2, hr⟩ := bdS hr
    refine wCl rfl (gd0 rfl) rfl rfl ck_14 (fun w hH => law21_awake_w hr2 hH) ?_
    rintro _ w ⟨rfl, hH⟩
    refine ⟨_, hH, rn0, ?_⟩
    refine wAs rfl rfl rfl ?_
    refine wE ?_
    refine wN ?_
    cases hr
    exact wRet1 hq rfl (fun a w hf hH => resT hf rfl) fun w hH => ⟨rfl, (hH.grp 1 [[0]] rfl)⟩
  ·
    refine wS ?_
    refine wN ?_
    refine wSq ?_
    refine wT ?_
    refine wMv rfl rfl rfl ?_
    obtain ⟨r3, hr3, hr⟩ := bdS hr
    refine wCl rfl (gd0 rfl) rfl rfl ck_15 (fun w hH => table_New_int_w hr3 hH) ?_
    rintro _ w ⟨pn1, h1, rfl, hH, hB1⟩
    refine ⟨_, hH, rn0, ?_⟩
    refine wMv rfl rfl rfl ?_
    refine wEx rfl rfl rfl rfl ?_
    refine wEx rfl rfl rfl rfl ?_
    refine wAs rfl rfl rfl ?_
    refine wAs rfl rfl rfl ?_
    refine wE ?_
    refine wN ?_
    refine wSq ?_
    refine wSq ?_
    refine wT ?_
    refine wMv rfl rfl rfl ?_
    refine wInt rfl rfl rfl rfl rfl ?_
    refine wMv rfl rfl rfl ?_
    refine wG rfl rfl rfl rfl rfl rfl rfl rfl (fun hc a hf => rMv hf rfl) ?_
    refine wG rfl rfl rfl rfl rfl rfl rfl rfl (fun hc a hf => rInt hf (evg rfl hc) rfl rfl) ?_
    refine wY rfl rfl rfl rfl (fun a hf => rOr hf rfl rfl rfl) ?_
    refine wE ?_
    refine wN ?_
    refine wIf2 rfl hr (fun hc2 hr => ?_) (fun hc2 hr => ?_)
    ·
      refine wJ (fun a w => ∃ (y1 : Bool), Fr a 188 [(4, .bool y1)] ∧ Holds E w (C0 :: Fs) ∧ law21_TablePlays_k1 y1 = some r) ?_ ?_
      ·
        refine wT ?_
        refine wMv rfl rfl rfl ?_
        refine wInt rfl rfl rfl rfl rfl ?_
        refine wMv rfl rfl rfl ?_
        refine spl hr (fun hc3 hr => ?_) (fun hc3 hr => ?_)
        ·
          refine wGt rfl rfl rfl rfl rfl hc3 rfl rfl (fun a hf => rMv hf rfl) ?_
          refine wGt rfl rfl rfl rfl rfl hc3 rfl rfl (fun a hf => rOe hf rfl rfl un_36 hB1) ?_
          refine wY rfl rfl rfl rfl (fun a hf => rPkT hf rfl hc3 rfl) ?_
          refine wMv rfl rfl rfl ?_
          refine spl hr (fun hc4 hr => ?_) (fun hc4 hr => ?_)
          ·
            obtain ⟨rfl, rfl⟩ := hB1.nil hc4
            refine wGt rfl rfl rfl rfl rfl hc4 rfl rfl (fun a hf => rMv hf rfl) ?_
            refine wGt rfl rfl rfl rfl rfl hc4 rfl rfl (fun a hf => rBld (vs := (enc_api_Prefix z_api_Prefix)) hf rfl (by kernel_rfl)) ?_
            obtain ⟨r4, hr4, hr⟩ := bdS hr
            refine wCl rfl (gd1 rfl rfl rfl rfl hc4) rfl rfl ck_16 (fun w hH => table_Table_int_Put_nil_w hr4 (hH.grp 2 [[1]] rfl)) ?_
            rintro _ w ⟨rfl, hH⟩
            refine ⟨_, hH, rn0, ?_⟩
            refine wGt rfl rfl rfl rfl rfl hc4 rfl rfl (fun a hf => rNot hf rfl) ?_
            refine wY rfl rfl rfl rfl (fun a hf => rPkT hf rfl hc4 rfl) ?_
            refine wMv rfl rfl rfl ?_
            refine spl hr (fun hc5 hr => ?_) (fun hc5 hr => ?_)
            ·
              refine wGt rfl rfl rfl rfl rfl hc5 rfl rfl (fun a hf => rMv hf rfl) ?_
              obtain ⟨r5, hr5, hr⟩ := bdS hr
              refine wCl rfl (gd1 rfl rfl rfl rfl hc5) rfl rfl ck_17 (fun w hH => table_Table_int_Len_nil_w hr5 hH) ?_
              rintro _ w ⟨rfl, hH⟩
              refine ⟨_, hH, rn0, ?_⟩
              refine wGt rfl rfl rfl rfl rfl hc5 rfl rfl (fun a hf => rInt hf rfl rfl rfl) ?_
              refine wY rfl rfl rfl rfl (fun a hf => rPkT hf rfl hc5 rfl) ?_
              refine wMv rfl rfl rfl ?_
              refine spl hr (fun hc6 hr => ?_) (fun hc6 hr => ?_)
              ·
                refine wGt rfl rfl rfl rfl rfl hc6 rfl rfl (fun a hf => rMv hf rfl) ?_
                obtain ⟨r6, hr6, hr⟩ := bdS hr
                refine wCl rfl (gd1 rfl rfl rfl rfl hc6) rfl rfl ck_18 (fun w hH => table_Table_int_All_nil_w hr6 hH) ?_
                rintro _ w ⟨v1, c1, hV, hH, hO1⟩
                obtain rfl := hV.symm
                refine ⟨_, hH, rn0, ?_⟩
                refine wGt rfl rfl rfl rfl rfl hc6 rfl rfl (fun a hf => rLenR hf rfl hO1.rd rfl se_44) ?_
                refine wGt rfl rfl rfl rfl rfl hc6 rfl rfl (fun a hf => rInt hf rfl rfl rfl) ?_
                refine wY rfl rfl rfl rfl (fun a hf => rPkT hf rfl hc6 rfl) ?_
                refine wMv rfl rfl rfl ?_
                refine spl hr (fun hc7 hr => ?_) (fun hc7 hr => ?_)
                ·
                  refine wGt rfl rfl rfl rfl rfl hc7 rfl rfl (fun a hf => rMv hf rfl) ?_
                  refine wGt rfl rfl rfl rfl rfl hc7 rfl rfl (fun a hf => rBld (vs := (enc_api_Prefix z_api_Prefix)) hf rfl (by kernel_rfl)) ?_
                  obtain ⟨r7, hr7, hr⟩ := bdS hr
                  refine wCl rfl (gd1 rfl rfl rfl rfl hc7) rfl rfl ck_19 (fun w hH => table_Table_int_Del_nil_w hr7 hH) ?_
                  rintro _ w ⟨rfl, hH⟩
                  refine ⟨_, hH, rn0, ?_⟩
                  refine wGt rfl rfl rfl rfl rfl hc7 rfl rfl (fun a hf => rNot hf rfl) ?_
                  refine wY rfl rfl rfl rfl (fun a hf => rPkT hf rfl hc7 rfl) ?_
                  refine wAs rfl rfl rfl ?_
                  refine wE ?_
                  exact fun a w hf hH => ⟨(!r7), hf.sub _ rfl, (hH.grp 2 [[1]] rfl), hr⟩
                ·
                  refine wGn rfl rfl rfl rfl rfl hc7 rfl rfl ?_
                  refine wGn rfl rfl rfl rfl rfl hc7 rfl rfl ?_
                  refine wGe rfl rfl rfl rfl rfl hc7 rfl rfl rn0 ?_
                  refine wGn rfl rfl rfl rfl rfl hc7 rfl rfl ?_
                  refine wY rfl rfl rfl rfl (fun a hf => rPkF hf rfl hc7 rfl) ?_
                  refine wAs rfl rfl rfl ?_
                  refine wE ?_
                  exact fun a w hf hH => ⟨false, hf.sub _ rfl, (hH.grp 2 [[1]] rfl), hr⟩
              ·
                refine wGn rfl rfl rfl rfl rfl hc6 rfl rfl ?_
                refine wGe rfl rfl rfl rfl rfl hc6 rfl rfl rn0 ?_
                refine wGn rfl rfl rfl rfl rfl hc6 rfl rfl ?_
                refine wGn rfl rfl rfl rfl rfl hc6 rfl rfl ?_
                refine wY rfl rfl rfl rfl (fun a hf => rPkF hf rfl hc6 rfl) ?_
                refine wMv rfl rfl rfl ?_
                refine wGn rfl rfl rfl rfl rfl rfl rfl rfl ?_
                refine wGn rfl rfl rfl rfl rfl rfl rfl rfl ?_
                refine wGe rfl rfl rfl rfl rfl rfl rfl rfl rn0 ?_
                refine wGn rfl rfl rfl rfl rfl rfl rfl rfl ?_
                refine wY rfl rfl rfl rfl (fun a hf => rPkF hf rfl rfl rfl) ?_
                refine wAs rfl rfl rfl ?_
                refine wE ?_
                exact fun a w hf hH => ⟨false, hf.sub _ rfl, hH, hr⟩
            ·
              refine wGn rfl rfl rfl rfl rfl hc5 rfl rfl ?_
              refine wGe rfl rfl rfl rfl rfl hc5 rfl rfl rn0 ?_
              refine wGn rfl rfl rfl rfl rfl hc5 rfl rfl ?_
              refine wY rfl rfl rfl rfl (fun a hf => rPkF hf rfl hc5 rfl) ?_
              refine wMv rfl rfl rfl ?_
              refine wGn rfl rfl rfl rfl rfl rfl rfl rfl ?_
              refine wGe rfl rfl rfl rfl rfl rfl rfl rfl rn0 ?_
              refine wGn rfl rfl rfl rfl rfl rfl rfl rfl ?_
              refine wGn rfl rfl rfl rfl rfl rfl rfl rfl ?_
              refine wY rfl rfl rfl rfl (fun a hf => rPkF hf rfl rfl rfl) ?_
              refine wMv rfl rfl rfl ?_
              refine wGn rfl rfl rfl rfl rfl rfl rfl rfl ?_
              refine wGn rfl rfl rfl rfl rfl rfl rfl rfl ?_
              refine wGe rfl rfl rfl rfl rfl rfl rfl rfl rn0 ?_
              refine wGn rfl rfl rfl rfl rfl rfl rfl rfl ?_
              refine wY rfl rfl rfl rfl (fun a hf => rPkF hf rfl rfl rfl) ?_
              refine wAs rfl rfl rfl ?_
              refine wE ?_
              exact fun a w hf hH => ⟨false, hf.sub _ rfl, hH, hr⟩
          ·
            refine wGn rfl rfl rfl rfl rfl hc4 rfl rfl ?_
            refine wGn rfl rfl rfl rfl rfl hc4 rfl rfl ?_
            refine wGe rfl rfl rfl rfl rfl hc4 rfl rfl rn0 ?_
            refine wGn rfl rfl rfl rfl rfl hc4 rfl rfl ?_
            refine wY rfl rfl rfl rfl (fun a hf => rPkF hf rfl hc4 rfl) ?_
            refine wMv rfl rfl rfl ?_
            refine wGn rfl rfl rfl rfl rfl rfl rfl rfl ?_
            refine wGe rfl rfl rfl rfl rfl rfl rfl rfl rn0 ?_
            refine wGn rfl rfl rfl rfl rfl rfl rfl rfl ?_
            refine wY rfl rfl rfl rfl (fun a hf => rPkF hf rfl rfl rfl) ?_
            refine wMv rfl rfl rfl ?_
            refine wGn rfl rfl rfl rfl rfl rfl rfl rfl ?_
            refine wGe rfl rfl rfl rfl rfl rfl rfl rfl rn0 ?_
            refine wGn rfl rfl rfl rfl rfl rfl rfl rfl ?_
            refine wGn rfl rfl rfl rfl rfl rfl rfl rfl ?_
            refine wY rfl rfl rfl rfl (fun a hf => rPkF hf rfl rfl rfl) ?_
            refine wMv rfl rfl rfl ?_
            refine wGn rfl rfl rfl rfl rfl rfl rfl rfl ?_
            refine wGn rfl rfl rfl rfl rfl rfl rfl rfl ?_
            refine wGe rfl rfl rfl rfl rfl rfl rfl rfl rn0 ?_
            refine wGn rfl rfl rfl rfl rfl rfl rfl rfl ?_
            refine wY rfl rfl rfl rfl (fun a hf => rPkF hf rfl rfl rfl) ?_
            refine wAs rfl rfl rfl ?_
            refine wE ?_
            exact fun a w hf hH => ⟨false, hf.sub _ rfl, (hH.grp 2 [[1]] rfl), hr⟩
        ·
          refine wGn rfl rfl rfl rfl rfl hc3 rfl rfl ?_
          refine wGn rfl rfl rfl rfl rfl hc3 rfl rfl ?_
          refine wY rfl rfl rfl rfl (fun a hf => rPkF hf rfl hc3 rfl) ?_
          refine wMv rfl rfl rfl ?_
          refine wGn rfl rfl rfl rfl rfl rfl rfl rfl ?_
          refine wGn rfl rfl rfl rfl rfl rfl rfl rfl ?_
          refine wGe rfl rfl rfl rfl rfl rfl rfl rfl rn0 ?_
          refine wGn rfl rfl rfl rfl rfl rfl rfl rfl ?_
          refine wY rfl rfl rfl rfl (fun a hf => rPkF hf rfl rfl rfl) ?_
          refine wMv rfl rfl rfl ?_
          refine wGn rfl rfl rfl rfl rfl rfl rfl rfl ?_
          refine wGe rfl rfl rfl rfl rfl rfl rfl rfl rn0 ?_
          refine wGn rfl rfl rfl rfl rfl rfl rfl rfl ?_
          refine wY rfl rfl rfl rfl (fun a hf => rPkF hf rfl rfl rfl) ?_
          refine wMv rfl rfl rfl ?_
          refine wGn rfl rfl rfl rfl rfl rfl rfl rfl ?_
          refine wGe rfl rfl rfl rfl rfl rfl rfl rfl rn0 ?_
          refine wGn rfl rfl rfl rfl rfl rfl rfl rfl ?_
          refine wGn rfl rfl rfl rfl rfl rfl rfl rfl ?_
          refine wY rfl rfl rfl rfl (fun a hf => rPkF hf rfl rfl rfl) ?_
          refine wMv rfl rfl rfl ?_
          refine wGn rfl rfl rfl rfl rfl rfl rfl rfl ?_
          refine wGn rfl rfl rfl rfl rfl rfl rfl rfl ?_
          refine wGe rfl rfl rfl rfl rfl rfl rfl rfl rn0 ?_
          refine wGn rfl rfl rfl rfl rfl rfl rfl rfl ?_
          refine wY rfl rfl rfl rfl (fun a hf => rPkF hf rfl rfl rfl) ?_
          refine wAs rfl rfl rfl ?_
          refine wE ?_
          exact fun a w hf hH => ⟨false, hf.sub _ rfl, (hH.grp 2 [[1]] rfl), hr⟩
      ·
        rintro a w ⟨y1, hf, hH, hr⟩
        refine jI hf hH ?_
        clear hf hH a w
        unfold law21_TablePlays_k1 at hr
        cases hr
        exact wRet1 hq rfl (fun a w hf hH => resT hf rfl) fun w hH => ⟨rfl, (hH.grp 1 [[0]] rfl)⟩
    ·
      refine wS ?_
      refine wN ?_
      refine wSq ?_
      refine wT ?_
      refine wAs rfl rfl rfl ?_
      refine wE ?_
      refine wN ?_
      refine wSq ?_
      refine wSq ?_
      refine wT ?_
      refine wMv rfl rfl rfl ?_
      refine wY rfl rfl rfl rfl (fun a hf => rLenR hf rfl hRp1 rfl se_35) ?_
      refine wMv rfl rfl rfl ?_
      refine wE ?_
      refine wN ?_
      obtain ⟨y2, hy2, hr⟩ := bdS hr
      obtain ⟨b1, rfl, hB2⟩ := hB1.res hy2
      obtain ⟨o1, ho1, hra1⟩ := bdS hr
      refine wJ1 (fun a w => ∃ (s2 : (table_Table_int × (List ref21_Entry))) (C1 : HL) (h2 : HL) (v2 : Value), Fr a 188 [(6, .int .i64 r3.2)] ∧ Holds E w (C1 :: h2 :: Fs) ∧ Sub C0 C1 ∧ ob_table_Table_int b1 s2.1 h2 ∧ Rd C1 enc_ref21_Entry v2 s2.2 ∧ (o1 = .brk s2 ∨ o1 = .nxt s2)) ?_ ?_
      ·
        refine wLp (α := (table_Table_int × (List ref21_Entry))) (fun n (s2 : (table_Table_int × (List ref21_Entry))) a w => ∃ (i : Nat) (C1 : HL) (h2 : HL) (v2 : Value), i + n = p1.length ∧ Fr a 188 [(0, .int .i64 p0), (1, vp1), (5, ptr b1 0), (6, .int .i64 r3.2), (7, v2), (67, .int .i64 (p1.length : Int)), (68, .int .i64 (i : Int))] ∧ Holds E w (C1 :: h2 :: Fs) ∧ Sub C0 C1 ∧ ob_table_Table_int b1 s2.1 h2 ∧ Rd C1 enc_ref21_Entry v2 s2.2 ∧ forN (law21_TablePlays_b1 p0 p1) n i s2 = some o1) (n := p1.length) (s := (y2, [])) (fun a w hf hH => ⟨0, C0, _, (.slice none 0 0), by simp, hf.sub _ rfl, (hH.grp 2 [[1], [0]] rfl), Sub.rfl, hB2, (Rd.nil _ _), ho1⟩) ?_
        rintro n s2 a w ⟨i, C1, h2, v2, hi, hf, hH, s1, hB3, hR1, ho1⟩
        refine jI hf hH ?_
        clear hf hH a w
        refine wSq (wT ?_)
        refine wInt rfl rfl rfl rfl rfl ?_
        refine wE ?_
        refine wN ?_
        refine wSq (wIf rfl (fun hc => ?_) (fun hc => ?_))
        rotate_left
        · obtain rfl : n = 0 := by simp at hc; omega
          cases ho1
          refine wX (wXt (wXt (wXh ?_)))
          exact fun a w hf hH => ⟨s2, C1, h2, v2, hf.sub _ rfl, hH, s1, hB3, hR1, .inr rfl⟩
        refine wS (wN ?_)
        obtain ⟨n, rfl⟩ : ∃ m, n = m + 1 := ⟨n - 1, by simp at hc; omega⟩
        obtain ⟨o2, hr, ho1⟩ := bdS ho1
        unfold law21_TablePlays_b1 at hr
        refine wSq ?_
        refine wB ?_
        refine wSq ?_
        refine wT ?_
        refine wMv rfl rfl rfl ?_
        refine wAs rfl rfl rfl ?_
        refine wE ?_
        refine wN ?_
        refine wSq ?_
        refine wT ?_
        refine wMv rfl rfl rfl ?_
        refine wMv rfl rfl rfl ?_
        obtain ⟨e1, he1, hr⟩ := bdS hr
        obtain ⟨b2, me1, hE1, hI1⟩ := hRp1.at (k := 10) (fun _ => rfl) he1
        refine wIxO rfl rfl rfl se_35 hI1 rfl ?_
        refine wLsE (enc_law21_Act e1) (off := 0) rfl rfl hE1 ag_49 sz_49 ((inJ 0 rfl).sub s1) rfl rfl rfl ?_
        refine wAlc rfl (gd0 rfl) rfl zc_49 fun b3 => ⟨rn0, ?_⟩
        refine wSts 0 (enc_law21_Act e1) rfl (gd0 rfl) rfl rfl rfl sz_49 rfl rfl rfl rn0 ?_
        refine wE ?_
        refine wN ?_
        refine wSq ?_
        refine wT ?_
        refine wMv rfl rfl rfl ?_
        refine wFa rfl rfl fo_49_1 rfl ?_
        refine wLs 0 (enc_api_Prefix e1.P) rfl rfl ag_42 sz_42 rfl rfl rfl rfl ?_
        obtain ⟨r8, hr8, hr⟩ := bdS hr
        refine wCl rfl (gd0 rfl) rfl rfl ck_20 (fun w hH => ref21_Find_w hr8 hR1 (hH.grp 3 [[1], [0], [2]] rfl)) ?_
        rintro _ w ⟨rfl, hH⟩
        refine ⟨_, hH, rn0, ?_⟩
        refine wAs rfl rfl rfl ?_
        refine wE ?_
        refine wN ?_
        refine wSq ?_
        refine wT ?_
        refine wMv rfl rfl rfl ?_
        refine wFa rfl rfl fo_49_1 rfl ?_
        refine wLs 1 (enc_api_Prefix e1.P) rfl rfl ag_42 sz_42 rfl rfl rfl rfl ?_
        obtain ⟨r9, hr9, hr⟩ := bdS hr
        refine wCl rfl (gd0 rfl) rfl rfl ck_21 (fun w hH => table_Table_int_Get_w hr9 hB3 (hH.grp 3 [[2], [0], [1]] rfl)) ?_
        rintro _ w ⟨rfl, hH⟩
        refine ⟨_, hH, rn0, ?_⟩
        refine wMv rfl rfl rfl ?_
        refine wEx rfl rfl rfl rfl ?_
        refine wEx rfl rfl rfl rfl ?_
        refine wAs rfl rfl rfl ?_
        refine wAs rfl rfl rfl ?_
        refine wE ?_
        refine wN ?_
        refine wSq ?_
        refine wJ (fun a w => ∃ (y5 : Bool), Fr a 188 [(0, .int .i64 p0), (1, vp1), (5, ptr b1 0), (6, .int .i64 r3.2), (7, v2), (9, ptr b3 0), (10, .int .i64 r8), (67, .int .i64 (p1.length : Int)), (68, .int .i64 (i : Int)), (109, .bool y5)] ∧ Holds E w (C1 :: h2 :: [blk b3 (enc_law21_Act e1) 49] :: Fs) ∧ law21_TablePlays_k2 p0 s2 e1 r8 y5 = some o2) ?_ ?_
        ·
          refine wT ?_
          refine wMv rfl rfl rfl ?_
          refine wMv rfl rfl rfl ?_
          refine wInt rfl rfl rfl rfl rfl ?_
          refine wY rfl rfl rfl rfl (fun a hf => rBooN hf rfl rfl ub_4) ?_
          refine wMv rfl rfl rfl ?_
          refine spl hr (fun hc15 hr => ?_) (fun hc15 hr => ?_)
          ·
            refine wGn rfl rfl rfl rfl rfl hc15 rfl rfl ?_
            refine wGn rfl rfl rfl rfl rfl hc15 rfl rfl ?_
            refine wGnU rfl rfl rfl rfl rfl rfl rfl ?_
            refine wGnU rfl rfl rfl rfl rfl rfl rfl ?_
            refine wGnU rfl rfl rfl rfl rfl rfl rfl ?_
            refine wGnU rfl rfl rfl rfl rfl rfl rfl ?_
            refine wGnU rfl rfl rfl rfl rfl rfl rfl ?_
            refine wGnU rfl rfl rfl rfl rfl rfl rfl ?_
            refine wGnU rfl rfl rfl rfl rfl rfl rfl ?_
            refine wGn rfl rfl rfl rfl rfl hc15 rfl rfl ?_
            refine wY rfl rfl rfl rfl (fun a hf => rPkT hf rfl hc15 rfl) ?_
            refine wMv rfl rfl rfl ?_
            refine wGn rfl rfl rfl rfl rfl rfl rfl rfl ?_
            refine wGn rfl rfl rfl rfl rfl rfl rfl rfl ?_
            refine wGn rfl rfl rfl rfl rfl rfl rfl rfl ?_
            refine wGnU rfl rfl rfl rfl rfl rfl rfl ?_
            refine wGnU rfl rfl rfl rfl rfl rfl rfl ?_
            refine wGn rfl rfl rfl rfl rfl rfl rfl rfl ?_
            refine wY rfl rfl rfl rfl (fun a hf => rPkT hf rfl rfl rfl) ?_
            refine wE ?_
            exact fun a w hf hH => ⟨true, hf.sub _ rfl, (hH.grp 3 [[1], [0], [2]] rfl), hr⟩
          ·
            refine wGt rfl rfl rfl rfl rfl hc15 rfl rfl (fun a hf => rMv hf rfl) ?_
            refine wGt rfl rfl rfl rfl rfl hc15 rfl rfl (fun a hf => rMv hf rfl) ?_
            refine spl hr (fun hc16 hr => ?_) (fun hc16 hr => ?_)
            ·
              refine wGt rfl rfl rfl rfl rfl hc16 rfl rfl (fun a hf => rMv hf rfl) ?_
              refine wGt rfl rfl rfl rfl rfl hc16 rfl rfl (fun a hf => rMv hf rfl) ?_
              refine wGt rfl rfl rfl rfl rfl hc16 rfl rfl (fun a hf => rMv hf rfl) ?_
              obtain ⟨e4, he4, hr⟩ := bdS hr
              obtain ⟨b6, me4, hE4, hI4⟩ := hR1.at (k := 9) (fun _ => rfl) he4
              refine wGt rfl rfl rfl rfl rfl hc16 rfl rfl (fun a hf => rIxO hf rfl rfl se_47 hI4) ?_
              refine wGt rfl rfl rfl rfl rfl hc16 rfl rfl (fun a hf => rFa hf rfl fo_54_1) ?_
              refine wGtr rfl rfl rfl rfl rfl hc16 rfl rfl (inJ 1 rfl) (fun a hf cs hC => rLdI (off := 8) hf rfl hE4 ag_3 hC rfl) ?_
              refine wGt rfl rfl rfl rfl rfl hc16 rfl rfl (fun a hf => rInt hf rfl rfl rfl) ?_
              refine wGt rfl rfl rfl rfl rfl hc15 rfl rfl (fun a hf => rPkT hf rfl hc16 rfl) ?_
              refine wY rfl rfl rfl rfl (fun a hf => rPkF hf rfl hc15 rfl) ?_
              refine wMv rfl rfl rfl ?_
              refine spl hr (fun hc17 hr => ?_) (fun hc17 hr => ?_)
              ·
                refine wGn rfl rfl rfl rfl rfl hc17 rfl rfl ?_
                refine wGn rfl rfl rfl rfl rfl hc17 rfl rfl ?_
                refine wGn rfl rfl rfl rfl rfl hc17 rfl rfl ?_
                refine wGnU rfl rfl rfl rfl rfl rfl rfl ?_
                refine wGnU rfl rfl rfl rfl rfl rfl rfl ?_
                refine wGn rfl rfl rfl rfl rfl hc17 rfl rfl ?_
                refine wY rfl rfl rfl rfl (fun a hf => rPkT hf rfl hc17 rfl) ?_
                refine wE ?_
                exact fun a w hf hH => ⟨true, hf.sub _ rfl, (hH.grp 3 [[1], [0], [2]] rfl), hr⟩
              ·
                refine wGt rfl rfl rfl rfl rfl hc17 rfl rfl (fun a hf => rMv hf rfl) ?_
                refine wGt rfl rfl rfl rfl rfl hc17 rfl rfl (fun a hf => rNot hf rfl) ?_
                refine wGt rfl rfl rfl rfl rfl hc17 rfl rfl (fun a hf => rMv hf rfl) ?_
                refine wGn rfl rfl rfl rfl rfl (nT hc16) rfl rfl ?_
                refine wGn rfl rfl rfl rfl rfl (nT hc16) rfl rfl ?_
                refine wGt rfl rfl rfl rfl rfl hc17 rfl rfl (fun a hf => rPkF hf rfl (nT hc16) rfl) ?_
                refine wY rfl rfl rfl rfl (fun a hf => rPkF hf rfl hc17 rfl) ?_
                refine wE ?_
                exact fun a w hf hH => ⟨false, hf.sub _ rfl, (hH.grp 3 [[1], [0], [2]] rfl), hr⟩
            ·
              refine wGn rfl rfl rfl rfl rfl hc16 rfl rfl ?_
              refine wGn rfl rfl rfl rfl rfl hc16 rfl rfl ?_
              refine wGn rfl rfl rfl rfl rfl hc16 rfl rfl ?_
              refine wGn rfl rfl rfl rfl rfl hc16 rfl rfl ?_
              refine wGn rfl rfl rfl rfl rfl hc16 rfl rfl ?_
              refine wGn rfl rfl rfl rfl rfl hc16 rfl rfl ?_
              refine wGn rfl rfl rfl rfl rfl hc16 rfl rfl ?_
              refine wGt rfl rfl rfl rfl rfl hc15 rfl rfl (fun a hf => rPkF hf rfl hc16 rfl) ?_
              refine wY rfl rfl rfl rfl (fun a hf => rPkF hf rfl hc15 rfl) ?_
              refine wMv rfl rfl rfl ?_
              refine wGt rfl rfl rfl rfl rfl rfl rfl rfl (fun a hf => rMv hf rfl) ?_
              refine wGt rfl rfl rfl rfl rfl rfl rfl rfl (fun a hf => rNot hf rfl) ?_
              refine wGt rfl rfl rfl rfl rfl rfl rfl rfl (fun a hf => rMv hf rfl) ?_
              refine wGt rfl rfl rfl rfl rfl (nF hc16) rfl rfl (fun a hf => rMv hf rfl) ?_
              refine wGt rfl rfl rfl rfl rfl (nF hc16) rfl rfl (fun a hf => rInt hf rfl rfl rfl) ?_
              refine wGt rfl rfl rfl rfl rfl rfl rfl rfl (fun a hf => rPkT hf rfl (nF hc16) rfl) ?_
              refine wY rfl rfl rfl rfl (fun a hf => rPkF hf rfl rfl rfl) ?_
              refine wE ?_
              exact fun a w hf hH => ⟨(r9.1 != 0), hf.sub _ rfl, (hH.grp 3 [[1], [0], [2]] rfl), hr⟩
        ·
          rintro a w ⟨y5, hf, hH, hr⟩
          refine jI hf hH ?_
          clear hf hH a w
          unfold law21_TablePlays_k2 at hr
          refine wIf2 rfl hr (fun hc8 hr => ?_) (fun hc8 hr => ?_)
          ·
            refine wSq ?_
            refine wT ?_
            refine wAs rfl rfl rfl ?_
            refine wE ?_
            refine wN ?_
            cases hr
            obtain rfl := stpR ho1
            obtain rfl := aftR hra1
            exact wRet1 hq rfl (fun a w hf hH => resT hf rfl) fun w hH => ⟨rfl, (Holds.shrink (hH.grp 3 [[0]] rfl) s1 hnd0)⟩
          ·
            refine wS ?_
            refine wN ?_
            refine wSq ?_
            refine wT ?_
            refine wAs rfl rfl rfl ?_
            refine wAs rfl rfl rfl ?_
            refine wE ?_
            refine wN ?_
            refine wJ (fun a w => ∃ (y6 : table_Table_int) (y7 : (List ref21_Entry)) (y8 : Bool) (y9 : Bool) (C2 : HL) (h3 : HL) (v3 : Value), Fr a 188 [(0, .int .i64 p0), (1, vp1), (5, ptr b1 0), (6, .int .i64 r3.2), (7, v3), (13, .bool y8), (14, .bool y9), (67, .int .i64 (p1.length : Int)), (68, .int .i64 (i : Int))] ∧ Holds E w (C2 :: h3 :: Fs) ∧ Sub C1 C2 ∧ ob_table_Table_int b1 y6 h3 ∧ Rd C2 enc_ref21_Entry v3 y7 ∧ law21_TablePlays_k3 y6 y7 y8 y9 = some o2) ?_ ?_
            ·
              refine wSq ?_
              refine wT ?_
              refine wFa rfl rfl fo_49_0 rfl ?_
              refine wLd 2 rfl rfl ag_5 rfl rfl rfl ?_
              refine wY rfl rfl rfl rfl (fun a hf => rRem hf rfl rfl (by decide)) ?_
              refine wInt rfl rfl rfl rfl rfl ?_
              refine wE ?_
              refine wN ?_
              refine wIf2 rfl hr (fun hc14 hr => ?_) (fun hc14 hr => ?_)
              ·
                refine wSq ?_
                refine wT ?_
                refine wMv rfl rfl rfl ?_
                refine wFa rfl rfl fo_49_1 rfl ?_
                refine wLs 2 (enc_api_Prefix e1.P) rfl rfl ag_42 sz_42 rfl rfl rfl rfl ?_
                refine wFa rfl rfl fo_49_2 rfl ?_
                refine wLd 2 rfl rfl ag_3 rfl rfl rfl ?_
                obtain ⟨r15, hr15, hr⟩ := bdS hr
                refine wCl rfl (gd0 rfl) rfl rfl ck_16 (fun w hH => table_Table_int_Put_w hr15 hB3 (hH.grp 3 [[1], [0], [2]] rfl)) ?_
                rintro _ w ⟨h4, rfl, hH, hB5⟩
                refine ⟨_, hH, rn0, ?_⟩
                refine wAs rfl rfl rfl ?_
                refine wE ?_
                refine wN ?_
                refine wT ?_
                refine wMv rfl rfl rfl ?_
                refine wMv rfl rfl rfl ?_
                refine wFa rfl rfl fo_49_1 rfl ?_
                refine wLs 2 (enc_api_Prefix e1.P) rfl rfl ag_42 sz_42 rfl rfl rfl rfl ?_
                refine wFa rfl rfl fo_49_2 rfl ?_
                refine wLd 2 rfl rfl ag_3 rfl rfl rfl ?_
                obtain ⟨r16, hr16, hr⟩ := bdS hr
                refine wCl rfl (gd0 rfl) rfl rfl ck_22 (fun w hH => ref21_Put_w hr16 hR1 (hH.grp 3 [[1], [0], [2]] rfl)) ?_
                rintro _ w ⟨C3, v6, rfl, hH, s5, hR3⟩
                refine ⟨_, hH, rn0, ?_⟩
                refine wMv rfl rfl rfl ?_
                refine wEx rfl rfl rfl rfl ?_
                refine wEx rfl rfl rfl rfl ?_
                refine wAs rfl rfl rfl ?_
                refine wAs rfl rfl rfl ?_
                refine wE ?_
                exact fun a w hf hH => ⟨r15.1, r16.1, r15.2, r16.2, C3, _, v6, hf.sub _ rfl, (hH.grp 3 [[0], [1]] rfl), s5, hB5, hR3, hr⟩
              ·
                refine wSq ?_
                refine wT ?_
                refine wMv rfl rfl rfl ?_
                refine wFa rfl rfl fo_49_1 rfl ?_
                refine wLs 2 (enc_api_Prefix e1.P) rfl rfl ag_42 sz_42 rfl rfl rfl rfl ?_
                obtain ⟨r17, hr17, hr⟩ := bdS hr
                refine wCl rfl (gd0 rfl) rfl rfl ck_19 (fun w hH => table_Table_int_Del_w hr17 hB3 (hH.grp 3 [[1], [0], [2]] rfl)) ?_
                rintro _ w ⟨h5, rfl, hH, hB6⟩
                refine ⟨_, hH, rn0, ?_⟩
                refine wMv rfl rfl rfl ?_
                refine wInt rfl rfl rfl rfl rfl ?_
                refine wAs rfl rfl rfl ?_
                refine wAs rfl rfl rfl ?_
                refine wE ?_
                refine wN ?_
                refine wT ?_
                refine wMv rfl rfl rfl ?_
                refine wFa rfl rfl fo_49_1 rfl ?_
                refine wLs 2 (enc_api_Prefix e1.P) rfl rfl ag_42 sz_42 rfl rfl rfl rfl ?_
                obtain ⟨r18, hr18, hr⟩ := bdS hr
                refine wCl rfl (gd0 rfl) rfl rfl ck_23 (fun w hH => ref21_Del_w hr18 hR1 (hH.grp 3 [[1], [0], [2]] rfl)) ?_
                rintro _ w ⟨C4, v7, hV, hH, s6, hR4⟩
                obtain rfl := hV.symm
                refine ⟨_, hH, rn0, ?_⟩
                refine wAs rfl rfl rfl ?_
                refine wE ?_
                exact fun a w hf hH => ⟨r17.1, r18, r17.2, (decide (r8 ≥ 0)), C4, _, v7, hf.sub _ rfl, (hH.grp 3 [[0], [1]] rfl), s6, hB6, hR4, hr⟩
            ·
              rintro a w ⟨y6, y7, y8, y9, C2, h3, v3, hf, hH, s3, hB4, hR2, hr⟩
              refine jI hf hH ?_
              clear hf hH a w
              unfold law21_TablePlays_k3 at hr
              refine wSq ?_
              refine wJ (fun a w => ∃ (y10 : Bool), Fr a 188 [(0, .int .i64 p0), (1, vp1), (5, ptr b1 0), (6, .int .i64 r3.2), (7, v3), (67, .int .i64 (p1.length : Int)), (68, .int .i64 (i : Int)), (157, .bool y10)] ∧ Holds E w (C2 :: h3 :: Fs) ∧ law21_TablePlays_k4 y6 y7 y10 = some o2) ?_ ?_
              ·
                refine wT ?_
                refine wMv rfl rfl rfl ?_
                refine wMv rfl rfl rfl ?_
                refine wY rfl rfl rfl rfl (fun a hf => rBooN hf rfl rfl ub_4) ?_
                refine wMv rfl rfl rfl ?_
                refine spl hr (fun hc12 hr => ?_) (fun hc12 hr => ?_)
                ·
                  refine wGn rfl rfl rfl rfl rfl hc12 rfl rfl ?_
                  refine wGe rfl rfl rfl rfl rfl hc12 rfl rfl rn0 ?_
                  refine wGn rfl rfl rfl rfl rfl hc12 rfl rfl ?_
                  refine wGn rfl rfl rfl rfl rfl hc12 rfl rfl ?_
                  refine wGn rfl rfl rfl rfl rfl hc12 rfl rfl ?_
                  refine wY rfl rfl rfl rfl (fun a hf => rPkT hf rfl hc12 rfl) ?_
                  refine wMv rfl rfl rfl ?_
                  refine wGn rfl rfl rfl rfl rfl rfl rfl rfl ?_
                  refine wGe rfl rfl rfl rfl rfl rfl rfl rfl rn0 ?_
                  refine wGn rfl rfl rfl rfl rfl rfl rfl rfl ?_
                  refine wGe rfl rfl rfl rfl rfl rfl rfl rfl rn0 ?_
                  refine wGe rfl rfl rfl rfl rfl rfl rfl rfl rn0 ?_
                  refine wGn rfl rfl rfl rfl rfl rfl rfl rfl ?_
                  refine wY rfl rfl rfl rfl (fun a hf => rPkT hf rfl rfl rfl) ?_
                  refine wE ?_
                  exact fun a w hf hH => ⟨true, hf.sub _ rfl, hH, hr⟩
                ·
                  refine wGt rfl rfl rfl rfl rfl hc12 rfl rfl (fun a hf => rMv hf rfl) ?_
                  obtain ⟨r11, hr11, hr⟩ := bdS hr
                  refine wCl rfl (gd1 rfl rfl rfl rfl hc12) rfl rfl ck_17 (fun w hH => table_Table_int_Len_w hr11 hB4 (hH.grp 2 [[1], [0]] rfl)) ?_
                  rintro _ w ⟨rfl, hH⟩
                  refine ⟨_, hH, rn0, ?_⟩
                  refine wGt rfl rfl rfl rfl rfl hc12 rfl rfl (fun a hf => rMv hf rfl) ?_
                  refine wGt rfl rfl rfl rfl rfl hc12 rfl rfl (fun a hf => rLenR hf rfl hR2 rfl se_47) ?_
                  refine wGt rfl rfl rfl rfl rfl hc12 rfl rfl (fun a hf => rInt hf rfl rfl rfl) ?_
                  refine wY rfl rfl rfl rfl (fun a hf => rPkF hf rfl hc12 rfl) ?_
                  refine wMv rfl rfl rfl ?_
                  refine spl hr (fun hc13 hr => ?_) (fun hc13 hr => ?_)
                  ·
                    refine wGn rfl rfl rfl rfl rfl hc13 rfl rfl ?_
                    refine wGe rfl rfl rfl rfl rfl hc13 rfl rfl rn0 ?_
                    refine wGn rfl rfl rfl rfl rfl hc13 rfl rfl ?_
                    refine wGe rfl rfl rfl rfl rfl hc13 rfl rfl rn0 ?_
                    refine wGe rfl rfl rfl rfl rfl hc13 rfl rfl rn0 ?_
                    refine wGn rfl rfl rfl rfl rfl hc13 rfl rfl ?_
                    refine wY rfl rfl rfl rfl (fun a hf => rPkT hf rfl hc13 rfl) ?_
                    refine wE ?_
                    exact fun a w hf hH => ⟨true, hf.sub _ rfl, (hH.grp 2 [[1], [0]] rfl), hr⟩
                  ·
                    refine wGt rfl rfl rfl rfl rfl hc13 rfl rfl (fun a hf => rMv hf rfl) ?_
                    obtain ⟨r12, hr12, hr⟩ := bdS hr
                    refine wCl rfl (gd1 rfl rfl rfl rfl hc13) rfl rfl ck_18 (fun w hH => table_Table_int_All_w hr12 hB4 hH) ?_
                    rintro _ w ⟨v4, c2, hV, hH, hO2⟩
                    obtain rfl := hV.symm
                    refine ⟨_, hH, rn0, ?_⟩
                    refine wGt rfl rfl rfl rfl rfl hc13 rfl rfl (fun a hf => rMv hf rfl) ?_
                    obtain ⟨r13, hr13, hr⟩ := bdS hr
                    refine wCl rfl (gd1 rfl rfl rfl rfl hc13) rfl rfl ck_25 (fun w hH => ref21_Prefixes_w hr13 hR2 (hH.grp 3 [[2], [0], [1]] rfl)) ?_
                    rintro _ w ⟨v5, c3, hV, hH, hO3⟩
                    obtain rfl := hV.symm
                    refine ⟨_, hH, rn0, ?_⟩
                    obtain ⟨r14, hr14, hr⟩ := bdS hr
                    refine wCl rfl (gd1 rfl rfl rfl rfl hc13) rfl rfl ck_24 (fun w hH => ref21_Same_w hr14 (hO2.rd.mono Sub.l) (hO3.rd.mono (Sub.r Sub.l)) (hH.grp 4 [[3, 1], [0], [2]] rfl)) ?_
                    rintro _ w ⟨rfl, hH⟩
                    refine ⟨_, (hH.opn 0 [c2, c3] rfl), rn0, ?_⟩
                    refine wGt rfl rfl rfl rfl rfl hc13 rfl rfl (fun a hf => rNot hf rfl) ?_
                    refine wY rfl rfl rfl rfl (fun a hf => rPkF hf rfl hc13 rfl) ?_
                    refine wE ?_
                    exact fun a w hf hH => ⟨(!r14), hf.sub _ rfl, (hH.grp 5 [[3], [4]] rfl), hr⟩
              ·
                rintro a w ⟨y10, hf, hH, hr⟩
                refine jI hf hH ?_
                clear hf hH a w
                unfold law21_TablePlays_k4 at hr
                refine wIf2 rfl hr (fun hc9 hr => ?_) (fun hc9 hr => ?_)
                ·
                  refine wSq ?_
                  refine wT ?_
                  refine wAs rfl rfl rfl ?_
                  refine wE ?_
                  refine wN ?_
                  cases hr
                  obtain rfl := stpR ho1
                  obtain rfl := aftR hra1
                  exact wRet1 hq rfl (fun a w hf hH => resT hf rfl) fun w hH => ⟨rfl, (Holds.shrink (hH.grp 2 [[0]] rfl) (s1.tr s3) hnd0)⟩
                ·
                  refine wS ?_
                  refine wN ?_
                  refine wSq ?_
                  refine wT ?_
                  refine wMv rfl rfl rfl ?_
                  refine wY rfl rfl rfl rfl (fun a hf => rLenR hf rfl hR2 rfl se_47) ?_
                  refine wMv rfl rfl rfl ?_
                  refine wE ?_
                  refine wN ?_
                  obtain ⟨o3, ho2, hra2⟩ := bdS hr
                  refine wJ1 (fun a w => ∃ (s4 : Unit) , Fr a 188 [(0, .int .i64 p0), (1, vp1), (5, ptr b1 0), (6, .int .i64 r3.2), (7, v3), (67, .int .i64 (p1.length : Int)), (68, .int .i64 (i : Int))] ∧ Holds E w (C2 :: h3 :: Fs) ∧ (o3 = .brk s4 ∨ o3 = .nxt s4)) ?_ ?_
                  ·
                    refine wLp (α := Unit) (fun n (s4 : Unit) a w => ∃ (ii : Nat) , ii + n = y7.length ∧ Fr a 188 [(0, .int .i64 p0), (1, vp1), (5, ptr b1 0), (6, .int .i64 r3.2), (7, v3), (67, .int .i64 (p1.length : Int)), (68, .int .i64 (i : Int)), (159, .int .i64 (y7.length : Int)), (160, .int .i64 (ii : Int))] ∧ Holds E w (C2 :: h3 :: Fs) ∧ forN (law21_TablePlays_b2 y6 y7) n ii s4 = some o3) (n := y7.length) (s := ()) (fun a w hf hH => ⟨0, by simp, hf.sub _ rfl, hH, ho2⟩) ?_
                    rintro n s4 a w ⟨ii, hii, hf, hH, ho2⟩
                    refine jI hf hH ?_
                    clear hf hH a w
                    refine wSq (wT ?_)
                    refine wInt rfl rfl rfl rfl rfl ?_
                    refine wE ?_
                    refine wN ?_
                    refine wSq (wIf rfl (fun hc => ?_) (fun hc => ?_))
                    rotate_left
                    · obtain rfl : n = 0 := by simp at hc; omega
                      cases ho2
                      refine wX (wXt (wXt (wXh ?_)))
                      exact fun a w hf hH => ⟨s4, hf.sub _ rfl, hH, .inr rfl⟩
                    refine wS (wN ?_)
                    obtain ⟨n, rfl⟩ : ∃ m, n = m + 1 := ⟨n - 1, by simp at hc; omega⟩
                    obtain ⟨o4, hr, ho2⟩ := bdS ho2
                    unfold law21_TablePlays_b2 at hr
                    refine wSq ?_
                    refine wB ?_
                    refine wSq ?_
                    refine wT ?_
                    refine wMv rfl rfl rfl ?_
                    refine wAs rfl rfl rfl ?_
                    refine wE ?_
                    refine wN ?_
                    refine wSq ?_
                    refine wT ?_
                    refine wMv rfl rfl rfl ?_
                    refine wMv rfl rfl rfl ?_
                    refine wMv rfl rfl rfl ?_
                    obtain ⟨e2, he2, hr⟩ := bdS hr
                    obtain ⟨b4, me2, hE2, hI2⟩ := hR2.at (k := 9) (fun _ => rfl) he2
                    refine wIxO rfl rfl rfl se_47 hI2 rfl ?_
                    refine wFa rfl rfl fo_54_0 rfl ?_
                    refine wLsE (enc_api_Prefix e2.P) (off := 0) rfl rfl hE2 ag_42 sz_42 (inJ 0 rfl) rfl rfl rfl ?_
                    obtain ⟨r10, hr10, hr⟩ := bdS hr
                    refine wCl rfl (gd0 rfl) rfl rfl ck_21 (fun w hH => table_Table_int_Get_w hr10 hB4 (hH.grp 2 [[1], [0]] rfl)) ?_
                    rintro _ w ⟨rfl, hH⟩
                    refine ⟨_, hH, rn0, ?_⟩
                    refine wMv rfl rfl rfl ?_
                    refine wEx rfl rfl rfl rfl ?_
                    refine wEx rfl rfl rfl rfl ?_
                    refine wAs rfl rfl rfl ?_
                    refine wAs rfl rfl rfl ?_
                    refine wE ?_
                    refine wN ?_
                    refine wJ (fun a w => ∃ (y11 : Bool), Fr a 188 [(0, .int .i64 p0), (1, vp1), (5, ptr b1 0), (6, .int .i64 r3.2), (7, v3), (67, .int .i64 (p1.length : Int)), (68, .int .i64 (i : Int)), (159, .int .i64 (y7.length : Int)), (160, .int .i64 (ii : Int)), (183, .bool y11)] ∧ Holds E w (C2 :: h3 :: Fs) ∧ law21_TablePlays_k5 y11 = some o4) ?_ ?_
                    ·
                      refine wT ?_
                      refine wMv rfl rfl rfl ?_
                      refine wNt rfl rfl rfl ?_
                      refine wMv rfl rfl rfl ?_
                      refine spl hr (fun hc11 hr => ?_) (fun hc11 hr => ?_)
                      ·
                        refine wGn rfl rfl rfl rfl rfl hc11 rfl rfl ?_
                        refine wGn rfl rfl rfl rfl rfl hc11 rfl rfl ?_
                        refine wGn rfl rfl rfl rfl rfl hc11 rfl rfl ?_
                        refine wGn rfl rfl rfl rfl rfl hc11 rfl rfl ?_
                        refine wGn rfl rfl rfl rfl rfl hc11 rfl rfl ?_
                        refine wGn rfl rfl rfl rfl rfl hc11 rfl rfl ?_
                        refine wGn rfl rfl rfl rfl rfl hc11 rfl rfl ?_
                        refine wY rfl rfl rfl rfl (fun a hf => rPkT hf rfl hc11 rfl) ?_
                        refine wE ?_
                        exact fun a w hf hH => ⟨true, hf.sub _ rfl, (hH.grp 2 [[1], [0]] rfl), hr⟩
                      ·
                        refine wGt rfl rfl rfl rfl rfl hc11 rfl rfl (fun a hf => rMv hf rfl) ?_
                        refine wGt rfl rfl rfl rfl rfl hc11 rfl rfl (fun a hf => rMv hf rfl) ?_
                        refine wGt rfl rfl rfl rfl rfl hc11 rfl rfl (fun a hf => rMv hf rfl) ?_
                        obtain ⟨e3, he3, hr⟩ := bdS hr
                        obtain ⟨b5, me3, hE3, hI3⟩ := hR2.at (k := 9) (fun _ => rfl) he3
                        refine wGt rfl rfl rfl rfl rfl hc11 rfl rfl (fun a hf => rIxO hf rfl rfl se_47 hI3) ?_
                        refine wGt rfl rfl rfl rfl rfl hc11 rfl rfl (fun a hf => rFa hf rfl fo_54_1) ?_
                        refine wGtr rfl rfl rfl rfl rfl hc11 rfl rfl (inJ 1 rfl) (fun a hf cs hC => rLdI (off := 8) hf rfl hE3 ag_3 hC rfl) ?_
                        refine wGt rfl rfl rfl rfl rfl hc11 rfl rfl (fun a hf => rInt hf rfl rfl rfl) ?_
                        refine wY rfl rfl rfl rfl (fun a hf => rPkF hf rfl hc11 rfl) ?_
                        refine wE ?_
                        exact fun a w hf hH => ⟨(r10.1 != e3.V), hf.sub _ rfl, (hH.grp 2 [[1], [0]] rfl), hr⟩
                    ·
                      rintro a w ⟨y11, hf, hH, hr⟩
                      refine jI hf hH ?_
                      clear hf hH a w
                      unfold law21_TablePlays_k5 at hr
                      refine wIf2 rfl hr (fun hc10 hr => ?_) (fun hc10 hr => ?_)
                      ·
                        refine wSq ?_
                        refine wT ?_
                        refine wAs rfl rfl rfl ?_
                        refine wE ?_
                        refine wN ?_
                        cases hr
                        obtain rfl := stpR ho2
                        obtain rfl := aftR hra2
                        obtain rfl := stpR ho1
                        obtain rfl := aftR hra1
                        exact wRet1 hq rfl (fun a w hf hH => resT hf rfl) fun w hH => ⟨rfl, (Holds.shrink (hH.grp 2 [[0]] rfl) (s1.tr s3) hnd0)⟩
                      ·
                        refine wS ?_
                        refine wBn ?_
                        cases hr
                        refine wN (wT ?_)
                        refine wInt rfl rfl rfl rfl rfl ?_
                        refine wMv rfl (evI rfl (i64c ii (by have := hR2.le; omega))) rfl ?_
                        refine wE ?_
                        exact fun a w hf hH => ⟨n, (), Nat.lt_succ_self n, ii + 1, by omega, hf.sub _ rfl, hH, ho2⟩
                  ·
                    rintro a w ⟨s4, hf, hH, hbn⟩
                    have hr := aftS hra2 hbn
                    refine jX hf hH ?_
                    clear hf hH a w
                    refine wBn ?_
                    cases hr
                    refine wN (wT ?_)
                    refine wInt rfl rfl rfl rfl rfl ?_
                    refine wMv rfl (evI rfl (i64c i (by have := hRp1.le; omega))) rfl ?_
                    refine wE ?_
                    exact fun a w hf hH => ⟨n, (y6, y7), Nat.lt_succ_self n, i + 1, C2, _, v3, by omega, hf.sub _ rfl, hH, (s1.tr s3), hB4, hR2, ho1⟩
      ·
        rintro a w ⟨s2, C1, h2, v2, hf, hH, s1, hB3, hR1, hbn⟩
        have hr := aftS hra1 hbn
        refine jX hf hH ?_
        clear hf hH a w
        refine wN ?_
        refine wSq ?_
        refine wT ?_
        refine wMv rfl rfl rfl ?_
        refine wInt rfl rfl rfl rfl rfl ?_
        refine wAs rfl rfl rfl ?_
        refine wE ?_
        refine wN ?_
        cases hr
        exact wRet1 hq rfl (fun a w hf hH => resT hf rfl) fun w hH => ⟨rfl, (Holds.shrink (hH.grp 2 [[0]] rfl) s1 hnd0)⟩

theorem law21_TableTexts_w {E : Env} {w : World} {Fs : List HL} {C0 : HL} {vp0 : Value} {p0 : (List api_Prefix)} {p1 : ByteArray} {r : Bool} (hr : law21_TableTexts p0 p1 = some r) (hRp0 : Rd C0 enc_api_Prefix vp0 p0) (hH : Holds E w (C0 :: Fs)) :
    BK.Spec Try.prog 5 [vp0, .string p1] w fun v w' => v = .bool r ∧ Holds E w' (C0 :: Fs) := by
  unfold law21_TableTexts at hr
  have hnd0 := hH.nd0
  refine ent Try.func5 rfl hH fun Q _ hq => ?_
  refine wF [(0, vp0), (1, .string p1)] rfl ?_
  refine wSq ?_
  refine wT ?_
  refine wAs rfl rfl rfl ?_
  refine wE ?_
  refine wN ?_
  refine wSq ?_
  refine wSq ?_
  refine wT ?_
  obtain ⟨r1, hr1, hr⟩ := bdS hr
  refine wCl rfl (gd0 rfl) rfl rfl ck_14 (fun w hH => law21_awake_w hr1 hH) ?_
  rintro _ w ⟨rfl, hH⟩
  refine ⟨_, hH, rn0, ?_⟩
  refine wNt rfl rfl rfl ?_
  refine wMv rfl rfl rfl ?_
  refine wG rfl rfl rfl rfl rfl rfl rfl rfl (fun hc a hf => rMv hf rfl) ?_
  refine wG rfl rfl rfl rfl rfl rfl rfl rfl (fun hc a hf => rLenR hf (evg rfl hc) hRp0 rfl se_44) ?_
  refine wG rfl rfl rfl rfl rfl rfl rfl rfl (fun hc a hf => rInt hf (evg rfl hc) rfl rfl) ?_
  refine wY rfl rfl rfl rfl (fun a hf => rOr hf rfl rfl rfl) ?_
  refine wE ?_
  refine wN ?_
  refine wIf2 rfl hr (fun hc1 hr => ?_) (fun hc1 hr => ?_)
  ·
    refine wSq ?_
    refine wT ?_
    obtain ⟨r2, hr2, hr⟩ := bdS hr
    refine wCl rfl (gd0 rfl) rfl rfl ck_14 (fun w hH => law21_awake_w hr2 hH) ?_
    rintro _ w ⟨rfl, hH⟩
    refine ⟨_, hH, rn0, ?_⟩
    refine wAs rfl rfl rfl ?_
    refine wE ?_
    refine wN ?_
    cases hr
    exact wRet1 hq rfl (fun a w hf hH => resT hf rfl) fun w hH => ⟨rfl, (hH.grp 1 [[0]] rfl)⟩
  ·
    refine wS ?_
    refine wN ?_
    refine wSq ?_
    refine wT ?_
    obtain ⟨r3, hr3, hr⟩ := bdS hr
    refine wCl rfl (gd0 rfl) rfl rfl ck_26 (fun w hH => table_New_string_w hr3 hH) ?_
    rintro _ w ⟨pn1, h1, rfl, hH, hB1⟩
    refine ⟨_, hH, rn0, ?_⟩
    refine wMv rfl rfl rfl ?_
    refine wEx rfl rfl rfl rfl ?_
    refine wEx rfl rfl rfl rfl ?_
    refine wAs rfl rfl rfl ?_
    refine wAs rfl rfl rfl ?_
    refine wE ?_
    refine wN ?_
    refine wSq ?_
    refine wT ?_
    refine wAs rfl rfl rfl ?_
    refine wE ?_
    refine wN ?_
    refine wSq ?_
    refine wSq ?_
    refine wT ?_
    refine wMv rfl rfl rfl ?_
    refine wY rfl rfl rfl rfl (fun a hf => rLenR hf rfl hRp0 rfl se_44) ?_
    refine wMv rfl rfl rfl ?_
    refine wE ?_
    refine wN ?_
    obtain ⟨y1, hy1, hr⟩ := bdS hr
    obtain ⟨b1, rfl, hB2⟩ := hB1.res hy1
    obtain ⟨o1, ho1, hra1⟩ := bdS hr
    refine wJ1 (fun a w => ∃ (s2 : (table_Table_string × (List ref21_Entry))) (C1 : HL) (h2 : HL) (v1 : Value), Fr a 111 [(0, vp0), (1, .string p1), (5, ptr b1 0), (7, v1)] ∧ Holds E w (C1 :: h2 :: Fs) ∧ Sub C0 C1 ∧ ob_table_Table_string b1 s2.1 h2 ∧ Rd C1 enc_ref21_Entry v1 s2.2 ∧ (o1 = .brk s2 ∨ o1 = .nxt s2)) ?_ ?_
    ·
      refine wLp (α := (table_Table_string × (List ref21_Entry))) (fun n (s2 : (table_Table_string × (List ref21_Entry))) a w => ∃ (i : Nat) (C1 : HL) (h2 : HL) (v1 : Value), i + n = p0.length ∧ Fr a 111 [(0, vp0), (1, .string p1), (5, ptr b1 0), (7, v1), (26, .int .i64 (p0.length : Int)), (27, .int .i64 (i : Int))] ∧ Holds E w (C1 :: h2 :: Fs) ∧ Sub C0 C1 ∧ ob_table_Table_string b1 s2.1 h2 ∧ Rd C1 enc_ref21_Entry v1 s2.2 ∧ forN (law21_TableTexts_b1 p0 p1) n i s2 = some o1) (n := p0.length) (s := (y1, [])) (fun a w hf hH => ⟨0, C0, _, (.slice none 0 0), by simp, hf.sub _ rfl, (hH.grp 2 [[1], [0]] rfl), Sub.rfl, hB2, (Rd.nil _ _), ho1⟩) ?_
      rintro n s2 a w ⟨i, C1, h2, v1, hi, hf, hH, s1, hB3, hR1, ho1⟩
      refine jI hf hH ?_
      clear hf hH a w
      refine wSq (wT ?_)
      refine wInt rfl rfl rfl rfl rfl ?_
      refine wE ?_
      refine wN ?_
      refine wSq (wIf rfl (fun hc => ?_) (fun hc => ?_))
      rotate_left
      · obtain rfl : n = 0 := by simp at hc; omega
        cases ho1
        refine wX (wXt (wXt (wXh ?_)))
        exact fun a w hf hH => ⟨s2, C1, h2, v1, hf.sub _ rfl, hH, s1, hB3, hR1, .inr rfl⟩
      refine wS (wN ?_)
      obtain ⟨n, rfl⟩ : ∃ m, n = m + 1 := ⟨n - 1, by simp at hc; omega⟩
      obtain ⟨o2, hr, ho1⟩ := bdS ho1
      unfold law21_TableTexts_b1 at hr
      refine wSq ?_
      refine wB ?_
      refine wSq ?_
      refine wT ?_
      refine wMv rfl rfl rfl ?_
      refine wAs rfl rfl rfl ?_
      refine wE ?_
      refine wN ?_
      refine wSq ?_
      refine wT ?_
      refine wMv rfl rfl rfl ?_
      refine wMv rfl rfl rfl ?_
      refine wMv rfl rfl rfl ?_
      obtain ⟨e6, he6, hr⟩ := bdS hr
      obtain ⟨b7, me6, hE6, hI6⟩ := hRp0.at (k := 8) (fun _ => rfl) he6
      refine wIxO rfl rfl rfl se_44 hI6 rfl ?_
      refine wLsE (enc_api_Prefix e6) (off := 0) rfl rfl hE6 ag_42 sz_42 ((inJ 0 rfl).sub s1) rfl rfl rfl ?_
      refine wMv rfl rfl rfl ?_
      obtain ⟨r14, hr14, hr⟩ := bdS hr
      refine wCl rfl (gd0 rfl) rfl rfl ck_27 (fun w hH => table_Table_string_Put_w hr14 hB3 (hH.grp 2 [[1], [0]] rfl)) ?_
      rintro _ w ⟨h7, rfl, hH, hB8⟩
      refine ⟨_, hH, rn0, ?_⟩
      refine wE ?_
      refine wN ?_
      refine wT ?_
      refine wMv rfl rfl rfl ?_
      refine wMv rfl rfl rfl ?_
      refine wMv rfl rfl rfl ?_
      obtain ⟨e7, he7, hr⟩ := bdS hr
      obtain ⟨b8, me7, hE7, hI7⟩ := hRp0.at (k := 8) (fun _ => rfl) he7
      refine wIxO rfl rfl rfl se_44 hI7 rfl ?_
      refine wLsE (enc_api_Prefix e7) (off := 0) rfl rfl hE7 ag_42 sz_42 ((inJ 1 rfl).sub s1) rfl rfl rfl ?_
      obtain ⟨r15, hr15, hr⟩ := bdS hr
      refine wCl rfl (gd0 rfl) rfl rfl ck_22 (fun w hH => ref21_Put_w hr15 hR1 (hH.grp 2 [[1], [0]] rfl)) ?_
      rintro _ w ⟨C4, v7, rfl, hH, s6, hR4⟩
      refine ⟨_, hH, rn0, ?_⟩
      refine wMv rfl rfl rfl ?_
      refine wEx rfl rfl rfl rfl ?_
      refine wEx rfl rfl rfl rfl ?_
      refine wAs rfl rfl rfl ?_
      refine wE ?_
      refine wBn ?_
      cases hr
      refine wN (wT ?_)
      refine wInt rfl rfl rfl rfl rfl ?_
      refine wMv rfl (evI rfl (i64c i (by have := hRp0.le; omega))) rfl ?_
      refine wE ?_
      exact fun a w hf hH => ⟨n, (r14.1, r15.1), Nat.lt_succ_self n, i + 1, C4, _, v7, by omega, hf.sub _ rfl, hH, (s1.tr s6), hB8, hR4, ho1⟩
    ·
      rintro a w ⟨s2, C1, h2, v1, hf, hH, s1, hB3, hR1, hbn⟩
      have hr := aftS hra1 hbn
      refine jX hf hH ?_
      clear hf hH a w
      refine wN ?_
      refine wSq ?_
      refine wSq ?_
      refine wT ?_
      refine wMv rfl rfl rfl ?_
      obtain ⟨r4, hr4, hr⟩ := bdS hr
      refine wCl rfl (gd0 rfl) rfl rfl ck_28 (fun w hH => table_Table_string_All_w hr4 hB3 (hH.grp 2 [[1], [0]] rfl)) ?_
      rintro _ w ⟨v2, c1, hV, hH, hO1⟩
      obtain rfl := hV.symm
      refine ⟨_, hH, rn0, ?_⟩
      refine wMv rfl rfl rfl ?_
      obtain ⟨r5, hr5, hr⟩ := bdS hr
      refine wCl rfl (gd0 rfl) rfl rfl ck_25 (fun w hH => ref21_Prefixes_w hr5 hR1 (hH.grp 3 [[2], [0], [1]] rfl)) ?_
      rintro _ w ⟨v3, c2, hV, hH, hO2⟩
      obtain rfl := hV.symm
      refine ⟨_, hH, rn0, ?_⟩
      obtain ⟨r6, hr6, hr⟩ := bdS hr
      refine wCl rfl (gd0 rfl) rfl rfl ck_24 (fun w hH => ref21_Same_w hr6 (hO1.rd.mono Sub.l) (hO2.rd.mono (Sub.r Sub.l)) (hH.grp 4 [[3, 1], [0], [2]] rfl)) ?_
      rintro _ w ⟨rfl, hH⟩
      refine ⟨_, (hH.opn 0 [c1, c2] rfl), rn0, ?_⟩
      refine wNt rfl rfl rfl ?_
      refine wE ?_
      refine wN ?_
      refine wIf2 rfl hr (fun hc2 hr => ?_) (fun hc2 hr => ?_)
      ·
        refine wSq ?_
        refine wT ?_
        refine wAs rfl rfl rfl ?_
        refine wE ?_
        refine wN ?_
        cases hr
        exact wRet1 hq rfl (fun a w hf hH => resT hf rfl) fun w hH => ⟨rfl, (Holds.shrink (hH.grp 5 [[3]] rfl) s1 hnd0)⟩
      ·
        refine wS ?_
        refine wN ?_
        refine wSq ?_
        refine wSq ?_
        refine wT ?_
        refine wMv rfl rfl rfl ?_
        refine wY rfl rfl rfl rfl (fun a hf => rLenR hf rfl hRp0 rfl se_44) ?_
        refine wMv rfl rfl rfl ?_
        refine wE ?_
        refine wN ?_
        obtain ⟨o3, ho2, hra2⟩ := bdS hr
        refine wJ1 (fun a w => ∃ (s4 : (table_Table_string × (List ref21_Entry))) (C2 : HL) (h3 : HL) (v4 : Value), Fr a 111 [(5, ptr b1 0)] ∧ Holds E w (C2 :: h3 :: Fs) ∧ Sub C1 C2 ∧ ob_table_Table_string b1 s4.1 h3 ∧ Rd C2 enc_ref21_Entry v4 s4.2 ∧ (o3 = .brk s4 ∨ o3 = .nxt s4)) ?_ ?_
        ·
          refine wLp (α := (table_Table_string × (List ref21_Entry))) (fun n (s4 : (table_Table_string × (List ref21_Entry))) a w => ∃ (i : Nat) (C2 : HL) (h3 : HL) (v4 : Value), i + n = p0.length ∧ Fr a 111 [(0, vp0), (1, .string p1), (5, ptr b1 0), (7, v4), (54, .int .i64 (p0.length : Int)), (55, .int .i64 (i : Int))] ∧ Holds E w (C2 :: h3 :: Fs) ∧ Sub C1 C2 ∧ ob_table_Table_string b1 s4.1 h3 ∧ Rd C2 enc_ref21_Entry v4 s4.2 ∧ forN (law21_TableTexts_b2 p0 p1) n i s4 = some o3) (n := p0.length) (s := (s2.1, s2.2)) (fun a w hf hH => ⟨0, C1, _, v1, by simp, hf.sub _ rfl, (hH.grp 5 [[3], [4]] rfl), Sub.rfl, hB3, hR1, ho2⟩) ?_
          rintro n s4 a w ⟨i, C2, h3, v4, hi, hf, hH, s3, hB4, hR2, ho2⟩
          refine jI hf hH ?_
          clear hf hH a w
          refine wSq (wT ?_)
          refine wInt rfl rfl rfl rfl rfl ?_
          refine wE ?_
          refine wN ?_
          refine wSq (wIf rfl (fun hc => ?_) (fun hc => ?_))
          rotate_left
          · obtain rfl : n = 0 := by simp at hc; omega
            cases ho2
            refine wX (wXt (wXt (wXh ?_)))
            exact fun a w hf hH => ⟨s4, C2, h3, v4, hf.sub _ rfl, hH, s3, hB4, hR2, .inr rfl⟩
          refine wS (wN ?_)
          obtain ⟨n, rfl⟩ : ∃ m, n = m + 1 := ⟨n - 1, by simp at hc; omega⟩
          obtain ⟨o4, hr, ho2⟩ := bdS ho2
          unfold law21_TableTexts_b2 at hr
          refine wSq ?_
          refine wB ?_
          refine wSq ?_
          refine wT ?_
          refine wMv rfl rfl rfl ?_
          refine wAs rfl rfl rfl ?_
          refine wE ?_
          refine wN ?_
          refine wSq ?_
          refine wT ?_
          refine wMv rfl rfl rfl ?_
          refine wMv rfl rfl rfl ?_
          refine wMv rfl rfl rfl ?_
          obtain ⟨e1, he1, hr⟩ := bdS hr
          obtain ⟨b2, me1, hE1, hI1⟩ := hRp0.at (k := 8) (fun _ => rfl) he1
          refine wIxO rfl rfl rfl se_44 hI1 rfl ?_
          refine wLsE (enc_api_Prefix e1) (off := 0) rfl rfl hE1 ag_42 sz_42 ((inJ 0 rfl).sub (s1.tr s3)) rfl rfl rfl ?_
          obtain ⟨r9, hr9, hr⟩ := bdS hr
          refine wCl rfl (gd0 rfl) rfl rfl ck_29 (fun w hH => table_Table_string_Get_w hr9 hB4 (hH.grp 2 [[1], [0]] rfl)) ?_
          rintro _ w ⟨rfl, hH⟩
          refine ⟨_, hH, rn0, ?_⟩
          refine wMv rfl rfl rfl ?_
          refine wEx rfl rfl rfl rfl ?_
          refine wEx rfl rfl rfl rfl ?_
          refine wAs rfl rfl rfl ?_
          refine wAs rfl rfl rfl ?_
          refine wE ?_
          refine wN ?_
          refine wSq ?_
          refine wT ?_
          refine wMv rfl rfl rfl ?_
          refine wMv rfl rfl rfl ?_
          refine wMv rfl rfl rfl ?_
          obtain ⟨e2, he2, hr⟩ := bdS hr
          obtain ⟨b3, me2, hE2, hI2⟩ := hRp0.at (k := 8) (fun _ => rfl) he2
          refine wIxO rfl rfl rfl se_44 hI2 rfl ?_
          refine wLsE (enc_api_Prefix e2) (off := 0) rfl rfl hE2 ag_42 sz_42 ((inJ 1 rfl).sub (s1.tr s3)) rfl rfl rfl ?_
          obtain ⟨r10, hr10, hr⟩ := bdS hr
          refine wCl rfl (gd0 rfl) rfl rfl ck_20 (fun w hH => ref21_Find_w hr10 hR2 (hH.grp 2 [[1], [0]] rfl)) ?_
          rintro _ w ⟨rfl, hH⟩
          refine ⟨_, hH, rn0, ?_⟩
          refine wInt rfl rfl rfl rfl rfl ?_
          refine wAs rfl rfl rfl ?_
          refine wE ?_
          refine wN ?_
          refine wSq ?_
          refine wJ (fun a w => ∃ (y7 : table_Table_string) (y8 : Bool) (h4 : HL), Fr a 111 [(0, vp0), (1, .string p1), (5, ptr b1 0), (7, v4), (9, .int .i64 (i : Int)), (54, .int .i64 (p0.length : Int)), (55, .int .i64 (i : Int)), (94, .bool y8)] ∧ Holds E w (C2 :: h4 :: Fs) ∧ ob_table_Table_string b1 y7 h4 ∧ law21_TableTexts_k2 p0 s4 i y7 y8 = some o4) ?_ ?_
          ·
            refine wT ?_
            refine wMv rfl rfl rfl ?_
            refine wMv rfl rfl rfl ?_
            refine wY rfl rfl rfl rfl (fun a hf => rBooN hf rfl rfl ub_4) ?_
            refine wMv rfl rfl rfl ?_
            refine spl hr (fun hc5 hr => ?_) (fun hc5 hr => ?_)
            ·
              refine wGn rfl rfl rfl rfl rfl hc5 rfl rfl ?_
              refine wGn rfl rfl rfl rfl rfl hc5 rfl rfl ?_
              refine wGnU rfl rfl rfl rfl rfl rfl rfl ?_
              refine wGnU rfl rfl rfl rfl rfl rfl rfl ?_
              refine wGnU rfl rfl rfl rfl rfl rfl rfl ?_
              refine wGn rfl rfl rfl rfl rfl hc5 rfl rfl ?_
              refine wY rfl rfl rfl rfl (fun a hf => rPkT hf rfl hc5 rfl) ?_
              refine wMv rfl rfl rfl ?_
              refine wGn rfl rfl rfl rfl rfl rfl rfl rfl ?_
              refine wGn rfl rfl rfl rfl rfl rfl rfl rfl ?_
              refine wGn rfl rfl rfl rfl rfl rfl rfl rfl ?_
              refine wGn rfl rfl rfl rfl rfl rfl rfl rfl ?_
              refine wGn rfl rfl rfl rfl rfl rfl rfl rfl ?_
              refine wGe rfl rfl rfl rfl rfl rfl rfl rfl rn0 ?_
              refine wGn rfl rfl rfl rfl rfl rfl rfl rfl ?_
              refine wGn rfl rfl rfl rfl rfl rfl rfl rfl ?_
              refine wY rfl rfl rfl rfl (fun a hf => rPkT hf rfl rfl rfl) ?_
              refine wE ?_
              exact fun a w hf hH => ⟨s4.1, true, _, hf.sub _ rfl, hH, hB4, hr⟩
            ·
              refine wGt rfl rfl rfl rfl rfl hc5 rfl rfl (fun a hf => rMv hf rfl) ?_
              refine wGt rfl rfl rfl rfl rfl hc5 rfl rfl (fun a hf => rMv hf rfl) ?_
              refine spl hr (fun hc6 hr => ?_) (fun hc6 hr => ?_)
              ·
                refine wGt rfl rfl rfl rfl rfl hc6 rfl rfl (fun a hf => rMv hf rfl) ?_
                refine wGt rfl rfl rfl rfl rfl hc6 rfl rfl (fun a hf => rMv hf rfl) ?_
                refine wGt rfl rfl rfl rfl rfl hc6 rfl rfl (fun a hf => rStrN hf rfl rfl) ?_
                refine wGt rfl rfl rfl rfl rfl hc5 rfl rfl (fun a hf => rPkT hf rfl hc6 rfl) ?_
                refine wY rfl rfl rfl rfl (fun a hf => rPkF hf rfl hc5 rfl) ?_
                refine wMv rfl rfl rfl ?_
                refine spl hr (fun hc7 hr => ?_) (fun hc7 hr => ?_)
                ·
                  refine wGn rfl rfl rfl rfl rfl hc7 rfl rfl ?_
                  refine wGn rfl rfl rfl rfl rfl hc7 rfl rfl ?_
                  refine wGn rfl rfl rfl rfl rfl hc7 rfl rfl ?_
                  refine wGn rfl rfl rfl rfl rfl hc7 rfl rfl ?_
                  refine wGn rfl rfl rfl rfl rfl hc7 rfl rfl ?_
                  refine wGe rfl rfl rfl rfl rfl hc7 rfl rfl rn0 ?_
                  refine wGn rfl rfl rfl rfl rfl hc7 rfl rfl ?_
                  refine wGn rfl rfl rfl rfl rfl hc7 rfl rfl ?_
                  refine wY rfl rfl rfl rfl (fun a hf => rPkT hf rfl hc7 rfl) ?_
                  refine wE ?_
                  exact fun a w hf hH => ⟨s4.1, true, _, hf.sub _ rfl, hH, hB4, hr⟩
                ·
                  refine wGt rfl rfl rfl rfl rfl hc7 rfl rfl (fun a hf => rMv hf rfl) ?_
                  refine wGt rfl rfl rfl rfl rfl hc7 rfl rfl (fun a hf => rMv hf rfl) ?_
                  refine wGt rfl rfl rfl rfl rfl hc7 rfl rfl (fun a hf => rMv hf rfl) ?_
                  obtain ⟨e4, he4, hr⟩ := bdS hr
                  obtain ⟨b5, me4, hE4, hI4⟩ := hRp0.at (k := 8) (fun _ => rfl) he4
                  refine wGt rfl rfl rfl rfl rfl hc7 rfl rfl (fun a hf => rIxO hf rfl rfl se_44 hI4) ?_
                  refine wGtr rfl rfl rfl rfl rfl hc7 rfl rfl ((inJ 0 rfl).sub (s1.tr s3)) (fun a hf cs hC => rLsI (off := 0) (vs := (enc_api_Prefix e4)) hf rfl hE4 ag_42 sz_42 hC rfl rfl) ?_
                  obtain ⟨r12, hr12, hr⟩ := bdS hr
                  refine wCl rfl (gd1 rfl rfl rfl rfl hc7) rfl rfl ck_30 (fun w hH => table_Table_string_Del_w hr12 hB4 (hH.grp 2 [[1], [0]] rfl)) ?_
                  rintro _ w ⟨h5, rfl, hH, hB6⟩
                  refine ⟨_, hH, rn0, ?_⟩
                  refine wGt rfl rfl rfl rfl rfl hc7 rfl rfl (fun a hf => rMv hf rfl) ?_
                  refine wGt rfl rfl rfl rfl rfl hc7 rfl rfl (fun a hf => rBooN hf rfl rfl ub_4) ?_
                  refine wY rfl rfl rfl rfl (fun a hf => rPkF hf rfl hc7 rfl) ?_
                  refine wE ?_
                  exact fun a w hf hH => ⟨r12.1, (r12.2 != (decide (r10 ≥ 0))), _, hf.sub _ rfl, (hH.grp 2 [[1], [0]] rfl), hB6, hr⟩
              ·
                refine wGn rfl rfl rfl rfl rfl hc6 rfl rfl ?_
                refine wGn rfl rfl rfl rfl rfl hc6 rfl rfl ?_
                refine wGn rfl rfl rfl rfl rfl hc6 rfl rfl ?_
                refine wGt rfl rfl rfl rfl rfl hc5 rfl rfl (fun a hf => rPkF hf rfl hc6 rfl) ?_
                refine wY rfl rfl rfl rfl (fun a hf => rPkF hf rfl hc5 rfl) ?_
                refine wMv rfl rfl rfl ?_
                refine wGt rfl rfl rfl rfl rfl rfl rfl rfl (fun a hf => rMv hf rfl) ?_
                refine wGt rfl rfl rfl rfl rfl rfl rfl rfl (fun a hf => rMv hf rfl) ?_
                refine wGt rfl rfl rfl rfl rfl rfl rfl rfl (fun a hf => rMv hf rfl) ?_
                obtain ⟨e5, he5, hr⟩ := bdS hr
                obtain ⟨b6, me5, hE5, hI5⟩ := hRp0.at (k := 8) (fun _ => rfl) he5
                refine wGt rfl rfl rfl rfl rfl rfl rfl rfl (fun a hf => rIxO hf rfl rfl se_44 hI5) ?_
                refine wGtr rfl rfl rfl rfl rfl rfl rfl rfl ((inJ 0 rfl).sub (s1.tr s3)) (fun a hf cs hC => rLsI (off := 0) (vs := (enc_api_Prefix e5)) hf rfl hE5 ag_42 sz_42 hC rfl rfl) ?_
                obtain ⟨r13, hr13, hr⟩ := bdS hr
                refine wCl rfl (gd1 rfl rfl rfl rfl rfl) rfl rfl ck_30 (fun w hH => table_Table_string_Del_w hr13 hB4 (hH.grp 2 [[1], [0]] rfl)) ?_
                rintro _ w ⟨h6, rfl, hH, hB7⟩
                refine ⟨_, hH, rn0, ?_⟩
                refine wGt rfl rfl rfl rfl rfl rfl rfl rfl (fun a hf => rMv hf rfl) ?_
                refine wGt rfl rfl rfl rfl rfl rfl rfl rfl (fun a hf => rBooN hf rfl rfl ub_4) ?_
                refine wY rfl rfl rfl rfl (fun a hf => rPkF hf rfl rfl rfl) ?_
                refine wE ?_
                exact fun a w hf hH => ⟨r13.1, (r13.2 != (decide (r10 ≥ 0))), _, hf.sub _ rfl, (hH.grp 2 [[1], [0]] rfl), hB7, hr⟩
          ·
            rintro a w ⟨y7, y8, h4, hf, hH, hB5, hr⟩
            refine jI hf hH ?_
            clear hf hH a w
            unfold law21_TableTexts_k2 at hr
            refine wIf2 rfl hr (fun hc4 hr => ?_) (fun hc4 hr => ?_)
            ·
              refine wSq ?_
              refine wT ?_
              refine wAs rfl rfl rfl ?_
              refine wE ?_
              refine wN ?_
              cases hr
              obtain rfl := stpR ho2
              obtain rfl := aftR hra2
              exact wRet1 hq rfl (fun a w hf hH => resT hf rfl) fun w hH => ⟨rfl, (Holds.shrink (hH.grp 2 [[0]] rfl) (s1.tr s3) hnd0)⟩
            ·
              refine wS ?_
              refine wN ?_
              refine wT ?_
              refine wMv rfl rfl rfl ?_
              refine wMv rfl rfl rfl ?_
              refine wMv rfl rfl rfl ?_
              obtain ⟨e3, he3, hr⟩ := bdS hr
              obtain ⟨b4, me3, hE3, hI3⟩ := hRp0.at (k := 8) (fun _ => rfl) he3
              refine wIxO rfl rfl rfl se_44 hI3 rfl ?_
              refine wLsE (enc_api_Prefix e3) (off := 0) rfl rfl hE3 ag_42 sz_42 ((inJ 0 rfl).sub (s1.tr s3)) rfl rfl rfl ?_
              obtain ⟨r11, hr11, hr⟩ := bdS hr
              refine wCl rfl (gd0 rfl) rfl rfl ck_23 (fun w hH => ref21_Del_w hr11 hR2 hH) ?_
              rintro _ w ⟨C3, v6, hV, hH, s5, hR3⟩
              obtain rfl := hV.symm
              refine ⟨_, hH, rn0, ?_⟩
              refine wAs rfl rfl rfl ?_
              refine wE ?_
              refine wBn ?_
              cases hr
              refine wN (wT ?_)
              refine wInt rfl rfl rfl rfl rfl ?_
              refine wMv rfl (evI rfl (i64c i (by have := hRp0.le; omega))) rfl ?_
              refine wE ?_
              exact fun a w hf hH => ⟨n, (y7, r11), Nat.lt_succ_self n, i + 1, C3, _, v6, by omega, hf.sub _ rfl, hH, (s3.tr s5), hB5, hR3, ho2⟩
        ·
          rintro a w ⟨s4, C2, h3, v4, hf, hH, s3, hB4, hR2, hbn⟩
          have hr := aftS hra2 hbn
          refine jX hf hH ?_
          clear hf hH a w
          refine wN ?_
          refine wJ (fun a w => ∃ (y6 : Bool), Fr a 111 [(4, .bool y6)] ∧ Holds E w (C2 :: Fs) ∧ law21_TableTexts_k1 y6 = some r) ?_ ?_
          ·
            refine wT ?_
            refine wMv rfl rfl rfl ?_
            obtain ⟨r7, hr7, hr⟩ := bdS hr
            refine wCl rfl (gd0 rfl) rfl rfl ck_31 (fun w hH => table_Table_string_Len_w hr7 hB4 (hH.grp 2 [[1], [0]] rfl)) ?_
            rintro _ w ⟨rfl, hH⟩
            refine ⟨_, hH, rn0, ?_⟩
            refine wInt rfl rfl rfl rfl rfl ?_
            refine wMv rfl rfl rfl ?_
            refine spl hr (fun hc3 hr => ?_) (fun hc3 hr => ?_)
            ·
              refine wGt rfl rfl rfl rfl rfl hc3 rfl rfl (fun a hf => rMv hf rfl) ?_
              obtain ⟨r8, hr8, hr⟩ := bdS hr
              refine wCl rfl (gd1 rfl rfl rfl rfl hc3) rfl rfl ck_28 (fun w hH => table_Table_string_All_w hr8 hB4 hH) ?_
              rintro _ w ⟨v5, c3, hV, hH, hO3⟩
              obtain rfl := hV.symm
              refine ⟨_, hH, rn0, ?_⟩
              refine wGt rfl rfl rfl rfl rfl hc3 rfl rfl (fun a hf => rLenR hf rfl hO3.rd rfl se_44) ?_
              refine wGt rfl rfl rfl rfl rfl hc3 rfl rfl (fun a hf => rInt hf rfl rfl rfl) ?_
              refine wY rfl rfl rfl rfl (fun a hf => rPkT hf rfl hc3 rfl) ?_
              refine wAs rfl rfl rfl ?_
              refine wE ?_
              exact fun a w hf hH => ⟨((r8.length : Int) == 0), hf.sub _ rfl, (hH.grp 3 [[2]] rfl), hr⟩
            ·
              refine wGn rfl rfl rfl rfl rfl hc3 rfl rfl ?_
              refine wGe rfl rfl rfl rfl rfl hc3 rfl rfl rn0 ?_
              refine wGn rfl rfl rfl rfl rfl hc3 rfl rfl ?_
              refine wGn rfl rfl rfl rfl rfl hc3 rfl rfl ?_
              refine wY rfl rfl rfl rfl (fun a hf => rPkF hf rfl hc3 rfl) ?_
              refine wAs rfl rfl rfl ?_
              refine wE ?_
              exact fun a w hf hH => ⟨false, hf.sub _ rfl, (hH.grp 2 [[1]] rfl), hr⟩
          ·
            rintro a w ⟨y6, hf, hH, hr⟩
            refine jI hf hH ?_
            clear hf hH a w
            unfold law21_TableTexts_k1 at hr
            cases hr
            exact wRet1 hq rfl (fun a w hf hH => resT hf rfl) fun w hH => ⟨rfl, (Holds.shrink (hH.grp 1 [[0]] rfl) (s1.tr s3) hnd0)⟩
end Go.Proofs
