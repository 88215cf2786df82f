/- Walks of the functions of package table: each shows that the code comes to what a plain Lean function gives. Printed by a program of mine. Own work for this claim. -/
import Derived.Test.YtlbbpajjfhmfjaaG0
import Derived.Test.YtlbbpajjfhmfjaaGlib
import Derived.Test.YtlbbpajjfhmfjaaGsip
set_option linter.unusedVariables false
set_option maxRecDepth 100000
namespace Go.Proofs
open Go.BK
def table_New_int (p0 : Int) : Option ((Option table_Table_int) × Int) :=
  sel ((decide (p0 < 1)) || (decide (p0 > 64))) (some (none, 1)) (ck (decide (0 ≤ (IntKind.i64.wrap (2 * p0))) && decide ((IntKind.i64.wrap (2 * p0)) ≤ (IntKind.i64.wrap (2 * p0))) && decide ((IntKind.i64.wrap (2 * p0)) ≤ 4294967296) && Nat.ble 24 65536) (some ((some (⟨(List.replicate (IntKind.i64.wrap (2 * p0)).toNat z_table_place_int), p0, 0⟩ : table_Table_int)), 0)))
def table_bytesOf_k1 (p0 : api_Prefix) (y1 : Int) : Option (List Int) :=
  ck (decide (([y1].length + (Tup.list 7 p0.Addr).length) * 1 ≤ 140737488355328)) (some ([y1] ++ (Tup.list 7 p0.Addr)))
def table_bytesOf (p0 : api_Prefix) : Option (List Int) :=
  sel p0.V6 (table_bytesOf_k1 p0 1) (table_bytesOf_k1 p0 0)
instance : Inhabited api_Prefix := ⟨z_api_Prefix⟩
def pbytes (p : api_Prefix) : List Int := (if p.V6 then 1 else 0) :: Tup.list 7 p.Addr
def pcf (x y : api_Prefix) : Int := bcmp (pbytes x) (pbytes y)
def sortP (xs : List api_Prefix) : List api_Prefix := sortK pcf xs
def table_Table_int_find_k1 (p0 : table_Table_int) (x2 : Int) (y2 : Int) : Option (Out (Int × Int) Int) :=
  bd (ix p0.l x2) fun e1 => sel (e1.state == 0) (some (.brk y2)) (some (.nxt y2))
def table_Table_int_find_b1 (p0 : table_Table_int) (p1 : api_Prefix) (x1 : Int) (i : Nat) (s1 : Int) : Option (Out (Int × Int) Int) :=
  ck ((p0.l.length : Int) != 0) (nm ((Int.tmod (IntKind.i64.wrap ((IntKind.i64.wrap x1) + (i : Int))) (p0.l.length : Int))) fun x2 => bd (ix p0.l x2) fun e2 => nm (((e2.state == 1) && (decide (e2.p = p1)))) fun x3 => sel x3 (some (.ret (x2, s1))) (sel ((e2.state != 1) && (decide (s1 < 0))) (table_Table_int_find_k1 p0 x2 x2) (table_Table_int_find_k1 p0 x2 s1)))
def table_Table_int_find (p0 : table_Table_int) (p1 : api_Prefix) : Option (Int × Int) :=
  bd (table_bytesOf p1) fun r1 => bd (sip_Sum (Tup.rep 0 16) ([r1] : List (List Int))) fun r2 => ck ((IntKind.u64.wrap (p0.l.length : Int)) != 0) (nm ((Int.tmod r2 (IntKind.u64.wrap (p0.l.length : Int)))) fun x1 => bd (forN (table_Table_int_find_b1 p0 p1 x1) p0.l.length 0 (-1)) fun o1 => aft id (fun (s1 : Int) => some ((-1), s1)) o1)
def table_Table_int_Get (p0 : table_Table_int) (p1 : api_Prefix) : Option (Int × Bool) :=
  bd (table_Table_int_find p0 p1) fun r1 => sel (decide (r1.1 < 0)) (some (0, false)) (bd (ix p0.l r1.1) fun e1 => some (e1.v, true))
def table_Table_int_Put (p0 : table_Table_int) (p1 : api_Prefix) (p2 : Int) : Option (table_Table_int × Bool) :=
  bd (table_Table_int_find p0 p1) fun r1 => sel (decide (r1.1 ≥ 0)) (bd (ix p0.l r1.1) fun e1 => some (({ p0 with l := (p0.l.set r1.1.toNat ({ e1 with v := p2 } : table_place_int)) } : table_Table_int), true)) (sel (p0.n == p0.room) (some (p0, false)) (bd (ix p0.l r1.2) fun e2 => some (({ p0 with l := (p0.l.set r1.2.toNat (⟨1, p1, p2⟩ : table_place_int)), n := (IntKind.i64.wrap (p0.n + 1)) } : table_Table_int), true)))
def table_Table_int_Len (p0 : table_Table_int) : Option Int :=
  some p0.n
def table_Table_int_find_nil (p1 : api_Prefix) : Option (Int × Int) :=
  some ((-1), (-1))
def table_Table_int_Put_nil (p1 : api_Prefix) (p2 : Int) : Option Bool :=
  bd (table_Table_int_find_nil p1) fun r1 => sel (decide (r1.1 ≥ 0)) (none) (some false)
def table_Table_int_Len_nil : Option Int :=
  some 0
def table_Table_int_All_nil : Option (List api_Prefix) :=
  some []
def table_Table_int_Del_nil (p1 : api_Prefix) : Option Bool :=
  bd (table_Table_int_find_nil p1) fun r1 => sel (decide (r1.1 < 0)) (some false) (none)
def table_Table_int_Del_k1 (p0 : table_Table_int) (y1 : (List table_place_int)) : Option (table_Table_int × Bool) :=
  some (({ p0 with l := y1, n := (IntKind.i64.wrap (p0.n - 1)) } : table_Table_int), true)
def table_Table_int_Del (p0 : table_Table_int) (p1 : api_Prefix) : Option (table_Table_int × Bool) :=
  bd (table_Table_int_find p0 p1) fun r1 => sel (decide (r1.1 < 0)) (some (p0, false)) (bd (ix p0.l r1.1) fun e1 => sel ((IntKind.i64.wrap (p0.n - 1)) == 0) (table_Table_int_Del_k1 p0 (List.replicate (p0.l.set r1.1.toNat (⟨2, z_api_Prefix, 0⟩ : table_place_int)).length z_table_place_int)) (table_Table_int_Del_k1 p0 (p0.l.set r1.1.toNat (⟨2, z_api_Prefix, 0⟩ : table_place_int))))
def table_Table_int_All_1 (p0 : api_Prefix) (p1 : api_Prefix) : Option Int :=
  bd (table_bytesOf p0) fun r1 => bd (table_bytesOf p1) fun r2 => bd (bytes_Compare r1 r2) fun r3 => some r3
def table_Table_int_All_b1 (p0 : table_Table_int) (i : Nat) (s1 : (List api_Prefix)) : Option (Out (List api_Prefix) (List api_Prefix)) :=
  bd (ix p0.l (i : Int)) fun e1 => sel (e1.state == 1) (ck (decide ((s1.length + [e1.p].length) * 8 ≤ 140737488355328)) (some (.nxt (s1 ++ [e1.p])))) (some (.nxt s1))
def table_Table_int_All (p0 : table_Table_int) : Option (List api_Prefix) :=
  bd (forN (table_Table_int_All_b1 p0) p0.l.length 0 []) fun o1 => aft id (fun (s1 : (List api_Prefix)) => some (sortP s1)) o1
def table_New_string (p0 : Int) : Option ((Option table_Table_string) × Int) :=
  sel ((decide (p0 < 1)) || (decide (p0 > 64))) (some (none, 1)) (ck (decide (0 ≤ (IntKind.i64.wrap (2 * p0))) && decide ((IntKind.i64.wrap (2 * p0)) ≤ (IntKind.i64.wrap (2 * p0))) && decide ((IntKind.i64.wrap (2 * p0)) ≤ 4294967296) && Nat.ble 32 65536) (some ((some (⟨(List.replicate (IntKind.i64.wrap (2 * p0)).toNat z_table_place_string), p0, 0⟩ : table_Table_string)), 0)))
def table_Table_string_find_k1 (p0 : table_Table_string) (x2 : Int) (y2 : Int) : Option (Out (Int × Int) Int) :=
  bd (ix p0.l x2) fun e1 => sel (e1.state == 0) (some (.brk y2)) (some (.nxt y2))
def table_Table_string_find_b1 (p0 : table_Table_string) (p1 : api_Prefix) (x1 : Int) (i : Nat) (s1 : Int) : Option (Out (Int × Int) Int) :=
  ck ((p0.l.length : Int) != 0) (nm ((Int.tmod (IntKind.i64.wrap ((IntKind.i64.wrap x1) + (i : Int))) (p0.l.length : Int))) fun x2 => bd (ix p0.l x2) fun e2 => nm (((e2.state == 1) && (decide (e2.p = p1)))) fun x3 => sel x3 (some (.ret (x2, s1))) (sel ((e2.state != 1) && (decide (s1 < 0))) (table_Table_string_find_k1 p0 x2 x2) (table_Table_string_find_k1 p0 x2 s1)))
def table_Table_string_find (p0 : table_Table_string) (p1 : api_Prefix) : Option (Int × Int) :=
  bd (table_bytesOf p1) fun r1 => bd (sip_Sum (Tup.rep 0 16) ([r1] : List (List Int))) fun r2 => ck ((IntKind.u64.wrap (p0.l.length : Int)) != 0) (nm ((Int.tmod r2 (IntKind.u64.wrap (p0.l.length : Int)))) fun x1 => bd (forN (table_Table_string_find_b1 p0 p1 x1) p0.l.length 0 (-1)) fun o1 => aft id (fun (s1 : Int) => some ((-1), s1)) o1)
def table_Table_string_Put (p0 : table_Table_string) (p1 : api_Prefix) (p2 : ByteArray) : Option (table_Table_string × Bool) :=
  bd (table_Table_string_find p0 p1) fun r1 => sel (decide (r1.1 ≥ 0)) (bd (ix p0.l r1.1) fun e1 => some (({ p0 with l := (p0.l.set r1.1.toNat ({ e1 with v := p2 } : table_place_string)) } : table_Table_string), true)) (sel (p0.n == p0.room) (some (p0, false)) (bd (ix p0.l r1.2) fun e2 => some (({ p0 with l := (p0.l.set r1.2.toNat (⟨1, p1, p2⟩ : table_place_string)), n := (IntKind.i64.wrap (p0.n + 1)) } : table_Table_string), true)))
def table_Table_string_All_1 (p0 : api_Prefix) (p1 : api_Prefix) : Option Int :=
  bd (table_bytesOf p0) fun r1 => bd (table_bytesOf p1) fun r2 => bd (bytes_Compare r1 r2) fun r3 => some r3
def table_Table_string_All_b1 (p0 : table_Table_string) (i : Nat) (s1 : (List api_Prefix)) : Option (Out (List api_Prefix) (List api_Prefix)) :=
  bd (ix p0.l (i : Int)) fun e1 => sel (e1.state == 1) (ck (decide ((s1.length + [e1.p].length) * 8 ≤ 140737488355328)) (some (.nxt (s1 ++ [e1.p])))) (some (.nxt s1))
def table_Table_string_All (p0 : table_Table_string) : Option (List api_Prefix) :=
  bd (forN (table_Table_string_All_b1 p0) p0.l.length 0 []) fun o1 => aft id (fun (s1 : (List api_Prefix)) => some (sortP s1)) o1
def table_Table_string_Get (p0 : table_Table_string) (p1 : api_Prefix) : Option (ByteArray × Bool) :=
  bd (table_Table_string_find p0 p1) fun r1 => sel (decide (r1.1 < 0)) (some ((⟨#[]⟩ : ByteArray), false)) (bd (ix p0.l r1.1) fun e1 => some (e1.v, true))
def table_Table_string_Del_k1 (p0 : table_Table_string) (y1 : (List table_place_string)) : Option (table_Table_string × Bool) :=
  some (({ p0 with l := y1, n := (IntKind.i64.wrap (p0.n - 1)) } : table_Table_string), true)
def table_Table_string_Del (p0 : table_Table_string) (p1 : api_Prefix) : Option (table_Table_string × Bool) :=
  bd (table_Table_string_find p0 p1) fun r1 => sel (decide (r1.1 < 0)) (some (p0, false)) (bd (ix p0.l r1.1) fun e1 => sel ((IntKind.i64.wrap (p0.n - 1)) == 0) (table_Table_string_Del_k1 p0 (List.replicate (p0.l.set r1.1.toNat (⟨2, z_api_Prefix, (⟨#[]⟩ : ByteArray)⟩ : table_place_string)).length z_table_place_string)) (table_Table_string_Del_k1 p0 (p0.l.set r1.1.toNat (⟨2, z_api_Prefix, (⟨#[]⟩ : ByteArray)⟩ : table_place_string))))
def table_Table_string_Len (p0 : table_Table_string) : Option Int :=
  some p0.n
def table_New_box_entry (p0 : Int) : Option ((Option table_Table_box_entry) × Int) :=
  sel ((decide (p0 < 1)) || (decide (p0 > 64))) (some (none, 1)) (ck (decide (0 ≤ (IntKind.i64.wrap (2 * p0))) && decide ((IntKind.i64.wrap (2 * p0)) ≤ (IntKind.i64.wrap (2 * p0))) && decide ((IntKind.i64.wrap (2 * p0)) ≤ 4294967296) && Nat.ble 32 65536) (some ((some (⟨(List.replicate (IntKind.i64.wrap (2 * p0)).toNat z_table_place_box_entry), p0, 0⟩ : table_Table_box_entry)), 0)))
def table_Table_box_entry_All_1 (p0 : api_Prefix) (p1 : api_Prefix) : Option Int :=
  bd (table_bytesOf p0) fun r1 => bd (table_bytesOf p1) fun r2 => bd (bytes_Compare r1 r2) fun r3 => some r3
def table_Table_box_entry_All_b1 (p0 : table_Table_box_entry) (i : Nat) (s1 : (List api_Prefix)) : Option (Out (List api_Prefix) (List api_Prefix)) :=
  bd (ix p0.l (i : Int)) fun e1 => sel (e1.state == 1) (ck (decide ((s1.length + [e1.p].length) * 8 ≤ 140737488355328)) (some (.nxt (s1 ++ [e1.p])))) (some (.nxt s1))
def table_Table_box_entry_All (p0 : table_Table_box_entry) : Option (List api_Prefix) :=
  bd (forN (table_Table_box_entry_All_b1 p0) p0.l.length 0 []) fun o1 => aft id (fun (s1 : (List api_Prefix)) => some (sortP s1)) o1
def table_Table_box_entry_find_k1 (p0 : table_Table_box_entry) (x2 : Int) (y2 : Int) : Option (Out (Int × Int) Int) :=
  bd (ix p0.l x2) fun e1 => sel (e1.state == 0) (some (.brk y2)) (some (.nxt y2))
def table_Table_box_entry_find_b1 (p0 : table_Table_box_entry) (p1 : api_Prefix) (x1 : Int) (i : Nat) (s1 : Int) : Option (Out (Int × Int) Int) :=
  ck ((p0.l.length : Int) != 0) (nm ((Int.tmod (IntKind.i64.wrap ((IntKind.i64.wrap x1) + (i : Int))) (p0.l.length : Int))) fun x2 => bd (ix p0.l x2) fun e2 => nm (((e2.state == 1) && (decide (e2.p = p1)))) fun x3 => sel x3 (some (.ret (x2, s1))) (sel ((e2.state != 1) && (decide (s1 < 0))) (table_Table_box_entry_find_k1 p0 x2 x2) (table_Table_box_entry_find_k1 p0 x2 s1)))
def table_Table_box_entry_find (p0 : table_Table_box_entry) (p1 : api_Prefix) : Option (Int × Int) :=
  bd (table_bytesOf p1) fun r1 => bd (sip_Sum (Tup.rep 0 16) ([r1] : List (List Int))) fun r2 => ck ((IntKind.u64.wrap (p0.l.length : Int)) != 0) (nm ((Int.tmod r2 (IntKind.u64.wrap (p0.l.length : Int)))) fun x1 => bd (forN (table_Table_box_entry_find_b1 p0 p1 x1) p0.l.length 0 (-1)) fun o1 => aft id (fun (s1 : Int) => some ((-1), s1)) o1)
def table_Table_box_entry_Get (p0 : table_Table_box_entry) (p1 : api_Prefix) : Option (box_entry × Bool) :=
  bd (table_Table_box_entry_find p0 p1) fun r1 => sel (decide (r1.1 < 0)) (some (z_box_entry, false)) (bd (ix p0.l r1.1) fun e1 => some (e1.v, true))
def table_Table_box_entry_Del_k1 (p0 : table_Table_box_entry) (y1 : (List table_place_box_entry)) : Option (table_Table_box_entry × Bool) :=
  some (({ p0 with l := y1, n := (IntKind.i64.wrap (p0.n - 1)) } : table_Table_box_entry), true)
def table_Table_box_entry_Del (p0 : table_Table_box_entry) (p1 : api_Prefix) : Option (table_Table_box_entry × Bool) :=
  bd (table_Table_box_entry_find p0 p1) fun r1 => sel (decide (r1.1 < 0)) (some (p0, false)) (bd (ix p0.l r1.1) fun e1 => sel ((IntKind.i64.wrap (p0.n - 1)) == 0) (table_Table_box_entry_Del_k1 p0 (List.replicate (p0.l.set r1.1.toNat (⟨2, z_api_Prefix, z_box_entry⟩ : table_place_box_entry)).length z_table_place_box_entry)) (table_Table_box_entry_Del_k1 p0 (p0.l.set r1.1.toNat (⟨2, z_api_Prefix, z_box_entry⟩ : table_place_box_entry))))
def table_Table_box_entry_Put (p0 : table_Table_box_entry) (p1 : api_Prefix) (p2 : box_entry) : Option (table_Table_box_entry × Bool) :=
  bd (table_Table_box_entry_find p0 p1) fun r1 => sel (decide (r1.1 ≥ 0)) (bd (ix p0.l r1.1) fun e1 => some (({ p0 with l := (p0.l.set r1.1.toNat ({ e1 with v := p2 } : table_place_box_entry)) } : table_Table_box_entry), true)) (sel (p0.n == p0.room) (some (p0, false)) (bd (ix p0.l r1.2) fun e2 => some (({ p0 with l := (p0.l.set r1.2.toNat (⟨1, p1, p2⟩ : table_place_box_entry)), n := (IntKind.i64.wrap (p0.n + 1)) } : table_Table_box_entry), true)))

theorem table_New_int_w {E : Env} {w : World} {Fs : List HL} {p0 : Int} {r : ((Option table_Table_int) × Int)} (hr : table_New_int p0 = some r)  (hH : Holds E w (Fs)) :
    BK.Spec Try.prog 15 [.int .i64 p0] w fun v w' => ∃ (u0 : Option Addr) (d0 : HL), v = .tuple #[.pointer u0, .int .i64 r.2] ∧ Holds E w' (d0 :: Fs) ∧ OO ob_table_Table_int u0 r.1 d0 := by
  unfold table_New_int at hr
  refine ent Try.func15 rfl hH fun Q _ hq => ?_
  refine wF [(0, .int .i64 p0)] rfl ?_
  refine wSq ?_
  refine wT ?_
  refine wAs rfl rfl rfl ?_
  refine wAs rfl rfl rfl ?_
  refine wE ?_
  refine wN ?_
  refine wSq ?_
  refine wSq ?_
  refine wT ?_
  refine wMv rfl rfl rfl ?_
  refine wInt rfl rfl rfl rfl rfl ?_
  refine wMv rfl rfl rfl ?_
  refine wG rfl rfl rfl rfl rfl rfl rfl rfl (fun hc a hf => rMv hf rfl) ?_
  refine wG rfl rfl rfl rfl rfl rfl rfl rfl (fun hc a hf => rInt hf (evg rfl hc) rfl rfl) ?_
  refine wY rfl rfl rfl rfl (fun a hf => rOr hf rfl rfl rfl) ?_
  refine wE ?_
  refine wN ?_
  refine wIf2 rfl hr (fun hc1 hr => ?_) (fun hc1 hr => ?_)
  ·
    refine wSq ?_
    refine wT ?_
    refine wAs rfl rfl rfl ?_
    refine wAs rfl rfl rfl ?_
    refine wE ?_
    refine wN ?_
    cases hr
    exact wRet2 hq rfl (fun a w hf hH => resT hf rfl) (fun a w hf hH => resT hf rfl) fun w hH => ⟨_, [], rfl, (hH.grp 0 [[]] rfl), OO.none⟩
  ·
    refine wS ?_
    refine wN ?_
    refine wSq ?_
    refine wT ?_
    refine wMv rfl rfl rfl ?_
    refine wInt rfl rfl rfl rfl rfl ?_
    obtain ⟨hk1, hr⟩ := ckS hr
    refine wMk (enc := enc_table_place_int) (z := z_table_place_int) rfl (gd0 rfl) rfl rfl rfl se_115 zc_121 rfl hk1 fun v1 c1 hO1 _ => ⟨rn0, ?_⟩
    refine wMv rfl rfl rfl ?_
    refine wBd (cl_table_Table_int (⟨(List.replicate (IntKind.i64.wrap (2 * p0)).toNat z_table_place_int), p0, 0⟩ : table_Table_int) v1) rfl rfl (by obtain ⟨_, _, _, rfl⟩ := hO1.hd; kernel_rfl) rfl ?_
    refine wBox (vs := (cl_table_Table_int (⟨(List.replicate (IntKind.i64.wrap (2 * p0)).toNat z_table_place_int), p0, 0⟩ : table_Table_int) v1)) rfl (gd0 rfl) rfl rfl fun b1 => ⟨rn0, ?_⟩
    refine wAs rfl rfl rfl ?_
    refine wAs rfl rfl rfl ?_
    refine wE ?_
    refine wN ?_
    cases hr
    exact wRet2 hq rfl (fun a w hf hH => resT hf rfl) (fun a w hf hH => resT hf rfl) fun w hH => ⟨_, _, rfl, ((hH.grp 2 [[0, 1]] rfl).grp 1 [[0]] rfl), (OO.some (mo_table_Table_int hO1))⟩

theorem table_bytesOf_w {E : Env} {w : World} {Fs : List HL} {p0 : api_Prefix} {r : (List Int)} (hr : table_bytesOf p0 = some r)  (hH : Holds E w (Fs)) :
    BK.Spec Try.prog 59 [.agg (enc_api_Prefix p0).toArray] w fun v w' => ∃ (u0 : Value) (d0 : HL), v = u0 ∧ Holds E w' (d0 :: Fs) ∧ Ow (fun y => [.int .u8 y]) 1 5 u0 r d0 := by
  unfold table_bytesOf at hr
  refine ent Try.func59 rfl hH fun Q _ hq => ?_
  refine wF [(0, .agg (enc_api_Prefix p0).toArray)] rfl ?_
  refine wSq ?_
  refine wT ?_
  refine wBox (vs := (enc_api_Prefix p0)) rfl (gd0 rfl) rfl rfl fun b1 => ⟨rn0, ?_⟩
  refine wAs rfl rfl rfl ?_
  refine wE ?_
  refine wN ?_
  refine wSq ?_
  refine wT ?_
  refine wAs rfl rfl rfl ?_
  refine wE ?_
  refine wN ?_
  refine wJ (fun a w => ∃ (y1 : Int), Fr a 11 [(1, ptr b1 0), (3, .int .u8 y1)] ∧ Holds E w ([blk b1 (enc_api_Prefix p0) 42] :: Fs) ∧ table_bytesOf_k1 p0 y1 = some r) ?_ ?_
  ·
    refine wSq ?_
    refine wT ?_
    refine wFa rfl rfl fo_42_0 rfl ?_
    refine wLd 0 rfl rfl ag_4 rfl rfl rfl ?_
    refine wE ?_
    refine wN ?_
    refine wIf2 rfl hr (fun hc1 hr => ?_) (fun hc1 hr => ?_)
    ·
      refine wT ?_
      refine wAs rfl rfl rfl ?_
      refine wE ?_
      exact fun a w hf hH => ⟨1, hf.sub _ rfl, hH, hr⟩
    ·
      refine wS ?_
      exact fun a w hf hH => ⟨0, hf.sub _ rfl, hH, hr⟩
  ·
    rintro a w ⟨y1, hf, hH, hr⟩
    refine jI hf hH ?_
    clear hf hH a w
    unfold table_bytesOf_k1 at hr
    refine wSq ?_
    refine wT ?_
    refine wMv rfl rfl rfl ?_
    refine wBs (enc := (fun y => [.int .u8 y])) (xs := [y1]) rfl (gd0 rfl) rfl rfl se_24 (by kernel_rfl) rfl rfl fun v1 c1 hO1 => ⟨rn0, ?_⟩
    refine wFa rfl rfl fo_42_1 rfl ?_
    obtain ⟨v2, hR1, hS1⟩ := arS (t := p0.Addr) (l := 0) (h := 7) (b := b1) (T := 42) (cells := (enc_api_Prefix p0)) (pre := [.bool p0.V6]) (post := []) (o := 1) (k := 1) (e := (fun y => [.int .u8 y])) (fun _ => rfl) rfl rfl (by decide)
    refine wY rfl rfl rfl rfl (fun a hf => rSaP hf rfl ae_40 rfl rfl hS1) ?_
    obtain ⟨hk1, hr⟩ := ckS hr
    refine wAp 0 (k := 1) rfl (gd0 rfl) rfl rfl rfl hO1 hR1 rfl (inJ 1 rfl) (fun _ => rfl) (fun _ => rfl) se_24 zc_5 rfl rfl hk1 fun v3 c2 hO2 => ⟨rn0, ?_⟩
    refine wAs rfl rfl rfl ?_
    refine wE ?_
    refine wN ?_
    cases hr
    exact wRet1 hq rfl (fun a w hf hH => resT hf rfl) fun w hH => ⟨_, _, rfl, (hH.grp 2 [[0]] rfl), hO2⟩

theorem bytesOf_eq (p : api_Prefix) : table_bytesOf p = some (pbytes p) := by
  obtain ⟨v, a⟩ := p
  cases v <;> rfl
theorem sortP_w {g : Nat} (eg : callOk Try.prog g = true) (hc : ∀ (E : Env) (w : World) (Fs : List HL) (x y : api_Prefix), BK.Holds E w Fs → BK.Spec Try.prog g [.agg (enc_api_Prefix x).toArray, .agg (enc_api_Prefix y).toArray] w fun v w' => v = .int .i64 (pcf x y) ∧ BK.Holds E w' Fs)
    {E : Env} {w : World} {cs : List HL} {c : HL} {v : Value} {xs : List api_Prefix} (hOw : Ow enc_api_Prefix 8 42 v xs c) (hH : BK.Holds E w (c :: cs)) :
    BK.Spec Try.prog 56 [v, .func (.func g) #[] #[]] w fun r w' => ∃ c', r = .tuple #[] ∧ BK.Holds E w' (c' :: cs) ∧ Ow enc_api_Prefix 8 42 v (sortP xs) c' :=
  sort_spec Try.sortL (fun w => agg_ok ag_42) (fun w => size_ok sz_42) (fun _ => rfl) (fun _ => rfl) (swo_bcmp pbytes) eg hc hOw hH

theorem table_Table_int_find_w {E : Env} {w : World} {Fs : List HL} {bp0 : Nat} {p0 : table_Table_int} {hp0 : HL} {p1 : api_Prefix} {r : (Int × Int)} (hr : table_Table_int_find p0 p1 = some r) (hBp0 : ob_table_Table_int bp0 p0 hp0) (hH : Holds E w (hp0 :: Fs)) :
    BK.Spec Try.prog 55 [ptr bp0 0, .agg (enc_api_Prefix p1).toArray] w fun v w' => v = .tuple #[.int .i64 r.1, .int .i64 r.2] ∧ Holds E w' (hp0 :: Fs) := by
  unfold table_Table_int_find at hr
  refine ent Try.func55 rfl hH fun Q _ hq => ?_
  refine wF [(0, ptr bp0 0), (1, .agg (enc_api_Prefix p1).toArray)] rfl ?_
  refine wSq ?_
  refine wT ?_
  refine wBox (vs := (enc_api_Prefix p1)) rfl (gd0 rfl) rfl rfl fun b1 => ⟨rn0, ?_⟩
  refine wAs rfl rfl rfl ?_
  refine wAs rfl rfl rfl ?_
  refine wE ?_
  refine wN ?_
  refine wSq ?_
  refine wT ?_
  refine wAs rfl rfl rfl ?_
  refine wE ?_
  refine wN ?_
  refine wSq ?_
  refine wSq ?_
  refine wT ?_
  refine wMv rfl rfl rfl ?_
  refine wY rfl rfl rfl rfl (fun a hf => rPe hf rfl rfl un_36) ?_
  refine wE ?_
  refine wN ?_
  refine wIfF rfl ?_
  refine wS ?_
  refine wN ?_
  refine wSq ?_
  obtain ⟨v1, c1, rfl, hO1⟩ := hBp0
  refine wH (fun w h => h.opn 1 _ rfl) ?_
  refine wD mix_ (.y 0 (.y 1 (.y 5 (.y 6 (.y 7 (.y 8 (.y 9 (.y 10 (.e 2 (.e 3 (.e 4 (.y 11 (.y 12 .done))))))))))))) (by kernel_rfl) ?_
  refine wBd ((Tup.cells (fun y => [.int .u8 y]) 16) (Tup.rep 0 16)) rfl rfl (by kernel_rfl) rfl ?_
  refine wLs 2 (enc_api_Prefix p1) rfl rfl ag_42 sz_42 rfl rfl rfl rfl ?_
  refine wMv rfl rfl rfl ?_
  refine wNc rfl rfl rfl ?_
  refine wFa rfl rfl fo_117_0 rfl ?_
  refine wLd 0 rfl rfl ag_115 rfl rfl rfl ?_
  refine wY rfl rfl rfl rfl (fun a hf => rLenR hf rfl hO1.rd rfl se_115) ?_
  refine wCv rfl rfl ii_68 us_3 rfl ?_
  obtain ⟨r1, hr1, hr⟩ := bdS hr
  refine wCl rfl (gd0 rfl) rfl rfl ck_59 (fun w hH => table_bytesOf_w hr1 (hH.grp 4 [[0], [1], [2]] rfl)) ?_
  rintro _ w ⟨v2, c2, hV, hH, hO2⟩
  obtain rfl := hV.symm
  refine ⟨_, hH, (rnI (inJ0 (j := 1) rfl) (rnI (inJ0 (j := 3) rfl) rnN)), ?_⟩
  refine wBs (enc := raw 1) (xs := ([(v2, ())] : List (Tup Value 1))) rfl (gd0 rfl) rfl rfl se_195 (by obtain ⟨_, _, _, rfl⟩ := hO2.hd; kernel_rfl) rfl rfl fun v3 c3 hO3 => ⟨(rnI (inJ0 (j := 2) rfl) (rnI (inJ0 (j := 4) rfl) rnN)), ?_⟩
  obtain ⟨r2, hr2, hr⟩ := bdS hr
  refine wCl rfl (gd0 rfl) rfl rfl ck_91 (fun w hH => sip_Sum_w hr2 (rdpG hO3 Sub.l ⟨⟨_, rfl, (hO2.rd.mono (Sub.r Sub.l))⟩, trivial⟩) (hH.grp 5 [[0, 1], [2], [3], [4]] rfl)) ?_
  rintro _ w ⟨rfl, hH⟩
  refine ⟨_, (hH.opn 0 [c3, c2] rfl), (rnI (inJ0 (j := 3) rfl) (rnI (inJ0 (j := 5) rfl) rnN)), ?_⟩
  obtain ⟨hk1, hr⟩ := ckS hr
  refine wY rfl rfl rfl rfl (fun a hf => rRem hf rfl rfl (ne0 hk1)) ?_
  obtain ⟨x1, hx1, hr⟩ := nmS hr
  refine wAs rfl (evI rfl hx1) rfl ?_
  refine wE ?_
  refine wN ?_
  refine wSq ?_
  refine wSq ?_
  refine wT ?_
  refine wMv rfl rfl rfl ?_
  refine wNc rfl rfl rfl ?_
  refine wFa rfl rfl fo_117_0 rfl ?_
  refine wLd 3 rfl rfl ag_115 rfl rfl rfl ?_
  refine wY rfl rfl rfl rfl (fun a hf => rLenR hf rfl hO1.rd rfl se_115) ?_
  refine wMv rfl rfl rfl ?_
  refine wE ?_
  refine wN ?_
  obtain ⟨o1, ho1, hra1⟩ := bdS hr
  refine wJ1 (fun a w => ∃ (s1 : Int) , Fr a 82 [(6, .int .i64 s1)] ∧ Holds E w ([blk bp0 (cl_table_Table_int p0 v1) 117] :: c1 :: [blk b1 (enc_api_Prefix p1) 42] :: Fs) ∧ (o1 = .brk s1 ∨ o1 = .nxt s1)) ?_ ?_
  ·
    refine wLp (α := Int) (fun n (s1 : Int) a w => ∃ (i : Nat) , i + n = p0.l.length ∧ Fr a 82 [(0, ptr bp0 0), (3, ptr b1 0), (6, .int .i64 s1), (7, .int .u64 x1), (29, .int .i64 (p0.l.length : Int)), (30, .int .i64 (i : Int))] ∧ Holds E w ([blk bp0 (cl_table_Table_int p0 v1) 117] :: c1 :: [blk b1 (enc_api_Prefix p1) 42] :: Fs) ∧ forN (table_Table_int_find_b1 p0 p1 x1) n i s1 = some o1) (n := p0.l.length) (s := (-1)) (fun a w hf hH => ⟨0, by simp, hf.sub _ rfl, (hH.grp 6 [[3], [4], [5]] rfl), ho1⟩) ?_
    rintro n s1 a w ⟨i, hi, hf, hH, ho1⟩
    refine jI hf hH ?_
    clear hf hH a w
    refine wSq (wT ?_)
    refine wInt rfl rfl rfl rfl rfl ?_
    refine wE ?_
    refine wN ?_
    refine wSq (wIf rfl (fun hc => ?_) (fun hc => ?_))
    rotate_left
    · obtain rfl : n = 0 := by simp at hc; omega
      cases ho1
      refine wX (wXt (wXt (wXh ?_)))
      exact fun a w hf hH => ⟨s1, hf.sub _ rfl, hH, .inr rfl⟩
    refine wS (wN ?_)
    obtain ⟨n, rfl⟩ : ∃ m, n = m + 1 := ⟨n - 1, by simp at hc; omega⟩
    obtain ⟨o2, hr, ho1⟩ := bdS ho1
    unfold table_Table_int_find_b1 at hr
    refine wSq ?_
    refine wB ?_
    refine wSq ?_
    refine wT ?_
    refine wMv rfl rfl rfl ?_
    refine wAs rfl rfl rfl ?_
    refine wE ?_
    refine wN ?_
    refine wSq ?_
    refine wT ?_
    refine wMv rfl rfl rfl ?_
    refine wCv rfl rfl ii_3 us_68 rfl ?_
    refine wMv rfl rfl rfl ?_
    refine wInt rfl rfl rfl rfl rfl ?_
    refine wMv rfl rfl rfl ?_
    refine wNc rfl rfl rfl ?_
    refine wFa rfl rfl fo_117_0 rfl ?_
    refine wLd 0 rfl rfl ag_115 rfl rfl rfl ?_
    refine wY rfl rfl rfl rfl (fun a hf => rLenR hf rfl hO1.rd rfl se_115) ?_
    obtain ⟨hk2, hr⟩ := ckS hr
    refine wY rfl rfl rfl rfl (fun a hf => rRem hf rfl rfl (ne0 hk2)) ?_
    obtain ⟨x2, hx2, hr⟩ := nmS hr
    refine wAs rfl (evI rfl hx2) rfl ?_
    refine wE ?_
    refine wN ?_
    refine wJ (fun a w => ∃ (y2 : Int), Fr a 82 [(0, ptr bp0 0), (3, ptr b1 0), (6, .int .i64 y2), (7, .int .u64 x1), (9, .int .i64 x2), (29, .int .i64 (p0.l.length : Int)), (30, .int .i64 (i : Int))] ∧ Holds E w ([blk bp0 (cl_table_Table_int p0 v1) 117] :: c1 :: [blk b1 (enc_api_Prefix p1) 42] :: Fs) ∧ table_Table_int_find_k1 p0 x2 y2 = some o2) ?_ ?_
    ·
      refine wSq ?_
      refine wT ?_
      refine wMv rfl rfl rfl ?_
      refine wNc rfl rfl rfl ?_
      refine wFa rfl rfl fo_117_0 rfl ?_
      refine wLd 0 rfl rfl ag_115 rfl rfl rfl ?_
      refine wMv rfl rfl rfl ?_
      obtain ⟨e2, he2, hr⟩ := bdS hr
      obtain ⟨b3, me2, hE2, hI2⟩ := hO1.att (k := 10) (fun _ => rfl) he2
      refine wIxO rfl rfl rfl se_115 hI2 rfl ?_
      refine wLsE (enc_table_place_int e2) (off := 0) rfl rfl hE2.elem ag_121 sz_121 (inJ 1 rfl) rfl rfl rfl ?_
      refine wAlc rfl (gd0 rfl) rfl zc_121 fun b4 => ⟨rn0, ?_⟩
      refine wSts 0 (enc_table_place_int e2) rfl (gd0 rfl) rfl rfl rfl sz_121 rfl rfl rfl rn0 ?_
      refine wE ?_
      refine wN ?_
      refine wB ?_
      refine wSq ?_
      refine wT ?_
      refine wFa rfl rfl fo_121_0 rfl ?_
      refine wLd 0 rfl rfl ag_3 rfl rfl rfl ?_
      refine wInt rfl rfl rfl rfl rfl ?_
      refine wMv rfl rfl rfl ?_
      refine wG rfl rfl rfl rfl rfl rfl rfl rfl (fun hc a hf => rFa hf rfl fo_121_1) ?_
      refine wGr rfl rfl rfl rfl rfl rfl rfl rfl (inJ0 (j := 0) rfl) (fun hc a hf cs hC => rLs (vs := (enc_api_Prefix e2.p)) hf (evg rfl hc) ag_42 sz_42 (m1 hC) (Nat.le_of_ble_eq_true rfl) rfl) ?_
      refine wGr rfl rfl rfl rfl rfl rfl rfl rfl (inJ0 (j := 3) rfl) (fun hc a hf cs hC => rLs (vs := (enc_api_Prefix p1)) hf rfl ag_42 sz_42 (m1 hC) (Nat.le_of_ble_eq_true rfl) rfl) ?_
      refine wG rfl rfl rfl rfl rfl rfl rfl rfl (fun hc a hf => rFlE hf (evg rfl hc) (evg rfl hc) eqF_42) ?_
      refine wY rfl rfl rfl rfl (fun a hf => rAnd hf rfl rfl rfl) ?_
      obtain ⟨x3, hx3, hr⟩ := nmS hr
      refine wAs rfl (evB rfl hx3) rfl ?_
      refine wE ?_
      refine wN ?_
      refine wIf2 rfl hr (fun hc2 hr => ?_) (fun hc2 hr => ?_)
      ·
        refine wSq ?_
        refine wT ?_
        refine wMv rfl rfl rfl ?_
        refine wMv rfl rfl rfl ?_
        refine wAs rfl rfl rfl ?_
        refine wAs rfl rfl rfl ?_
        refine wE ?_
        refine wN ?_
        cases hr
        obtain rfl := stpR ho1
        obtain rfl := aftR hra1
        exact wRet2 hq rfl (fun a w hf hH => resT hf rfl) (fun a w hf hH => resT hf rfl) fun w hH => ⟨rfl, ((hH.grp 4 [[1, 2], [0], [3]] rfl).grp 3 [[0]] rfl)⟩
      ·
        refine wSq ?_
        refine wT ?_
        refine wFa rfl rfl fo_121_0 rfl ?_
        refine wLd 0 rfl rfl ag_3 rfl rfl rfl ?_
        refine wInt rfl rfl rfl rfl rfl ?_
        refine wMv rfl rfl rfl ?_
        refine wG rfl rfl rfl rfl rfl rfl rfl rfl (fun hc a hf => rMv hf rfl) ?_
        refine wG rfl rfl rfl rfl rfl rfl rfl rfl (fun hc a hf => rInt hf (evg rfl hc) rfl rfl) ?_
        refine wY rfl rfl rfl rfl (fun a hf => rAnd hf rfl rfl rfl) ?_
        refine wAs rfl rfl rfl ?_
        refine wE ?_
        refine wN ?_
        refine wIf2 rfl hr (fun hc3 hr => ?_) (fun hc3 hr => ?_)
        ·
          refine wT ?_
          refine wMv rfl rfl rfl ?_
          refine wAs rfl rfl rfl ?_
          refine wE ?_
          refine wBn ?_
          exact fun a w hf hH => ⟨x2, hf.sub _ rfl, (hH.grp 4 [[1], [2], [3]] rfl), hr⟩
        ·
          refine wS ?_
          refine wBn ?_
          exact fun a w hf hH => ⟨s1, hf.sub _ rfl, (hH.grp 4 [[1], [2], [3]] rfl), hr⟩
    ·
      rintro a w ⟨y2, hf, hH, hr⟩
      refine jI hf hH ?_
      clear hf hH a w
      unfold table_Table_int_find_k1 at hr
      refine wSq ?_
      refine wT ?_
      refine wMv rfl rfl rfl ?_
      refine wNc rfl rfl rfl ?_
      refine wFa rfl rfl fo_117_0 rfl ?_
      refine wLd 0 rfl rfl ag_115 rfl rfl rfl ?_
      refine wMv rfl rfl rfl ?_
      obtain ⟨e1, he1, hr⟩ := bdS hr
      obtain ⟨b2, me1, hE1, hI1⟩ := hO1.att (k := 10) (fun _ => rfl) he1
      refine wIxO rfl rfl rfl se_115 hI1 rfl ?_
      refine wFa rfl rfl fo_121_0 rfl ?_
      refine wLdE (off := 0) rfl rfl hE1.elem ag_3 (inJ 1 rfl) rfl rfl ?_
      refine wInt rfl rfl rfl rfl rfl ?_
      refine wE ?_
      refine wN ?_
      refine wIf2 rfl hr (fun hc1 hr => ?_) (fun hc1 hr => ?_)
      ·
        refine wX (wXo (by decide) (wXt (wXt (wXh ?_))))
        cases hr
        obtain rfl := stpB ho1
        exact fun a w hf hH => ⟨y2, hf.sub _ rfl, hH, .inl rfl⟩
      ·
        refine wS ?_
        refine wBn ?_
        cases hr
        refine wN (wT ?_)
        refine wInt rfl rfl rfl rfl rfl ?_
        refine wMv rfl (evI rfl (i64c i (by have := hO1.le; omega))) rfl ?_
        refine wE ?_
        exact fun a w hf hH => ⟨n, y2, Nat.lt_succ_self n, i + 1, by omega, hf.sub _ rfl, hH, ho1⟩
  ·
    rintro a w ⟨s1, hf, hH, hbn⟩
    have hr := aftS hra1 hbn
    refine jX hf hH ?_
    clear hf hH a w
    refine wN ?_
    refine wSq ?_
    refine wT ?_
    refine wMv rfl rfl rfl ?_
    refine wAs rfl rfl rfl ?_
    refine wAs rfl rfl rfl ?_
    refine wE ?_
    refine wN ?_
    cases hr
    exact wRet2 hq rfl (fun a w hf hH => resT hf rfl) (fun a w hf hH => resT hf rfl) fun w hH => ⟨rfl, ((hH.grp 3 [[0, 1], [2]] rfl).grp 2 [[0]] rfl)⟩

theorem table_Table_int_Get_w {E : Env} {w : World} {Fs : List HL} {bp0 : Nat} {p0 : table_Table_int} {hp0 : HL} {p1 : api_Prefix} {r : (Int × Bool)} (hr : table_Table_int_Get p0 p1 = some r) (hBp0 : ob_table_Table_int bp0 p0 hp0) (hH : Holds E w (hp0 :: Fs)) :
    BK.Spec Try.prog 21 [ptr bp0 0, .agg (enc_api_Prefix p1).toArray] w fun v w' => v = .tuple #[.int .i64 r.1, .bool r.2] ∧ Holds E w' (hp0 :: Fs) := by
  unfold table_Table_int_Get at hr
  refine ent Try.func21 rfl hH fun Q _ hq => ?_
  refine wF [(0, ptr bp0 0), (1, .agg (enc_api_Prefix p1).toArray)] rfl ?_
  refine wSq ?_
  refine wT ?_
  refine wBox (vs := (enc_api_Prefix p1)) rfl (gd0 rfl) rfl rfl fun b1 => ⟨rn0, ?_⟩
  refine wAs rfl rfl rfl ?_
  refine wAs rfl rfl rfl ?_
  refine wE ?_
  refine wN ?_
  refine wSq ?_
  refine wT ?_
  refine wMv rfl rfl rfl ?_
  refine wLs 0 (enc_api_Prefix p1) rfl rfl ag_42 sz_42 rfl rfl rfl rfl ?_
  obtain ⟨r1, hr1, hr⟩ := bdS hr
  refine wCl rfl (gd0 rfl) rfl rfl ck_55 (fun w hH => table_Table_int_find_w hr1 hBp0 (hH.grp 2 [[1], [0]] rfl)) ?_
  rintro _ w ⟨rfl, hH⟩
  refine ⟨_, hH, rn0, ?_⟩
  refine wMv rfl rfl rfl ?_
  refine wEx rfl rfl rfl rfl ?_
  refine wEx rfl rfl rfl rfl ?_
  refine wAs rfl rfl rfl ?_
  refine wAs rfl rfl rfl ?_
  refine wE ?_
  refine wN ?_
  refine wSq ?_
  refine wSq ?_
  refine wT ?_
  refine wMv rfl rfl rfl ?_
  refine wInt rfl rfl rfl rfl rfl ?_
  refine wE ?_
  refine wN ?_
  refine wIf2 rfl hr (fun hc1 hr => ?_) (fun hc1 hr => ?_)
  ·
    refine wSq ?_
    refine wT ?_
    refine wAs rfl rfl rfl ?_
    refine wE ?_
    refine wN ?_
    refine wSq ?_
    refine wT ?_
    refine wMv rfl rfl rfl ?_
    refine wAs rfl rfl rfl ?_
    refine wAs rfl rfl rfl ?_
    refine wE ?_
    refine wN ?_
    cases hr
    exact wRet2 hq rfl (fun a w hf hH => resT hf rfl) (fun a w hf hH => resT hf rfl) fun w hH => ⟨rfl, (hH.grp 2 [[0]] rfl)⟩
  ·
    refine wS ?_
    refine wN ?_
    refine wSq ?_
    obtain ⟨v1, c1, rfl, hO1⟩ := hBp0
    refine wH (fun w h => h.opn 0 _ rfl) ?_
    refine wT ?_
    refine wMv rfl rfl rfl ?_
    refine wNc rfl rfl rfl ?_
    refine wFa rfl rfl fo_117_0 rfl ?_
    refine wLd 0 rfl rfl ag_115 rfl rfl rfl ?_
    refine wMv rfl rfl rfl ?_
    obtain ⟨e1, he1, hr⟩ := bdS hr
    obtain ⟨b2, me1, hE1, hI1⟩ := hO1.att (k := 10) (fun _ => rfl) he1
    refine wIxO rfl rfl rfl se_115 hI1 rfl ?_
    refine wFa rfl rfl fo_121_2 rfl ?_
    refine wLdE (off := 9) rfl rfl hE1.elem ag_3 (inJ 1 rfl) rfl rfl ?_
    refine wAs rfl rfl rfl ?_
    refine wAs rfl rfl rfl ?_
    refine wE ?_
    refine wN ?_
    cases hr
    exact wRet2 hq rfl (fun a w hf hH => resT hf rfl) (fun a w hf hH => resT hf rfl) fun w hH => ⟨rfl, ((hH.grp 4 [[0, 1], [3]] rfl).grp 2 [[0]] rfl)⟩

theorem table_Table_int_Put_w {E : Env} {w : World} {Fs : List HL} {bp0 : Nat} {p0 : table_Table_int} {hp0 : HL} {p1 : api_Prefix} {p2 : Int} {r : (table_Table_int × Bool)} (hr : table_Table_int_Put p0 p1 p2 = some r) (hBp0 : ob_table_Table_int bp0 p0 hp0) (hH : Holds E w (hp0 :: Fs)) :
    BK.Spec Try.prog 16 [ptr bp0 0, .agg (enc_api_Prefix p1).toArray, .int .i64 p2] w fun v w' => ∃ (h0' : HL), v = .bool r.2 ∧ Holds E w' (h0' :: Fs) ∧ ob_table_Table_int bp0 r.1 h0' := by
  unfold table_Table_int_Put at hr
  refine ent Try.func16 rfl hH fun Q _ hq => ?_
  refine wF [(0, ptr bp0 0), (1, .agg (enc_api_Prefix p1).toArray), (2, .int .i64 p2)] rfl ?_
  refine wSq ?_
  refine wT ?_
  refine wBox (vs := (enc_api_Prefix p1)) rfl (gd0 rfl) rfl rfl fun b1 => ⟨rn0, ?_⟩
  refine wAs rfl rfl rfl ?_
  refine wE ?_
  refine wN ?_
  refine wSq ?_
  refine wT ?_
  refine wMv rfl rfl rfl ?_
  refine wLs 0 (enc_api_Prefix p1) rfl rfl ag_42 sz_42 rfl rfl rfl rfl ?_
  obtain ⟨r1, hr1, hr⟩ := bdS hr
  refine wCl rfl (gd0 rfl) rfl rfl ck_55 (fun w hH => table_Table_int_find_w hr1 hBp0 (hH.grp 2 [[1], [0]] rfl)) ?_
  rintro _ w ⟨rfl, hH⟩
  refine ⟨_, hH, rn0, ?_⟩
  refine wMv rfl rfl rfl ?_
  refine wEx rfl rfl rfl rfl ?_
  refine wEx rfl rfl rfl rfl ?_
  refine wAs rfl rfl rfl ?_
  refine wAs rfl rfl rfl ?_
  refine wE ?_
  refine wN ?_
  refine wSq ?_
  refine wB ?_
  refine wSq ?_
  refine wT ?_
  refine wMv rfl rfl rfl ?_
  refine wInt rfl rfl rfl rfl rfl ?_
  refine wAs rfl rfl rfl ?_
  refine wE ?_
  refine wN ?_
  refine wIf2 rfl hr (fun hc1 hr => ?_) (fun hc1 hr => ?_)
  ·
    refine wSq ?_
    obtain ⟨v1, c1, rfl, hO1⟩ := hBp0
    refine wH (fun w h => h.opn 0 _ rfl) ?_
    refine wT ?_
    refine wMv rfl rfl rfl ?_
    refine wNc rfl rfl rfl ?_
    refine wFa rfl rfl fo_117_0 rfl ?_
    refine wLd 0 rfl rfl ag_115 rfl rfl rfl ?_
    refine wMv rfl rfl rfl ?_
    refine wMv rfl rfl rfl ?_
    obtain ⟨e1, he1, hr⟩ := bdS hr
    obtain ⟨b2, me1, hE1, hI1⟩ := hO1.att (k := 10) (fun _ => rfl) he1
    refine wIxO rfl rfl rfl se_115 hI1 rfl ?_
    refine wFa rfl rfl fo_121_2 rfl ?_
    refine wSel 1 (off := 9) (z' := ({ e1 with v := p2 } : table_place_int)) rfl (gd0 rfl) rfl rfl rfl sz_3 hE1 rfl rfl rfl fun c2 hF1 => ⟨rn0, ?_⟩
    refine wE ?_
    refine wN ?_
    refine wSq ?_
    refine wT ?_
    refine wAs rfl rfl rfl ?_
    refine wE ?_
    refine wN ?_
    cases hr
    exact wRet1 hq rfl (fun a w hf hH => resT hf rfl) fun w hH => ⟨_, rfl, ((hH.grp 4 [[0, 1], [3]] rfl).grp 2 [[0]] rfl), (mo_table_Table_int hF1.own)⟩
  ·
    refine wSq ?_
    obtain ⟨v2, c3, rfl, hO2⟩ := hBp0
    refine wH (fun w h => h.opn 0 _ rfl) ?_
    refine wD mix_ (.y 0 (.y 1 (.y 2 (.y 3 (.y 4 (.y 5 (.y 6 (.y 7 (.y 8 (.y 9 (.y 10 (.y 11 (.y 12 (.y 13 .done)))))))))))))) (by kernel_rfl) ?_
    refine wMv rfl rfl rfl ?_
    refine wY rfl rfl rfl rfl (fun a hf => rPe hf rfl rfl un_36) ?_
    refine wMv rfl rfl rfl ?_
    refine wGt rfl rfl rfl rfl rfl rfl rfl rfl (fun a hf => rMv hf rfl) ?_
    refine wGt rfl rfl rfl rfl rfl rfl rfl rfl (fun a hf => rNil hf rfl) ?_
    refine wGt rfl rfl rfl rfl rfl rfl rfl rfl (fun a hf => rFa hf rfl fo_117_2) ?_
    refine wGtr rfl rfl rfl rfl rfl rfl rfl rfl (inJ0 (j := 0) rfl) (fun a hf cs hC => rLd hf rfl ag_3 (m1 hC) rfl) ?_
    refine wGt rfl rfl rfl rfl rfl rfl rfl rfl (fun a hf => rMv hf rfl) ?_
    refine wGt rfl rfl rfl rfl rfl rfl rfl rfl (fun a hf => rNil hf rfl) ?_
    refine wGt rfl rfl rfl rfl rfl rfl rfl rfl (fun a hf => rFa hf rfl fo_117_1) ?_
    refine wGtr rfl rfl rfl rfl rfl rfl rfl rfl (inJ0 (j := 0) rfl) (fun a hf cs hC => rLd hf rfl ag_3 (m1 hC) rfl) ?_
    refine wGt rfl rfl rfl rfl rfl rfl rfl rfl (fun a hf => rInt hf rfl rfl rfl) ?_
    refine wY rfl rfl rfl rfl (fun a hf => rPkF hf rfl rfl rfl) ?_
    refine wAs rfl rfl rfl ?_
    refine wE ?_
    refine wN ?_
    refine wIf2 rfl hr (fun hc2 hr => ?_) (fun hc2 hr => ?_)
    ·
      refine wSq ?_
      refine wT ?_
      refine wAs rfl rfl rfl ?_
      refine wE ?_
      refine wN ?_
      cases hr
      exact wRet1 hq rfl (fun a w hf hH => resT hf rfl) fun w hH => ⟨_, rfl, ((hH.grp 4 [[0, 1], [3]] rfl).grp 2 [[0]] rfl), (mo_table_Table_int hO2)⟩
    ·
      refine wS ?_
      refine wBn ?_
      refine wN ?_
      refine wSq ?_
      refine wD mix_ (.y 0 (.y 1 (.y 2 (.y 3 (.y 4 (.y 5 (.y 6 (.y 7 (.y 8 (.e 9 .done)))))))))) (by kernel_rfl) ?_
      refine wMv rfl rfl rfl ?_
      refine wNc rfl rfl rfl ?_
      refine wFa rfl rfl fo_117_0 rfl ?_
      refine wLd 0 rfl rfl ag_115 rfl rfl rfl ?_
      refine wMv rfl rfl rfl ?_
      refine wLs 3 (enc_api_Prefix p1) rfl rfl ag_42 sz_42 rfl rfl rfl rfl ?_
      refine wMv rfl rfl rfl ?_
      refine wBd (enc_table_place_int (⟨1, p1, p2⟩ : table_place_int)) rfl rfl (by kernel_rfl) rfl ?_
      obtain ⟨e2, he2, hr⟩ := bdS hr
      obtain ⟨b3, me2, hE2, hI2⟩ := hO2.att (k := 10) (fun _ => rfl) he2
      refine wIxO rfl rfl rfl se_115 hI2 rfl ?_
      refine wSels 1 (off := 0) (vs := (enc_table_place_int (⟨1, p1, p2⟩ : table_place_int))) (z' := (⟨1, p1, p2⟩ : table_place_int)) rfl (gd0 rfl) rfl rfl rfl sz_121 hE2 rfl rfl rfl fun c4 hF2 => ⟨(rnI (inJ0 (j := 3) rfl) (rnI (inJ0 (j := 0) rfl) rnN)), ?_⟩
      refine wE ?_
      refine wN ?_
      refine wSq ?_
      refine wT ?_
      refine wMv rfl rfl rfl ?_
      refine wNc rfl rfl rfl ?_
      refine wFa rfl rfl fo_117_2 rfl ?_
      refine wLd 0 rfl rfl ag_3 rfl rfl rfl ?_
      refine wInt rfl rfl rfl rfl rfl ?_
      refine wNc rfl rfl rfl ?_
      refine wFa rfl rfl fo_117_2 rfl ?_
      refine wSto 0 (cl_table_Table_int ({ p0 with l := (p0.l.set r1.2.toNat (⟨1, p1, p2⟩ : table_place_int)), n := (IntKind.i64.wrap (p0.n + 1)) } : table_Table_int) v2) rfl (gd0 rfl) rfl rfl rfl sz_3 rfl rfl rfl rn0 ?_
      refine wE ?_
      refine wN ?_
      refine wSq ?_
      refine wT ?_
      refine wAs rfl rfl rfl ?_
      refine wE ?_
      refine wN ?_
      cases hr
      exact wRet1 hq rfl (fun a w hf hH => resT hf rfl) fun w hH => ⟨_, rfl, ((hH.grp 4 [[0, 1], [3]] rfl).grp 2 [[0]] rfl), (mo_table_Table_int hF2.own)⟩

theorem table_Table_int_Len_w {E : Env} {w : World} {Fs : List HL} {bp0 : Nat} {p0 : table_Table_int} {hp0 : HL} {r : Int} (hr : table_Table_int_Len p0 = some r) (hBp0 : ob_table_Table_int bp0 p0 hp0) (hH : Holds E w (hp0 :: Fs)) :
    BK.Spec Try.prog 17 [ptr bp0 0] w fun v w' => v = .int .i64 r ∧ Holds E w' (hp0 :: Fs) := by
  unfold table_Table_int_Len at hr
  refine ent Try.func17 rfl hH fun Q _ hq => ?_
  refine wF [(0, ptr bp0 0)] rfl ?_
  refine wSq ?_
  refine wT ?_
  refine wAs rfl rfl rfl ?_
  refine wE ?_
  refine wN ?_
  refine wSq ?_
  refine wSq ?_
  refine wT ?_
  refine wMv rfl rfl rfl ?_
  refine wY rfl rfl rfl rfl (fun a hf => rPe hf rfl rfl un_36) ?_
  refine wE ?_
  refine wN ?_
  refine wIfF rfl ?_
  refine wS ?_
  refine wN ?_
  refine wSq ?_
  obtain ⟨v1, c1, rfl, hO1⟩ := hBp0
  refine wH (fun w h => h.opn 0 _ rfl) ?_
  refine wT ?_
  refine wMv rfl rfl rfl ?_
  refine wNc rfl rfl rfl ?_
  refine wFa rfl rfl fo_117_2 rfl ?_
  refine wLd 0 rfl rfl ag_3 rfl rfl rfl ?_
  refine wAs rfl rfl rfl ?_
  refine wE ?_
  refine wN ?_
  cases hr
  exact wRet1 hq rfl (fun a w hf hH => resT hf rfl) fun w hH => ⟨rfl, ((hH.grp 3 [[0, 1]] rfl).grp 1 [[0]] rfl)⟩

theorem table_Table_int_find_nil_w {E : Env} {w : World} {Fs : List HL} {p1 : api_Prefix} {r : (Int × Int)} (hr : table_Table_int_find_nil p1 = some r)  (hH : Holds E w (Fs)) :
    BK.Spec Try.prog 55 [.pointer none, .agg (enc_api_Prefix p1).toArray] w fun v w' => v = .tuple #[.int .i64 r.1, .int .i64 r.2] ∧ Holds E w' (Fs) := by
  unfold table_Table_int_find_nil at hr
  refine ent Try.func55 rfl hH fun Q _ hq => ?_
  refine wF [(0, .pointer none), (1, .agg (enc_api_Prefix p1).toArray)] rfl ?_
  refine wSq ?_
  refine wT ?_
  refine wBox (vs := (enc_api_Prefix p1)) rfl (gd0 rfl) rfl rfl fun b1 => ⟨rn0, ?_⟩
  refine wAs rfl rfl rfl ?_
  refine wAs rfl rfl rfl ?_
  refine wE ?_
  refine wN ?_
  refine wSq ?_
  refine wT ?_
  refine wAs rfl rfl rfl ?_
  refine wE ?_
  refine wN ?_
  refine wSq ?_
  refine wSq ?_
  refine wT ?_
  refine wMv rfl rfl rfl ?_
  refine wY rfl rfl rfl rfl (fun a hf => rPe hf rfl rfl un_36) ?_
  refine wE ?_
  refine wN ?_
  refine wIfT rfl ?_
  refine wSq ?_
  refine wT ?_
  refine wAs rfl rfl rfl ?_
  refine wAs rfl rfl rfl ?_
  refine wE ?_
  refine wN ?_
  cases hr
  exact wRet2 hq rfl (fun a w hf hH => resT hf rfl) (fun a w hf hH => resT hf rfl) fun w hH => ⟨rfl, (hH.grp 1 [] rfl)⟩

theorem table_Table_int_Put_nil_w {E : Env} {w : World} {Fs : List HL} {p1 : api_Prefix} {p2 : Int} {r : Bool} (hr : table_Table_int_Put_nil p1 p2 = some r)  (hH : Holds E w (Fs)) :
    BK.Spec Try.prog 16 [.pointer none, .agg (enc_api_Prefix p1).toArray, .int .i64 p2] w fun v w' => v = .bool r ∧ Holds E w' (Fs) := by
  unfold table_Table_int_Put_nil at hr
  refine ent Try.func16 rfl hH fun Q _ hq => ?_
  refine wF [(0, .pointer none), (1, .agg (enc_api_Prefix p1).toArray), (2, .int .i64 p2)] rfl ?_
  refine wSq ?_
  refine wT ?_
  refine wBox (vs := (enc_api_Prefix p1)) rfl (gd0 rfl) rfl rfl fun b1 => ⟨rn0, ?_⟩
  refine wAs rfl rfl rfl ?_
  refine wE ?_
  refine wN ?_
  refine wSq ?_
  refine wT ?_
  refine wMv rfl rfl rfl ?_
  refine wLs 0 (enc_api_Prefix p1) rfl rfl ag_42 sz_42 rfl rfl rfl rfl ?_
  obtain ⟨r1, hr1, hr⟩ := bdS hr
  refine wCl rfl (gd0 rfl) rfl rfl ck_55 (fun w hH => table_Table_int_find_nil_w hr1 hH) ?_
  rintro _ w ⟨rfl, hH⟩
  refine ⟨_, hH, rn0, ?_⟩
  refine wMv rfl rfl rfl ?_
  refine wEx rfl rfl rfl rfl ?_
  refine wEx rfl rfl rfl rfl ?_
  refine wAs rfl rfl rfl ?_
  refine wAs rfl rfl rfl ?_
  refine wE ?_
  refine wN ?_
  refine wSq ?_
  refine wB ?_
  refine wSq ?_
  refine wT ?_
  refine wMv rfl rfl rfl ?_
  refine wInt rfl rfl rfl rfl rfl ?_
  refine wAs rfl rfl rfl ?_
  refine wE ?_
  refine wN ?_
  refine wIf2 rfl hr (fun hc1 hr => ?_) (fun hc1 hr => ?_)
  ·
    refine wSq ?_
    refine wT ?_
    refine wMv rfl rfl rfl ?_
    cases hr
  ·
    refine wSq ?_
    refine wD mix_ (.y 0 (.y 1 (.y 2 (.y 3 (.y 4 (.y 5 (.y 6 (.y 7 (.y 8 (.y 9 (.y 10 (.y 11 (.y 12 (.y 13 .done)))))))))))))) (by kernel_rfl) ?_
    refine wMv rfl rfl rfl ?_
    refine wY rfl rfl rfl rfl (fun a hf => rPe hf rfl rfl un_36) ?_
    refine wMv rfl rfl rfl ?_
    refine wGn rfl rfl rfl rfl rfl rfl rfl rfl ?_
    refine wGn rfl rfl rfl rfl rfl rfl rfl rfl ?_
    refine wGn rfl rfl rfl rfl rfl rfl rfl rfl ?_
    refine wGn rfl rfl rfl rfl rfl rfl rfl rfl ?_
    refine wGn rfl rfl rfl rfl rfl rfl rfl rfl ?_
    refine wGn rfl rfl rfl rfl rfl rfl rfl rfl ?_
    refine wGn rfl rfl rfl rfl rfl rfl rfl rfl ?_
    refine wGn rfl rfl rfl rfl rfl rfl rfl rfl ?_
    refine wGn rfl rfl rfl rfl rfl rfl rfl rfl ?_
    refine wY rfl rfl rfl rfl (fun a hf => rPkT hf rfl rfl rfl) ?_
    refine wAs rfl rfl rfl ?_
    refine wE ?_
    refine wN ?_
    refine wIfT rfl ?_
    refine wSq ?_
    refine wT ?_
    refine wAs rfl rfl rfl ?_
    refine wE ?_
    refine wN ?_
    cases hr
    exact wRet1 hq rfl (fun a w hf hH => resT hf rfl) fun w hH => ⟨rfl, (hH.grp 1 [] rfl)⟩

theorem table_Table_int_Len_nil_w {E : Env} {w : World} {Fs : List HL}  {r : Int} (hr : table_Table_int_Len_nil = some r)  (hH : Holds E w (Fs)) :
    BK.Spec Try.prog 17 [.pointer none] w fun v w' => v = .int .i64 r ∧ Holds E w' (Fs) := by
  unfold table_Table_int_Len_nil at hr
  refine ent Try.func17 rfl hH fun Q _ hq => ?_
  refine wF [(0, .pointer none)] rfl ?_
  refine wSq ?_
  refine wT ?_
  refine wAs rfl rfl rfl ?_
  refine wE ?_
  refine wN ?_
  refine wSq ?_
  refine wSq ?_
  refine wT ?_
  refine wMv rfl rfl rfl ?_
  refine wY rfl rfl rfl rfl (fun a hf => rPe hf rfl rfl un_36) ?_
  refine wE ?_
  refine wN ?_
  refine wIfT rfl ?_
  refine wSq ?_
  refine wT ?_
  refine wAs rfl rfl rfl ?_
  refine wE ?_
  refine wN ?_
  cases hr
  exact wRet1 hq rfl (fun a w hf hH => resT hf rfl) fun w hH => ⟨rfl, (hH.grp 0 [] rfl)⟩

theorem table_Table_int_All_nil_w {E : Env} {w : World} {Fs : List HL}  {r : (List api_Prefix)} (hr : table_Table_int_All_nil = some r)  (hH : Holds E w (Fs)) :
    BK.Spec Try.prog 18 [.pointer none] w fun v w' => ∃ (u0 : Value) (d0 : HL), v = u0 ∧ Holds E w' (d0 :: Fs) ∧ Ow enc_api_Prefix 8 42 u0 r d0 := by
  unfold table_Table_int_All_nil at hr
  refine ent Try.func18 rfl hH fun Q _ hq => ?_
  refine wF [(0, .pointer none)] rfl ?_
  refine wSq ?_
  refine wT ?_
  refine wAs rfl rfl rfl ?_
  refine wE ?_
  refine wN ?_
  refine wSq ?_
  refine wT ?_
  refine wAs rfl rfl rfl ?_
  refine wE ?_
  refine wN ?_
  refine wSq ?_
  refine wSq ?_
  refine wT ?_
  refine wMv rfl rfl rfl ?_
  refine wY rfl rfl rfl rfl (fun a hf => rPe hf rfl rfl un_36) ?_
  refine wE ?_
  refine wN ?_
  refine wIfT rfl ?_
  refine wSq ?_
  refine wT ?_
  refine wAs rfl rfl rfl ?_
  refine wE ?_
  refine wN ?_
  cases hr
  exact wRet1 hq rfl (fun a w hf hH => resT hf rfl) fun w hH => ⟨_, [], rfl, (hH.grp 0 [[]] rfl), Ow.empty⟩

theorem table_Table_int_Del_nil_w {E : Env} {w : World} {Fs : List HL} {p1 : api_Prefix} {r : Bool} (hr : table_Table_int_Del_nil p1 = some r)  (hH : Holds E w (Fs)) :
    BK.Spec Try.prog 19 [.pointer none, .agg (enc_api_Prefix p1).toArray] w fun v w' => v = .bool r ∧ Holds E w' (Fs) := by
  unfold table_Table_int_Del_nil at hr
  refine ent Try.func19 rfl hH fun Q _ hq => ?_
  refine wF [(0, .pointer none), (1, .agg (enc_api_Prefix p1).toArray)] rfl ?_
  refine wSq ?_
  refine wT ?_
  refine wBox (vs := (enc_api_Prefix p1)) rfl (gd0 rfl) rfl rfl fun b1 => ⟨rn0, ?_⟩
  refine wAs rfl rfl rfl ?_
  refine wE ?_
  refine wN ?_
  refine wSq ?_
  refine wT ?_
  refine wMv rfl rfl rfl ?_
  refine wLs 0 (enc_api_Prefix p1) rfl rfl ag_42 sz_42 rfl rfl rfl rfl ?_
  obtain ⟨r1, hr1, hr⟩ := bdS hr
  refine wCl rfl (gd0 rfl) rfl rfl ck_55 (fun w hH => table_Table_int_find_nil_w hr1 hH) ?_
  rintro _ w ⟨rfl, hH⟩
  refine ⟨_, hH, rn0, ?_⟩
  refine wMv rfl rfl rfl ?_
  refine wEx rfl rfl rfl rfl ?_
  refine wEx rfl rfl rfl rfl ?_
  refine wAs rfl rfl rfl ?_
  refine wAs rfl rfl rfl ?_
  refine wE ?_
  refine wN ?_
  refine wSq ?_
  refine wSq ?_
  refine wT ?_
  refine wMv rfl rfl rfl ?_
  refine wInt rfl rfl rfl rfl rfl ?_
  refine wE ?_
  refine wN ?_
  refine wIf2 rfl hr (fun hc1 hr => ?_) (fun hc1 hr => ?_)
  ·
    refine wSq ?_
    refine wT ?_
    refine wAs rfl rfl rfl ?_
    refine wE ?_
    refine wN ?_
    cases hr
    exact wRet1 hq rfl (fun a w hf hH => resT hf rfl) fun w hH => ⟨rfl, (hH.grp 1 [] rfl)⟩
  ·
    refine wS ?_
    refine wN ?_
    refine wSq ?_
    refine wT ?_
    refine wMv rfl rfl rfl ?_
    cases hr

theorem table_Table_int_Del_w {E : Env} {w : World} {Fs : List HL} {bp0 : Nat} {p0 : table_Table_int} {hp0 : HL} {p1 : api_Prefix} {r : (table_Table_int × Bool)} (hr : table_Table_int_Del p0 p1 = some r) (hBp0 : ob_table_Table_int bp0 p0 hp0) (hH : Holds E w (hp0 :: Fs)) :
    BK.Spec Try.prog 19 [ptr bp0 0, .agg (enc_api_Prefix p1).toArray] w fun v w' => ∃ (h0' : HL), v = .bool r.2 ∧ Holds E w' (h0' :: Fs) ∧ ob_table_Table_int bp0 r.1 h0' := by
  unfold table_Table_int_Del at hr
  refine ent Try.func19 rfl hH fun Q _ hq => ?_
  refine wF [(0, ptr bp0 0), (1, .agg (enc_api_Prefix p1).toArray)] rfl ?_
  refine wSq ?_
  refine wT ?_
  refine wBox (vs := (enc_api_Prefix p1)) rfl (gd0 rfl) rfl rfl fun b1 => ⟨rn0, ?_⟩
  refine wAs rfl rfl rfl ?_
  refine wE ?_
  refine wN ?_
  refine wSq ?_
  refine wT ?_
  refine wMv rfl rfl rfl ?_
  refine wLs 0 (enc_api_Prefix p1) rfl rfl ag_42 sz_42 rfl rfl rfl rfl ?_
  obtain ⟨r1, hr1, hr⟩ := bdS hr
  refine wCl rfl (gd0 rfl) rfl rfl ck_55 (fun w hH => table_Table_int_find_w hr1 hBp0 (hH.grp 2 [[1], [0]] rfl)) ?_
  rintro _ w ⟨rfl, hH⟩
  refine ⟨_, hH, rn0, ?_⟩
  refine wMv rfl rfl rfl ?_
  refine wEx rfl rfl rfl rfl ?_
  refine wEx rfl rfl rfl rfl ?_
  refine wAs rfl rfl rfl ?_
  refine wAs rfl rfl rfl ?_
  refine wE ?_
  refine wN ?_
  refine wSq ?_
  refine wSq ?_
  refine wT ?_
  refine wMv rfl rfl rfl ?_
  refine wInt rfl rfl rfl rfl rfl ?_
  refine wE ?_
  refine wN ?_
  refine wIf2 rfl hr (fun hc1 hr => ?_) (fun hc1 hr => ?_)
  ·
    refine wSq ?_
    refine wT ?_
    refine wAs rfl rfl rfl ?_
    refine wE ?_
    refine wN ?_
    cases hr
    exact wRet1 hq rfl (fun a w hf hH => resT hf rfl) fun w hH => ⟨_, rfl, (hH.grp 2 [[0]] rfl), hBp0⟩
  ·
    refine wS ?_
    refine wN ?_
    refine wSq ?_
    obtain ⟨v1, c1, rfl, hO1⟩ := hBp0
    refine wH (fun w h => h.opn 0 _ rfl) ?_
    refine wT ?_
    refine wMv rfl rfl rfl ?_
    refine wNc rfl rfl rfl ?_
    refine wFa rfl rfl fo_117_0 rfl ?_
    refine wLd 0 rfl rfl ag_115 rfl rfl rfl ?_
    refine wMv rfl rfl rfl ?_
    refine wBd (enc_table_place_int (⟨2, z_api_Prefix, 0⟩ : table_place_int)) rfl rfl (by kernel_rfl) rfl ?_
    obtain ⟨e1, he1, hr⟩ := bdS hr
    obtain ⟨b2, me1, hE1, hI1⟩ := hO1.att (k := 10) (fun _ => rfl) he1
    refine wIxO rfl rfl rfl se_115 hI1 rfl ?_
    refine wSels 1 (off := 0) (vs := (enc_table_place_int (⟨2, z_api_Prefix, 0⟩ : table_place_int))) (z' := (⟨2, z_api_Prefix, 0⟩ : table_place_int)) rfl (gd0 rfl) rfl rfl rfl sz_121 hE1 rfl rfl rfl fun c2 hF1 => ⟨rn0, ?_⟩
    refine wE ?_
    refine wN ?_
    refine wSq ?_
    refine wT ?_
    refine wMv rfl rfl rfl ?_
    refine wNc rfl rfl rfl ?_
    refine wFa rfl rfl fo_117_2 rfl ?_
    refine wLd 0 rfl rfl ag_3 rfl rfl rfl ?_
    refine wInt rfl rfl rfl rfl rfl ?_
    refine wNc rfl rfl rfl ?_
    refine wFa rfl rfl fo_117_2 rfl ?_
    refine wSto 0 (cl_table_Table_int ({ p0 with l := (p0.l.set r1.1.toNat (⟨2, z_api_Prefix, 0⟩ : table_place_int)), n := (IntKind.i64.wrap (p0.n - 1)) } : table_Table_int) v1) rfl (gd0 rfl) rfl rfl rfl sz_3 rfl rfl rfl rn0 ?_
    refine wE ?_
    refine wN ?_
    refine wJ (fun a w => ∃ (y1 : (List table_place_int)) (c3 : HL), Fr a 38 [] ∧ Holds E w ([blk bp0 (cl_table_Table_int ({ p0 with l := y1, n := (IntKind.i64.wrap (p0.n - 1)) } : table_Table_int) v1) 117] :: c3 :: Fs) ∧ Ow enc_table_place_int 10 121 v1 y1 c3 ∧ table_Table_int_Del_k1 p0 y1 = some r) ?_ ?_
    ·
      refine wSq ?_
      refine wT ?_
      refine wMv rfl rfl rfl ?_
      refine wNc rfl rfl rfl ?_
      refine wFa rfl rfl fo_117_2 rfl ?_
      refine wLd 0 rfl rfl ag_3 rfl rfl rfl ?_
      refine wInt rfl rfl rfl rfl rfl ?_
      refine wE ?_
      refine wN ?_
      refine wIf2 rfl hr (fun hc2 hr => ?_) (fun hc2 hr => ?_)
      ·
        refine wT ?_
        refine wMv rfl rfl rfl ?_
        refine wNc rfl rfl rfl ?_
        refine wFa rfl rfl fo_117_0 rfl ?_
        refine wLd 0 rfl rfl ag_115 rfl rfl rfl ?_
        refine wClr 1 (k := 10) rfl (gd0 rfl) rfl hF1.own rfl (fun _ => rfl) (fun _ => rfl) se_115 zc_121 fun c4 hO3 => ⟨rn0, ?_⟩
        refine wE ?_
        exact fun a w hf hH => ⟨(List.replicate (p0.l.set r1.1.toNat (⟨2, z_api_Prefix, 0⟩ : table_place_int)).length z_table_place_int), c4, hf.sub _ rfl, (hH.grp 4 [[0], [1]] rfl), hO3, hr⟩
      ·
        refine wS ?_
        exact fun a w hf hH => ⟨(p0.l.set r1.1.toNat (⟨2, z_api_Prefix, 0⟩ : table_place_int)), c2, hf.sub _ rfl, (hH.grp 4 [[0], [1]] rfl), hF1.own, hr⟩
    ·
      rintro a w ⟨y1, c3, hf, hH, hO2, hr⟩
      refine jI hf hH ?_
      clear hf hH a w
      unfold table_Table_int_Del_k1 at hr
      refine wSq ?_
      refine wT ?_
      refine wAs rfl rfl rfl ?_
      refine wE ?_
      refine wN ?_
      cases hr
      exact wRet1 hq rfl (fun a w hf hH => resT hf rfl) fun w hH => ⟨_, rfl, ((hH.grp 2 [[0, 1]] rfl).grp 1 [[0]] rfl), (mo_table_Table_int hO2)⟩

theorem table_Table_int_All_1_w {E : Env} {w : World} {Fs : List HL} {p0 : api_Prefix} {p1 : api_Prefix} {r : Int} (hr : table_Table_int_All_1 p0 p1 = some r)  (hH : Holds E w (Fs)) :
    BK.Spec Try.prog 57 [.agg (enc_api_Prefix p0).toArray, .agg (enc_api_Prefix p1).toArray] w fun v w' => v = .int .i64 r ∧ Holds E w' (Fs) := by
  unfold table_Table_int_All_1 at hr
  refine ent Try.func57 rfl hH fun Q _ hq => ?_
  refine wF [(0, .agg (enc_api_Prefix p0).toArray), (1, .agg (enc_api_Prefix p1).toArray)] rfl ?_
  refine wSq ?_
  refine wT ?_
  refine wBox (vs := (enc_api_Prefix p0)) rfl (gd0 rfl) rfl rfl fun b1 => ⟨rn0, ?_⟩
  refine wBox (vs := (enc_api_Prefix p1)) rfl (gd0 rfl) rfl rfl fun b2 => ⟨rn0, ?_⟩
  refine wAs rfl rfl rfl ?_
  refine wE ?_
  refine wN ?_
  refine wSq ?_
  refine wD mix_ (.y 0 (.y 2 (.e 1 (.e 3 (.e 4 (.y 5 .done)))))) (by kernel_rfl) ?_
  refine wLs 1 (enc_api_Prefix p0) rfl rfl ag_42 sz_42 rfl rfl rfl rfl ?_
  refine wLs 0 (enc_api_Prefix p1) rfl rfl ag_42 sz_42 rfl rfl rfl rfl ?_
  obtain ⟨r1, hr1, hr⟩ := bdS hr
  refine wCl rfl (gd0 rfl) rfl rfl ck_59 (fun w hH => table_bytesOf_w hr1 hH) ?_
  rintro _ w ⟨v1, c1, hV, hH, hO1⟩
  obtain rfl := hV.symm
  refine ⟨_, hH, (rnI (inJ0 (j := 1) rfl) (rnI (inJ0 (j := 2) rfl) rnN)), ?_⟩
  obtain ⟨r2, hr2, hr⟩ := bdS hr
  refine wCl rfl (gd0 rfl) rfl rfl ck_59 (fun w hH => table_bytesOf_w hr2 hH) ?_
  rintro _ w ⟨v2, c2, hV, hH, hO2⟩
  obtain rfl := hV.symm
  refine ⟨_, hH, (rnI (inJ0 (j := 2) rfl) (rnI (inJ0 (j := 3) rfl) rnN)), ?_⟩
  obtain ⟨r3, hr3, hr⟩ := bdS hr
  refine wCl rfl (gd0 rfl) rfl rfl ck_58 (fun w hH => bytes_Compare_w hr3 (hO1.rd.mono Sub.l) (hO2.rd.mono (Sub.r Sub.l)) (hH.grp 4 [[1, 0], [2], [3]] rfl)) ?_
  rintro _ w ⟨rfl, hH⟩
  refine ⟨_, (hH.opn 0 [c1, c2] rfl), (rnI (inJ0 (j := 3) rfl) (rnI (inJ0 (j := 4) rfl) rnN)), ?_⟩
  refine wAs rfl rfl rfl ?_
  refine wE ?_
  refine wN ?_
  cases hr
  exact wRet1 hq rfl (fun a w hf hH => resT hf rfl) fun w hH => ⟨rfl, (hH.grp 5 [] rfl)⟩

theorem table_Table_int_All_1_eq (x y : api_Prefix) : table_Table_int_All_1 x y = some (pcf x y) := by
  unfold table_Table_int_All_1
  rw [bytesOf_eq, bytesOf_eq]
  rfl

theorem table_Table_int_All_w {E : Env} {w : World} {Fs : List HL} {bp0 : Nat} {p0 : table_Table_int} {hp0 : HL} {r : (List api_Prefix)} (hr : table_Table_int_All p0 = some r) (hBp0 : ob_table_Table_int bp0 p0 hp0) (hH : Holds E w (hp0 :: Fs)) :
    BK.Spec Try.prog 18 [ptr bp0 0] w fun v w' => ∃ (u0 : Value) (d0 : HL), v = u0 ∧ Holds E w' (hp0 :: d0 :: Fs) ∧ Ow enc_api_Prefix 8 42 u0 r d0 := by
  unfold table_Table_int_All at hr
  refine ent Try.func18 rfl hH fun Q _ hq => ?_
  refine wF [(0, ptr bp0 0)] rfl ?_
  refine wSq ?_
  refine wT ?_
  refine wAs rfl rfl rfl ?_
  refine wE ?_
  refine wN ?_
  refine wSq ?_
  refine wT ?_
  refine wAs rfl rfl rfl ?_
  refine wE ?_
  refine wN ?_
  refine wSq ?_
  refine wSq ?_
  refine wT ?_
  refine wMv rfl rfl rfl ?_
  refine wY rfl rfl rfl rfl (fun a hf => rPe hf rfl rfl un_36) ?_
  refine wE ?_
  refine wN ?_
  refine wIfF rfl ?_
  refine wS ?_
  refine wN ?_
  refine wSq ?_
  refine wSq ?_
  obtain ⟨v1, c1, rfl, hO1⟩ := hBp0
  refine wH (fun w h => h.opn 0 _ rfl) ?_
  refine wT ?_
  refine wMv rfl rfl rfl ?_
  refine wNc rfl rfl rfl ?_
  refine wFa rfl rfl fo_117_0 rfl ?_
  refine wLd 0 rfl rfl ag_115 rfl rfl rfl ?_
  refine wY rfl rfl rfl rfl (fun a hf => rLenR hf rfl hO1.rd rfl se_115) ?_
  refine wMv rfl rfl rfl ?_
  refine wE ?_
  refine wN ?_
  obtain ⟨o1, ho1, hra1⟩ := bdS hr
  refine wJ1 (fun a w => ∃ (s1 : (List api_Prefix)) (v2 : Value) (c2 : HL), Fr a 29 [(3, v2)] ∧ Holds E w ([blk bp0 (cl_table_Table_int p0 v1) 117] :: c1 :: c2 :: Fs) ∧ Ow enc_api_Prefix 8 42 v2 s1 c2 ∧ (o1 = .brk s1 ∨ o1 = .nxt s1)) ?_ ?_
  ·
    refine wLp (α := (List api_Prefix)) (fun n (s1 : (List api_Prefix)) a w => ∃ (i : Nat) (v2 : Value) (c2 : HL), i + n = p0.l.length ∧ Fr a 29 [(3, v2), (11, v1), (12, .int .i64 (p0.l.length : Int)), (13, .int .i64 (i : Int))] ∧ Holds E w ([blk bp0 (cl_table_Table_int p0 v1) 117] :: c1 :: c2 :: Fs) ∧ Ow enc_api_Prefix 8 42 v2 s1 c2 ∧ forN (table_Table_int_All_b1 p0) n i s1 = some o1) (n := p0.l.length) (s := []) (fun a w hf hH => ⟨0, (.slice none 0 0), [], by simp, hf.sub _ rfl, (hH.grp 3 [[0], [1], []] rfl), Ow.empty, ho1⟩) ?_
    rintro n s1 a w ⟨i, v2, c2, hi, hf, hH, hO2, ho1⟩
    refine jI hf hH ?_
    clear hf hH a w
    refine wSq (wT ?_)
    refine wInt rfl rfl rfl rfl rfl ?_
    refine wE ?_
    refine wN ?_
    refine wSq (wIf rfl (fun hc => ?_) (fun hc => ?_))
    rotate_left
    · obtain rfl : n = 0 := by simp at hc; omega
      cases ho1
      refine wX (wXt (wXt (wXh ?_)))
      exact fun a w hf hH => ⟨s1, v2, c2, hf.sub _ rfl, hH, hO2, .inr rfl⟩
    refine wS (wN ?_)
    obtain ⟨n, rfl⟩ : ∃ m, n = m + 1 := ⟨n - 1, by simp at hc; omega⟩
    obtain ⟨o2, hr, ho1⟩ := bdS ho1
    unfold table_Table_int_All_b1 at hr
    refine wSq ?_
    refine wB ?_
    refine wSq ?_
    refine wT ?_
    obtain ⟨e1, he1, hr⟩ := bdS hr
    obtain ⟨b1, me1, hE1, hI1⟩ := hO1.att (k := 10) (fun _ => rfl) he1
    refine wIxO rfl rfl rfl se_115 hI1 rfl ?_
    refine wLsE (enc_table_place_int e1) (off := 0) rfl rfl hE1.elem ag_121 sz_121 (inJ 1 rfl) rfl rfl rfl ?_
    refine wAlc rfl (gd0 rfl) rfl zc_121 fun b2 => ⟨rn0, ?_⟩
    refine wSts 0 (enc_table_place_int e1) rfl (gd0 rfl) rfl rfl rfl sz_121 rfl rfl rfl rn0 ?_
    refine wE ?_
    refine wN ?_
    refine wSq ?_
    refine wT ?_
    refine wFa rfl rfl fo_121_0 rfl ?_
    refine wLd 0 rfl rfl ag_3 rfl rfl rfl ?_
    refine wInt rfl rfl rfl rfl rfl ?_
    refine wE ?_
    refine wN ?_
    refine wIf2 rfl hr (fun hc1 hr => ?_) (fun hc1 hr => ?_)
    ·
      refine wT ?_
      refine wMv rfl rfl rfl ?_
      refine wFa rfl rfl fo_121_1 rfl ?_
      refine wLs 0 (enc_api_Prefix e1.p) rfl rfl ag_42 sz_42 rfl rfl rfl rfl ?_
      refine wBs (enc := enc_api_Prefix) (xs := [e1.p]) rfl (gd0 rfl) rfl rfl se_44 (by kernel_rfl) rfl rfl fun v3 c4 hO4 => ⟨rn0, ?_⟩
      obtain ⟨hk1, hr⟩ := ckS hr
      refine wAp 4 (k := 8) rfl (gd0 rfl) rfl rfl rfl hO2 hO4.rd rfl (inJ 0 rfl) (fun _ => rfl) (fun _ => rfl) se_44 zc_42 rfl rfl hk1 fun v4 c5 hO5 => ⟨rn0, ?_⟩
      refine wAs rfl rfl rfl ?_
      refine wE ?_
      refine wBn ?_
      cases hr
      refine wN (wT ?_)
      refine wInt rfl rfl rfl rfl rfl ?_
      refine wMv rfl (evI rfl (i64c i (by have := hO1.le; omega))) rfl ?_
      refine wE ?_
      exact fun a w hf hH => ⟨n, (s1 ++ [e1.p]), Nat.lt_succ_self n, i + 1, v4, c5, by omega, hf.sub _ rfl, (hH.grp 5 [[2], [3], [4]] rfl), hO5, ho1⟩
    ·
      refine wS ?_
      refine wBn ?_
      cases hr
      refine wN (wT ?_)
      refine wInt rfl rfl rfl rfl rfl ?_
      refine wMv rfl (evI rfl (i64c i (by have := hO1.le; omega))) rfl ?_
      refine wE ?_
      exact fun a w hf hH => ⟨n, s1, Nat.lt_succ_self n, i + 1, v2, c2, by omega, hf.sub _ rfl, (hH.grp 4 [[1], [2], [3]] rfl), hO2, ho1⟩
  ·
    rintro a w ⟨s1, v2, c2, hf, hH, hO2, hbn⟩
    have hr := aftS hra1 hbn
    refine jX hf hH ?_
    clear hf hH a w
    refine wN ?_
    refine wSq ?_
    refine wT ?_
    refine wMv rfl rfl rfl ?_
    refine wCl rfl (gd0 rfl) rfl rfl ck_56 (fun w hH => sortP_w ck_57 (fun E w Fs x y hH => table_Table_int_All_1_w (table_Table_int_All_1_eq x y) hH) hO2 (hH.grp 3 [[2], [0], [1]] rfl)) ?_
    rintro _ w ⟨c3, rfl, hH, hO3⟩
    refine ⟨_, hH, rn0, ?_⟩
    refine wE ?_
    refine wN ?_
    refine wSq ?_
    refine wT ?_
    refine wMv rfl rfl rfl ?_
    refine wAs rfl rfl rfl ?_
    refine wE ?_
    refine wN ?_
    cases hr
    exact wRet1 hq rfl (fun a w hf hH => resT hf rfl) fun w hH => ⟨_, _, rfl, ((hH.grp 3 [[1, 2], [0]] rfl).grp 2 [[0], [1]] rfl), hO3⟩

theorem table_New_string_w {E : Env} {w : World} {Fs : List HL} {p0 : Int} {r : ((Option table_Table_string) × Int)} (hr : table_New_string p0 = some r)  (hH : Holds E w (Fs)) :
    BK.Spec Try.prog 26 [.int .i64 p0] w fun v w' => ∃ (u0 : Option Addr) (d0 : HL), v = .tuple #[.pointer u0, .int .i64 r.2] ∧ Holds E w' (d0 :: Fs) ∧ OO ob_table_Table_string u0 r.1 d0 := by
  unfold table_New_string at hr
  refine ent Try.func26 rfl hH fun Q _ hq => ?_
  refine wF [(0, .int .i64 p0)] rfl ?_
  refine wSq ?_
  refine wT ?_
  refine wAs rfl rfl rfl ?_
  refine wAs rfl rfl rfl ?_
  refine wE ?_
  refine wN ?_
  refine wSq ?_
  refine wSq ?_
  refine wT ?_
  refine wMv rfl rfl rfl ?_
  refine wInt rfl rfl rfl rfl rfl ?_
  refine wMv rfl rfl rfl ?_
  refine wG rfl rfl rfl rfl rfl rfl rfl rfl (fun hc a hf => rMv hf rfl) ?_
  refine wG rfl rfl rfl rfl rfl rfl rfl rfl (fun hc a hf => rInt hf (evg rfl hc) rfl rfl) ?_
  refine wY rfl rfl rfl rfl (fun a hf => rOr hf rfl rfl rfl) ?_
  refine wE ?_
  refine wN ?_
  refine wIf2 rfl hr (fun hc1 hr => ?_) (fun hc1 hr => ?_)
  ·
    refine wSq ?_
    refine wT ?_
    refine wAs rfl rfl rfl ?_
    refine wAs rfl rfl rfl ?_
    refine wE ?_
    refine wN ?_
    cases hr
    exact wRet2 hq rfl (fun a w hf hH => resT hf rfl) (fun a w hf hH => resT hf rfl) fun w hH => ⟨_, [], rfl, (hH.grp 0 [[]] rfl), OO.none⟩
  ·
    refine wS ?_
    refine wN ?_
    refine wSq ?_
    refine wT ?_
    refine wMv rfl rfl rfl ?_
    refine wInt rfl rfl rfl rfl rfl ?_
    obtain ⟨hk1, hr⟩ := ckS hr
    refine wMk (enc := enc_table_place_string) (z := z_table_place_string) rfl (gd0 rfl) rfl rfl rfl se_127 zc_131 rfl hk1 fun v1 c1 hO1 _ => ⟨rn0, ?_⟩
    refine wMv rfl rfl rfl ?_
    refine wBd (cl_table_Table_string (⟨(List.replicate (IntKind.i64.wrap (2 * p0)).toNat z_table_place_string), p0, 0⟩ : table_Table_string) v1) rfl rfl (by obtain ⟨_, _, _, rfl⟩ := hO1.hd; kernel_rfl) rfl ?_
    refine wBox (vs := (cl_table_Table_string (⟨(List.replicate (IntKind.i64.wrap (2 * p0)).toNat z_table_place_string), p0, 0⟩ : table_Table_string) v1)) rfl (gd0 rfl) rfl rfl fun b1 => ⟨rn0, ?_⟩
    refine wAs rfl rfl rfl ?_
    refine wAs rfl rfl rfl ?_
    refine wE ?_
    refine wN ?_
    cases hr
    exact wRet2 hq rfl (fun a w hf hH => resT hf rfl) (fun a w hf hH => resT hf rfl) fun w hH => ⟨_, _, rfl, ((hH.grp 2 [[0, 1]] rfl).grp 1 [[0]] rfl), (OO.some (mo_table_Table_string hO1))⟩

theorem table_Table_string_find_w {E : Env} {w : World} {Fs : List HL} {bp0 : Nat} {p0 : table_Table_string} {hp0 : HL} {p1 : api_Prefix} {r : (Int × Int)} (hr : table_Table_string_find p0 p1 = some r) (hBp0 : ob_table_Table_string bp0 p0 hp0) (hH : Holds E w (hp0 :: Fs)) :
    BK.Spec Try.prog 61 [ptr bp0 0, .agg (enc_api_Prefix p1).toArray] w fun v w' => v = .tuple #[.int .i64 r.1, .int .i64 r.2] ∧ Holds E w' (hp0 :: Fs) := by
  unfold table_Table_string_find at hr
  refine ent Try.func61 rfl hH fun Q _ hq => ?_
  refine wF [(0, ptr bp0 0), (1, .agg (enc_api_Prefix p1).toArray)] rfl ?_
  refine wSq ?_
  refine wT ?_
  refine wBox (vs := (enc_api_Prefix p1)) rfl (gd0 rfl) rfl rfl fun b1 => ⟨rn0, ?_⟩
  refine wAs rfl rfl rfl ?_
  refine wAs rfl rfl rfl ?_
  refine wE ?_
  refine wN ?_
  refine wSq ?_
  refine wT ?_
  refine wAs rfl rfl rfl ?_
  refine wE ?_
  refine wN ?_
  refine wSq ?_
  refine wSq ?_
  refine wT ?_
  refine wMv rfl rfl rfl ?_
  refine wY rfl rfl rfl rfl (fun a hf => rPe hf rfl rfl un_61) ?_
  refine wE ?_
  refine wN ?_
  refine wIfF rfl ?_
  refine wS ?_
  refine wN ?_
  refine wSq ?_
  obtain ⟨v1, c1, rfl, hO1⟩ := hBp0
  refine wH (fun w h => h.opn 1 _ rfl) ?_
  refine wD mix_ (.y 0 (.y 1 (.y 5 (.y 6 (.y 7 (.y 8 (.y 9 (.y 10 (.e 2 (.e 3 (.e 4 (.y 11 (.y 12 .done))))))))))))) (by kernel_rfl) ?_
  refine wBd ((Tup.cells (fun y => [.int .u8 y]) 16) (Tup.rep 0 16)) rfl rfl (by kernel_rfl) rfl ?_
  refine wLs 2 (enc_api_Prefix p1) rfl rfl ag_42 sz_42 rfl rfl rfl rfl ?_
  refine wMv rfl rfl rfl ?_
  refine wNc rfl rfl rfl ?_
  refine wFa rfl rfl fo_129_0 rfl ?_
  refine wLd 0 rfl rfl ag_127 rfl rfl rfl ?_
  refine wY rfl rfl rfl rfl (fun a hf => rLenR hf rfl hO1.rd rfl se_127) ?_
  refine wCv rfl rfl ii_68 us_3 rfl ?_
  obtain ⟨r1, hr1, hr⟩ := bdS hr
  refine wCl rfl (gd0 rfl) rfl rfl ck_59 (fun w hH => table_bytesOf_w hr1 (hH.grp 4 [[0], [1], [2]] rfl)) ?_
  rintro _ w ⟨v2, c2, hV, hH, hO2⟩
  obtain rfl := hV.symm
  refine ⟨_, hH, (rnI (inJ0 (j := 1) rfl) (rnI (inJ0 (j := 3) rfl) rnN)), ?_⟩
  refine wBs (enc := raw 1) (xs := ([(v2, ())] : List (Tup Value 1))) rfl (gd0 rfl) rfl rfl se_195 (by obtain ⟨_, _, _, rfl⟩ := hO2.hd; kernel_rfl) rfl rfl fun v3 c3 hO3 => ⟨(rnI (inJ0 (j := 2) rfl) (rnI (inJ0 (j := 4) rfl) rnN)), ?_⟩
  obtain ⟨r2, hr2, hr⟩ := bdS hr
  refine wCl rfl (gd0 rfl) rfl rfl ck_91 (fun w hH => sip_Sum_w hr2 (rdpG hO3 Sub.l ⟨⟨_, rfl, (hO2.rd.mono (Sub.r Sub.l))⟩, trivial⟩) (hH.grp 5 [[0, 1], [2], [3], [4]] rfl)) ?_
  rintro _ w ⟨rfl, hH⟩
  refine ⟨_, (hH.opn 0 [c3, c2] rfl), (rnI (inJ0 (j := 3) rfl) (rnI (inJ0 (j := 5) rfl) rnN)), ?_⟩
  obtain ⟨hk1, hr⟩ := ckS hr
  refine wY rfl rfl rfl rfl (fun a hf => rRem hf rfl rfl (ne0 hk1)) ?_
  obtain ⟨x1, hx1, hr⟩ := nmS hr
  refine wAs rfl (evI rfl hx1) rfl ?_
  refine wE ?_
  refine wN ?_
  refine wSq ?_
  refine wSq ?_
  refine wT ?_
  refine wMv rfl rfl rfl ?_
  refine wNc rfl rfl rfl ?_
  refine wFa rfl rfl fo_129_0 rfl ?_
  refine wLd 3 rfl rfl ag_127 rfl rfl rfl ?_
  refine wY rfl rfl rfl rfl (fun a hf => rLenR hf rfl hO1.rd rfl se_127) ?_
  refine wMv rfl rfl rfl ?_
  refine wE ?_
  refine wN ?_
  obtain ⟨o1, ho1, hra1⟩ := bdS hr
  refine wJ1 (fun a w => ∃ (s1 : Int) , Fr a 82 [(6, .int .i64 s1)] ∧ Holds E w ([blk bp0 (cl_table_Table_string p0 v1) 129] :: c1 :: [blk b1 (enc_api_Prefix p1) 42] :: Fs) ∧ (o1 = .brk s1 ∨ o1 = .nxt s1)) ?_ ?_
  ·
    refine wLp (α := Int) (fun n (s1 : Int) a w => ∃ (i : Nat) , i + n = p0.l.length ∧ Fr a 82 [(0, ptr bp0 0), (3, ptr b1 0), (6, .int .i64 s1), (7, .int .u64 x1), (29, .int .i64 (p0.l.length : Int)), (30, .int .i64 (i : Int))] ∧ Holds E w ([blk bp0 (cl_table_Table_string p0 v1) 129] :: c1 :: [blk b1 (enc_api_Prefix p1) 42] :: Fs) ∧ forN (table_Table_string_find_b1 p0 p1 x1) n i s1 = some o1) (n := p0.l.length) (s := (-1)) (fun a w hf hH => ⟨0, by simp, hf.sub _ rfl, (hH.grp 6 [[3], [4], [5]] rfl), ho1⟩) ?_
    rintro n s1 a w ⟨i, hi, hf, hH, ho1⟩
    refine jI hf hH ?_
    clear hf hH a w
    refine wSq (wT ?_)
    refine wInt rfl rfl rfl rfl rfl ?_
    refine wE ?_
    refine wN ?_
    refine wSq (wIf rfl (fun hc => ?_) (fun hc => ?_))
    rotate_left
    · obtain rfl : n = 0 := by simp at hc; omega
      cases ho1
      refine wX (wXt (wXt (wXh ?_)))
      exact fun a w hf hH => ⟨s1, hf.sub _ rfl, hH, .inr rfl⟩
    refine wS (wN ?_)
    obtain ⟨n, rfl⟩ : ∃ m, n = m + 1 := ⟨n - 1, by simp at hc; omega⟩
    obtain ⟨o2, hr, ho1⟩ := bdS ho1
    unfold table_Table_string_find_b1 at hr
    refine wSq ?_
    refine wB ?_
    refine wSq ?_
    refine wT ?_
    refine wMv rfl rfl rfl ?_
    refine wAs rfl rfl rfl ?_
    refine wE ?_
    refine wN ?_
    refine wSq ?_
    refine wT ?_
    refine wMv rfl rfl rfl ?_
    refine wCv rfl rfl ii_3 us_68 rfl ?_
    refine wMv rfl rfl rfl ?_
    refine wInt rfl rfl rfl rfl rfl ?_
    refine wMv rfl rfl rfl ?_
    refine wNc rfl rfl rfl ?_
    refine wFa rfl rfl fo_129_0 rfl ?_
    refine wLd 0 rfl rfl ag_127 rfl rfl rfl ?_
    refine wY rfl rfl rfl rfl (fun a hf => rLenR hf rfl hO1.rd rfl se_127) ?_
    obtain ⟨hk2, hr⟩ := ckS hr
    refine wY rfl rfl rfl rfl (fun a hf => rRem hf rfl rfl (ne0 hk2)) ?_
    obtain ⟨x2, hx2, hr⟩ := nmS hr
    refine wAs rfl (evI rfl hx2) rfl ?_
    refine wE ?_
    refine wN ?_
    refine wJ (fun a w => ∃ (y2 : Int), Fr a 82 [(0, ptr bp0 0), (3, ptr b1 0), (6, .int .i64 y2), (7, .int .u64 x1), (9, .int .i64 x2), (29, .int .i64 (p0.l.length : Int)), (30, .int .i64 (i : Int))] ∧ Holds E w ([blk bp0 (cl_table_Table_string p0 v1) 129] :: c1 :: [blk b1 (enc_api_Prefix p1) 42] :: Fs) ∧ table_Table_string_find_k1 p0 x2 y2 = some o2) ?_ ?_
    ·
      refine wSq ?_
      refine wT ?_
      refine wMv rfl rfl rfl ?_
      refine wNc rfl rfl rfl ?_
      refine wFa rfl rfl fo_129_0 rfl ?_
      refine wLd 0 rfl rfl ag_127 rfl rfl rfl ?_
      refine wMv rfl rfl rfl ?_
      obtain ⟨e2, he2, hr⟩ := bdS hr
      obtain ⟨b3, me2, hE2, hI2⟩ := hO1.att (k := 10) (fun _ => rfl) he2
      refine wIxO rfl rfl rfl se_127 hI2 rfl ?_
      refine wLsE (enc_table_place_string e2) (off := 0) rfl rfl hE2.elem ag_131 sz_131 (inJ 1 rfl) rfl rfl rfl ?_
      refine wAlc rfl (gd0 rfl) rfl zc_131 fun b4 => ⟨rn0, ?_⟩
      refine wSts 0 (enc_table_place_string e2) rfl (gd0 rfl) rfl rfl rfl sz_131 rfl rfl rfl rn0 ?_
      refine wE ?_
      refine wN ?_
      refine wB ?_
      refine wSq ?_
      refine wT ?_
      refine wFa rfl rfl fo_131_0 rfl ?_
      refine wLd 0 rfl rfl ag_3 rfl rfl rfl ?_
      refine wInt rfl rfl rfl rfl rfl ?_
      refine wMv rfl rfl rfl ?_
      refine wG rfl rfl rfl rfl rfl rfl rfl rfl (fun hc a hf => rFa hf rfl fo_131_1) ?_
      refine wGr rfl rfl rfl rfl rfl rfl rfl rfl (inJ0 (j := 0) rfl) (fun hc a hf cs hC => rLs (vs := (enc_api_Prefix e2.p)) hf (evg rfl hc) ag_42 sz_42 (m1 hC) (Nat.le_of_ble_eq_true rfl) rfl) ?_
      refine wGr rfl rfl rfl rfl rfl rfl rfl rfl (inJ0 (j := 3) rfl) (fun hc a hf cs hC => rLs (vs := (enc_api_Prefix p1)) hf rfl ag_42 sz_42 (m1 hC) (Nat.le_of_ble_eq_true rfl) rfl) ?_
      refine wG rfl rfl rfl rfl rfl rfl rfl rfl (fun hc a hf => rFlE hf (evg rfl hc) (evg rfl hc) eqF_42) ?_
      refine wY rfl rfl rfl rfl (fun a hf => rAnd hf rfl rfl rfl) ?_
      obtain ⟨x3, hx3, hr⟩ := nmS hr
      refine wAs rfl (evB rfl hx3) rfl ?_
      refine wE ?_
      refine wN ?_
      refine wIf2 rfl hr (fun hc2 hr => ?_) (fun hc2 hr => ?_)
      ·
        refine wSq ?_
        refine wT ?_
        refine wMv rfl rfl rfl ?_
        refine wMv rfl rfl rfl ?_
        refine wAs rfl rfl rfl ?_
        refine wAs rfl rfl rfl ?_
        refine wE ?_
        refine wN ?_
        cases hr
        obtain rfl := stpR ho1
        obtain rfl := aftR hra1
        exact wRet2 hq rfl (fun a w hf hH => resT hf rfl) (fun a w hf hH => resT hf rfl) fun w hH => ⟨rfl, ((hH.grp 4 [[1, 2], [0], [3]] rfl).grp 3 [[0]] rfl)⟩
      ·
        refine wSq ?_
        refine wT ?_
        refine wFa rfl rfl fo_131_0 rfl ?_
        refine wLd 0 rfl rfl ag_3 rfl rfl rfl ?_
        refine wInt rfl rfl rfl rfl rfl ?_
        refine wMv rfl rfl rfl ?_
        refine wG rfl rfl rfl rfl rfl rfl rfl rfl (fun hc a hf => rMv hf rfl) ?_
        refine wG rfl rfl rfl rfl rfl rfl rfl rfl (fun hc a hf => rInt hf (evg rfl hc) rfl rfl) ?_
        refine wY rfl rfl rfl rfl (fun a hf => rAnd hf rfl rfl rfl) ?_
        refine wAs rfl rfl rfl ?_
        refine wE ?_
        refine wN ?_
        refine wIf2 rfl hr (fun hc3 hr => ?_) (fun hc3 hr => ?_)
        ·
          refine wT ?_
          refine wMv rfl rfl rfl ?_
          refine wAs rfl rfl rfl ?_
          refine wE ?_
          refine wBn ?_
          exact fun a w hf hH => ⟨x2, hf.sub _ rfl, (hH.grp 4 [[1], [2], [3]] rfl), hr⟩
        ·
          refine wS ?_
          refine wBn ?_
          exact fun a w hf hH => ⟨s1, hf.sub _ rfl, (hH.grp 4 [[1], [2], [3]] rfl), hr⟩
    ·
      rintro a w ⟨y2, hf, hH, hr⟩
      refine jI hf hH ?_
      clear hf hH a w
      unfold table_Table_string_find_k1 at hr
      refine wSq ?_
      refine wT ?_
      refine wMv rfl rfl rfl ?_
      refine wNc rfl rfl rfl ?_
      refine wFa rfl rfl fo_129_0 rfl ?_
      refine wLd 0 rfl rfl ag_127 rfl rfl rfl ?_
      refine wMv rfl rfl rfl ?_
      obtain ⟨e1, he1, hr⟩ := bdS hr
      obtain ⟨b2, me1, hE1, hI1⟩ := hO1.att (k := 10) (fun _ => rfl) he1
      refine wIxO rfl rfl rfl se_127 hI1 rfl ?_
      refine wFa rfl rfl fo_131_0 rfl ?_
      refine wLdE (off := 0) rfl rfl hE1.elem ag_3 (inJ 1 rfl) rfl rfl ?_
      refine wInt rfl rfl rfl rfl rfl ?_
      refine wE ?_
      refine wN ?_
      refine wIf2 rfl hr (fun hc1 hr => ?_) (fun hc1 hr => ?_)
      ·
        refine wX (wXo (by decide) (wXt (wXt (wXh ?_))))
        cases hr
        obtain rfl := stpB ho1
        exact fun a w hf hH => ⟨y2, hf.sub _ rfl, hH, .inl rfl⟩
      ·
        refine wS ?_
        refine wBn ?_
        cases hr
        refine wN (wT ?_)
        refine wInt rfl rfl rfl rfl rfl ?_
        refine wMv rfl (evI rfl (i64c i (by have := hO1.le; omega))) rfl ?_
        refine wE ?_
        exact fun a w hf hH => ⟨n, y2, Nat.lt_succ_self n, i + 1, by omega, hf.sub _ rfl, hH, ho1⟩
  ·
    rintro a w ⟨s1, hf, hH, hbn⟩
    have hr := aftS hra1 hbn
    refine jX hf hH ?_
    clear hf hH a w
    refine wN ?_
    refine wSq ?_
    refine wT ?_
    refine wMv rfl rfl rfl ?_
    refine wAs rfl rfl rfl ?_
    refine wAs rfl rfl rfl ?_
    refine wE ?_
    refine wN ?_
    cases hr
    exact wRet2 hq rfl (fun a w hf hH => resT hf rfl) (fun a w hf hH => resT hf rfl) fun w hH => ⟨rfl, ((hH.grp 3 [[0, 1], [2]] rfl).grp 2 [[0]] rfl)⟩

theorem table_Table_string_Put_w {E : Env} {w : World} {Fs : List HL} {bp0 : Nat} {p0 : table_Table_string} {hp0 : HL} {p1 : api_Prefix} {p2 : ByteArray} {r : (table_Table_string × Bool)} (hr : table_Table_string_Put p0 p1 p2 = some r) (hBp0 : ob_table_Table_string bp0 p0 hp0) (hH : Holds E w (hp0 :: Fs)) :
    BK.Spec Try.prog 27 [ptr bp0 0, .agg (enc_api_Prefix p1).toArray, .string p2] w fun v w' => ∃ (h0' : HL), v = .bool r.2 ∧ Holds E w' (h0' :: Fs) ∧ ob_table_Table_string bp0 r.1 h0' := by
  unfold table_Table_string_Put at hr
  refine ent Try.func27 rfl hH fun Q _ hq => ?_
  refine wF [(0, ptr bp0 0), (1, .agg (enc_api_Prefix p1).toArray), (2, .string p2)] rfl ?_
  refine wSq ?_
  refine wT ?_
  refine wBox (vs := (enc_api_Prefix p1)) rfl (gd0 rfl) rfl rfl fun b1 => ⟨rn0, ?_⟩
  refine wAs rfl rfl rfl ?_
  refine wE ?_
  refine wN ?_
  refine wSq ?_
  refine wT ?_
  refine wMv rfl rfl rfl ?_
  refine wLs 0 (enc_api_Prefix p1) rfl rfl ag_42 sz_42 rfl rfl rfl rfl ?_
  obtain ⟨r1, hr1, hr⟩ := bdS hr
  refine wCl rfl (gd0 rfl) rfl rfl ck_61 (fun w hH => table_Table_string_find_w hr1 hBp0 (hH.grp 2 [[1], [0]] rfl)) ?_
  rintro _ w ⟨rfl, hH⟩
  refine ⟨_, hH, rn0, ?_⟩
  refine wMv rfl rfl rfl ?_
  refine wEx rfl rfl rfl rfl ?_
  refine wEx rfl rfl rfl rfl ?_
  refine wAs rfl rfl rfl ?_
  refine wAs rfl rfl rfl ?_
  refine wE ?_
  refine wN ?_
  refine wSq ?_
  refine wB ?_
  refine wSq ?_
  refine wT ?_
  refine wMv rfl rfl rfl ?_
  refine wInt rfl rfl rfl rfl rfl ?_
  refine wAs rfl rfl rfl ?_
  refine wE ?_
  refine wN ?_
  refine wIf2 rfl hr (fun hc1 hr => ?_) (fun hc1 hr => ?_)
  ·
    refine wSq ?_
    obtain ⟨v1, c1, rfl, hO1⟩ := hBp0
    refine wH (fun w h => h.opn 0 _ rfl) ?_
    refine wT ?_
    refine wMv rfl rfl rfl ?_
    refine wNc rfl rfl rfl ?_
    refine wFa rfl rfl fo_129_0 rfl ?_
    refine wLd 0 rfl rfl ag_127 rfl rfl rfl ?_
    refine wMv rfl rfl rfl ?_
    refine wMv rfl rfl rfl ?_
    obtain ⟨e1, he1, hr⟩ := bdS hr
    obtain ⟨b2, me1, hE1, hI1⟩ := hO1.att (k := 10) (fun _ => rfl) he1
    refine wIxO rfl rfl rfl se_127 hI1 rfl ?_
    refine wFa rfl rfl fo_131_2 rfl ?_
    refine wSel 1 (off := 9) (z' := ({ e1 with v := p2 } : table_place_string)) rfl (gd0 rfl) rfl rfl rfl sz_9 hE1 rfl rfl rfl fun c2 hF1 => ⟨rn0, ?_⟩
    refine wE ?_
    refine wN ?_
    refine wSq ?_
    refine wT ?_
    refine wAs rfl rfl rfl ?_
    refine wE ?_
    refine wN ?_
    cases hr
    exact wRet1 hq rfl (fun a w hf hH => resT hf rfl) fun w hH => ⟨_, rfl, ((hH.grp 4 [[0, 1], [3]] rfl).grp 2 [[0]] rfl), (mo_table_Table_string hF1.own)⟩
  ·
    refine wSq ?_
    obtain ⟨v2, c3, rfl, hO2⟩ := hBp0
    refine wH (fun w h => h.opn 0 _ rfl) ?_
    refine wD mix_ (.y 0 (.y 1 (.y 2 (.y 3 (.y 4 (.y 5 (.y 6 (.y 7 (.y 8 (.y 9 (.y 10 (.y 11 (.y 12 (.y 13 .done)))))))))))))) (by kernel_rfl) ?_
    refine wMv rfl rfl rfl ?_
    refine wY rfl rfl rfl rfl (fun a hf => rPe hf rfl rfl un_61) ?_
    refine wMv rfl rfl rfl ?_
    refine wGt rfl rfl rfl rfl rfl rfl rfl rfl (fun a hf => rMv hf rfl) ?_
    refine wGt rfl rfl rfl rfl rfl rfl rfl rfl (fun a hf => rNil hf rfl) ?_
    refine wGt rfl rfl rfl rfl rfl rfl rfl rfl (fun a hf => rFa hf rfl fo_129_2) ?_
    refine wGtr rfl rfl rfl rfl rfl rfl rfl rfl (inJ0 (j := 0) rfl) (fun a hf cs hC => rLd hf rfl ag_3 (m1 hC) rfl) ?_
    refine wGt rfl rfl rfl rfl rfl rfl rfl rfl (fun a hf => rMv hf rfl) ?_
    refine wGt rfl rfl rfl rfl rfl rfl rfl rfl (fun a hf => rNil hf rfl) ?_
    refine wGt rfl rfl rfl rfl rfl rfl rfl rfl (fun a hf => rFa hf rfl fo_129_1) ?_
    refine wGtr rfl rfl rfl rfl rfl rfl rfl rfl (inJ0 (j := 0) rfl) (fun a hf cs hC => rLd hf rfl ag_3 (m1 hC) rfl) ?_
    refine wGt rfl rfl rfl rfl rfl rfl rfl rfl (fun a hf => rInt hf rfl rfl rfl) ?_
    refine wY rfl rfl rfl rfl (fun a hf => rPkF hf rfl rfl rfl) ?_
    refine wAs rfl rfl rfl ?_
    refine wE ?_
    refine wN ?_
    refine wIf2 rfl hr (fun hc2 hr => ?_) (fun hc2 hr => ?_)
    ·
      refine wSq ?_
      refine wT ?_
      refine wAs rfl rfl rfl ?_
      refine wE ?_
      refine wN ?_
      cases hr
      exact wRet1 hq rfl (fun a w hf hH => resT hf rfl) fun w hH => ⟨_, rfl, ((hH.grp 4 [[0, 1], [3]] rfl).grp 2 [[0]] rfl), (mo_table_Table_string hO2)⟩
    ·
      refine wS ?_
      refine wBn ?_
      refine wN ?_
      refine wSq ?_
      refine wD mix_ (.y 0 (.y 1 (.y 2 (.y 3 (.y 4 (.y 5 (.y 6 (.y 7 (.y 8 (.e 9 .done)))))))))) (by kernel_rfl) ?_
      refine wMv rfl rfl rfl ?_
      refine wNc rfl rfl rfl ?_
      refine wFa rfl rfl fo_129_0 rfl ?_
      refine wLd 0 rfl rfl ag_127 rfl rfl rfl ?_
      refine wMv rfl rfl rfl ?_
      refine wLs 3 (enc_api_Prefix p1) rfl rfl ag_42 sz_42 rfl rfl rfl rfl ?_
      refine wMv rfl rfl rfl ?_
      refine wBd (enc_table_place_string (⟨1, p1, p2⟩ : table_place_string)) rfl rfl (by kernel_rfl) rfl ?_
      obtain ⟨e2, he2, hr⟩ := bdS hr
      obtain ⟨b3, me2, hE2, hI2⟩ := hO2.att (k := 10) (fun _ => rfl) he2
      refine wIxO rfl rfl rfl se_127 hI2 rfl ?_
      refine wSels 1 (off := 0) (vs := (enc_table_place_string (⟨1, p1, p2⟩ : table_place_string))) (z' := (⟨1, p1, p2⟩ : table_place_string)) rfl (gd0 rfl) rfl rfl rfl sz_131 hE2 rfl rfl rfl fun c4 hF2 => ⟨(rnI (inJ0 (j := 3) rfl) (rnI (inJ0 (j := 0) rfl) rnN)), ?_⟩
      refine wE ?_
      refine wN ?_
      refine wSq ?_
      refine wT ?_
      refine wMv rfl rfl rfl ?_
      refine wNc rfl rfl rfl ?_
      refine wFa rfl rfl fo_129_2 rfl ?_
      refine wLd 0 rfl rfl ag_3 rfl rfl rfl ?_
      refine wInt rfl rfl rfl rfl rfl ?_
      refine wNc rfl rfl rfl ?_
      refine wFa rfl rfl fo_129_2 rfl ?_
      refine wSto 0 (cl_table_Table_string ({ p0 with l := (p0.l.set r1.2.toNat (⟨1, p1, p2⟩ : table_place_string)), n := (IntKind.i64.wrap (p0.n + 1)) } : table_Table_string) v2) rfl (gd0 rfl) rfl rfl rfl sz_3 rfl rfl rfl rn0 ?_
      refine wE ?_
      refine wN ?_
      refine wSq ?_
      refine wT ?_
      refine wAs rfl rfl rfl ?_
      refine wE ?_
      refine wN ?_
      cases hr
      exact wRet1 hq rfl (fun a w hf hH => resT hf rfl) fun w hH => ⟨_, rfl, ((hH.grp 4 [[0, 1], [3]] rfl).grp 2 [[0]] rfl), (mo_table_Table_string hF2.own)⟩

theorem table_Table_string_All_1_w {E : Env} {w : World} {Fs : List HL} {p0 : api_Prefix} {p1 : api_Prefix} {r : Int} (hr : table_Table_string_All_1 p0 p1 = some r)  (hH : Holds E w (Fs)) :
    BK.Spec Try.prog 62 [.agg (enc_api_Prefix p0).toArray, .agg (enc_api_Prefix p1).toArray] w fun v w' => v = .int .i64 r ∧ Holds E w' (Fs) := by
  unfold table_Table_string_All_1 at hr
  refine ent Try.func62 rfl hH fun Q _ hq => ?_
  refine wF [(0, .agg (enc_api_Prefix p0).toArray), (1, .agg (enc_api_Prefix p1).toArray)] rfl ?_
  refine wSq ?_
  refine wT ?_
  refine wBox (vs := (enc_api_Prefix p0)) rfl (gd0 rfl) rfl rfl fun b1 => ⟨rn0, ?_⟩
  refine wBox (vs := (enc_api_Prefix p1)) rfl (gd0 rfl) rfl rfl fun b2 => ⟨rn0, ?_⟩
  refine wAs rfl rfl rfl ?_
  refine wE ?_
  refine wN ?_
  refine wSq ?_
  refine wD mix_ (.y 0 (.y 2 (.e 1 (.e 3 (.e 4 (.y 5 .done)))))) (by kernel_rfl) ?_
  refine wLs 1 (enc_api_Prefix p0) rfl rfl ag_42 sz_42 rfl rfl rfl rfl ?_
  refine wLs 0 (enc_api_Prefix p1) rfl rfl ag_42 sz_42 rfl rfl rfl rfl ?_
  obtain ⟨r1, hr1, hr⟩ := bdS hr
  refine wCl rfl (gd0 rfl) rfl rfl ck_59 (fun w hH => table_bytesOf_w hr1 hH) ?_
  rintro _ w ⟨v1, c1, hV, hH, hO1⟩
  obtain rfl := hV.symm
  refine ⟨_, hH, (rnI (inJ0 (j := 1) rfl) (rnI (inJ0 (j := 2) rfl) rnN)), ?_⟩
  obtain ⟨r2, hr2, hr⟩ := bdS hr
  refine wCl rfl (gd0 rfl) rfl rfl ck_59 (fun w hH => table_bytesOf_w hr2 hH) ?_
  rintro _ w ⟨v2, c2, hV, hH, hO2⟩
  obtain rfl := hV.symm
  refine ⟨_, hH, (rnI (inJ0 (j := 2) rfl) (rnI (inJ0 (j := 3) rfl) rnN)), ?_⟩
  obtain ⟨r3, hr3, hr⟩ := bdS hr
  refine wCl rfl (gd0 rfl) rfl rfl ck_58 (fun w hH => bytes_Compare_w hr3 (hO1.rd.mono Sub.l) (hO2.rd.mono (Sub.r Sub.l)) (hH.grp 4 [[1, 0], [2], [3]] rfl)) ?_
  rintro _ w ⟨rfl, hH⟩
  refine ⟨_, (hH.opn 0 [c1, c2] rfl), (rnI (inJ0 (j := 3) rfl) (rnI (inJ0 (j := 4) rfl) rnN)), ?_⟩
  refine wAs rfl rfl rfl ?_
  refine wE ?_
  refine wN ?_
  cases hr
  exact wRet1 hq rfl (fun a w hf hH => resT hf rfl) fun w hH => ⟨rfl, (hH.grp 5 [] rfl)⟩

theorem table_Table_string_All_1_eq (x y : api_Prefix) : table_Table_string_All_1 x y = some (pcf x y) := by
  unfold table_Table_string_All_1
  rw [bytesOf_eq, bytesOf_eq]
  rfl

theorem table_Table_string_All_w {E : Env} {w : World} {Fs : List HL} {bp0 : Nat} {p0 : table_Table_string} {hp0 : HL} {r : (List api_Prefix)} (hr : table_Table_string_All p0 = some r) (hBp0 : ob_table_Table_string bp0 p0 hp0) (hH : Holds E w (hp0 :: Fs)) :
    BK.Spec Try.prog 28 [ptr bp0 0] w fun v w' => ∃ (u0 : Value) (d0 : HL), v = u0 ∧ Holds E w' (hp0 :: d0 :: Fs) ∧ Ow enc_api_Prefix 8 42 u0 r d0 := by
  unfold table_Table_string_All at hr
  refine ent Try.func28 rfl hH fun Q _ hq => ?_
  refine wF [(0, ptr bp0 0)] rfl ?_
  refine wSq ?_
  refine wT ?_
  refine wAs rfl rfl rfl ?_
  refine wE ?_
  refine wN ?_
  refine wSq ?_
  refine wT ?_
  refine wAs rfl rfl rfl ?_
  refine wE ?_
  refine wN ?_
  refine wSq ?_
  refine wSq ?_
  refine wT ?_
  refine wMv rfl rfl rfl ?_
  refine wY rfl rfl rfl rfl (fun a hf => rPe hf rfl rfl un_61) ?_
  refine wE ?_
  refine wN ?_
  refine wIfF rfl ?_
  refine wS ?_
  refine wN ?_
  refine wSq ?_
  refine wSq ?_
  obtain ⟨v1, c1, rfl, hO1⟩ := hBp0
  refine wH (fun w h => h.opn 0 _ rfl) ?_
  refine wT ?_
  refine wMv rfl rfl rfl ?_
  refine wNc rfl rfl rfl ?_
  refine wFa rfl rfl fo_129_0 rfl ?_
  refine wLd 0 rfl rfl ag_127 rfl rfl rfl ?_
  refine wY rfl rfl rfl rfl (fun a hf => rLenR hf rfl hO1.rd rfl se_127) ?_
  refine wMv rfl rfl rfl ?_
  refine wE ?_
  refine wN ?_
  obtain ⟨o1, ho1, hra1⟩ := bdS hr
  refine wJ1 (fun a w => ∃ (s1 : (List api_Prefix)) (v2 : Value) (c2 : HL), Fr a 29 [(3, v2)] ∧ Holds E w ([blk bp0 (cl_table_Table_string p0 v1) 129] :: c1 :: c2 :: Fs) ∧ Ow enc_api_Prefix 8 42 v2 s1 c2 ∧ (o1 = .brk s1 ∨ o1 = .nxt s1)) ?_ ?_
  ·
    refine wLp (α := (List api_Prefix)) (fun n (s1 : (List api_Prefix)) a w => ∃ (i : Nat) (v2 : Value) (c2 : HL), i + n = p0.l.length ∧ Fr a 29 [(3, v2), (11, v1), (12, .int .i64 (p0.l.length : Int)), (13, .int .i64 (i : Int))] ∧ Holds E w ([blk bp0 (cl_table_Table_string p0 v1) 129] :: c1 :: c2 :: Fs) ∧ Ow enc_api_Prefix 8 42 v2 s1 c2 ∧ forN (table_Table_string_All_b1 p0) n i s1 = some o1) (n := p0.l.length) (s := []) (fun a w hf hH => ⟨0, (.slice none 0 0), [], by simp, hf.sub _ rfl, (hH.grp 3 [[0], [1], []] rfl), Ow.empty, ho1⟩) ?_
    rintro n s1 a w ⟨i, v2, c2, hi, hf, hH, hO2, ho1⟩
    refine jI hf hH ?_
    clear hf hH a w
    refine wSq (wT ?_)
    refine wInt rfl rfl rfl rfl rfl ?_
    refine wE ?_
    refine wN ?_
    refine wSq (wIf rfl (fun hc => ?_) (fun hc => ?_))
    rotate_left
    · obtain rfl : n = 0 := by simp at hc; omega
      cases ho1
      refine wX (wXt (wXt (wXh ?_)))
      exact fun a w hf hH => ⟨s1, v2, c2, hf.sub _ rfl, hH, hO2, .inr rfl⟩
    refine wS (wN ?_)
    obtain ⟨n, rfl⟩ : ∃ m, n = m + 1 := ⟨n - 1, by simp at hc; omega⟩
    obtain ⟨o2, hr, ho1⟩ := bdS ho1
    unfold table_Table_string_All_b1 at hr
    refine wSq ?_
    refine wB ?_
    refine wSq ?_
    refine wT ?_
    obtain ⟨e1, he1, hr⟩ := bdS hr
    obtain ⟨b1, me1, hE1, hI1⟩ := hO1.att (k := 10) (fun _ => rfl) he1
    refine wIxO rfl rfl rfl se_127 hI1 rfl ?_
    refine wLsE (enc_table_place_string e1) (off := 0) rfl rfl hE1.elem ag_131 sz_131 (inJ 1 rfl) rfl rfl rfl ?_
    refine wAlc rfl (gd0 rfl) rfl zc_131 fun b2 => ⟨rn0, ?_⟩
    refine wSts 0 (enc_table_place_string e1) rfl (gd0 rfl) rfl rfl rfl sz_131 rfl rfl rfl rn0 ?_
    refine wE ?_
    refine wN ?_
    refine wSq ?_
    refine wT ?_
    refine wFa rfl rfl fo_131_0 rfl ?_
    refine wLd 0 rfl rfl ag_3 rfl rfl rfl ?_
    refine wInt rfl rfl rfl rfl rfl ?_
    refine wE ?_
    refine wN ?_
    refine wIf2 rfl hr (fun hc1 hr => ?_) (fun hc1 hr => ?_)
    ·
      refine wT ?_
      refine wMv rfl rfl rfl ?_
      refine wFa rfl rfl fo_131_1 rfl ?_
      refine wLs 0 (enc_api_Prefix e1.p) rfl rfl ag_42 sz_42 rfl rfl rfl rfl ?_
      refine wBs (enc := enc_api_Prefix) (xs := [e1.p]) rfl (gd0 rfl) rfl rfl se_44 (by kernel_rfl) rfl rfl fun v3 c4 hO4 => ⟨rn0, ?_⟩
      obtain ⟨hk1, hr⟩ := ckS hr
      refine wAp 4 (k := 8) rfl (gd0 rfl) rfl rfl rfl hO2 hO4.rd rfl (inJ 0 rfl) (fun _ => rfl) (fun _ => rfl) se_44 zc_42 rfl rfl hk1 fun v4 c5 hO5 => ⟨rn0, ?_⟩
      refine wAs rfl rfl rfl ?_
      refine wE ?_
      refine wBn ?_
      cases hr
      refine wN (wT ?_)
      refine wInt rfl rfl rfl rfl rfl ?_
      refine wMv rfl (evI rfl (i64c i (by have := hO1.le; omega))) rfl ?_
      refine wE ?_
      exact fun a w hf hH => ⟨n, (s1 ++ [e1.p]), Nat.lt_succ_self n, i + 1, v4, c5, by omega, hf.sub _ rfl, (hH.grp 5 [[2], [3], [4]] rfl), hO5, ho1⟩
    ·
      refine wS ?_
      refine wBn ?_
      cases hr
      refine wN (wT ?_)
      refine wInt rfl rfl rfl rfl rfl ?_
      refine wMv rfl (evI rfl (i64c i (by have := hO1.le; omega))) rfl ?_
      refine wE ?_
      exact fun a w hf hH => ⟨n, s1, Nat.lt_succ_self n, i + 1, v2, c2, by omega, hf.sub _ rfl, (hH.grp 4 [[1], [2], [3]] rfl), hO2, ho1⟩
  ·
    rintro a w ⟨s1, v2, c2, hf, hH, hO2, hbn⟩
    have hr := aftS hra1 hbn
    refine jX hf hH ?_
    clear hf hH a w
    refine wN ?_
    refine wSq ?_
    refine wT ?_
    refine wMv rfl rfl rfl ?_
    refine wCl rfl (gd0 rfl) rfl rfl ck_56 (fun w hH => sortP_w ck_62 (fun E w Fs x y hH => table_Table_string_All_1_w (table_Table_string_All_1_eq x y) hH) hO2 (hH.grp 3 [[2], [0], [1]] rfl)) ?_
    rintro _ w ⟨c3, rfl, hH, hO3⟩
    refine ⟨_, hH, rn0, ?_⟩
    refine wE ?_
    refine wN ?_
    refine wSq ?_
    refine wT ?_
    refine wMv rfl rfl rfl ?_
    refine wAs rfl rfl rfl ?_
    refine wE ?_
    refine wN ?_
    cases hr
    exact wRet1 hq rfl (fun a w hf hH => resT hf rfl) fun w hH => ⟨_, _, rfl, ((hH.grp 3 [[1, 2], [0]] rfl).grp 2 [[0], [1]] rfl), hO3⟩

theorem table_Table_string_Get_w {E : Env} {w : World} {Fs : List HL} {bp0 : Nat} {p0 : table_Table_string} {hp0 : HL} {p1 : api_Prefix} {r : (ByteArray × Bool)} (hr : table_Table_string_Get p0 p1 = some r) (hBp0 : ob_table_Table_string bp0 p0 hp0) (hH : Holds E w (hp0 :: Fs)) :
    BK.Spec Try.prog 29 [ptr bp0 0, .agg (enc_api_Prefix p1).toArray] w fun v w' => v = .tuple #[.string r.1, .bool r.2] ∧ Holds E w' (hp0 :: Fs) := by
  unfold table_Table_string_Get at hr
  refine ent Try.func29 rfl hH fun Q _ hq => ?_
  refine wF [(0, ptr bp0 0), (1, .agg (enc_api_Prefix p1).toArray)] rfl ?_
  refine wSq ?_
  refine wT ?_
  refine wBox (vs := (enc_api_Prefix p1)) rfl (gd0 rfl) rfl rfl fun b1 => ⟨rn0, ?_⟩
  refine wAs rfl rfl rfl ?_
  refine wAs rfl rfl rfl ?_
  refine wE ?_
  refine wN ?_
  refine wSq ?_
  refine wT ?_
  refine wMv rfl rfl rfl ?_
  refine wLs 0 (enc_api_Prefix p1) rfl rfl ag_42 sz_42 rfl rfl rfl rfl ?_
  obtain ⟨r1, hr1, hr⟩ := bdS hr
  refine wCl rfl (gd0 rfl) rfl rfl ck_61 (fun w hH => table_Table_string_find_w hr1 hBp0 (hH.grp 2 [[1], [0]] rfl)) ?_
  rintro _ w ⟨rfl, hH⟩
  refine ⟨_, hH, rn0, ?_⟩
  refine wMv rfl rfl rfl ?_
  refine wEx rfl rfl rfl rfl ?_
  refine wEx rfl rfl rfl rfl ?_
  refine wAs rfl rfl rfl ?_
  refine wAs rfl rfl rfl ?_
  refine wE ?_
  refine wN ?_
  refine wSq ?_
  refine wSq ?_
  refine wT ?_
  refine wMv rfl rfl rfl ?_
  refine wInt rfl rfl rfl rfl rfl ?_
  refine wE ?_
  refine wN ?_
  refine wIf2 rfl hr (fun hc1 hr => ?_) (fun hc1 hr => ?_)
  ·
    refine wSq ?_
    refine wT ?_
    refine wAs rfl rfl rfl ?_
    refine wE ?_
    refine wN ?_
    refine wSq ?_
    refine wT ?_
    refine wMv rfl rfl rfl ?_
    refine wAs rfl rfl rfl ?_
    refine wAs rfl rfl rfl ?_
    refine wE ?_
    refine wN ?_
    cases hr
    exact wRet2 hq rfl (fun a w hf hH => resT hf rfl) (fun a w hf hH => resT hf rfl) fun w hH => ⟨rfl, (hH.grp 2 [[0]] rfl)⟩
  ·
    refine wS ?_
    refine wN ?_
    refine wSq ?_
    obtain ⟨v1, c1, rfl, hO1⟩ := hBp0
    refine wH (fun w h => h.opn 0 _ rfl) ?_
    refine wT ?_
    refine wMv rfl rfl rfl ?_
    refine wNc rfl rfl rfl ?_
    refine wFa rfl rfl fo_129_0 rfl ?_
    refine wLd 0 rfl rfl ag_127 rfl rfl rfl ?_
    refine wMv rfl rfl rfl ?_
    obtain ⟨e1, he1, hr⟩ := bdS hr
    obtain ⟨b2, me1, hE1, hI1⟩ := hO1.att (k := 10) (fun _ => rfl) he1
    refine wIxO rfl rfl rfl se_127 hI1 rfl ?_
    refine wFa rfl rfl fo_131_2 rfl ?_
    refine wLdE (off := 9) rfl rfl hE1.elem ag_9 (inJ 1 rfl) rfl rfl ?_
    refine wAs rfl rfl rfl ?_
    refine wAs rfl rfl rfl ?_
    refine wE ?_
    refine wN ?_
    cases hr
    exact wRet2 hq rfl (fun a w hf hH => resT hf rfl) (fun a w hf hH => resT hf rfl) fun w hH => ⟨rfl, ((hH.grp 4 [[0, 1], [3]] rfl).grp 2 [[0]] rfl)⟩

theorem table_Table_string_Del_w {E : Env} {w : World} {Fs : List HL} {bp0 : Nat} {p0 : table_Table_string} {hp0 : HL} {p1 : api_Prefix} {r : (table_Table_string × Bool)} (hr : table_Table_string_Del p0 p1 = some r) (hBp0 : ob_table_Table_string bp0 p0 hp0) (hH : Holds E w (hp0 :: Fs)) :
    BK.Spec Try.prog 30 [ptr bp0 0, .agg (enc_api_Prefix p1).toArray] w fun v w' => ∃ (h0' : HL), v = .bool r.2 ∧ Holds E w' (h0' :: Fs) ∧ ob_table_Table_string bp0 r.1 h0' := by
  unfold table_Table_string_Del at hr
  refine ent Try.func30 rfl hH fun Q _ hq => ?_
  refine wF [(0, ptr bp0 0), (1, .agg (enc_api_Prefix p1).toArray)] rfl ?_
  refine wSq ?_
  refine wT ?_
  refine wBox (vs := (enc_api_Prefix p1)) rfl (gd0 rfl) rfl rfl fun b1 => ⟨rn0, ?_⟩
  refine wAs rfl rfl rfl ?_
  refine wE ?_
  refine wN ?_
  refine wSq ?_
  refine wT ?_
  refine wMv rfl rfl rfl ?_
  refine wLs 0 (enc_api_Prefix p1) rfl rfl ag_42 sz_42 rfl rfl rfl rfl ?_
  obtain ⟨r1, hr1, hr⟩ := bdS hr
  refine wCl rfl (gd0 rfl) rfl rfl ck_61 (fun w hH => table_Table_string_find_w hr1 hBp0 (hH.grp 2 [[1], [0]] rfl)) ?_
  rintro _ w ⟨rfl, hH⟩
  refine ⟨_, hH, rn0, ?_⟩
  refine wMv rfl rfl rfl ?_
  refine wEx rfl rfl rfl rfl ?_
  refine wEx rfl rfl rfl rfl ?_
  refine wAs rfl rfl rfl ?_
  refine wAs rfl rfl rfl ?_
  refine wE ?_
  refine wN ?_
  refine wSq ?_
  refine wSq ?_
  refine wT ?_
  refine wMv rfl rfl rfl ?_
  refine wInt rfl rfl rfl rfl rfl ?_
  refine wE ?_
  refine wN ?_
  refine wIf2 rfl hr (fun hc1 hr => ?_) (fun hc1 hr => ?_)
  ·
    refine wSq ?_
    refine wT ?_
    refine wAs rfl rfl rfl ?_
    refine wE ?_
    refine wN ?_
    cases hr
    exact wRet1 hq rfl (fun a w hf hH => resT hf rfl) fun w hH => ⟨_, rfl, (hH.grp 2 [[0]] rfl), hBp0⟩
  ·
    refine wS ?_
    refine wN ?_
    refine wSq ?_
    obtain ⟨v1, c1, rfl, hO1⟩ := hBp0
    refine wH (fun w h => h.opn 0 _ rfl) ?_
    refine wT ?_
    refine wMv rfl rfl rfl ?_
    refine wNc rfl rfl rfl ?_
    refine wFa rfl rfl fo_129_0 rfl ?_
    refine wLd 0 rfl rfl ag_127 rfl rfl rfl ?_
    refine wMv rfl rfl rfl ?_
    refine wBd (enc_table_place_string (⟨2, z_api_Prefix, (⟨#[]⟩ : ByteArray)⟩ : table_place_string)) rfl rfl (by kernel_rfl) rfl ?_
    obtain ⟨e1, he1, hr⟩ := bdS hr
    obtain ⟨b2, me1, hE1, hI1⟩ := hO1.att (k := 10) (fun _ => rfl) he1
    refine wIxO rfl rfl rfl se_127 hI1 rfl ?_
    refine wSels 1 (off := 0) (vs := (enc_table_place_string (⟨2, z_api_Prefix, (⟨#[]⟩ : ByteArray)⟩ : table_place_string))) (z' := (⟨2, z_api_Prefix, (⟨#[]⟩ : ByteArray)⟩ : table_place_string)) rfl (gd0 rfl) rfl rfl rfl sz_131 hE1 rfl rfl rfl fun c2 hF1 => ⟨rn0, ?_⟩
    refine wE ?_
    refine wN ?_
    refine wSq ?_
    refine wT ?_
    refine wMv rfl rfl rfl ?_
    refine wNc rfl rfl rfl ?_
    refine wFa rfl rfl fo_129_2 rfl ?_
    refine wLd 0 rfl rfl ag_3 rfl rfl rfl ?_
    refine wInt rfl rfl rfl rfl rfl ?_
    refine wNc rfl rfl rfl ?_
    refine wFa rfl rfl fo_129_2 rfl ?_
    refine wSto 0 (cl_table_Table_string ({ p0 with l := (p0.l.set r1.1.toNat (⟨2, z_api_Prefix, (⟨#[]⟩ : ByteArray)⟩ : table_place_string)), n := (IntKind.i64.wrap (p0.n - 1)) } : table_Table_string) v1) rfl (gd0 rfl) rfl rfl rfl sz_3 rfl rfl rfl rn0 ?_
    refine wE ?_
    refine wN ?_
    refine wJ (fun a w => ∃ (y1 : (List table_place_string)) (c3 : HL), Fr a 38 [] ∧ Holds E w ([blk bp0 (cl_table_Table_string ({ p0 with l := y1, n := (IntKind.i64.wrap (p0.n - 1)) } : table_Table_string) v1) 129] :: c3 :: Fs) ∧ Ow enc_table_place_string 10 131 v1 y1 c3 ∧ table_Table_string_Del_k1 p0 y1 = some r) ?_ ?_
    ·
      refine wSq ?_
      refine wT ?_
      refine wMv rfl rfl rfl ?_
      refine wNc rfl rfl rfl ?_
      refine wFa rfl rfl fo_129_2 rfl ?_
      refine wLd 0 rfl rfl ag_3 rfl rfl rfl ?_
      refine wInt rfl rfl rfl rfl rfl ?_
      refine wE ?_
      refine wN ?_
      refine wIf2 rfl hr (fun hc2 hr => ?_) (fun hc2 hr => ?_)
      ·
        refine wT ?_
        refine wMv rfl rfl rfl ?_
        refine wNc rfl rfl rfl ?_
        refine wFa rfl rfl fo_129_0 rfl ?_
        refine wLd 0 rfl rfl ag_127 rfl rfl rfl ?_
        refine wClr 1 (k := 10) rfl (gd0 rfl) rfl hF1.own rfl (fun _ => rfl) (fun _ => rfl) se_127 zc_131 fun c4 hO3 => ⟨rn0, ?_⟩
        refine wE ?_
        exact fun a w hf hH => ⟨(List.replicate (p0.l.set r1.1.toNat (⟨2, z_api_Prefix, (⟨#[]⟩ : ByteArray)⟩ : table_place_string)).length z_table_place_string), c4, hf.sub _ rfl, (hH.grp 4 [[0], [1]] rfl), hO3, hr⟩
      ·
        refine wS ?_
        exact fun a w hf hH => ⟨(p0.l.set r1.1.toNat (⟨2, z_api_Prefix, (⟨#[]⟩ : ByteArray)⟩ : table_place_string)), c2, hf.sub _ rfl, (hH.grp 4 [[0], [1]] rfl), hF1.own, hr⟩
    ·
      rintro a w ⟨y1, c3, hf, hH, hO2, hr⟩
      refine jI hf hH ?_
      clear hf hH a w
      unfold table_Table_string_Del_k1 at hr
      refine wSq ?_
      refine wT ?_
      refine wAs rfl rfl rfl ?_
      refine wE ?_
      refine wN ?_
      cases hr
      exact wRet1 hq rfl (fun a w hf hH => resT hf rfl) fun w hH => ⟨_, rfl, ((hH.grp 2 [[0, 1]] rfl).grp 1 [[0]] rfl), (mo_table_Table_string hO2)⟩

theorem table_Table_string_Len_w {E : Env} {w : World} {Fs : List HL} {bp0 : Nat} {p0 : table_Table_string} {hp0 : HL} {r : Int} (hr : table_Table_string_Len p0 = some r) (hBp0 : ob_table_Table_string bp0 p0 hp0) (hH : Holds E w (hp0 :: Fs)) :
    BK.Spec Try.prog 31 [ptr bp0 0] w fun v w' => v = .int .i64 r ∧ Holds E w' (hp0 :: Fs) := by
  unfold table_Table_string_Len at hr
  refine ent Try.func31 rfl hH fun Q _ hq => ?_
  refine wF [(0, ptr bp0 0)] rfl ?_
  refine wSq ?_
  refine wT ?_
  refine wAs rfl rfl rfl ?_
  refine wE ?_
  refine wN ?_
  refine wSq ?_
  refine wSq ?_
  refine wT ?_
  refine wMv rfl rfl rfl ?_
  refine wY rfl rfl rfl rfl (fun a hf => rPe hf rfl rfl un_61) ?_
  refine wE ?_
  refine wN ?_
  refine wIfF rfl ?_
  refine wS ?_
  refine wN ?_
  refine wSq ?_
  obtain ⟨v1, c1, rfl, hO1⟩ := hBp0
  refine wH (fun w h => h.opn 0 _ rfl) ?_
  refine wT ?_
  refine wMv rfl rfl rfl ?_
  refine wNc rfl rfl rfl ?_
  refine wFa rfl rfl fo_129_2 rfl ?_
  refine wLd 0 rfl rfl ag_3 rfl rfl rfl ?_
  refine wAs rfl rfl rfl ?_
  refine wE ?_
  refine wN ?_
  cases hr
  exact wRet1 hq rfl (fun a w hf hH => resT hf rfl) fun w hH => ⟨rfl, ((hH.grp 3 [[0, 1]] rfl).grp 1 [[0]] rfl)⟩

theorem table_New_box_entry_w {E : Env} {w : World} {Fs : List HL} {p0 : Int} {r : ((Option table_Table_box_entry) × Int)} (hr : table_New_box_entry p0 = some r)  (hH : Holds E w (Fs)) :
    BK.Spec Try.prog 63 [.int .i64 p0] w fun v w' => ∃ (u0 : Option Addr) (d0 : HL), v = .tuple #[.pointer u0, .int .i64 r.2] ∧ Holds E w' (d0 :: Fs) ∧ OO ob_table_Table_box_entry u0 r.1 d0 := by
  unfold table_New_box_entry at hr
  refine ent Try.func63 rfl hH fun Q _ hq => ?_
  refine wF [(0, .int .i64 p0)] rfl ?_
  refine wSq ?_
  refine wT ?_
  refine wAs rfl rfl rfl ?_
  refine wAs rfl rfl rfl ?_
  refine wE ?_
  refine wN ?_
  refine wSq ?_
  refine wSq ?_
  refine wT ?_
  refine wMv rfl rfl rfl ?_
  refine wInt rfl rfl rfl rfl rfl ?_
  refine wMv rfl rfl rfl ?_
  refine wG rfl rfl rfl rfl rfl rfl rfl rfl (fun hc a hf => rMv hf rfl) ?_
  refine wG rfl rfl rfl rfl rfl rfl rfl rfl (fun hc a hf => rInt hf (evg rfl hc) rfl rfl) ?_
  refine wY rfl rfl rfl rfl (fun a hf => rOr hf rfl rfl rfl) ?_
  refine wE ?_
  refine wN ?_
  refine wIf2 rfl hr (fun hc1 hr => ?_) (fun hc1 hr => ?_)
  ·
    refine wSq ?_
    refine wT ?_
    refine wAs rfl rfl rfl ?_
    refine wAs rfl rfl rfl ?_
    refine wE ?_
    refine wN ?_
    cases hr
    exact wRet2 hq rfl (fun a w hf hH => resT hf rfl) (fun a w hf hH => resT hf rfl) fun w hH => ⟨_, [], rfl, (hH.grp 0 [[]] rfl), OO.none⟩
  ·
    refine wS ?_
    refine wN ?_
    refine wSq ?_
    refine wT ?_
    refine wMv rfl rfl rfl ?_
    refine wInt rfl rfl rfl rfl rfl ?_
    obtain ⟨hk1, hr⟩ := ckS hr
    refine wMk (enc := enc_table_place_box_entry) (z := z_table_place_box_entry) rfl (gd0 rfl) rfl rfl rfl se_179 zc_185 rfl hk1 fun v1 c1 hO1 _ => ⟨rn0, ?_⟩
    refine wMv rfl rfl rfl ?_
    refine wBd (cl_table_Table_box_entry (⟨(List.replicate (IntKind.i64.wrap (2 * p0)).toNat z_table_place_box_entry), p0, 0⟩ : table_Table_box_entry) v1) rfl rfl (by obtain ⟨_, _, _, rfl⟩ := hO1.hd; kernel_rfl) rfl ?_
    refine wBox (vs := (cl_table_Table_box_entry (⟨(List.replicate (IntKind.i64.wrap (2 * p0)).toNat z_table_place_box_entry), p0, 0⟩ : table_Table_box_entry) v1)) rfl (gd0 rfl) rfl rfl fun b1 => ⟨rn0, ?_⟩
    refine wAs rfl rfl rfl ?_
    refine wAs rfl rfl rfl ?_
    refine wE ?_
    refine wN ?_
    cases hr
    exact wRet2 hq rfl (fun a w hf hH => resT hf rfl) (fun a w hf hH => resT hf rfl) fun w hH => ⟨_, _, rfl, ((hH.grp 2 [[0, 1]] rfl).grp 1 [[0]] rfl), (OO.some (mo_table_Table_box_entry hO1))⟩

theorem table_Table_box_entry_All_1_w {E : Env} {w : World} {Fs : List HL} {p0 : api_Prefix} {p1 : api_Prefix} {r : Int} (hr : table_Table_box_entry_All_1 p0 p1 = some r)  (hH : Holds E w (Fs)) :
    BK.Spec Try.prog 98 [.agg (enc_api_Prefix p0).toArray, .agg (enc_api_Prefix p1).toArray] w fun v w' => v = .int .i64 r ∧ Holds E w' (Fs) := by
  unfold table_Table_box_entry_All_1 at hr
  refine ent Try.func98 rfl hH fun Q _ hq => ?_
  refine wF [(0, .agg (enc_api_Prefix p0).toArray), (1, .agg (enc_api_Prefix p1).toArray)] rfl ?_
  refine wSq ?_
  refine wT ?_
  refine wBox (vs := (enc_api_Prefix p0)) rfl (gd0 rfl) rfl rfl fun b1 => ⟨rn0, ?_⟩
  refine wBox (vs := (enc_api_Prefix p1)) rfl (gd0 rfl) rfl rfl fun b2 => ⟨rn0, ?_⟩
  refine wAs rfl rfl rfl ?_
  refine wE ?_
  refine wN ?_
  refine wSq ?_
  refine wD mix_ (.y 0 (.y 2 (.e 1 (.e 3 (.e 4 (.y 5 .done)))))) (by kernel_rfl) ?_
  refine wLs 1 (enc_api_Prefix p0) rfl rfl ag_42 sz_42 rfl rfl rfl rfl ?_
  refine wLs 0 (enc_api_Prefix p1) rfl rfl ag_42 sz_42 rfl rfl rfl rfl ?_
  obtain ⟨r1, hr1, hr⟩ := bdS hr
  refine wCl rfl (gd0 rfl) rfl rfl ck_59 (fun w hH => table_bytesOf_w hr1 hH) ?_
  rintro _ w ⟨v1, c1, hV, hH, hO1⟩
  obtain rfl := hV.symm
  refine ⟨_, hH, (rnI (inJ0 (j := 1) rfl) (rnI (inJ0 (j := 2) rfl) rnN)), ?_⟩
  obtain ⟨r2, hr2, hr⟩ := bdS hr
  refine wCl rfl (gd0 rfl) rfl rfl ck_59 (fun w hH => table_bytesOf_w hr2 hH) ?_
  rintro _ w ⟨v2, c2, hV, hH, hO2⟩
  obtain rfl := hV.symm
  refine ⟨_, hH, (rnI (inJ0 (j := 2) rfl) (rnI (inJ0 (j := 3) rfl) rnN)), ?_⟩
  obtain ⟨r3, hr3, hr⟩ := bdS hr
  refine wCl rfl (gd0 rfl) rfl rfl ck_58 (fun w hH => bytes_Compare_w hr3 (hO1.rd.mono Sub.l) (hO2.rd.mono (Sub.r Sub.l)) (hH.grp 4 [[1, 0], [2], [3]] rfl)) ?_
  rintro _ w ⟨rfl, hH⟩
  refine ⟨_, (hH.opn 0 [c1, c2] rfl), (rnI (inJ0 (j := 3) rfl) (rnI (inJ0 (j := 4) rfl) rnN)), ?_⟩
  refine wAs rfl rfl rfl ?_
  refine wE ?_
  refine wN ?_
  cases hr
  exact wRet1 hq rfl (fun a w hf hH => resT hf rfl) fun w hH => ⟨rfl, (hH.grp 5 [] rfl)⟩

theorem table_Table_box_entry_All_1_eq (x y : api_Prefix) : table_Table_box_entry_All_1 x y = some (pcf x y) := by
  unfold table_Table_box_entry_All_1
  rw [bytesOf_eq, bytesOf_eq]
  rfl

theorem table_Table_box_entry_All_w {E : Env} {w : World} {Fs : List HL} {bp0 : Nat} {p0 : table_Table_box_entry} {hp0 : HL} {r : (List api_Prefix)} (hr : table_Table_box_entry_All p0 = some r) (hBp0 : ob_table_Table_box_entry bp0 p0 hp0) (hH : Holds E w (hp0 :: Fs)) :
    BK.Spec Try.prog 71 [ptr bp0 0] w fun v w' => ∃ (u0 : Value) (d0 : HL), v = u0 ∧ Holds E w' (hp0 :: d0 :: Fs) ∧ Ow enc_api_Prefix 8 42 u0 r d0 := by
  unfold table_Table_box_entry_All at hr
  refine ent Try.func71 rfl hH fun Q _ hq => ?_
  refine wF [(0, ptr bp0 0)] rfl ?_
  refine wSq ?_
  refine wT ?_
  refine wAs rfl rfl rfl ?_
  refine wE ?_
  refine wN ?_
  refine wSq ?_
  refine wT ?_
  refine wAs rfl rfl rfl ?_
  refine wE ?_
  refine wN ?_
  refine wSq ?_
  refine wSq ?_
  refine wT ?_
  refine wMv rfl rfl rfl ?_
  refine wY rfl rfl rfl rfl (fun a hf => rPe hf rfl rfl un_132) ?_
  refine wE ?_
  refine wN ?_
  refine wIfF rfl ?_
  refine wS ?_
  refine wN ?_
  refine wSq ?_
  refine wSq ?_
  obtain ⟨v1, c1, rfl, hO1⟩ := hBp0
  refine wH (fun w h => h.opn 0 _ rfl) ?_
  refine wT ?_
  refine wMv rfl rfl rfl ?_
  refine wNc rfl rfl rfl ?_
  refine wFa rfl rfl fo_181_0 rfl ?_
  refine wLd 0 rfl rfl ag_179 rfl rfl rfl ?_
  refine wY rfl rfl rfl rfl (fun a hf => rLenR hf rfl hO1.rd rfl se_179) ?_
  refine wMv rfl rfl rfl ?_
  refine wE ?_
  refine wN ?_
  obtain ⟨o1, ho1, hra1⟩ := bdS hr
  refine wJ1 (fun a w => ∃ (s1 : (List api_Prefix)) (v2 : Value) (c2 : HL), Fr a 29 [(3, v2)] ∧ Holds E w ([blk bp0 (cl_table_Table_box_entry p0 v1) 181] :: c1 :: c2 :: Fs) ∧ Ow enc_api_Prefix 8 42 v2 s1 c2 ∧ (o1 = .brk s1 ∨ o1 = .nxt s1)) ?_ ?_
  ·
    refine wLp (α := (List api_Prefix)) (fun n (s1 : (List api_Prefix)) a w => ∃ (i : Nat) (v2 : Value) (c2 : HL), i + n = p0.l.length ∧ Fr a 29 [(3, v2), (11, v1), (12, .int .i64 (p0.l.length : Int)), (13, .int .i64 (i : Int))] ∧ Holds E w ([blk bp0 (cl_table_Table_box_entry p0 v1) 181] :: c1 :: c2 :: Fs) ∧ Ow enc_api_Prefix 8 42 v2 s1 c2 ∧ forN (table_Table_box_entry_All_b1 p0) n i s1 = some o1) (n := p0.l.length) (s := []) (fun a w hf hH => ⟨0, (.slice none 0 0), [], by simp, hf.sub _ rfl, (hH.grp 3 [[0], [1], []] rfl), Ow.empty, ho1⟩) ?_
    rintro n s1 a w ⟨i, v2, c2, hi, hf, hH, hO2, ho1⟩
    refine jI hf hH ?_
    clear hf hH a w
    refine wSq (wT ?_)
    refine wInt rfl rfl rfl rfl rfl ?_
    refine wE ?_
    refine wN ?_
    refine wSq (wIf rfl (fun hc => ?_) (fun hc => ?_))
    rotate_left
    · obtain rfl : n = 0 := by simp at hc; omega
      cases ho1
      refine wX (wXt (wXt (wXh ?_)))
      exact fun a w hf hH => ⟨s1, v2, c2, hf.sub _ rfl, hH, hO2, .inr rfl⟩
    refine wS (wN ?_)
    obtain ⟨n, rfl⟩ : ∃ m, n = m + 1 := ⟨n - 1, by simp at hc; omega⟩
    obtain ⟨o2, hr, ho1⟩ := bdS ho1
    unfold table_Table_box_entry_All_b1 at hr
    refine wSq ?_
    refine wB ?_
    refine wSq ?_
    refine wT ?_
    obtain ⟨e1, he1, hr⟩ := bdS hr
    obtain ⟨b1, me1, hE1, hI1⟩ := hO1.att (k := 11) (fun _ => rfl) he1
    refine wIxO rfl rfl rfl se_179 hI1 rfl ?_
    refine wLsE (enc_table_place_box_entry e1) (off := 0) rfl rfl hE1.elem ag_185 sz_185 (inJ 1 rfl) rfl rfl rfl ?_
    refine wAlc rfl (gd0 rfl) rfl zc_185 fun b2 => ⟨rn0, ?_⟩
    refine wSts 0 (enc_table_place_box_entry e1) rfl (gd0 rfl) rfl rfl rfl sz_185 rfl rfl rfl rn0 ?_
    refine wE ?_
    refine wN ?_
    refine wSq ?_
    refine wT ?_
    refine wFa rfl rfl fo_185_0 rfl ?_
    refine wLd 0 rfl rfl ag_3 rfl rfl rfl ?_
    refine wInt rfl rfl rfl rfl rfl ?_
    refine wE ?_
    refine wN ?_
    refine wIf2 rfl hr (fun hc1 hr => ?_) (fun hc1 hr => ?_)
    ·
      refine wT ?_
      refine wMv rfl rfl rfl ?_
      refine wFa rfl rfl fo_185_1 rfl ?_
      refine wLs 0 (enc_api_Prefix e1.p) rfl rfl ag_42 sz_42 rfl rfl rfl rfl ?_
      refine wBs (enc := enc_api_Prefix) (xs := [e1.p]) rfl (gd0 rfl) rfl rfl se_44 (by kernel_rfl) rfl rfl fun v3 c4 hO4 => ⟨rn0, ?_⟩
      obtain ⟨hk1, hr⟩ := ckS hr
      refine wAp 4 (k := 8) rfl (gd0 rfl) rfl rfl rfl hO2 hO4.rd rfl (inJ 0 rfl) (fun _ => rfl) (fun _ => rfl) se_44 zc_42 rfl rfl hk1 fun v4 c5 hO5 => ⟨rn0, ?_⟩
      refine wAs rfl rfl rfl ?_
      refine wE ?_
      refine wBn ?_
      cases hr
      refine wN (wT ?_)
      refine wInt rfl rfl rfl rfl rfl ?_
      refine wMv rfl (evI rfl (i64c i (by have := hO1.le; omega))) rfl ?_
      refine wE ?_
      exact fun a w hf hH => ⟨n, (s1 ++ [e1.p]), Nat.lt_succ_self n, i + 1, v4, c5, by omega, hf.sub _ rfl, (hH.grp 5 [[2], [3], [4]] rfl), hO5, ho1⟩
    ·
      refine wS ?_
      refine wBn ?_
      cases hr
      refine wN (wT ?_)
      refine wInt rfl rfl rfl rfl rfl ?_
      refine wMv rfl (evI rfl (i64c i (by have := hO1.le; omega))) rfl ?_
      refine wE ?_
      exact fun a w hf hH => ⟨n, s1, Nat.lt_succ_self n, i + 1, v2, c2, by omega, hf.sub _ rfl, (hH.grp 4 [[1], [2], [3]] rfl), hO2, ho1⟩
  ·
    rintro a w ⟨s1, v2, c2, hf, hH, hO2, hbn⟩
    have hr := aftS hra1 hbn
    refine jX hf hH ?_
    clear hf hH a w
    refine wN ?_
    refine wSq ?_
    refine wT ?_
    refine wMv rfl rfl rfl ?_
    refine wCl rfl (gd0 rfl) rfl rfl ck_56 (fun w hH => sortP_w ck_98 (fun E w Fs x y hH => table_Table_box_entry_All_1_w (table_Table_box_entry_All_1_eq x y) hH) hO2 (hH.grp 3 [[2], [0], [1]] rfl)) ?_
    rintro _ w ⟨c3, rfl, hH, hO3⟩
    refine ⟨_, hH, rn0, ?_⟩
    refine wE ?_
    refine wN ?_
    refine wSq ?_
    refine wT ?_
    refine wMv rfl rfl rfl ?_
    refine wAs rfl rfl rfl ?_
    refine wE ?_
    refine wN ?_
    cases hr
    exact wRet1 hq rfl (fun a w hf hH => resT hf rfl) fun w hH => ⟨_, _, rfl, ((hH.grp 3 [[1, 2], [0]] rfl).grp 2 [[0], [1]] rfl), hO3⟩

theorem table_Table_box_entry_find_w {E : Env} {w : World} {Fs : List HL} {bp0 : Nat} {p0 : table_Table_box_entry} {hp0 : HL} {p1 : api_Prefix} {r : (Int × Int)} (hr : table_Table_box_entry_find p0 p1 = some r) (hBp0 : ob_table_Table_box_entry bp0 p0 hp0) (hH : Holds E w (hp0 :: Fs)) :
    BK.Spec Try.prog 95 [ptr bp0 0, .agg (enc_api_Prefix p1).toArray] w fun v w' => v = .tuple #[.int .i64 r.1, .int .i64 r.2] ∧ Holds E w' (hp0 :: Fs) := by
  unfold table_Table_box_entry_find at hr
  refine ent Try.func95 rfl hH fun Q _ hq => ?_
  refine wF [(0, ptr bp0 0), (1, .agg (enc_api_Prefix p1).toArray)] rfl ?_
  refine wSq ?_
  refine wT ?_
  refine wBox (vs := (enc_api_Prefix p1)) rfl (gd0 rfl) rfl rfl fun b1 => ⟨rn0, ?_⟩
  refine wAs rfl rfl rfl ?_
  refine wAs rfl rfl rfl ?_
  refine wE ?_
  refine wN ?_
  refine wSq ?_
  refine wT ?_
  refine wAs rfl rfl rfl ?_
  refine wE ?_
  refine wN ?_
  refine wSq ?_
  refine wSq ?_
  refine wT ?_
  refine wMv rfl rfl rfl ?_
  refine wY rfl rfl rfl rfl (fun a hf => rPe hf rfl rfl un_132) ?_
  refine wE ?_
  refine wN ?_
  refine wIfF rfl ?_
  refine wS ?_
  refine wN ?_
  refine wSq ?_
  obtain ⟨v1, c1, rfl, hO1⟩ := hBp0
  refine wH (fun w h => h.opn 1 _ rfl) ?_
  refine wD mix_ (.y 0 (.y 1 (.y 5 (.y 6 (.y 7 (.y 8 (.y 9 (.y 10 (.e 2 (.e 3 (.e 4 (.y 11 (.y 12 .done))))))))))))) (by kernel_rfl) ?_
  refine wBd ((Tup.cells (fun y => [.int .u8 y]) 16) (Tup.rep 0 16)) rfl rfl (by kernel_rfl) rfl ?_
  refine wLs 2 (enc_api_Prefix p1) rfl rfl ag_42 sz_42 rfl rfl rfl rfl ?_
  refine wMv rfl rfl rfl ?_
  refine wNc rfl rfl rfl ?_
  refine wFa rfl rfl fo_181_0 rfl ?_
  refine wLd 0 rfl rfl ag_179 rfl rfl rfl ?_
  refine wY rfl rfl rfl rfl (fun a hf => rLenR hf rfl hO1.rd rfl se_179) ?_
  refine wCv rfl rfl ii_68 us_3 rfl ?_
  obtain ⟨r1, hr1, hr⟩ := bdS hr
  refine wCl rfl (gd0 rfl) rfl rfl ck_59 (fun w hH => table_bytesOf_w hr1 (hH.grp 4 [[0], [1], [2]] rfl)) ?_
  rintro _ w ⟨v2, c2, hV, hH, hO2⟩
  obtain rfl := hV.symm
  refine ⟨_, hH, (rnI (inJ0 (j := 1) rfl) (rnI (inJ0 (j := 3) rfl) rnN)), ?_⟩
  refine wBs (enc := raw 1) (xs := ([(v2, ())] : List (Tup Value 1))) rfl (gd0 rfl) rfl rfl se_195 (by obtain ⟨_, _, _, rfl⟩ := hO2.hd; kernel_rfl) rfl rfl fun v3 c3 hO3 => ⟨(rnI (inJ0 (j := 2) rfl) (rnI (inJ0 (j := 4) rfl) rnN)), ?_⟩
  obtain ⟨r2, hr2, hr⟩ := bdS hr
  refine wCl rfl (gd0 rfl) rfl rfl ck_91 (fun w hH => sip_Sum_w hr2 (rdpG hO3 Sub.l ⟨⟨_, rfl, (hO2.rd.mono (Sub.r Sub.l))⟩, trivial⟩) (hH.grp 5 [[0, 1], [2], [3], [4]] rfl)) ?_
  rintro _ w ⟨rfl, hH⟩
  refine ⟨_, (hH.opn 0 [c3, c2] rfl), (rnI (inJ0 (j := 3) rfl) (rnI (inJ0 (j := 5) rfl) rnN)), ?_⟩
  obtain ⟨hk1, hr⟩ := ckS hr
  refine wY rfl rfl rfl rfl (fun a hf => rRem hf rfl rfl (ne0 hk1)) ?_
  obtain ⟨x1, hx1, hr⟩ := nmS hr
  refine wAs rfl (evI rfl hx1) rfl ?_
  refine wE ?_
  refine wN ?_
  refine wSq ?_
  refine wSq ?_
  refine wT ?_
  refine wMv rfl rfl rfl ?_
  refine wNc rfl rfl rfl ?_
  refine wFa rfl rfl fo_181_0 rfl ?_
  refine wLd 3 rfl rfl ag_179 rfl rfl rfl ?_
  refine wY rfl rfl rfl rfl (fun a hf => rLenR hf rfl hO1.rd rfl se_179) ?_
  refine wMv rfl rfl rfl ?_
  refine wE ?_
  refine wN ?_
  obtain ⟨o1, ho1, hra1⟩ := bdS hr
  refine wJ1 (fun a w => ∃ (s1 : Int) , Fr a 82 [(6, .int .i64 s1)] ∧ Holds E w ([blk bp0 (cl_table_Table_box_entry p0 v1) 181] :: c1 :: [blk b1 (enc_api_Prefix p1) 42] :: Fs) ∧ (o1 = .brk s1 ∨ o1 = .nxt s1)) ?_ ?_
  ·
    refine wLp (α := Int) (fun n (s1 : Int) a w => ∃ (i : Nat) , i + n = p0.l.length ∧ Fr a 82 [(0, ptr bp0 0), (3, ptr b1 0), (6, .int .i64 s1), (7, .int .u64 x1), (29, .int .i64 (p0.l.length : Int)), (30, .int .i64 (i : Int))] ∧ Holds E w ([blk bp0 (cl_table_Table_box_entry p0 v1) 181] :: c1 :: [blk b1 (enc_api_Prefix p1) 42] :: Fs) ∧ forN (table_Table_box_entry_find_b1 p0 p1 x1) n i s1 = some o1) (n := p0.l.length) (s := (-1)) (fun a w hf hH => ⟨0, by simp, hf.sub _ rfl, (hH.grp 6 [[3], [4], [5]] rfl), ho1⟩) ?_
    rintro n s1 a w ⟨i, hi, hf, hH, ho1⟩
    refine jI hf hH ?_
    clear hf hH a w
    refine wSq (wT ?_)
    refine wInt rfl rfl rfl rfl rfl ?_
    refine wE ?_
    refine wN ?_
    refine wSq (wIf rfl (fun hc => ?_) (fun hc => ?_))
    rotate_left
    · obtain rfl : n = 0 := by simp at hc; omega
      cases ho1
      refine wX (wXt (wXt (wXh ?_)))
      exact fun a w hf hH => ⟨s1, hf.sub _ rfl, hH, .inr rfl⟩
    refine wS (wN ?_)
    obtain ⟨n, rfl⟩ : ∃ m, n = m + 1 := ⟨n - 1, by simp at hc; omega⟩
    obtain ⟨o2, hr, ho1⟩ := bdS ho1
    unfold table_Table_box_entry_find_b1 at hr
    refine wSq ?_
    refine wB ?_
    refine wSq ?_
    refine wT ?_
    refine wMv rfl rfl rfl ?_
    refine wAs rfl rfl rfl ?_
    refine wE ?_
    refine wN ?_
    refine wSq ?_
    refine wT ?_
    refine wMv rfl rfl rfl ?_
    refine wCv rfl rfl ii_3 us_68 rfl ?_
    refine wMv rfl rfl rfl ?_
    refine wInt rfl rfl rfl rfl rfl ?_
    refine wMv rfl rfl rfl ?_
    refine wNc rfl rfl rfl ?_
    refine wFa rfl rfl fo_181_0 rfl ?_
    refine wLd 0 rfl rfl ag_179 rfl rfl rfl ?_
    refine wY rfl rfl rfl rfl (fun a hf => rLenR hf rfl hO1.rd rfl se_179) ?_
    obtain ⟨hk2, hr⟩ := ckS hr
    refine wY rfl rfl rfl rfl (fun a hf => rRem hf rfl rfl (ne0 hk2)) ?_
    obtain ⟨x2, hx2, hr⟩ := nmS hr
    refine wAs rfl (evI rfl hx2) rfl ?_
    refine wE ?_
    refine wN ?_
    refine wJ (fun a w => ∃ (y2 : Int), Fr a 82 [(0, ptr bp0 0), (3, ptr b1 0), (6, .int .i64 y2), (7, .int .u64 x1), (9, .int .i64 x2), (29, .int .i64 (p0.l.length : Int)), (30, .int .i64 (i : Int))] ∧ Holds E w ([blk bp0 (cl_table_Table_box_entry p0 v1) 181] :: c1 :: [blk b1 (enc_api_Prefix p1) 42] :: Fs) ∧ table_Table_box_entry_find_k1 p0 x2 y2 = some o2) ?_ ?_
    ·
      refine wSq ?_
      refine wT ?_
      refine wMv rfl rfl rfl ?_
      refine wNc rfl rfl rfl ?_
      refine wFa rfl rfl fo_181_0 rfl ?_
      refine wLd 0 rfl rfl ag_179 rfl rfl rfl ?_
      refine wMv rfl rfl rfl ?_
      obtain ⟨e2, he2, hr⟩ := bdS hr
      obtain ⟨b3, me2, hE2, hI2⟩ := hO1.att (k := 11) (fun _ => rfl) he2
      refine wIxO rfl rfl rfl se_179 hI2 rfl ?_
      refine wLsE (enc_table_place_box_entry e2) (off := 0) rfl rfl hE2.elem ag_185 sz_185 (inJ 1 rfl) rfl rfl rfl ?_
      refine wAlc rfl (gd0 rfl) rfl zc_185 fun b4 => ⟨rn0, ?_⟩
      refine wSts 0 (enc_table_place_box_entry e2) rfl (gd0 rfl) rfl rfl rfl sz_185 rfl rfl rfl rn0 ?_
      refine wE ?_
      refine wN ?_
      refine wB ?_
      refine wSq ?_
      refine wT ?_
      refine wFa rfl rfl fo_185_0 rfl ?_
      refine wLd 0 rfl rfl ag_3 rfl rfl rfl ?_
      refine wInt rfl rfl rfl rfl rfl ?_
      refine wMv rfl rfl rfl ?_
      refine wG rfl rfl rfl rfl rfl rfl rfl rfl (fun hc a hf => rFa hf rfl fo_185_1) ?_
      refine wGr rfl rfl rfl rfl rfl rfl rfl rfl (inJ0 (j := 0) rfl) (fun hc a hf cs hC => rLs (vs := (enc_api_Prefix e2.p)) hf (evg rfl hc) ag_42 sz_42 (m1 hC) (Nat.le_of_ble_eq_true rfl) rfl) ?_
      refine wGr rfl rfl rfl rfl rfl rfl rfl rfl (inJ0 (j := 3) rfl) (fun hc a hf cs hC => rLs (vs := (enc_api_Prefix p1)) hf rfl ag_42 sz_42 (m1 hC) (Nat.le_of_ble_eq_true rfl) rfl) ?_
      refine wG rfl rfl rfl rfl rfl rfl rfl rfl (fun hc a hf => rFlE hf (evg rfl hc) (evg rfl hc) eqF_42) ?_
      refine wY rfl rfl rfl rfl (fun a hf => rAnd hf rfl rfl rfl) ?_
      obtain ⟨x3, hx3, hr⟩ := nmS hr
      refine wAs rfl (evB rfl hx3) rfl ?_
      refine wE ?_
      refine wN ?_
      refine wIf2 rfl hr (fun hc2 hr => ?_) (fun hc2 hr => ?_)
      ·
        refine wSq ?_
        refine wT ?_
        refine wMv rfl rfl rfl ?_
        refine wMv rfl rfl rfl ?_
        refine wAs rfl rfl rfl ?_
        refine wAs rfl rfl rfl ?_
        refine wE ?_
        refine wN ?_
        cases hr
        obtain rfl := stpR ho1
        obtain rfl := aftR hra1
        exact wRet2 hq rfl (fun a w hf hH => resT hf rfl) (fun a w hf hH => resT hf rfl) fun w hH => ⟨rfl, ((hH.grp 4 [[1, 2], [0], [3]] rfl).grp 3 [[0]] rfl)⟩
      ·
        refine wSq ?_
        refine wT ?_
        refine wFa rfl rfl fo_185_0 rfl ?_
        refine wLd 0 rfl rfl ag_3 rfl rfl rfl ?_
        refine wInt rfl rfl rfl rfl rfl ?_
        refine wMv rfl rfl rfl ?_
        refine wG rfl rfl rfl rfl rfl rfl rfl rfl (fun hc a hf => rMv hf rfl) ?_
        refine wG rfl rfl rfl rfl rfl rfl rfl rfl (fun hc a hf => rInt hf (evg rfl hc) rfl rfl) ?_
        refine wY rfl rfl rfl rfl (fun a hf => rAnd hf rfl rfl rfl) ?_
        refine wAs rfl rfl rfl ?_
        refine wE ?_
        refine wN ?_
        refine wIf2 rfl hr (fun hc3 hr => ?_) (fun hc3 hr => ?_)
        ·
          refine wT ?_
          refine wMv rfl rfl rfl ?_
          refine wAs rfl rfl rfl ?_
          refine wE ?_
          refine wBn ?_
          exact fun a w hf hH => ⟨x2, hf.sub _ rfl, (hH.grp 4 [[1], [2], [3]] rfl), hr⟩
        ·
          refine wS ?_
          refine wBn ?_
          exact fun a w hf hH => ⟨s1, hf.sub _ rfl, (hH.grp 4 [[1], [2], [3]] rfl), hr⟩
    ·
      rintro a w ⟨y2, hf, hH, hr⟩
      refine jI hf hH ?_
      clear hf hH a w
      unfold table_Table_box_entry_find_k1 at hr
      refine wSq ?_
      refine wT ?_
      refine wMv rfl rfl rfl ?_
      refine wNc rfl rfl rfl ?_
      refine wFa rfl rfl fo_181_0 rfl ?_
      refine wLd 0 rfl rfl ag_179 rfl rfl rfl ?_
      refine wMv rfl rfl rfl ?_
      obtain ⟨e1, he1, hr⟩ := bdS hr
      obtain ⟨b2, me1, hE1, hI1⟩ := hO1.att (k := 11) (fun _ => rfl) he1
      refine wIxO rfl rfl rfl se_179 hI1 rfl ?_
      refine wFa rfl rfl fo_185_0 rfl ?_
      refine wLdE (off := 0) rfl rfl hE1.elem ag_3 (inJ 1 rfl) rfl rfl ?_
      refine wInt rfl rfl rfl rfl rfl ?_
      refine wE ?_
      refine wN ?_
      refine wIf2 rfl hr (fun hc1 hr => ?_) (fun hc1 hr => ?_)
      ·
        refine wX (wXo (by decide) (wXt (wXt (wXh ?_))))
        cases hr
        obtain rfl := stpB ho1
        exact fun a w hf hH => ⟨y2, hf.sub _ rfl, hH, .inl rfl⟩
      ·
        refine wS ?_
        refine wBn ?_
        cases hr
        refine wN (wT ?_)
        refine wInt rfl rfl rfl rfl rfl ?_
        refine wMv rfl (evI rfl (i64c i (by have := hO1.le; omega))) rfl ?_
        refine wE ?_
        exact fun a w hf hH => ⟨n, y2, Nat.lt_succ_self n, i + 1, by omega, hf.sub _ rfl, hH, ho1⟩
  ·
    rintro a w ⟨s1, hf, hH, hbn⟩
    have hr := aftS hra1 hbn
    refine jX hf hH ?_
    clear hf hH a w
    refine wN ?_
    refine wSq ?_
    refine wT ?_
    refine wMv rfl rfl rfl ?_
    refine wAs rfl rfl rfl ?_
    refine wAs rfl rfl rfl ?_
    refine wE ?_
    refine wN ?_
    cases hr
    exact wRet2 hq rfl (fun a w hf hH => resT hf rfl) (fun a w hf hH => resT hf rfl) fun w hH => ⟨rfl, ((hH.grp 3 [[0, 1], [2]] rfl).grp 2 [[0]] rfl)⟩

theorem table_Table_box_entry_Get_w {E : Env} {w : World} {Fs : List HL} {bp0 : Nat} {p0 : table_Table_box_entry} {hp0 : HL} {p1 : api_Prefix} {r : (box_entry × Bool)} (hr : table_Table_box_entry_Get p0 p1 = some r) (hBp0 : ob_table_Table_box_entry bp0 p0 hp0) (hH : Holds E w (hp0 :: Fs)) :
    BK.Spec Try.prog 66 [ptr bp0 0, .agg (enc_api_Prefix p1).toArray] w fun v w' => v = .tuple #[.agg (enc_box_entry r.1).toArray, .bool r.2] ∧ Holds E w' (hp0 :: Fs) := by
  unfold table_Table_box_entry_Get at hr
  refine ent Try.func66 rfl hH fun Q _ hq => ?_
  refine wF [(0, ptr bp0 0), (1, .agg (enc_api_Prefix p1).toArray)] rfl ?_
  refine wSq ?_
  refine wT ?_
  refine wBox (vs := (enc_api_Prefix p1)) rfl (gd0 rfl) rfl rfl fun b1 => ⟨rn0, ?_⟩
  refine wAlc rfl (gd0 rfl) rfl zc_137 fun b2 => ⟨rn0, ?_⟩
  refine wAs rfl rfl rfl ?_
  refine wE ?_
  refine wN ?_
  refine wSq ?_
  refine wT ?_
  refine wMv rfl rfl rfl ?_
  refine wLs 1 (enc_api_Prefix p1) rfl rfl ag_42 sz_42 rfl rfl rfl rfl ?_
  obtain ⟨r1, hr1, hr⟩ := bdS hr
  refine wCl rfl (gd0 rfl) rfl rfl ck_95 (fun w hH => table_Table_box_entry_find_w hr1 hBp0 (hH.grp 3 [[2], [0], [1]] rfl)) ?_
  rintro _ w ⟨rfl, hH⟩
  refine ⟨_, hH, rn0, ?_⟩
  refine wMv rfl rfl rfl ?_
  refine wEx rfl rfl rfl rfl ?_
  refine wEx rfl rfl rfl rfl ?_
  refine wAs rfl rfl rfl ?_
  refine wAs rfl rfl rfl ?_
  refine wE ?_
  refine wN ?_
  refine wSq ?_
  refine wSq ?_
  refine wT ?_
  refine wMv rfl rfl rfl ?_
  refine wInt rfl rfl rfl rfl rfl ?_
  refine wE ?_
  refine wN ?_
  refine wIf2 rfl hr (fun hc1 hr => ?_) (fun hc1 hr => ?_)
  ·
    refine wSq ?_
    refine wT ?_
    refine wAlc rfl (gd0 rfl) rfl zc_137 fun b3 => ⟨rn0, ?_⟩
    refine wE ?_
    refine wN ?_
    refine wSq ?_
    refine wT ?_
    refine wLs 0 (enc_box_entry z_box_entry) rfl rfl ag_137 sz_137 rfl rfl rfl rfl ?_
    refine wSts 2 (enc_box_entry z_box_entry) rfl (gd0 rfl) rfl rfl rfl sz_137 rfl rfl rfl rn0 ?_
    refine wAs rfl rfl rfl ?_
    refine wE ?_
    refine wN ?_
    cases hr
    exact wRet2 hq rfl (fun a w hf hH => resC (vs := (enc_box_entry z_box_entry)) hf rfl hH ag_137 sz_137 (mem0 (j := 2) rfl) (Nat.le_of_ble_eq_true rfl) rfl) (fun a w hf hH => resT hf rfl) fun w hH => ⟨rfl, (hH.grp 4 [[1]] rfl)⟩
  ·
    refine wS ?_
    refine wN ?_
    refine wSq ?_
    obtain ⟨v1, c1, rfl, hO1⟩ := hBp0
    refine wH (fun w h => h.opn 0 _ rfl) ?_
    refine wT ?_
    refine wMv rfl rfl rfl ?_
    refine wNc rfl rfl rfl ?_
    refine wFa rfl rfl fo_181_0 rfl ?_
    refine wLd 0 rfl rfl ag_179 rfl rfl rfl ?_
    refine wMv rfl rfl rfl ?_
    obtain ⟨e1, he1, hr⟩ := bdS hr
    obtain ⟨b4, me1, hE1, hI1⟩ := hO1.att (k := 11) (fun _ => rfl) he1
    refine wIxO rfl rfl rfl se_179 hI1 rfl ?_
    refine wFa rfl rfl fo_185_2 rfl ?_
    refine wLsE (enc_box_entry e1.v) (off := 9) rfl rfl hE1.elem ag_137 sz_137 (inJ 1 rfl) rfl rfl rfl ?_
    refine wSts 3 (enc_box_entry e1.v) rfl (gd0 rfl) rfl rfl rfl sz_137 rfl rfl rfl rn0 ?_
    refine wAs rfl rfl rfl ?_
    refine wE ?_
    refine wN ?_
    cases hr
    exact wRet2 hq rfl (fun a w hf hH => resC (vs := (enc_box_entry e1.v)) hf rfl hH ag_137 sz_137 (mem0 (j := 3) rfl) (Nat.le_of_ble_eq_true rfl) rfl) (fun a w hf hH => resT hf rfl) fun w hH => ⟨rfl, ((hH.grp 5 [[0, 1], [3], [4]] rfl).grp 3 [[0]] rfl)⟩

theorem table_Table_box_entry_Del_w {E : Env} {w : World} {Fs : List HL} {bp0 : Nat} {p0 : table_Table_box_entry} {hp0 : HL} {p1 : api_Prefix} {r : (table_Table_box_entry × Bool)} (hr : table_Table_box_entry_Del p0 p1 = some r) (hBp0 : ob_table_Table_box_entry bp0 p0 hp0) (hH : Holds E w (hp0 :: Fs)) :
    BK.Spec Try.prog 70 [ptr bp0 0, .agg (enc_api_Prefix p1).toArray] w fun v w' => ∃ (h0' : HL), v = .bool r.2 ∧ Holds E w' (h0' :: Fs) ∧ ob_table_Table_box_entry bp0 r.1 h0' := by
  unfold table_Table_box_entry_Del at hr
  refine ent Try.func70 rfl hH fun Q _ hq => ?_
  refine wF [(0, ptr bp0 0), (1, .agg (enc_api_Prefix p1).toArray)] rfl ?_
  refine wSq ?_
  refine wT ?_
  refine wBox (vs := (enc_api_Prefix p1)) rfl (gd0 rfl) rfl rfl fun b1 => ⟨rn0, ?_⟩
  refine wAs rfl rfl rfl ?_
  refine wE ?_
  refine wN ?_
  refine wSq ?_
  refine wT ?_
  refine wMv rfl rfl rfl ?_
  refine wLs 0 (enc_api_Prefix p1) rfl rfl ag_42 sz_42 rfl rfl rfl rfl ?_
  obtain ⟨r1, hr1, hr⟩ := bdS hr
  refine wCl rfl (gd0 rfl) rfl rfl ck_95 (fun w hH => table_Table_box_entry_find_w hr1 hBp0 (hH.grp 2 [[1], [0]] rfl)) ?_
  rintro _ w ⟨rfl, hH⟩
  refine ⟨_, hH, rn0, ?_⟩
  refine wMv rfl rfl rfl ?_
  refine wEx rfl rfl rfl rfl ?_
  refine wEx rfl rfl rfl rfl ?_
  refine wAs rfl rfl rfl ?_
  refine wAs rfl rfl rfl ?_
  refine wE ?_
  refine wN ?_
  refine wSq ?_
  refine wSq ?_
  refine wT ?_
  refine wMv rfl rfl rfl ?_
  refine wInt rfl rfl rfl rfl rfl ?_
  refine wE ?_
  refine wN ?_
  refine wIf2 rfl hr (fun hc1 hr => ?_) (fun hc1 hr => ?_)
  ·
    refine wSq ?_
    refine wT ?_
    refine wAs rfl rfl rfl ?_
    refine wE ?_
    refine wN ?_
    cases hr
    exact wRet1 hq rfl (fun a w hf hH => resT hf rfl) fun w hH => ⟨_, rfl, (hH.grp 2 [[0]] rfl), hBp0⟩
  ·
    refine wS ?_
    refine wN ?_
    refine wSq ?_
    obtain ⟨v1, c1, rfl, hO1⟩ := hBp0
    refine wH (fun w h => h.opn 0 _ rfl) ?_
    refine wT ?_
    refine wMv rfl rfl rfl ?_
    refine wNc rfl rfl rfl ?_
    refine wFa rfl rfl fo_181_0 rfl ?_
    refine wLd 0 rfl rfl ag_179 rfl rfl rfl ?_
    refine wMv rfl rfl rfl ?_
    refine wBd (enc_table_place_box_entry (⟨2, z_api_Prefix, z_box_entry⟩ : table_place_box_entry)) rfl rfl (by kernel_rfl) rfl ?_
    obtain ⟨e1, he1, hr⟩ := bdS hr
    obtain ⟨b2, me1, hE1, hI1⟩ := hO1.att (k := 11) (fun _ => rfl) he1
    refine wIxO rfl rfl rfl se_179 hI1 rfl ?_
    refine wSels 1 (off := 0) (vs := (enc_table_place_box_entry (⟨2, z_api_Prefix, z_box_entry⟩ : table_place_box_entry))) (z' := (⟨2, z_api_Prefix, z_box_entry⟩ : table_place_box_entry)) rfl (gd0 rfl) rfl rfl rfl sz_185 hE1 rfl rfl rfl fun c2 hF1 => ⟨rn0, ?_⟩
    refine wE ?_
    refine wN ?_
    refine wSq ?_
    refine wT ?_
    refine wMv rfl rfl rfl ?_
    refine wNc rfl rfl rfl ?_
    refine wFa rfl rfl fo_181_2 rfl ?_
    refine wLd 0 rfl rfl ag_3 rfl rfl rfl ?_
    refine wInt rfl rfl rfl rfl rfl ?_
    refine wNc rfl rfl rfl ?_
    refine wFa rfl rfl fo_181_2 rfl ?_
    refine wSto 0 (cl_table_Table_box_entry ({ p0 with l := (p0.l.set r1.1.toNat (⟨2, z_api_Prefix, z_box_entry⟩ : table_place_box_entry)), n := (IntKind.i64.wrap (p0.n - 1)) } : table_Table_box_entry) v1) rfl (gd0 rfl) rfl rfl rfl sz_3 rfl rfl rfl rn0 ?_
    refine wE ?_
    refine wN ?_
    refine wJ (fun a w => ∃ (y1 : (List table_place_box_entry)) (c3 : HL), Fr a 38 [] ∧ Holds E w ([blk bp0 (cl_table_Table_box_entry ({ p0 with l := y1, n := (IntKind.i64.wrap (p0.n - 1)) } : table_Table_box_entry) v1) 181] :: c3 :: Fs) ∧ Ow enc_table_place_box_entry 11 185 v1 y1 c3 ∧ table_Table_box_entry_Del_k1 p0 y1 = some r) ?_ ?_
    ·
      refine wSq ?_
      refine wT ?_
      refine wMv rfl rfl rfl ?_
      refine wNc rfl rfl rfl ?_
      refine wFa rfl rfl fo_181_2 rfl ?_
      refine wLd 0 rfl rfl ag_3 rfl rfl rfl ?_
      refine wInt rfl rfl rfl rfl rfl ?_
      refine wE ?_
      refine wN ?_
      refine wIf2 rfl hr (fun hc2 hr => ?_) (fun hc2 hr => ?_)
      ·
        refine wT ?_
        refine wMv rfl rfl rfl ?_
        refine wNc rfl rfl rfl ?_
        refine wFa rfl rfl fo_181_0 rfl ?_
        refine wLd 0 rfl rfl ag_179 rfl rfl rfl ?_
        refine wClr 1 (k := 11) rfl (gd0 rfl) rfl hF1.own rfl (fun _ => rfl) (fun _ => rfl) se_179 zc_185 fun c4 hO3 => ⟨rn0, ?_⟩
        refine wE ?_
        exact fun a w hf hH => ⟨(List.replicate (p0.l.set r1.1.toNat (⟨2, z_api_Prefix, z_box_entry⟩ : table_place_box_entry)).length z_table_place_box_entry), c4, hf.sub _ rfl, (hH.grp 4 [[0], [1]] rfl), hO3, hr⟩
      ·
        refine wS ?_
        exact fun a w hf hH => ⟨(p0.l.set r1.1.toNat (⟨2, z_api_Prefix, z_box_entry⟩ : table_place_box_entry)), c2, hf.sub _ rfl, (hH.grp 4 [[0], [1]] rfl), hF1.own, hr⟩
    ·
      rintro a w ⟨y1, c3, hf, hH, hO2, hr⟩
      refine jI hf hH ?_
      clear hf hH a w
      unfold table_Table_box_entry_Del_k1 at hr
      refine wSq ?_
      refine wT ?_
      refine wAs rfl rfl rfl ?_
      refine wE ?_
      refine wN ?_
      cases hr
      exact wRet1 hq rfl (fun a w hf hH => resT hf rfl) fun w hH => ⟨_, rfl, ((hH.grp 2 [[0, 1]] rfl).grp 1 [[0]] rfl), (mo_table_Table_box_entry hO2)⟩

theorem table_Table_box_entry_Put_w {E : Env} {w : World} {Fs : List HL} {bp0 : Nat} {p0 : table_Table_box_entry} {hp0 : HL} {p1 : api_Prefix} {p2 : box_entry} {r : (table_Table_box_entry × Bool)} (hr : table_Table_box_entry_Put p0 p1 p2 = some r) (hBp0 : ob_table_Table_box_entry bp0 p0 hp0) (hH : Holds E w (hp0 :: Fs)) :
    BK.Spec Try.prog 69 [ptr bp0 0, .agg (enc_api_Prefix p1).toArray, .agg (enc_box_entry p2).toArray] w fun v w' => ∃ (h0' : HL), v = .bool r.2 ∧ Holds E w' (h0' :: Fs) ∧ ob_table_Table_box_entry bp0 r.1 h0' := by
  unfold table_Table_box_entry_Put at hr
  refine ent Try.func69 rfl hH fun Q _ hq => ?_
  refine wF [(0, ptr bp0 0), (1, .agg (enc_api_Prefix p1).toArray), (2, .agg (enc_box_entry p2).toArray)] rfl ?_
  refine wSq ?_
  refine wT ?_
  refine wBox (vs := (enc_api_Prefix p1)) rfl (gd0 rfl) rfl rfl fun b1 => ⟨rn0, ?_⟩
  refine wBox (vs := (enc_box_entry p2)) rfl (gd0 rfl) rfl rfl fun b2 => ⟨rn0, ?_⟩
  refine wAs rfl rfl rfl ?_
  refine wE ?_
  refine wN ?_
  refine wSq ?_
  refine wT ?_
  refine wMv rfl rfl rfl ?_
  refine wLs 1 (enc_api_Prefix p1) rfl rfl ag_42 sz_42 rfl rfl rfl rfl ?_
  obtain ⟨r1, hr1, hr⟩ := bdS hr
  refine wCl rfl (gd0 rfl) rfl rfl ck_95 (fun w hH => table_Table_box_entry_find_w hr1 hBp0 (hH.grp 3 [[2], [0], [1]] rfl)) ?_
  rintro _ w ⟨rfl, hH⟩
  refine ⟨_, hH, rn0, ?_⟩
  refine wMv rfl rfl rfl ?_
  refine wEx rfl rfl rfl rfl ?_
  refine wEx rfl rfl rfl rfl ?_
  refine wAs rfl rfl rfl ?_
  refine wAs rfl rfl rfl ?_
  refine wE ?_
  refine wN ?_
  refine wSq ?_
  refine wB ?_
  refine wSq ?_
  refine wT ?_
  refine wMv rfl rfl rfl ?_
  refine wInt rfl rfl rfl rfl rfl ?_
  refine wAs rfl rfl rfl ?_
  refine wE ?_
  refine wN ?_
  refine wIf2 rfl hr (fun hc1 hr => ?_) (fun hc1 hr => ?_)
  ·
    refine wSq ?_
    obtain ⟨v1, c1, rfl, hO1⟩ := hBp0
    refine wH (fun w h => h.opn 0 _ rfl) ?_
    refine wD mix_ (.y 0 (.y 1 (.y 2 (.y 3 (.y 4 (.y 5 (.y 6 (.y 7 (.e 8 .done))))))))) (by kernel_rfl) ?_
    refine wMv rfl rfl rfl ?_
    refine wNc rfl rfl rfl ?_
    refine wFa rfl rfl fo_181_0 rfl ?_
    refine wLd 0 rfl rfl ag_179 rfl rfl rfl ?_
    refine wMv rfl rfl rfl ?_
    refine wLs 3 (enc_box_entry p2) rfl rfl ag_137 sz_137 rfl rfl rfl rfl ?_
    obtain ⟨e1, he1, hr⟩ := bdS hr
    obtain ⟨b3, me1, hE1, hI1⟩ := hO1.att (k := 11) (fun _ => rfl) he1
    refine wIxO rfl rfl rfl se_179 hI1 rfl ?_
    refine wFa rfl rfl fo_185_2 rfl ?_
    refine wSels 1 (off := 9) (vs := (enc_box_entry p2)) (z' := ({ e1 with v := p2 } : table_place_box_entry)) rfl (gd0 rfl) rfl rfl rfl sz_137 hE1 rfl rfl rfl fun c2 hF1 => ⟨(rnI (inJ0 (j := 3) rfl) (rnI (inJ0 (j := 0) rfl) rnN)), ?_⟩
    refine wE ?_
    refine wN ?_
    refine wSq ?_
    refine wT ?_
    refine wAs rfl rfl rfl ?_
    refine wE ?_
    refine wN ?_
    cases hr
    exact wRet1 hq rfl (fun a w hf hH => resT hf rfl) fun w hH => ⟨_, rfl, ((hH.grp 5 [[0, 1], [3], [4]] rfl).grp 3 [[0]] rfl), (mo_table_Table_box_entry hF1.own)⟩
  ·
    refine wSq ?_
    obtain ⟨v2, c3, rfl, hO2⟩ := hBp0
    refine wH (fun w h => h.opn 0 _ rfl) ?_
    refine wD mix_ (.y 0 (.y 1 (.y 2 (.y 3 (.y 4 (.y 5 (.y 6 (.y 7 (.y 8 (.y 9 (.y 10 (.y 11 (.y 12 (.y 13 .done)))))))))))))) (by kernel_rfl) ?_
    refine wMv rfl rfl rfl ?_
    refine wY rfl rfl rfl rfl (fun a hf => rPe hf rfl rfl un_132) ?_
    refine wMv rfl rfl rfl ?_
    refine wGt rfl rfl rfl rfl rfl rfl rfl rfl (fun a hf => rMv hf rfl) ?_
    refine wGt rfl rfl rfl rfl rfl rfl rfl rfl (fun a hf => rNil hf rfl) ?_
    refine wGt rfl rfl rfl rfl rfl rfl rfl rfl (fun a hf => rFa hf rfl fo_181_2) ?_
    refine wGtr rfl rfl rfl rfl rfl rfl rfl rfl (inJ0 (j := 0) rfl) (fun a hf cs hC => rLd hf rfl ag_3 (m1 hC) rfl) ?_
    refine wGt rfl rfl rfl rfl rfl rfl rfl rfl (fun a hf => rMv hf rfl) ?_
    refine wGt rfl rfl rfl rfl rfl rfl rfl rfl (fun a hf => rNil hf rfl) ?_
    refine wGt rfl rfl rfl rfl rfl rfl rfl rfl (fun a hf => rFa hf rfl fo_181_1) ?_
    refine wGtr rfl rfl rfl rfl rfl rfl rfl rfl (inJ0 (j := 0) rfl) (fun a hf cs hC => rLd hf rfl ag_3 (m1 hC) rfl) ?_
    refine wGt rfl rfl rfl rfl rfl rfl rfl rfl (fun a hf => rInt hf rfl rfl rfl) ?_
    refine wY rfl rfl rfl rfl (fun a hf => rPkF hf rfl rfl rfl) ?_
    refine wAs rfl rfl rfl ?_
    refine wE ?_
    refine wN ?_
    refine wIf2 rfl hr (fun hc2 hr => ?_) (fun hc2 hr => ?_)
    ·
      refine wSq ?_
      refine wT ?_
      refine wAs rfl rfl rfl ?_
      refine wE ?_
      refine wN ?_
      cases hr
      exact wRet1 hq rfl (fun a w hf hH => resT hf rfl) fun w hH => ⟨_, rfl, ((hH.grp 5 [[0, 1], [3], [4]] rfl).grp 3 [[0]] rfl), (mo_table_Table_box_entry hO2)⟩
    ·
      refine wS ?_
      refine wBn ?_
      refine wN ?_
      refine wSq ?_
      refine wD mix_ (.y 0 (.y 1 (.y 2 (.y 3 (.y 4 (.y 5 (.y 6 (.y 7 (.y 8 (.e 9 .done)))))))))) (by kernel_rfl) ?_
      refine wMv rfl rfl rfl ?_
      refine wNc rfl rfl rfl ?_
      refine wFa rfl rfl fo_181_0 rfl ?_
      refine wLd 0 rfl rfl ag_179 rfl rfl rfl ?_
      refine wMv rfl rfl rfl ?_
      refine wLs 4 (enc_api_Prefix p1) rfl rfl ag_42 sz_42 rfl rfl rfl rfl ?_
      refine wLs 3 (enc_box_entry p2) rfl rfl ag_137 sz_137 rfl rfl rfl rfl ?_
      refine wBd (enc_table_place_box_entry (⟨1, p1, p2⟩ : table_place_box_entry)) rfl rfl (by kernel_rfl) rfl ?_
      obtain ⟨e2, he2, hr⟩ := bdS hr
      obtain ⟨b4, me2, hE2, hI2⟩ := hO2.att (k := 11) (fun _ => rfl) he2
      refine wIxO rfl rfl rfl se_179 hI2 rfl ?_
      refine wSels 1 (off := 0) (vs := (enc_table_place_box_entry (⟨1, p1, p2⟩ : table_place_box_entry))) (z' := (⟨1, p1, p2⟩ : table_place_box_entry)) rfl (gd0 rfl) rfl rfl rfl sz_185 hE2 rfl rfl rfl fun c4 hF2 => ⟨(rnI (inJ0 (j := 3) rfl) (rnI (inJ0 (j := 4) rfl) (rnI (inJ0 (j := 0) rfl) rnN))), ?_⟩
      refine wE ?_
      refine wN ?_
      refine wSq ?_
      refine wT ?_
      refine wMv rfl rfl rfl ?_
      refine wNc rfl rfl rfl ?_
      refine wFa rfl rfl fo_181_2 rfl ?_
      refine wLd 0 rfl rfl ag_3 rfl rfl rfl ?_
      refine wInt rfl rfl rfl rfl rfl ?_
      refine wNc rfl rfl rfl ?_
      refine wFa rfl rfl fo_181_2 rfl ?_
      refine wSto 0 (cl_table_Table_box_entry ({ p0 with l := (p0.l.set r1.2.toNat (⟨1, p1, p2⟩ : table_place_box_entry)), n := (IntKind.i64.wrap (p0.n + 1)) } : table_Table_box_entry) v2) rfl (gd0 rfl) rfl rfl rfl sz_3 rfl rfl rfl rn0 ?_
      refine wE ?_
      refine wN ?_
      refine wSq ?_
      refine wT ?_
      refine wAs rfl rfl rfl ?_
      refine wE ?_
      refine wN ?_
      cases hr
      exact wRet1 hq rfl (fun a w hf hH => resT hf rfl) fun w hH => ⟨_, rfl, ((hH.grp 5 [[0, 1], [3], [4]] rfl).grp 3 [[0]] rfl), (mo_table_Table_box_entry hF2.own)⟩
end Go.Proofs
