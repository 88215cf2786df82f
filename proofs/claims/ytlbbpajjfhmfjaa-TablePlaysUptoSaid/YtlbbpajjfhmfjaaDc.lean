/- What memory of the types of the laws' parameters holds, once it is told. Printed by a program of mine. Own work for this claim. -/
import Derived.Test.YtlbbpajjfhmfjaaLift
import Derived.Test.YtlbbpajjfhmfjaaG0
set_option linter.unusedVariables false
set_option maxRecDepth 100000
namespace Go.Proofs
open Go.BK
section
variable {H : Type} {enc : TypeId × Value → H} {W W' : World} {sp : Nat → Bool}
theorem tkt_5 : TK enc Try.prog W W' sp 5 := BK.tk_int Try.underlying5
theorem tkt_2 : TK enc Try.prog W W' sp 2 := BK.tk_int Try.underlying2
theorem tkt_68 : TK enc Try.prog W W' sp 68 := BK.tk_int Try.underlying68
theorem tkt_94 : TK enc Try.prog W W' sp 94 := BK.tk_array Try.underlying94 tkt_68
theorem tkt_24 (hK : Kept W W') : TK enc Try.prog W W' sp 24 := BK.tk_slice hK Try.underlying24 (by kernel_rfl) tkt_5
theorem tkt_95 : TK enc Try.prog W W' sp 95 := BK.tk_array Try.underlying95 tkt_5
theorem tkt_4 : TK enc Try.prog W W' sp 4 := BK.tk_bool Try.underlying4
theorem tkt_40 : TK enc Try.prog W W' sp 40 := BK.tk_array Try.underlying40 tkt_5
def ok_api_Prefix (x : api_Prefix) : Prop := True ∧ (∀ z ∈ Tup.list 7 x.Addr, IntKind.u8.min ≤ z ∧ z ≤ IntKind.u8.max)
theorem dct_42 : Dc enc Try.prog W 42 (Fl enc_api_Prefix ok_api_Prefix) := by
  intro fuel cs x h
  obtain ⟨hl, hf⟩ := dc_struct Try.underlying42 h
  obtain ⟨m0, y0, h0⟩ := hf 0 _ rfl
  obtain ⟨a0, e0, o0⟩ := dc_bool Try.underlying4 _ _ _ h0
  obtain ⟨m1, y1, h1⟩ := hf 1 _ rfl
  obtain ⟨a1, e1, o1⟩ := (dc_array (k := 1) Try.underlying40 (by kernel_rfl) (by kernel_rfl) (dc_int Try.underlying5)) _ _ _ h1
  have hp := parts_flat cs [1, 7] 0 (by rw [hl]; kernel_rfl)
  have hp' : ((cs.drop 0).take 1 ++ ((cs.drop 1).take 7 ++ [])) = cs := hp
  have e0' : (cs.drop 0).take 1 = [.bool a0] := e0
  have e1' : (cs.drop 1).take 7 = ((Tup.cells (fun y => [.int .u8 y]) 7) a1) := e1
  rw [e0', e1', List.append_nil] at hp'
  exact ⟨⟨a0, a1⟩, hp'.symm, o0, o1⟩
theorem tkt_42 : TK enc Try.prog W W' sp 42 := BK.tk_struct Try.underlying42 fun f hf => by
  simp only [List.mem_cons, List.not_mem_nil, or_false] at hf
  rcases hf with rfl | rfl
  · exact tkt_4
  · exact tkt_40
theorem tkt_3 : TK enc Try.prog W W' sp 3 := BK.tk_int Try.underlying3
def ok_config_Config (x : config_Config) : Prop := (IntKind.i64.min ≤ x.Buckets ∧ x.Buckets ≤ IntKind.i64.max) ∧ (IntKind.i64.min ≤ x.Packets ∧ x.Packets ≤ IntKind.i64.max) ∧ (IntKind.i64.min ≤ x.Levels ∧ x.Levels ≤ IntKind.i64.max) ∧ (IntKind.i64.min ≤ x.Bins ∧ x.Bins ≤ IntKind.i64.max) ∧ (IntKind.i64.min ≤ x.Up ∧ x.Up ≤ IntKind.i64.max) ∧ (IntKind.i64.min ≤ x.Down ∧ x.Down ≤ IntKind.i64.max) ∧ (IntKind.i64.min ≤ x.Slots ∧ x.Slots ≤ IntKind.i64.max) ∧ (IntKind.i64.min ≤ x.Room ∧ x.Room ≤ IntKind.i64.max) ∧ (IntKind.i64.min ≤ x.Quantum ∧ x.Quantum ≤ IntKind.i64.max) ∧ (IntKind.i64.min ≤ x.Reserve ∧ x.Reserve ≤ IntKind.i64.max) ∧ (IntKind.i64.min ≤ x.Shared ∧ x.Shared ≤ IntKind.i64.max) ∧ (IntKind.i64.min ≤ x.Ns ∧ x.Ns ≤ IntKind.i64.max) ∧ (IntKind.i64.min ≤ x.ChokeMin ∧ x.ChokeMin ≤ IntKind.i64.max) ∧ (IntKind.i64.min ≤ x.Target ∧ x.Target ≤ IntKind.i64.max) ∧ (IntKind.i64.min ≤ x.Hold ∧ x.Hold ≤ IntKind.i64.max) ∧ (IntKind.i64.min ≤ x.WindowNs ∧ x.WindowNs ≤ IntKind.i64.max) ∧ (IntKind.i64.min ≤ x.Threshold ∧ x.Threshold ≤ IntKind.i64.max) ∧ (IntKind.i64.min ≤ x.Term ∧ x.Term ≤ IntKind.i64.max) ∧ (IntKind.i64.min ≤ x.Rate ∧ x.Rate ≤ IntKind.i64.max) ∧ (IntKind.i64.min ≤ x.Burst ∧ x.Burst ≤ IntKind.i64.max)
theorem dct_97 : Dc enc Try.prog W 97 (Fl enc_config_Config ok_config_Config) := by
  intro fuel cs x h
  obtain ⟨hl, hf⟩ := dc_struct Try.underlying97 h
  obtain ⟨m0, y0, h0⟩ := hf 0 _ rfl
  obtain ⟨a0, e0, o0⟩ := dc_int Try.underlying3 _ _ _ h0
  obtain ⟨m1, y1, h1⟩ := hf 1 _ rfl
  obtain ⟨a1, e1, o1⟩ := dc_int Try.underlying3 _ _ _ h1
  obtain ⟨m2, y2, h2⟩ := hf 2 _ rfl
  obtain ⟨a2, e2, o2⟩ := dc_int Try.underlying3 _ _ _ h2
  obtain ⟨m3, y3, h3⟩ := hf 3 _ rfl
  obtain ⟨a3, e3, o3⟩ := dc_int Try.underlying3 _ _ _ h3
  obtain ⟨m4, y4, h4⟩ := hf 4 _ rfl
  obtain ⟨a4, e4, o4⟩ := dc_int Try.underlying3 _ _ _ h4
  obtain ⟨m5, y5, h5⟩ := hf 5 _ rfl
  obtain ⟨a5, e5, o5⟩ := dc_int Try.underlying3 _ _ _ h5
  obtain ⟨m6, y6, h6⟩ := hf 6 _ rfl
  obtain ⟨a6, e6, o6⟩ := dc_int Try.underlying3 _ _ _ h6
  obtain ⟨m7, y7, h7⟩ := hf 7 _ rfl
  obtain ⟨a7, e7, o7⟩ := dc_int Try.underlying3 _ _ _ h7
  obtain ⟨m8, y8, h8⟩ := hf 8 _ rfl
  obtain ⟨a8, e8, o8⟩ := dc_int Try.underlying2 _ _ _ h8
  obtain ⟨m9, y9, h9⟩ := hf 9 _ rfl
  obtain ⟨a9, e9, o9⟩ := dc_int Try.underlying2 _ _ _ h9
  obtain ⟨m10, y10, h10⟩ := hf 10 _ rfl
  obtain ⟨a10, e10, o10⟩ := dc_int Try.underlying2 _ _ _ h10
  obtain ⟨m11, y11, h11⟩ := hf 11 _ rfl
  obtain ⟨a11, e11, o11⟩ := dc_int Try.underlying2 _ _ _ h11
  obtain ⟨m12, y12, h12⟩ := hf 12 _ rfl
  obtain ⟨a12, e12, o12⟩ := dc_int Try.underlying2 _ _ _ h12
  obtain ⟨m13, y13, h13⟩ := hf 13 _ rfl
  obtain ⟨a13, e13, o13⟩ := dc_int Try.underlying2 _ _ _ h13
  obtain ⟨m14, y14, h14⟩ := hf 14 _ rfl
  obtain ⟨a14, e14, o14⟩ := dc_int Try.underlying2 _ _ _ h14
  obtain ⟨m15, y15, h15⟩ := hf 15 _ rfl
  obtain ⟨a15, e15, o15⟩ := dc_int Try.underlying2 _ _ _ h15
  obtain ⟨m16, y16, h16⟩ := hf 16 _ rfl
  obtain ⟨a16, e16, o16⟩ := dc_int Try.underlying2 _ _ _ h16
  obtain ⟨m17, y17, h17⟩ := hf 17 _ rfl
  obtain ⟨a17, e17, o17⟩ := dc_int Try.underlying2 _ _ _ h17
  obtain ⟨m18, y18, h18⟩ := hf 18 _ rfl
  obtain ⟨a18, e18, o18⟩ := dc_int Try.underlying2 _ _ _ h18
  obtain ⟨m19, y19, h19⟩ := hf 19 _ rfl
  obtain ⟨a19, e19, o19⟩ := dc_int Try.underlying2 _ _ _ h19
  have hp := parts_flat cs [1, 1, 1, 1, 1, 1, 1, 1, 1, 1, 1, 1, 1, 1, 1, 1, 1, 1, 1, 1] 0 (by rw [hl]; kernel_rfl)
  have hp' : ((cs.drop 0).take 1 ++ ((cs.drop 1).take 1 ++ ((cs.drop 2).take 1 ++ ((cs.drop 3).take 1 ++ ((cs.drop 4).take 1 ++ ((cs.drop 5).take 1 ++ ((cs.drop 6).take 1 ++ ((cs.drop 7).take 1 ++ ((cs.drop 8).take 1 ++ ((cs.drop 9).take 1 ++ ((cs.drop 10).take 1 ++ ((cs.drop 11).take 1 ++ ((cs.drop 12).take 1 ++ ((cs.drop 13).take 1 ++ ((cs.drop 14).take 1 ++ ((cs.drop 15).take 1 ++ ((cs.drop 16).take 1 ++ ((cs.drop 17).take 1 ++ ((cs.drop 18).take 1 ++ ((cs.drop 19).take 1 ++ [])))))))))))))))))))) = cs := hp
  have e0' : (cs.drop 0).take 1 = [.int .i64 a0] := e0
  have e1' : (cs.drop 1).take 1 = [.int .i64 a1] := e1
  have e2' : (cs.drop 2).take 1 = [.int .i64 a2] := e2
  have e3' : (cs.drop 3).take 1 = [.int .i64 a3] := e3
  have e4' : (cs.drop 4).take 1 = [.int .i64 a4] := e4
  have e5' : (cs.drop 5).take 1 = [.int .i64 a5] := e5
  have e6' : (cs.drop 6).take 1 = [.int .i64 a6] := e6
  have e7' : (cs.drop 7).take 1 = [.int .i64 a7] := e7
  have e8' : (cs.drop 8).take 1 = [.int .i64 a8] := e8
  have e9' : (cs.drop 9).take 1 = [.int .i64 a9] := e9
  have e10' : (cs.drop 10).take 1 = [.int .i64 a10] := e10
  have e11' : (cs.drop 11).take 1 = [.int .i64 a11] := e11
  have e12' : (cs.drop 12).take 1 = [.int .i64 a12] := e12
  have e13' : (cs.drop 13).take 1 = [.int .i64 a13] := e13
  have e14' : (cs.drop 14).take 1 = [.int .i64 a14] := e14
  have e15' : (cs.drop 15).take 1 = [.int .i64 a15] := e15
  have e16' : (cs.drop 16).take 1 = [.int .i64 a16] := e16
  have e17' : (cs.drop 17).take 1 = [.int .i64 a17] := e17
  have e18' : (cs.drop 18).take 1 = [.int .i64 a18] := e18
  have e19' : (cs.drop 19).take 1 = [.int .i64 a19] := e19
  rw [e0', e1', e2', e3', e4', e5', e6', e7', e8', e9', e10', e11', e12', e13', e14', e15', e16', e17', e18', e19', List.append_nil] at hp'
  exact ⟨⟨a0, a1, a2, a3, a4, a5, a6, a7, a8, a9, a10, a11, a12, a13, a14, a15, a16, a17, a18, a19⟩, hp'.symm, o0, o1, o2, o3, o4, o5, o6, o7, o8, o9, o10, o11, o12, o13, o14, o15, o16, o17, o18, o19⟩
theorem tkt_97 : TK enc Try.prog W W' sp 97 := BK.tk_struct Try.underlying97 fun f hf => by
  simp only [List.mem_cons, List.not_mem_nil, or_false] at hf
  rcases hf with rfl | rfl | rfl | rfl | rfl | rfl | rfl | rfl | rfl | rfl | rfl | rfl | rfl | rfl | rfl | rfl | rfl | rfl | rfl | rfl
  · exact tkt_3
  · exact tkt_3
  · exact tkt_3
  · exact tkt_3
  · exact tkt_3
  · exact tkt_3
  · exact tkt_3
  · exact tkt_3
  · exact tkt_2
  · exact tkt_2
  · exact tkt_2
  · exact tkt_2
  · exact tkt_2
  · exact tkt_2
  · exact tkt_2
  · exact tkt_2
  · exact tkt_2
  · exact tkt_2
  · exact tkt_2
  · exact tkt_2
theorem tkt_99 (hK : Kept W W') : TK enc Try.prog W W' sp 99 := BK.tk_struct Try.underlying99 fun f hf => by
  simp only [List.mem_cons, List.not_mem_nil, or_false] at hf
  rcases hf with rfl | rfl | rfl | rfl | rfl | rfl | rfl
  · exact tkt_5
  · exact tkt_2
  · exact tkt_94
  · exact (tkt_24 hK)
  · exact tkt_95
  · exact tkt_42
  · exact tkt_97
theorem tkt_22 (hK : Kept W W') : TK enc Try.prog W W' sp 22 := BK.tk_slice hK Try.underlying22 (by kernel_rfl) (tkt_99 hK)
def ok_law21_Act (x : law21_Act) : Prop := (IntKind.u8.min ≤ x.Kind ∧ x.Kind ≤ IntKind.u8.max) ∧ (ok_api_Prefix x.P) ∧ (IntKind.i64.min ≤ x.N ∧ x.N ≤ IntKind.i64.max)
theorem dct_49 : Dc enc Try.prog W 49 (Fl enc_law21_Act ok_law21_Act) := by
  intro fuel cs x h
  obtain ⟨hl, hf⟩ := dc_struct Try.underlying49 h
  obtain ⟨m0, y0, h0⟩ := hf 0 _ rfl
  obtain ⟨a0, e0, o0⟩ := dc_int Try.underlying5 _ _ _ h0
  obtain ⟨m1, y1, h1⟩ := hf 1 _ rfl
  obtain ⟨a1, e1, o1⟩ := dct_42 _ _ _ h1
  obtain ⟨m2, y2, h2⟩ := hf 2 _ rfl
  obtain ⟨a2, e2, o2⟩ := dc_int Try.underlying3 _ _ _ h2
  have hp := parts_flat cs [1, 8, 1] 0 (by rw [hl]; kernel_rfl)
  have hp' : ((cs.drop 0).take 1 ++ ((cs.drop 1).take 8 ++ ((cs.drop 9).take 1 ++ []))) = cs := hp
  have e0' : (cs.drop 0).take 1 = [.int .u8 a0] := e0
  have e1' : (cs.drop 1).take 8 = (enc_api_Prefix a1) := e1
  have e2' : (cs.drop 9).take 1 = [.int .i64 a2] := e2
  rw [e0', e1', e2', List.append_nil] at hp'
  exact ⟨⟨a0, a1, a2⟩, hp'.symm, o0, o1, o2⟩
theorem tkt_49 : TK enc Try.prog W W' sp 49 := BK.tk_struct Try.underlying49 fun f hf => by
  simp only [List.mem_cons, List.not_mem_nil, or_false] at hf
  rcases hf with rfl | rfl | rfl
  · exact tkt_5
  · exact tkt_42
  · exact tkt_3
theorem tkt_35 (hK : Kept W W') : TK enc Try.prog W W' sp 35 := BK.tk_slice hK Try.underlying35 (by kernel_rfl) tkt_49
theorem tkt_44 (hK : Kept W W') : TK enc Try.prog W W' sp 44 := BK.tk_slice hK Try.underlying44 (by kernel_rfl) tkt_42
theorem tkt_9 : TK enc Try.prog W W' sp 9 := BK.tk_string Try.underlying9
theorem tkt_75 : TK enc Try.prog W W' sp 75 := BK.tk_int Try.underlying75
def ok_law22_Act (x : law22_Act) : Prop := (IntKind.u8.min ≤ x.Kind ∧ x.Kind ≤ IntKind.u8.max) ∧ (ok_api_Prefix x.P) ∧ (IntKind.i64.min ≤ x.Now ∧ x.Now ≤ IntKind.i64.max) ∧ (IntKind.i64.min ≤ x.N ∧ x.N ≤ IntKind.i64.max)
theorem dct_79 : Dc enc Try.prog W 79 (Fl enc_law22_Act ok_law22_Act) := by
  intro fuel cs x h
  obtain ⟨hl, hf⟩ := dc_struct Try.underlying79 h
  obtain ⟨m0, y0, h0⟩ := hf 0 _ rfl
  obtain ⟨a0, e0, o0⟩ := dc_int Try.underlying5 _ _ _ h0
  obtain ⟨m1, y1, h1⟩ := hf 1 _ rfl
  obtain ⟨a1, e1, o1⟩ := dct_42 _ _ _ h1
  obtain ⟨m2, y2, h2⟩ := hf 2 _ rfl
  obtain ⟨a2, e2, o2⟩ := dc_int Try.underlying2 _ _ _ h2
  obtain ⟨m3, y3, h3⟩ := hf 3 _ rfl
  obtain ⟨a3, e3, o3⟩ := dc_int Try.underlying2 _ _ _ h3
  have hp := parts_flat cs [1, 8, 1, 1] 0 (by rw [hl]; kernel_rfl)
  have hp' : ((cs.drop 0).take 1 ++ ((cs.drop 1).take 8 ++ ((cs.drop 9).take 1 ++ ((cs.drop 10).take 1 ++ [])))) = cs := hp
  have e0' : (cs.drop 0).take 1 = [.int .u8 a0] := e0
  have e1' : (cs.drop 1).take 8 = (enc_api_Prefix a1) := e1
  have e2' : (cs.drop 9).take 1 = [.int .i64 a2] := e2
  have e3' : (cs.drop 10).take 1 = [.int .i64 a3] := e3
  rw [e0', e1', e2', e3', List.append_nil] at hp'
  exact ⟨⟨a0, a1, a2, a3⟩, hp'.symm, o0, o1, o2, o3⟩
theorem tkt_79 : TK enc Try.prog W W' sp 79 := BK.tk_struct Try.underlying79 fun f hf => by
  simp only [List.mem_cons, List.not_mem_nil, or_false] at hf
  rcases hf with rfl | rfl | rfl | rfl
  · exact tkt_5
  · exact tkt_42
  · exact tkt_2
  · exact tkt_2
theorem tkt_76 (hK : Kept W W') : TK enc Try.prog W W' sp 76 := BK.tk_slice hK Try.underlying76 (by kernel_rfl) tkt_79
end
end Go.Proofs
