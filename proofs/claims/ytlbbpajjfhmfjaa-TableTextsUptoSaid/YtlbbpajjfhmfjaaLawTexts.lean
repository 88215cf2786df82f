/- TableTexts: the statement. Own work for this claim. -/
import Derived.Test.YtlbbpajjfhmfjaaLift
import Derived.Test.YtlbbpajjfhmfjaaBulk
import Derived.Test.YtlbbpajjfhmfjaaPlTexts
import Derived.Test.YtlbbpajjfhmfjaaChecked
namespace Go.Proofs.Ytlbbpajjfhmfjaa.tableTexts
open Go.ChangeShapes Go.WideShapes Go.ChangeAt Go.RowKit Go.BK
set_option linter.unusedVariables false
set_option maxRecDepth 100000
theorem own : ownKnob Try.prog.godebug = none := by kernel_rfl
theorem dc_prefix {H : Type} {enc : TypeId × Value → H} {W : World} : Dc enc Try.prog W 42 (Fl enc_api_Prefix okPx) := by
  intro fuel cs x h
  obtain ⟨hl, hf⟩ := dc_struct Try.underlying42 h
  obtain ⟨m0, y0, h0⟩ := hf 0 _ rfl
  obtain ⟨m1, y1, h1⟩ := hf 1 _ rfl
  obtain ⟨a0, e0, _⟩ := dc_bool Try.underlying4 _ _ _ h0
  obtain ⟨a1, e1, o1⟩ := dc_array (k := 1) Try.underlying40 (by kernel_rfl) (by kernel_rfl) (dc_int Try.underlying5) _ _ _ h1
  have hp := parts_flat cs [1, 7] 0 (by rw [hl]; kernel_rfl)
  have hp' : (cs.drop 0).take 1 ++ ((cs.drop 1).take 7 ++ []) = cs := hp
  have e0' : (cs.drop 0).take 1 = [Value.bool a0] := e0
  have e1' : (cs.drop 1).take 7 = Tup.cells (fun n => [Value.int .u8 n]) 7 a1 := e1
  rw [e0', e1', List.append_nil] at hp'
  refine ⟨⟨a0, a1⟩, hp'.symm, fun n hn => ?_⟩
  have := o1 n hn
  simpa [IntKind.min, IntKind.max, IntKind.signed, IntKind.bits] using this
theorem contract (H : Type) (enc : TypeId × Value → H) (W : World) (base : Nat) (args : Array Value) (ds gs : List (DataW H)) (before : List MemPlace)
    (hval : ∀ (j : Nat) t v, Try.f5.params[j]? = some t → args[j]? = some v → Value.okWide Try.prog W .any base t v)
    (hW : DataW.Whole enc Try.prog Try.f5.params.toList Rows.tableTextsSpec.vars false W args.toList ds gs before) (hk : Rows.uptoSmall H (ds ++ gs) = true) :
    Calls Try.prog 5 args W fun e W' => ∃ v, e = .returned v ∧ Rows.tableTextsSpec.post enc Try.prog Try.f5 false true false false W args v W' := by
  have hW' := hW
  obtain ⟨p, q, hA0, hV, rfl, hfz, hnd⟩ := hW
  have hA : DataW.TrodAll enc Try.prog W 0 (fun _ => true) true Try.f5.params.toList args.toList ds p := hA0
  rw [Try.params5] at hA hval
  obtain ⟨v0, vs0, d0, ds0, p0, q0, hargs, rfl, rfl, h0, r0⟩ := trodAll_cons hA
  obtain ⟨v1, vs1, d1, ds1, p1, q1, rfl, rfl, rfl, h1, r1⟩ := trodAll_cons r0
  obtain ⟨rfl, rfl, rfl⟩ := trodAll_nil r1
  obtain rfl : args = #[v0, v1] := by cases args; simp_all
  obtain ⟨rfl, rfl⟩ := trodVars_none hV
  obtain ⟨s, rfl, rfl, rfl, ws⟩ := Go.ChangeMaps.open_string Try.underlying9 (hval 1 9 v1 rfl rfl) h1
  obtain ⟨a, len, cap, rfl⟩ := okWide_slice Try.underlying44 (hval 0 44 v0 rfl rfl)
  have hb := bulks.bound hk
  obtain ⟨xs, hR, hok, _, _⟩ := dc_slice (k := 8) (enc1 := enc_api_Prefix) (ok := okPx) Try.underlying44 (by kernel_rfl) (by kernel_rfl) (fun _ => rfl) dc_prefix h0 (fun es rs hd => by
    subst hd
    have h1 := bulks.slice_le es rs
    have h2 := bulks.part_le (d := DataW.slice es rs) (l := [DataW.slice es rs, DataW.lit (.string s.data.toList)] ++ []) (by simp)
    have h3 : Rows.uptoBulkAll ([DataW.slice es rs, DataW.lit (.string s.data.toList)] ++ []) ≤ 1048576 := hb
    omega) rfl
  clear hA0 hA h0 h1 r0 r1 hV
  obtain ⟨r, hr, rfl⟩ := TableTexts_plain xs s hok
  have hS := law21_TableTexts_w (E := envOf W) (Fs := []) hr hR (holds_all W)
  refine (show Calls Try.prog 5 #[.slice a len cap, .string s] W _ from hS).mono fun e W' ⟨v, he, hv, hh⟩ => ?_
  subst hv
  have hK := Kept.of hh
  refine ⟨_, he, post_true hW' rfl (by kernel_rfl) Try.underlying4 rfl rfl rfl hK fun sp => ?_⟩
  rw [Try.params5]
  refine ⟨BK.tk_slice hK Try.underlying44 (by kernel_rfl) (BK.tk_struct Try.underlying42 fun f hf => ?_), BK.tk_string Try.underlying9, trivial⟩
  simp only [List.mem_cons, List.not_mem_nil, or_false] at hf
  rcases hf with rfl | rfl
  · exact BK.tk_bool Try.underlying4
  · exact BK.tk_array Try.underlying40 (BK.tk_int Try.underlying5)
set_option maxRecDepth 100000 in
theorem lifted (os : Os) (started : os.Started) (H : Type) (enc : TypeId × Value → H) (F : Stop.Interp) :
    ReturnsInHanded {} Try.checked os 5 .any ((Rows.OpenSpec.upto Rows.tableTextsSpec).pre6 enc Try.prog Try.f5 Rows.tableTextsUptoRow.domain false) (((Rows.OpenSpec.upto Rows.tableTextsSpec).at F).post enc Try.prog Try.f5 false true false false) := by
  refine returnsInHanded_of_cond (C := Try.checked) (s := Rows.OpenSpec.upto Rows.tableTextsSpec) (k := Rows.uptoSmall) rfl own started (by kernel_rfl) Try.func5
    (OpenSpec.witness (enc := enc) (C := Try.checked) (s := Rows.OpenSpec.upto Rows.tableTextsSpec) (k := Rows.uptoSmall) rfl false ⟨#[], #[.slice none 0 0, .string ByteArray.empty], []⟩ 8 (by kernel_rfl) (by kernel_rfl) (by kernel_rfl)
      (x := ([.nil, .lit (.string [])], [], [])) (by kernel_rfl) rfl (by kernel_rfl)) ?_
  intro W base args ds gs before hval hW _ hk _
  exact contract H enc W base args ds gs before hval hW hk
theorem over : Rows.tableTextsUptoRow.holds Try.pinned (Rows.OpenSpec.upto Rows.tableTextsSpec) :=
  OpenClaim.holds_of_cond 5 Try.f5 rfl rfl rfl rfl rfl rfl rfl ⟨rfl, rfl, rfl, rfl, rfl⟩ rfl rfl rfl rfl rfl (by kernel_rfl) Try.func5 (by kernel_rfl)
    (of_decide_eq_true (by kernel_rfl)) (by unfold Func.isWrapper; first | (rw [if_pos (by decide +kernel)]; kernel_rfl) | (rw [if_neg (by decide +kernel)]; exact ⟨rfl, rfl⟩))
    (fun os started H enc _ F => lifted os started H enc F)
theorem proved : Rows.TableTextsUptoSaid :=
  over
end Go.Proofs.Ytlbbpajjfhmfjaa.tableTexts
