/- TablePlays: true, whatever the input of a bulk of at most 1048576; the input reads as it did (the statement TablePlaysUptoSaid). Own work for this claim; printed by a program of mine. -/
import Derived.Test.YtlbbpajjfhmfjaaLift
import Derived.Test.YtlbbpajjfhmfjaaBulk
import Derived.Test.YtlbbpajjfhmfjaaDc
import Derived.Test.YtlbbpajjfhmfjaaPlPlays
import Derived.Test.YtlbbpajjfhmfjaaGlaw21
import Derived.Test.YtlbbpajjfhmfjaaChecked
namespace Go.Proofs.Ytlbbpajjfhmfjaa.tablePlays
open Go.ChangeShapes Go.WideShapes Go.ChangeAt Go.RowKit Go.BK
set_option linter.unusedVariables false
set_option maxRecDepth 100000
theorem own : ownKnob Try.prog.godebug = none := by kernel_rfl
theorem contract (H : Type) (enc : TypeId × Value → H) (W : World) (base : Nat) (args : Array Value) (ds gs : List (DataW H)) (before : List MemPlace)
    (hval : ∀ (j : Nat) t v, Try.f4.params[j]? = some t → args[j]? = some v → Value.okWide Try.prog W .any base t v)
    (hW : DataW.Whole enc Try.prog Try.f4.params.toList Rows.tablePlaysSpec.vars false W args.toList ds gs before) (hk : Rows.uptoSmall H (ds ++ gs) = true) :
    Calls Try.prog 4 args W fun e W' => ∃ v, e = .returned v ∧ Rows.tablePlaysSpec.post enc Try.prog Try.f4 false true false false W args v W' := by
  have hW' := hW
  obtain ⟨p, q, hA0, hV, rfl, hfz, hnd⟩ := hW
  obtain ⟨rfl, rfl⟩ := trodVars_none hV
  have hA : DataW.TrodAll enc Try.prog W 0 (fun _ => true) true Try.f4.params.toList args.toList ds p := hA0
  rw [Try.params4] at hA hval
  obtain ⟨v0, vs0, d0, ds0, p0, q0, hargs, rfl, rfl, h0, r0⟩ := trodAll_cons hA
  obtain ⟨v1, vs1, d1, ds1, p1, q1, rfl, rfl, rfl, h1, r1⟩ := trodAll_cons r0
  obtain ⟨rfl, rfl, rfl⟩ := trodAll_nil r1
  obtain rfl : args = #[v0, v1] := by cases args; simp_all
  have hb := bulks.bound hk
  obtain ⟨x0, rfl, hd0, rfl, w0⟩ := open_int Try.underlying3 (hval 0 3 v0 rfl rfl) h0
  have o0 := wfr w0
  obtain ⟨a1, len1, cap1, rfl⟩ := okWide_slice Try.underlying35 (hval 1 35 v1 rfl rfl)
  obtain ⟨x1, hR1, o1, hl1, hn1⟩ := dc_slice (k := 10) (enc1 := enc_law21_Act) Try.underlying35 (by kernel_rfl) (by kernel_rfl) (fun _ => rfl) dct_49 h1 (fun es rs hd => by
    have h1 := bulks.slice_le es rs
    have h2 := bulks.part_le (d := d1) (l := [d0, d1] ++ []) (by simp)
    rw [hd] at h2
    have h3 : Rows.uptoBulkAll ([d0, d1] ++ []) ≤ 1048576 := hb
    rw [hd] at h3
    omega) rfl
  obtain ⟨r, hr, rfl⟩ := TablePlays_plain x0 x1 (fun a ha n hn => u8r ((o1 a ha).2.1.2 n hn))
  have hS := law21_TablePlays_w (E := envOf W) (Fs := []) hr hR1 (holds_all W)
  refine (show Calls Try.prog 4 #[.int .i64 x0, .slice a1 len1 cap1] W _ from hS).mono fun e W' hp => ?_
  obtain ⟨v, he, hv, hh⟩ := hp
  subst hv
  have hK := Kept.of hh
  refine ⟨_, he, post_true hW' rfl (by kernel_rfl) Try.underlying4 rfl rfl rfl hK fun sp => ?_⟩
  rw [Try.params4]
  exact ⟨tkt_3, (tkt_35 hK), trivial⟩
set_option maxRecDepth 100000 in
theorem lifted (os : Os) (started : os.Started) (H : Type) (enc : TypeId × Value → H) (F : Stop.Interp) :
    ReturnsInHanded {} Try.checked os 4 .any ((Rows.OpenSpec.upto Rows.tablePlaysSpec).pre6 enc Try.prog Try.f4 Rows.tablePlaysUptoRow.domain false) (((Rows.OpenSpec.upto Rows.tablePlaysSpec).at F).post enc Try.prog Try.f4 false true false false) := by
  refine returnsInHanded_of_cond (C := Try.checked) (s := Rows.OpenSpec.upto Rows.tablePlaysSpec) (k := Rows.uptoSmall) rfl own started (by kernel_rfl) Try.func4
    (OpenSpec.witness (enc := enc) (C := Try.checked) (s := Rows.OpenSpec.upto Rows.tablePlaysSpec) (k := Rows.uptoSmall) rfl false ⟨#[], #[.int .i64 0, .slice none 0 0], []⟩ 8 (by kernel_rfl) (by kernel_rfl) (by kernel_rfl)
      (x := ([.lit (.int .i64 0), .nil], [], [])) (by kernel_rfl) rfl (by kernel_rfl)) ?_
  intro W base args ds gs before hval hW _ hk _
  exact contract H enc W base args ds gs before hval hW hk
theorem over : Rows.tablePlaysUptoRow.holds Try.pinned (Rows.OpenSpec.upto Rows.tablePlaysSpec) :=
  OpenClaim.holds_of_cond 4 Try.f4 rfl rfl rfl rfl rfl rfl rfl ⟨rfl, rfl, rfl, rfl, rfl⟩ rfl rfl rfl rfl rfl (by kernel_rfl) Try.func4 (by kernel_rfl)
    (of_decide_eq_true (by kernel_rfl)) (by unfold Func.isWrapper; first | (rw [if_pos (by decide +kernel)]; kernel_rfl) | (rw [if_neg (by decide +kernel)]; exact ⟨rfl, rfl⟩))
    (fun os started H enc _ F => lifted os started H enc F)
theorem proved : Rows.TablePlaysUptoSaid :=
  over
end Go.Proofs.Ytlbbpajjfhmfjaa.tablePlays
