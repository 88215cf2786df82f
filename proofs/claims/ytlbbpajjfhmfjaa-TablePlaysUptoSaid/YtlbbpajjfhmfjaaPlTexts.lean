/- The plain law of TableTexts. Own work for this claim. -/
import Derived.Test.YtlbbpajjfhmfjaaPlTabStr
import Derived.Test.YtlbbpajjfhmfjaaPlTabInt
import Derived.Test.YtlbbpajjfhmfjaaPlRef21
import Derived.Test.YtlbbpajjfhmfjaaGlaw21
namespace Go.Proofs
open Go.BK
theorem awake21_ok : Ok law21_awake fun r => r = true := by
  unfold law21_awake law21_awake_k1
  refine okB (new_int (room := 1) (by omega) (by omega)) fun r1 ⟨t, hr1, hT, hroom, hC⟩ => ?_
  subst hr1
  refine okB (okE rfl) fun y1 hy => ?_
  subst hy
  refine okB (get_int hT _) fun r2 hr2 => okT rfl (okB (put_int hT _ _) fun r3 ⟨hT3, _, hr3⟩ => ?_)
  have h2 : r2 = (0, false) := by
    rcases hr2 with ⟨v, hm, _⟩ | ⟨_, h⟩
    · rw [hC] at hm; cases hm
    · exact h
  have h3 : r3.2 = true ∧ (C_int r3.1).length = 1 := by
    rcases hr3 with ⟨h, A, v0, B, e, _⟩ | ⟨_, h, _⟩ | ⟨_, _, h, A, B, e1, e2⟩
    · rw [hC] at e; simp at e
    · rw [hC, hroom] at h; simp at h
    · rw [hC] at e1
      have := congrArg List.length e1
      simp at this
      refine ⟨h, ?_⟩
      rw [e2]; simp; omega
  refine okT h3.1 (okB (okE (by unfold table_Table_int_Len; rfl)) fun r4 hr4 => ?_)
  subst hr4 h2
  have := hT3.n
  exact okT (by rw [this, h3.2]; rfl) (okT rfl (okS rfl))
/-! ### A sorted list with one more, or one fewer -/
abbrev Srt (w : List ref21_Entry) : Prop := (w.map (·.P)).Pairwise fun a b => lessP a b = true
theorem srt_ins {A B : List ref21_Entry} {x : ref21_Entry} (hs : Srt (A ++ B)) (hno : ∀ e ∈ A ++ B, e.P ≠ x.P) (hA : ∀ e ∈ A, lessP e.P x.P = true) (hB : ∀ e B', B = e :: B' → lessP e.P x.P = false) : Srt (A ++ x :: B) := by
  unfold Srt at *
  simp only [List.map_append, List.map_cons] at *
  rw [List.pairwise_append] at *
  obtain ⟨h1, h2, h3⟩ := hs
  have hxB : ∀ b ∈ B.map (·.P), lessP x.P b = true := by
    cases B with
    | nil => intro b hb; cases hb
    | cons e B' =>
      have he : lessP x.P e.P = true := by
        rcases lessP_tri e.P x.P with h | h | h
        · rw [hB e B' rfl] at h; cases h
        · exact absurd h (hno e (by simp))
        · exact h
      intro b hb
      simp only [List.map_cons, List.pairwise_cons] at h2
      rcases List.mem_cons.1 hb with rfl | hb
      · exact he
      · exact lessP_trans he (h2.1 b hb)
  refine ⟨h1, List.pairwise_cons.2 ⟨hxB, h2⟩, fun a ha b hb => ?_⟩
  rcases List.mem_cons.1 hb with rfl | hb
  · obtain ⟨e, he, rfl⟩ := List.mem_map.1 ha
    exact hA e he
  · exact h3 a ha b hb
theorem srt_del {A B : List ref21_Entry} {x : ref21_Entry} (hs : Srt (A ++ x :: B)) : Srt (A ++ B) :=
  List.Pairwise.sublist (List.Sublist.map _ (List.Sublist.append_left (List.sublist_cons_self x B) A)) hs
structure RelT (t : table_Table_string) (w : List ref21_Entry) (s : ByteArray) : Prop where
  ti : TI_string t
  room : t.room = 64
  perm : ((C_string t).map Prod.fst).Perm (w.map (·.P))
  val : ∀ q ∈ C_string t, q.2 = s
  srt : Srt w
  ok : ∀ e ∈ w, okPx e.P
theorem RelT.len {t : table_Table_string} {w : List ref21_Entry} {s : ByteArray} (h : RelT t w s) : (C_string t).length = w.length := by simpa using h.perm.length_eq
theorem RelT.mem {t : table_Table_string} {w : List ref21_Entry} {s : ByteArray} (h : RelT t w s) (p : api_Prefix) : (∃ v, (p, v) ∈ C_string t) ↔ ∃ e ∈ w, e.P = p := by
  have : p ∈ (C_string t).map Prod.fst ↔ p ∈ w.map (·.P) := h.perm.mem_iff
  simp only [List.mem_map] at this
  constructor
  · rintro ⟨v, hv⟩
    exact this.1 ⟨_, hv, rfl⟩
  · intro he
    obtain ⟨⟨q, v⟩, hv, e⟩ := this.2 he
    simp only at e
    subst e
    exact ⟨v, hv⟩
theorem relT_put {t : table_Table_string} {w : List ref21_Entry} {s : ByteArray} (h : RelT t w s) (hl : w.length ≤ 40) (p : api_Prefix) (hp : okPx p) :
    Ok (table_Table_string_Put t p s) fun r => Ok (ref21_Put w 64 p 0) fun r' => RelT r.1 r'.1 s ∧ r'.1.length ≤ w.length + 1 ∧ ∀ q ∈ C_string r.1, q.1 = p ∨ q ∈ C_string t := by
  refine okM (put_string h.ti p s) fun r ⟨hT, hroom, hr⟩ => okM (rput_ok w 64 p 0 (by omega)) fun r' hr' => ?_
  rcases hr with ⟨_, A, v0, B, e1, e2⟩ | ⟨_, hfull, _⟩ | ⟨hno, _, _, A, B, e1, e2⟩
  · rcases hr' with ⟨A', e, B', w1, hP, w2⟩ | ⟨hno, _, _⟩ | ⟨hno, _, _⟩
    · subst w2
      have hm : ((A' ++ { e with V := 0 } :: B').map (·.P)) = w.map (·.P) := by rw [w1]; simp
      refine ⟨⟨hT, by rw [hroom, h.room], ?_, fun q hq => ?_, ?_, fun x hx => ?_⟩, by rw [w1]; simp, fun q hq => ?_⟩
      · rw [hm]
        have := h.perm
        rw [e1] at this
        rw [e2]
        simpa using this
      · rw [e2] at hq
        rcases List.mem_append.1 hq with hq | hq
        · exact h.val q (by rw [e1]; exact List.mem_append_left _ hq)
        · rcases List.mem_cons.1 hq with rfl | hq
          · rfl
          · exact h.val q (by rw [e1]; simp [hq])
      · show ((A' ++ { e with V := 0 } :: B').map (·.P)).Pairwise _
        rw [hm]; exact h.srt
      · have : x.P ∈ w.map (·.P) := by rw [← hm]; exact List.mem_map.2 ⟨x, hx, rfl⟩
        obtain ⟨y, hy, e⟩ := List.mem_map.1 this
        rw [← e]; exact h.ok y hy
      · rw [e2] at hq
        rcases List.mem_append.1 hq with hq | hq
        · exact .inr (by rw [e1]; exact List.mem_append_left _ hq)
        · rcases List.mem_cons.1 hq with rfl | hq
          · exact .inl rfl
          · exact .inr (by rw [e1]; simp [hq])
    · obtain ⟨e, he, hP⟩ := (h.mem p).1 ⟨v0, by rw [e1]; simp⟩
      exact absurd hP (hno e he)
    · obtain ⟨e, he, hP⟩ := (h.mem p).1 ⟨v0, by rw [e1]; simp⟩
      exact absurd hP (hno e he)
  · rw [h.room, h.len] at hfull; omega
  · rcases hr' with ⟨A', e, B', w1, hP, w2⟩ | ⟨_, hfull, _⟩ | ⟨hno', _, A', B', w1, w2, hA, hB⟩
    · obtain ⟨v, hv⟩ := (h.mem p).2 ⟨e, by rw [w1]; simp, hP⟩
      exact absurd hv (hno v)
    · omega
    · subst w2
      refine ⟨⟨hT, by rw [hroom, h.room], ?_, fun q hq => ?_, ?_, fun x hx => ?_⟩, by rw [w1]; simp; omega, fun q hq => ?_⟩
      · have := h.perm
        rw [e1, w1] at this
        rw [e2]
        simp only [List.map_append, List.map_cons] at this ⊢
        exact List.perm_middle.trans ((this.cons p).trans List.perm_middle.symm)
      · rw [e2] at hq
        rcases List.mem_append.1 hq with hq | hq
        · exact h.val q (by rw [e1]; exact List.mem_append_left _ hq)
        · rcases List.mem_cons.1 hq with rfl | hq
          · rfl
          · exact h.val q (by rw [e1]; simp [hq])
      · exact srt_ins (w1 ▸ h.srt) (w1 ▸ hno') hA hB
      · rcases List.mem_append.1 hx with hx | hx
        · exact h.ok x (by rw [w1]; exact List.mem_append_left _ hx)
        · rcases List.mem_cons.1 hx with rfl | hx
          · exact hp
          · exact h.ok x (by rw [w1]; exact List.mem_append_right _ hx)
      · rw [e2] at hq
        rcases List.mem_append.1 hq with hq | hq
        · exact .inr (by rw [e1]; exact List.mem_append_left _ hq)
        · rcases List.mem_cons.1 hq with rfl | hq
          · exact .inl rfl
          · exact .inr (by rw [e1]; exact List.mem_append_right _ hq)
theorem relT_del {t : table_Table_string} {w : List ref21_Entry} {s : ByteArray} (h : RelT t w s) (hl : w.length ≤ 40) (p : api_Prefix) :
    Ok (table_Table_string_Del t p) fun r => (r.2 = true ↔ ∃ e ∈ w, e.P = p) ∧ Ok (ref21_Del w p) fun r' => RelT r.1 r' s ∧ r'.length ≤ w.length ∧ ∀ q ∈ C_string r.1, q.1 ≠ p ∧ q ∈ C_string t := by
  refine okM (del_string h.ti p) fun r ⟨hT, hroom, hr⟩ => ?_
  rcases hr with ⟨hr2, A, v0, B, e1, e2⟩ | ⟨hno, hr⟩
  · have hex : ∃ e ∈ w, e.P = p := (h.mem p).1 ⟨v0, by rw [e1]; simp⟩
    refine ⟨⟨fun _ => hex, fun _ => hr2⟩, okM (rdel_ok w p (by omega)) fun r' hr' => ?_⟩
    rcases hr' with ⟨A', e, B', w1, hP, w2⟩ | ⟨_, hno⟩
    · subst w2
      refine ⟨⟨hT, by rw [hroom, h.room], ?_, fun q hq => ?_, srt_del (w1 ▸ h.srt), fun x hx => ?_⟩, by rw [w1]; simp, fun q hq => ?_⟩
      · have := h.perm
        rw [e1, w1] at this
        rw [e2]
        simp only [List.map_append, List.map_cons, hP] at this ⊢
        exact List.Perm.cons_inv ((List.perm_middle.symm.trans this).trans List.perm_middle)
      · rw [e2] at hq
        refine h.val q ?_
        rw [e1]
        rcases List.mem_append.1 hq with hq | hq
        · exact List.mem_append_left _ hq
        · simp [hq]
      · refine h.ok x ?_
        rw [w1]
        rcases List.mem_append.1 hx with hx | hx
        · exact List.mem_append_left _ hx
        · simp [hx]
      · have hnd := nodup_string h.ti
        rw [e1] at hnd
        simp only [List.map_append, List.map_cons] at hnd
        have hnd' := (List.perm_middle.nodup_iff).1 hnd
        rw [List.nodup_cons] at hnd'
        rw [e2] at hq
        refine ⟨fun e => hnd'.1 ?_, ?_⟩
        · rw [← List.map_append]
          exact List.mem_map.2 ⟨q, hq, e⟩
        · rw [e1]
          rcases List.mem_append.1 hq with hq | hq
          · exact List.mem_append_left _ hq
          · simp [hq]
    · obtain ⟨e, he, hP⟩ := hex
      exact absurd hP (hno e he)
  · subst hr
    have hne : ¬ ∃ e ∈ w, e.P = p := fun he => by
      obtain ⟨v, hv⟩ := (h.mem p).2 he
      exact hno v hv
    refine ⟨⟨(fun h => nomatch h), fun h => absurd h hne⟩, okM (rdel_ok w p (by omega)) fun r' hr' => ?_⟩
    rcases hr' with ⟨A', e, B', w1, hP, w2⟩ | ⟨w2, _⟩
    · exact absurd ⟨e, by rw [w1]; simp, hP⟩ hne
    · subst w2
      exact ⟨h, Nat.le_refl _, fun q hq => ⟨fun e => hno q.2 (by rw [← e]; exact hq), hq⟩⟩
theorem rfind_iff {w : List ref21_Entry} {p : api_Prefix} : Ok (ref21_Find w p) fun r => decide (r ≥ 0) = decide (∃ e ∈ w, e.P = p) := by
  refine okM (rfind_ok w p) fun r hr => ?_
  rcases hr with ⟨A, e, B, hw, hP, _, hr⟩ | ⟨hr, hno⟩
  · have : ∃ e ∈ w, e.P = p := ⟨e, by rw [hw]; simp, hP⟩
    rw [hr]; simp [this]
  · have : ¬ ∃ e ∈ w, e.P = p := fun ⟨e, he, hP⟩ => hno e he hP
    rw [hr]; simp [this]
theorem TableTexts_plain (l : List api_Prefix) (s : ByteArray) (hv : ∀ p ∈ l, okPx p) : Ok (law21_TableTexts l s) fun r => r = true := by
  unfold law21_TableTexts
  refine okB awake21_ok fun r1 h1 => ?_
  subst h1
  refine okI (fun _ => okB awake21_ok fun r2 h2 => okS h2) fun h => ?_
  have hlen : l.length ≤ 30 := by simp at h; omega
  clear h
  refine okB (new_string (room := 64) (by omega) (by omega)) fun r3 ⟨t, h3, hT, hroom, hC⟩ => ?_
  subst h3
  refine okB (okE rfl) fun y1 hy => ?_
  subst hy
  refine okForN (fun i st => RelT st.1 st.2 s ∧ st.2.length ≤ i ∧ ∀ q ∈ C_string st.1, q.1 ∈ l.take i) ⟨⟨hT, hroom, by rw [hC]; simp, by rw [hC]; simp, by simp [Srt], by simp⟩, by simp, by rw [hC]; simp⟩ (fun i st hi ⟨hR, hle, hsub⟩ => ?_) fun st ⟨hR, hle, hsub⟩ => ?_
  · unfold law21_TableTexts_b1
    refine okX hi (okB (relT_put hR (by omega) l[i] (hv _ (List.getElem_mem _))) fun r14 h14 => okX hi (okB h14 fun r15 ⟨hR', hl', hs'⟩ => okS ⟨hR', by show r15.1.length ≤ i + 1; omega, fun q hq => ?_⟩))
    rw [List.take_succ_eq_append_getElem hi]
    rcases hs' q hq with e | hm
    · rw [e]; exact List.mem_append_right _ (by simp)
    · exact List.mem_append_left _ (hsub q hm)
  · refine okB (all_string hR.ti) fun r4 h4 => okB (rprefixes_ok _ (by omega)) fun r5 h5 => okB (rsame_ok _ _) fun r6 h6 => ?_
    have hs45 : r4 = r5 := by
      rw [h4, h5]
      refine sortP_eq (fun p hp => ?_) (nodup_string hR.ti) hR.perm hR.srt
      obtain ⟨e, he, rfl⟩ := List.mem_map.1 (hR.perm.mem_iff.1 hp)
      exact hR.ok e he
    refine okF (by rw [h6]; simp [hs45]) ?_
    refine okFor (fun i st => RelT st.1 st.2 s ∧ st.2.length ≤ 30 ∧ ∀ q ∈ C_string st.1, q.1 ∈ l.drop i) (fun _ => False) (fun _ => False) ⟨hR, by show st.2.length ≤ 30; omega, fun q hq => by simpa using hsub q hq⟩ (fun i st hi ⟨hR, hle, hsub⟩ => ?_) (fun _ h => h.elim) (fun _ h => h.elim) fun st ⟨hR, hle, hsub⟩ => ?_
    · unfold law21_TableTexts_b2 law21_TableTexts_k2
      have hgo : ∀ (r : table_Table_string × Bool), ((r.2 = true ↔ ∃ e ∈ st.2, e.P = l[i]) ∧ Ok (ref21_Del st.2 l[i]) fun r' => RelT r.1 r' s ∧ r'.length ≤ st.2.length ∧ ∀ q ∈ C_string r.1, q.1 ≠ l[i] ∧ q ∈ C_string st.1) → ∀ b : Bool, b = decide (∃ e ∈ st.2, e.P = l[i]) →
          Ok (sel (r.2 != b) (some (.ret false)) (bd (ix l (i : Int)) fun e3 => bd (ref21_Del st.2 e3) fun r11 => some (.nxt (r.1, r11)))) fun | (.ret _ : Out Bool (table_Table_string × List ref21_Entry)) => False | .brk _ => False | .nxt st => RelT st.1 st.2 s ∧ st.2.length ≤ 30 ∧ ∀ q ∈ C_string st.1, q.1 ∈ l.drop (i + 1) := by
        intro r ⟨hiff, hD⟩ b hb
        have : (r.2 != b) = false := by
          rw [hb]
          by_cases hex : ∃ e ∈ st.2, e.P = l[i]
          · simp [hex, hiff.2 hex]
          · have : r.2 = false := by
              cases h : r.2 with
              | false => rfl
              | true => exact absurd (hiff.1 h) hex
            simp [hex, this]
        refine okF this (okX hi (okB hD fun r11 ⟨hR', hl', hs'⟩ => okS ⟨hR', by show r11.length ≤ 30; omega, fun q hq => ?_⟩))
        obtain ⟨hne, hm⟩ := hs' q hq
        have := hsub q hm
        rw [List.drop_eq_getElem_cons hi] at this
        rcases List.mem_cons.1 this with e | hm
        · exact absurd e hne
        · exact hm
      refine okX hi (okB (get_string hR.ti _) fun r9 h9 => okX hi (okB rfind_iff fun r10 h10 => ?_))
      have h9' : r9.2 = decide (∃ e ∈ st.2, e.P = l[i]) ∧ (r9.2 = true → r9.1 = s) := by
        rcases h9 with ⟨v, hm, e⟩ | ⟨hno, e⟩
        · have : ∃ e ∈ st.2, e.P = l[i] := (hR.mem _).1 ⟨v, hm⟩
          subst e
          exact ⟨by simp [this], fun _ => hR.val _ hm⟩
        · have : ¬ ∃ e ∈ st.2, e.P = l[i] := fun he => by
            obtain ⟨v, hv⟩ := (hR.mem _).2 he
            exact hno v hv
          subst e
          exact ⟨by simp [this], fun h => by cases h⟩
      refine okF (by rw [h9'.1, h10]; simp) (okI (fun h => okF (by rw [h9'.2 h]; simp) (okX hi (okB (relT_del hR (by omega) _) fun r12 h12 => ?_))) fun h => okX hi (okB (relT_del hR (by omega) _) fun r13 h13 => ?_))
      · exact okM (hgo r12 h12 _ h10) fun o ho => by cases o <;> exact ho
      · exact okM (hgo r13 h13 _ h10) fun o ho => by cases o <;> exact ho
    · have hC0 : C_string st.1 = [] := by
        refine List.eq_nil_iff_forall_not_mem.2 fun q hq => ?_
        have := hsub q hq
        simp at this
      refine okB (okE (by unfold table_Table_string_Len; rfl)) fun r7 h7 => okT ?_ (okB (all_string hR.ti) fun r8 h8 => okS ?_)
      · rw [h7, hR.ti.n, hC0]; rfl
      · rw [h8, hC0]
        have : (sortP []).length = 0 := (sortK_sorts pcf (swo_bcmp pbytes) []).1
        simp only [List.map_nil, this]
        rfl
end Go.Proofs
