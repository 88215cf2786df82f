/- The plain law of TablePlays. Own work for this claim. -/
import Derived.Test.YtlbbpajjfhmfjaaPlTexts
namespace Go.Proofs
open Go.BK
theorem fst_inj {α β : Type} {l : List (α × β)} (h : (l.map Prod.fst).Nodup) {p : α} {a b : β} (ha : (p, a) ∈ l) (hb : (p, b) ∈ l) : a = b := by
  induction l with
  | nil => cases ha
  | cons x r ih =>
    simp only [List.map_cons, List.nodup_cons] at h
    rcases List.mem_cons.1 ha with e1 | ha' <;> rcases List.mem_cons.1 hb with e2 | hb'
    · rw [← e1] at e2; exact (congrArg Prod.snd e2).symm
    · exact absurd (List.mem_map.2 ⟨_, hb', by rw [← e1]⟩) h.1
    · exact absurd (List.mem_map.2 ⟨_, ha', by rw [← e2]⟩) h.1
    · exact ih h.2 ha' hb'
def kvE (e : ref21_Entry) : api_Prefix × Int := (e.P, e.V)
structure RelI (t : table_Table_int) (w : List ref21_Entry) (room : Int) : Prop where
  ti : TI_int t
  room : t.room = room
  perm : (C_int t).Perm (w.map kvE)
  srt : Srt w
  ok : ∀ e ∈ w, okPx e.P
section
variable {t : table_Table_int} {w : List ref21_Entry} {room : Int}
theorem RelI.len (h : RelI t w room) : (C_int t).length = w.length := by simpa using h.perm.length_eq
theorem RelI.le (h : RelI t w room) : w.length ≤ 64 := by
  have h1 := h.ti.le
  have h2 := h.ti.r2
  have h3 := h.len
  omega
theorem RelI.mem (h : RelI t w room) (p : api_Prefix) (v : Int) : (p, v) ∈ C_int t ↔ ∃ e ∈ w, e.P = p ∧ e.V = v := by
  rw [h.perm.mem_iff, List.mem_map]
  constructor
  · rintro ⟨e, he, hk⟩
    exact ⟨e, he, congrArg Prod.fst hk, congrArg Prod.snd hk⟩
  · rintro ⟨e, he, rfl, rfl⟩
    exact ⟨e, he, rfl⟩
theorem RelI.keys (h : RelI t w room) : ((C_int t).map Prod.fst).Perm (w.map (·.P)) := by
  have := h.perm.map Prod.fst
  rwa [List.map_map] at this
theorem relI_put (h : RelI t w room) (p : api_Prefix) (v : Int) (hp : okPx p) : Ok (table_Table_int_Put t p v) fun r => Ok (ref21_Put w room p v) fun r' => RelI r.1 r'.1 room ∧ r.2 = r'.2 := by
  have hle := h.le
  refine okM (put_int h.ti p v) fun r ⟨hT, hroom, hr⟩ => okM (rput_ok w room p v (by omega)) fun r' hr' => ?_
  rcases hr with ⟨hr2, A, v0, B, e1, e2⟩ | ⟨hno, hfull, hr⟩ | ⟨hno, hlt, hr2, A, B, e1, e2⟩
  · rcases hr' with ⟨A', e, B', w1, hP, w2⟩ | ⟨hno, _, _⟩ | ⟨hno, _, _⟩
    · subst w2
      have hv0 : v0 = e.V := by
        refine fst_inj (nodup_int h.ti) (p := p) (by rw [e1]; simp) ?_
        rw [h.mem]
        exact ⟨e, by rw [w1]; simp, hP, rfl⟩
      have hpm := h.perm
      rw [e1, w1, hv0] at hpm
      simp only [List.map_append, List.map_cons] at hpm
      have hk : kvE e = (p, e.V) := by rw [← hP]; rfl
      rw [hk] at hpm
      have hpm' := List.Perm.cons_inv ((List.perm_middle.symm.trans hpm).trans List.perm_middle)
      have hm : ((A' ++ { e with V := v } :: B').map (·.P)) = w.map (·.P) := by rw [w1]; simp
      refine ⟨⟨hT, by rw [hroom, h.room], ?_, ?_, fun x hx => ?_⟩, hr2⟩
      · rw [e2]
        simp only [List.map_append, List.map_cons]
        have hk' : kvE { e with V := v } = (p, v) := by rw [← hP]; rfl
        rw [hk']
        exact List.perm_middle.trans ((hpm'.cons _).trans List.perm_middle.symm)
      · show ((A' ++ { e with V := v } :: B').map (·.P)).Pairwise _
        rw [hm]; exact h.srt
      · have : x.P ∈ w.map (·.P) := by rw [← hm]; exact List.mem_map.2 ⟨x, hx, rfl⟩
        obtain ⟨y, hy, e⟩ := List.mem_map.1 this
        rw [← e]; exact h.ok y hy
    · obtain ⟨e, he, hP, _⟩ := (h.mem p v0).1 (by rw [e1]; simp)
      exact absurd hP (hno e he)
    · obtain ⟨e, he, hP, _⟩ := (h.mem p v0).1 (by rw [e1]; simp)
      exact absurd hP (hno e he)
  · rcases hr' with ⟨A', e, B', w1, hP, w2⟩ | ⟨_, _, w2⟩ | ⟨_, hlt, _⟩
    · exact absurd ((h.mem p e.V).2 ⟨e, by rw [w1]; simp, hP, rfl⟩) (hno _)
    · subst hr w2
      exact ⟨h, rfl⟩
    · rw [h.room, h.len] at hfull; omega
  · rcases hr' with ⟨A', e, B', w1, hP, w2⟩ | ⟨_, hge, _⟩ | ⟨hno', _, A', B', w1, w2, hA, hB⟩
    · exact absurd ((h.mem p e.V).2 ⟨e, by rw [w1]; simp, hP, rfl⟩) (hno _)
    · rw [h.room, h.len] at hlt; omega
    · subst w2
      refine ⟨⟨hT, by rw [hroom, h.room], ?_, srt_ins (w1 ▸ h.srt) (w1 ▸ hno') hA hB, fun x hx => ?_⟩, hr2⟩
      · have hpm := h.perm
        rw [e1, w1] at hpm
        rw [e2]
        simp only [List.map_append, List.map_cons] at hpm ⊢
        exact List.perm_middle.trans ((hpm.cons _).trans List.perm_middle.symm)
      · rcases List.mem_append.1 hx with hx | hx
        · exact h.ok x (by rw [w1]; exact List.mem_append_left _ hx)
        · rcases List.mem_cons.1 hx with rfl | hx
          · exact hp
          · exact h.ok x (by rw [w1]; exact List.mem_append_right _ hx)
theorem relI_del (h : RelI t w room) (p : api_Prefix) : Ok (table_Table_int_Del t p) fun r => Ok (ref21_Del w p) fun r' => RelI r.1 r' room ∧ r.2 = decide (∃ e ∈ w, e.P = p) := by
  have hle := h.le
  refine okM (del_int h.ti p) fun r ⟨hT, hroom, hr⟩ => okM (rdel_ok w p (by omega)) fun r' hr' => ?_
  rcases hr with ⟨hr2, A, v0, B, e1, e2⟩ | ⟨hno, hr⟩
  · have hex : ∃ e ∈ w, e.P = p := by
      obtain ⟨e, he, hP, _⟩ := (h.mem p v0).1 (by rw [e1]; simp)
      exact ⟨e, he, hP⟩
    rcases hr' with ⟨A', e, B', w1, hP, w2⟩ | ⟨_, hno⟩
    · subst w2
      have hv0 : v0 = e.V := by
        refine fst_inj (nodup_int h.ti) (p := p) (by rw [e1]; simp) ?_
        rw [h.mem]
        exact ⟨e, by rw [w1]; simp, hP, rfl⟩
      have hpm := h.perm
      rw [e1, w1, hv0] at hpm
      simp only [List.map_append, List.map_cons] at hpm
      have hk : kvE e = (p, e.V) := by rw [← hP]; rfl
      rw [hk] at hpm
      have hpm' := List.Perm.cons_inv ((List.perm_middle.symm.trans hpm).trans List.perm_middle)
      refine ⟨⟨hT, by rw [hroom, h.room], by rw [e2]; simpa using hpm', srt_del (w1 ▸ h.srt), fun x hx => h.ok x ?_⟩, by rw [hr2]; simp [hex]⟩
      rw [w1]
      rcases List.mem_append.1 hx with hx | hx
      · exact List.mem_append_left _ hx
      · simp [hx]
    · obtain ⟨e, he, hP⟩ := hex
      exact absurd hP (hno e he)
  · have hne : ¬ ∃ e ∈ w, e.P = p := fun ⟨e, he, hP⟩ => hno e.V ((h.mem p e.V).2 ⟨e, he, hP, rfl⟩)
    subst hr
    rcases hr' with ⟨A', e, B', w1, hP, w2⟩ | ⟨w2, _⟩
    · exact absurd ⟨e, by rw [w1]; simp, hP⟩ hne
    · subst w2
      exact ⟨h, by simp [hne]⟩
/-- The round's end: all is as it should be. -/
theorem plays_k4 (h : RelI t w room) : Ok (law21_TablePlays_k4 t w false) fun o => o = .nxt (t, w) := by
  unfold law21_TablePlays_k4
  refine okF rfl (okFor (fun _ _ => True) (fun _ => False) (fun _ => False) trivial (fun i s hi _ => ?_) (fun _ h => h.elim) (fun _ h => h.elim) fun s _ => okS rfl)
  unfold law21_TablePlays_b2 law21_TablePlays_k5
  refine okX hi (okB (get_int h.ti _) fun r10 h10 => ?_)
  have : (w[i].P, w[i].V) ∈ C_int t := (h.mem _ _).2 ⟨w[i], List.getElem_mem _, rfl, rfl⟩
  rcases h10 with ⟨v, hv, rfl⟩ | ⟨hno, _⟩
  · have := fst_inj (nodup_int h.ti) hv this
    refine okF rfl (okX hi (okF (by simp [this]) (okS trivial)))
  · exact absurd this (hno _)
theorem plays_k3 (h : RelI t w room) (b : Bool) : Ok (law21_TablePlays_k3 t w b b) fun o => o = .nxt (t, w) := by
  have hle := h.le
  unfold law21_TablePlays_k3
  refine okF (by simp) (okB (okE (by unfold table_Table_int_Len; rfl)) fun r11 h11 => okF ?_ (okB (all_int h.ti) fun r12 h12 => okB (rprefixes_ok _ (by omega)) fun r13 h13 => okB (rsame_ok _ _) fun r14 h14 => ?_))
  · rw [h11, h.ti.n, h.len]; simp
  · have : r12 = r13 := by
      rw [h12, h13]
      refine sortP_eq (fun p hp => ?_) (nodup_int h.ti) h.keys h.srt
      obtain ⟨e, he, rfl⟩ := List.mem_map.1 (h.keys.mem_iff.1 hp)
      exact h.ok e he
    have : r14 = true := by rw [h14]; simp [this]
    subst this
    exact plays_k4 h
end
theorem TablePlays_plain (room : Int) (l : List law21_Act) (hv : ∀ a ∈ l, okPx a.P) : Ok (law21_TablePlays room l) fun r => r = true := by
  unfold law21_TablePlays
  refine okB awake21_ok fun r1 h1 => ?_
  subst h1
  refine okI (fun _ => okB awake21_ok fun r2 h2 => okS h2) fun _ => ?_
  by_cases hroom : 1 ≤ room ∧ room ≤ 64
  · refine okB (new_int hroom.1 hroom.2) fun r3 ⟨t, h3, hT, hr, hC⟩ => okF (by simp; omega) ?_
    subst h3
    refine okB (okE rfl) fun y hy => ?_
    subst hy
    refine okFor (fun _ s => RelI s.1 s.2 room) (fun _ => False) (fun _ => False) ⟨hT, hr, by rw [hC]; simp, by simp [Srt], by simp⟩ (fun i s hi hR => ?_) (fun _ h => h.elim) (fun _ h => h.elim) fun s _ => okS rfl
    unfold law21_TablePlays_b1
    have hk2 : ∀ r8 : Int, decide (r8 ≥ 0) = decide (∃ e ∈ s.2, e.P = l[i].P) → Ok (law21_TablePlays_k2 room s l[i] r8 false) fun | .ret _ => False | .brk _ => False | .nxt s => RelI s.1 s.2 room := by
      intro r8 h8
      unfold law21_TablePlays_k2
      refine okF rfl (okI (fun _ => okB (relI_put hR _ _ (hv _ (List.getElem_mem _))) fun r15 h15 => okB h15 fun r16 ⟨hR', e⟩ => ?_) fun _ => okB (relI_del hR _) fun r17 h17 => okB h17 fun r18 ⟨hR', e⟩ => ?_)
      · rw [e]
        exact okM (plays_k3 hR' _) fun o ho => by subst ho; exact hR'
      · rw [e, h8]
        exact okM (plays_k3 hR' _) fun o ho => by subst ho; exact hR'
    refine okX hi (okB (rfind_ok _ _) fun r8 h8 => okB (get_int hR.ti _) fun r9 h9 => ?_)
    rcases h8 with ⟨A, e, B, hw, hP, _, e8⟩ | ⟨e8, hno⟩
    · have hex : ∃ e ∈ s.2, e.P = l[i].P := ⟨e, by rw [hw]; simp, hP⟩
      have hm : (l[i].P, e.V) ∈ C_int s.1 := (hR.mem _ _).2 ⟨e, by rw [hw]; simp, hP, rfl⟩
      rcases h9 with ⟨v, hv9, e9⟩ | ⟨hno, _⟩
      · subst e8 e9
        have hlt : A.length < s.2.length := by rw [hw]; simp
        have hg : s.2[A.length] = e := by simp [hw]
        refine okF (by simp) (okT rfl (okX hlt (okF ?_ (okM (hk2 _ (by simp [hex])) fun o ho => by cases o <;> exact ho))))
        rw [hg, fst_inj (nodup_int hR.ti) hv9 hm]; simp
      · exact absurd hm (hno _)
    · have hne : ¬ ∃ e ∈ s.2, e.P = l[i].P := fun ⟨e, he, hP⟩ => hno e he hP
      rcases h9 with ⟨v, hv9, _⟩ | ⟨_, e9⟩
      · obtain ⟨e, he, hP, _⟩ := (hR.mem _ _).1 hv9
        exact absurd hP (hno e he)
      · subst e8 e9
        exact okF rfl (okF rfl (okM (hk2 _ (by simp [hne])) fun o ho => by cases o <;> exact ho))
  · have hbad : (decide (room < 1) || decide (room > 64)) = true := by simp; omega
    refine okB (okE (by unfold table_New_int; rw [sel_t hbad])) fun r3 h3 => okT hbad ?_
    subst h3
    exact okS rfl
end Go.Proofs
