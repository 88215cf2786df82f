/- Plain laws: a table of string. Own work for this claim. -/
import Derived.Test.YtlbbpajjfhmfjaaPlTab
namespace Go.Proofs
open Go.BK
abbrev tk_string (x : table_place_string) : Option (api_Prefix × ByteArray) := if x.state = 1 then some (x.p, x.v) else none
def C_string (t : table_Table_string) : List (api_Prefix × ByteArray) := t.l.filterMap tk_string
def ky_string (x : table_place_string) : Int × api_Prefix := (x.state, x.p)
structure TI_string (t : table_Table_string) : Prop where
  r1 : 1 ≤ t.room
  r2 : t.room ≤ 64
  len : (t.l.length : Int) = 2 * t.room
  n : t.n = ((C_string t).length : Nat)
  le : ((C_string t).length : Int) ≤ t.room
  inv : InvK (t.l.map ky_string)
theorem find_string (t : table_Table_string) (p : api_Prefix) : table_Table_string_find t p = gfind (t.l.map ky_string) p := by
  unfold table_Table_string_find gfind
  rw [bytesOf_eq]
  simp only [List.length_map]
  have hb : ∀ x1 i s, table_Table_string_find_b1 t p x1 i s = gb1 (t.l.map ky_string) p x1 i s := by
    intro x1 i s
    unfold table_Table_string_find_b1 gb1 table_Table_string_find_k1 gk1
    simp only [List.length_map, ix_map]
    congr 1
    unfold nm
    generalize Int.tmod (IntKind.i64.wrap (IntKind.i64.wrap x1 + (i : Int))) (t.l.length : Int) = x2
    cases h : ix t.l x2 with
    | none => simp only [h]; rfl
    | some e => simp only [h]; rfl
  simp only [bd_some]
  congr 1
  funext r2
  congr 1
  unfold nm
  dsimp only
  rw [forN_congr (hb _)]
theorem mem_C_string {t : table_Table_string} {p : api_Prefix} {v : ByteArray} : (p, v) ∈ C_string t ↔ ∃ (i : Nat) (x : table_place_string), t.l[i]? = some x ∧ x.state = 1 ∧ x.p = p ∧ x.v = v := by
  unfold C_string
  rw [List.mem_filterMap]
  constructor
  · rintro ⟨x, hx, h⟩
    obtain ⟨i, hi⟩ := List.mem_iff_getElem?.1 hx
    unfold tk_string at h
    split at h
    · rename_i h1
      cases h
      exact ⟨i, x, hi, h1, rfl, rfl⟩
    · cases h
  · rintro ⟨i, x, hi, h1, rfl, rfl⟩
    exact ⟨x, List.mem_of_getElem? hi, by simp [tk_string, h1]⟩
theorem got_string {t : table_Table_string} {p : api_Prefix} {i : Nat} (h : (t.l.map ky_string)[i]? = some (1, p)) : ∃ (hi : i < t.l.length), t.l[i].state = 1 ∧ t.l[i].p = p := by
  rw [List.getElem?_map] at h
  cases hx : t.l[i]? with
  | none => rw [hx] at h; cases h
  | some x =>
    obtain ⟨hi, rfl⟩ := List.getElem?_eq_some_iff.1 hx
    rw [hx] at h
    have := Option.some.inj h
    exact ⟨hi, congrArg Prod.fst this, congrArg Prod.snd this⟩
theorem no_C_string {t : table_Table_string} {p : api_Prefix} (h : ∀ i : Nat, (t.l.map ky_string)[i]? ≠ some (1, p)) (v : ByteArray) : (p, v) ∉ C_string t := by
  intro hm
  obtain ⟨i, x, hi, h1, h2, _⟩ := mem_C_string.1 hm
  refine h i ?_
  rw [List.getElem?_map, hi]
  simp [ky_string, h1, h2]
/-- What a search gives. -/
theorem look_string {t : table_Table_string} (hT : TI_string t) (p : api_Prefix) : Ok (table_Table_string_find t p) fun r =>
    (∃ i : Nat, r.1 = i ∧ ∃ hi : i < t.l.length, t.l[i].state = 1 ∧ t.l[i].p = p) ∨
    (r.1 = -1 ∧ (∀ i : Nat, (t.l.map ky_string)[i]? ≠ some (1, p)) ∧ ((C_string t).length < t.l.length → ∃ j, j < t.l.length ∧ r.2 = (prb t.l.length p j : Nat) ∧ stt (t.l.map ky_string) (prb t.l.length p j) ≠ some 1 ∧ ∀ j', j' < j → stt (t.l.map ky_string) (prb t.l.length p j') = some 1)) := by
  have h1 := hT.r1
  have h2 := hT.r2
  have h3 := hT.len
  rw [find_string]
  refine okM (gfind_ok _ p (by simp; omega) (by simp; omega)) fun r hr => ?_
  rcases findR_inv (by simp; omega) hT.inv hr with ⟨i, e, hi, hq⟩ | ⟨e, hno, hS⟩
  · exact .inl ⟨i, e, got_string hq⟩
  · refine .inr ⟨e, hno, fun hlt => ?_⟩
    have : ∃ i : Nat, i < t.l.length ∧ stt (t.l.map ky_string) i ≠ some 1 := by
      refine Classical.byContradiction fun hcon => ?_
      have : (C_string t).length = t.l.length := filterMap_all _ _ fun x hx => by
        obtain ⟨i, hi, rfl⟩ := List.mem_iff_getElem.1 hx
        have : stt (t.l.map ky_string) i = some 1 := Classical.byContradiction fun h => hcon ⟨i, hi, h⟩
        have h1 : t.l[i].state = 1 := by simpa [stt, ky_string, hi] using this
        exact ⟨_, if_pos h1⟩
      omega
    simpa using hS (by simpa using this)
theorem new_string {room : Int} (h1 : 1 ≤ room) (h2 : room ≤ 64) : Ok (table_New_string room) fun r => ∃ t, r = (some t, 0) ∧ TI_string t ∧ t.room = room ∧ C_string t = [] := by
  unfold table_New_string
  refine okF (by simp; omega) ?_
  rw [i64_small (by omega) (by omega)]
  refine okC (by simp; omega) (okS ⟨_, rfl, ?_⟩)
  have hC : C_string ⟨List.replicate (2 * room).toNat z_table_place_string, room, 0⟩ = [] := by
    unfold C_string
    rw [List.filterMap_eq_nil_iff]
    intro x hx
    obtain ⟨_, rfl⟩ := List.mem_replicate.1 hx
    rfl
  refine ⟨⟨h1, h2, by simp; omega, by rw [hC]; rfl, by rw [hC]; simp; omega, ?_⟩, rfl, hC⟩
  simp only [List.map_replicate]
  exact invK_clear _ _
theorem get_string {t : table_Table_string} (hT : TI_string t) (p : api_Prefix) : Ok (table_Table_string_Get t p) fun r => (∃ v, (p, v) ∈ C_string t ∧ r = (v, true)) ∨ ((∀ v, (p, v) ∉ C_string t) ∧ r = ((⟨#[]⟩ : ByteArray), false)) := by
  unfold table_Table_string_Get
  refine okB (look_string hT p) fun r hr => ?_
  rcases hr with ⟨i, e, hi, h1, h2⟩ | ⟨e, hno, _⟩
  · refine okF (by rw [e]; simp) ?_
    rw [e]
    exact okX hi (okS (.inl ⟨_, mem_C_string.2 ⟨i, _, List.getElem?_eq_getElem hi, h1, h2, rfl⟩, rfl⟩))
  · exact okT (by rw [e]; rfl) (okS (.inr ⟨no_C_string hno, rfl⟩))
theorem put_string {t : table_Table_string} (hT : TI_string t) (p : api_Prefix) (v : ByteArray) : Ok (table_Table_string_Put t p v) fun r => TI_string r.1 ∧ r.1.room = t.room ∧
    ((r.2 = true ∧ ∃ A v0 B, C_string t = A ++ (p, v0) :: B ∧ C_string r.1 = A ++ (p, v) :: B) ∨ ((∀ v, (p, v) ∉ C_string t) ∧ ((C_string t).length : Int) = t.room ∧ r = (t, false)) ∨
      ((∀ v, (p, v) ∉ C_string t) ∧ ((C_string t).length : Int) < t.room ∧ r.2 = true ∧ ∃ A B, C_string t = A ++ B ∧ C_string r.1 = A ++ (p, v) :: B)) := by
  have g1 := hT.r1
  have g2 := hT.r2
  have g3 := hT.len
  have g4 := hT.n
  have g5 := hT.le
  unfold table_Table_string_Put
  refine okB (look_string hT p) fun r hr => ?_
  rcases hr with ⟨i, e, hi, h1, h2⟩ | ⟨e, hno, hS⟩
  · refine okT (by rw [e]; simp) ?_
    rw [e]
    refine okX hi (okS ?_)
    rw [Int.toNat_natCast]
    obtain ⟨A, B, hA, hB⟩ := filterMap_set tk_string hi
    have hy : tk_string { t.l[i] with v := v } = some (p, v) := by simp [tk_string, h1, h2]
    have hk : ky_string { t.l[i] with v := v } = (1, p) := by simp [ky_string, h1, h2]
    have hz : tk_string t.l[i] = some (p, t.l[i].v) := by simp [tk_string, h1, h2]
    generalize ({ t.l[i] with v := v } : table_place_string) = y at hy hk ⊢
    have hC := hB y
    rw [hy] at hC
    rw [hz] at hA
    simp only [Option.toList, List.append_assoc, List.singleton_append] at hA hC
    have hC0 : C_string t = A ++ (p, t.l[i].v) :: B := hA
    refine ⟨⟨g1, g2, ?_, ?_, ?_, ?_⟩, rfl, .inl ⟨rfl, A, _, B, hC0, hC⟩⟩
    · show ((t.l.set i y).length : Int) = _
      rw [List.length_set]; exact g3
    · show t.n = (((t.l.set i y).filterMap tk_string).length : Nat)
      rw [g4, hC, hC0]; simp
    · show (((t.l.set i y).filterMap tk_string).length : Int) ≤ t.room
      rw [hC]; rw [hC0] at g5; simpa using g5
    · show InvK ((t.l.set i y).map ky_string)
      have e2 : (t.l.set i y).map ky_string = t.l.map ky_string := by
        rw [List.map_set, hk]
        apply List.ext_getElem?
        intro k
        rw [List.getElem?_set]
        split
        · rename_i hk
          subst hk
          simp [hi, ky_string, h1, h2]
        · rfl
      rw [e2]
      exact hT.inv
  · refine okF (by rw [e]; rfl) ?_
    have hno' := no_C_string hno
    refine okI (fun h => okS ⟨hT, rfl, .inr (.inl ⟨hno', ?_, rfl⟩)⟩) fun h => ?_
    · have : t.n = t.room := by simpa using h
      omega
    · have hne : t.n ≠ t.room := by simpa using h
      obtain ⟨j, hj, e2, hst, hpath⟩ := hS (by omega)
      have hlt : prb t.l.length p j < t.l.length := prb_lt (by omega) _ _
      rw [e2]
      refine okX hlt (okS ?_)
      rw [Int.toNat_natCast]
      generalize hk : prb t.l.length p j = k at *
      obtain ⟨A, B, hA, hB⟩ := filterMap_set tk_string hlt
      have hst' : t.l[k].state ≠ 1 := by
        intro h
        refine hst ?_
        simp [stt, ky_string, hlt, h]
      have hy : tk_string ⟨1, p, v⟩ = some (p, v) := by simp [tk_string]
      have hk' : ky_string ⟨1, p, v⟩ = (1, p) := rfl
      have hz : tk_string t.l[k] = none := if_neg hst'
      generalize (⟨1, p, v⟩ : table_place_string) = y at hy hk' ⊢
      have hC := hB y
      rw [hy] at hC
      rw [hz] at hA
      simp only [Option.toList, List.append_assoc, List.singleton_append, List.nil_append] at hA hC
      have hC0 : C_string t = A ++ B := hA
      have hl : (A ++ (p, v) :: B).length = (C_string t).length + 1 := by rw [hC0]; simp; omega
      refine ⟨⟨g1, g2, ?_, ?_, ?_, ?_⟩, rfl, .inr (.inr ⟨hno', by omega, rfl, A, B, hC0, hC⟩)⟩
      · show ((t.l.set k y).length : Int) = _
        rw [List.length_set]; exact g3
      · show IntKind.i64.wrap (t.n + 1) = (((t.l.set k y).filterMap tk_string).length : Nat)
        rw [hC, hl, i64_small (by omega) (by omega), g4]
        omega
      · show (((t.l.set k y).filterMap tk_string).length : Int) ≤ t.room
        rw [hC, hl]
        omega
      · show InvK ((t.l.set k y).map ky_string)
        rw [List.map_set, hk']
        have := invK_put (l := t.l.map ky_string) (p := p) (j := j) (by simp; omega) hT.inv hno (by simpa using hj) (by simpa using hpath)
        rw [List.length_map, hk] at this
        exact this
theorem del_string {t : table_Table_string} (hT : TI_string t) (p : api_Prefix) : Ok (table_Table_string_Del t p) fun r => TI_string r.1 ∧ r.1.room = t.room ∧
    ((r.2 = true ∧ ∃ A v0 B, C_string t = A ++ (p, v0) :: B ∧ C_string r.1 = A ++ B) ∨ ((∀ v, (p, v) ∉ C_string t) ∧ r = (t, false))) := by
  have g1 := hT.r1
  have g2 := hT.r2
  have g3 := hT.len
  have g4 := hT.n
  have g5 := hT.le
  unfold table_Table_string_Del
  refine okB (look_string hT p) fun r hr => ?_
  rcases hr with ⟨i, e, hi, h1, h2⟩ | ⟨e, hno, hS⟩
  · refine okF (by rw [e]; simp) ?_
    rw [e]
    refine okX hi ?_
    rw [Int.toNat_natCast]
    obtain ⟨A, B, hA, hB⟩ := filterMap_set tk_string hi
    have hy : tk_string ⟨2, z_api_Prefix, (⟨#[]⟩ : ByteArray)⟩ = none := rfl
    have hk : ky_string ⟨2, z_api_Prefix, (⟨#[]⟩ : ByteArray)⟩ = (2, z_api_Prefix) := rfl
    have hz : tk_string t.l[i] = some (p, t.l[i].v) := by simp [tk_string, h1, h2]
    generalize (⟨2, z_api_Prefix, (⟨#[]⟩ : ByteArray)⟩ : table_place_string) = y at hy hk ⊢
    have hC := hB y
    rw [hy] at hC
    rw [hz] at hA
    simp only [Option.toList, List.append_assoc, List.singleton_append, List.nil_append] at hA hC
    have hC0 : C_string t = A ++ (p, t.l[i].v) :: B := hA
    have hl : (C_string t).length = (A ++ B).length + 1 := by rw [hC0]; simp; omega
    have hw : IntKind.i64.wrap (t.n - 1) = ((A ++ B).length : Nat) := by rw [i64_small (by omega) (by omega), g4]; omega
    rw [hw]
    unfold table_Table_string_Del_k1
    rw [hw]
    refine okI (fun h => okS ?_) fun h => okS ?_
    · have h0 : A ++ B = [] := by
        have : ((A ++ B).length : Int) = 0 := by simpa using h
        exact List.eq_nil_of_length_eq_zero (by omega)
      have hC' : (List.replicate (t.l.set i y).length z_table_place_string).filterMap tk_string = A ++ B := by
        rw [h0, List.filterMap_eq_nil_iff]
        intro x hx
        obtain ⟨_, rfl⟩ := List.mem_replicate.1 hx
        rfl
      refine ⟨⟨g1, g2, ?_, ?_, ?_, ?_⟩, rfl, .inl ⟨rfl, A, _, B, hC0, hC'⟩⟩
      · show ((List.replicate (t.l.set i y).length z_table_place_string).length : Int) = _
        rw [List.length_replicate, List.length_set]; exact g3
      · show (((A ++ B).length : Nat) : Int) = (((List.replicate (t.l.set i y).length z_table_place_string).filterMap tk_string).length : Nat)
        rw [hC']
      · show (((List.replicate (t.l.set i y).length z_table_place_string).filterMap tk_string).length : Int) ≤ t.room
        rw [hC']; omega
      · show InvK ((List.replicate (t.l.set i y).length z_table_place_string).map ky_string)
        rw [List.map_replicate]
        exact invK_clear _ _
    · refine ⟨⟨g1, g2, ?_, ?_, ?_, ?_⟩, rfl, .inl ⟨rfl, A, _, B, hC0, hC⟩⟩
      · show ((t.l.set i y).length : Int) = _
        rw [List.length_set]; exact g3
      · show (((A ++ B).length : Nat) : Int) = (((t.l.set i y).filterMap tk_string).length : Nat)
        rw [hC]
      · show (((t.l.set i y).filterMap tk_string).length : Int) ≤ t.room
        rw [hC]; omega
      · show InvK ((t.l.set i y).map ky_string)
        rw [List.map_set, hk]
        exact invK_del (by simpa using hi) hT.inv
  · exact okT (by rw [e]; rfl) (okS ⟨hT, rfl, .inr ⟨no_C_string hno, rfl⟩⟩)
theorem all_string {t : table_Table_string} (hT : TI_string t) : Ok (table_Table_string_All t) fun r => r = sortP ((C_string t).map Prod.fst) := by
  have g1 := hT.r1
  have g2 := hT.r2
  have g3 := hT.len
  unfold table_Table_string_All
  refine okForN (fun i s => s = ((t.l.take i).filterMap tk_string).map Prod.fst) (by simp) (fun i s hi hs => ?_) fun s hs => okS ?_
  · unfold table_Table_string_All_b1
    have hl : s.length ≤ t.l.length := by
      rw [hs, List.length_map]
      exact Nat.le_trans (List.length_filterMap_le _ _) (by simp; omega)
    have hnx : ((t.l.take (i + 1)).filterMap tk_string).map Prod.fst = s ++ (tk_string t.l[i]).toList.map Prod.fst := by
      rw [List.take_succ_eq_append_getElem hi, List.filterMap_append, List.map_append, hs]
      cases h : tk_string t.l[i] <;> simp only [List.filterMap_cons, h, Option.toList, List.filterMap_nil]
    refine okX hi (okI (fun h => okC (by simp; omega) (okS ?_)) fun h => okS ?_)
    · show _ = _
      rw [hnx]
      have : t.l[i].state = 1 := by simpa using h
      simp [tk_string, this]
    · show _ = _
      rw [hnx]
      have : t.l[i].state ≠ 1 := by simpa using h
      simp [tk_string, this]
  · rw [hs, List.take_length]; rfl
theorem nodup_string {t : table_Table_string} (hT : TI_string t) : ((C_string t).map Prod.fst).Nodup := by
  have key : ∀ (l : List table_place_string), (∀ (i j : Nat) (p : api_Prefix), (l.map ky_string)[i]? = some (1, p) → (l.map ky_string)[j]? = some (1, p) → i = j) → ((l.filterMap tk_string).map Prod.fst).Nodup := by
    intro l
    induction l with
    | nil => intro _; simp
    | cons x r ih =>
      intro h
      have hr := ih (fun i j p hi hj => by
        have := h (i + 1) (j + 1) p (by simpa using hi) (by simpa using hj)
        omega)
      rw [List.filterMap_cons]
      unfold tk_string at *
      split
      · exact hr
      · rename_i a ha
        split at ha
        · rename_i h1
          cases ha
          simp only [List.map_cons, List.nodup_cons]
          refine ⟨fun hm => ?_, hr⟩
          obtain ⟨⟨q, v⟩, hm, e⟩ := List.mem_map.1 hm
          obtain ⟨y, hy, hf⟩ := List.mem_filterMap.1 hm
          split at hf
          · rename_i h2
            cases hf
            obtain ⟨k, hk⟩ := List.mem_iff_getElem?.1 hy
            have := h 0 (k + 1) x.p (by simp [ky_string, h1]) (by simp only [List.map_cons, List.getElem?_cons_succ, List.getElem?_map, hk, Option.map_some, ky_string, h2]; simp only at e; rw [e])
            omega
          · cases hf
        · cases ha
  exact key t.l fun i j p hi hj => ((hT.inv i p hi).2 j hj).symm
end Go.Proofs
