/- From a walk over told memory to a statement's form: arguments opened, memory kept. Own work for this claim. -/
import Derived.Test.YtlbbpajjfhmfjaaSort
import Derived.Test.YtlbbpajjfhmfjaaPlainA
import Derived.Test.YtlbbpajjfhmfjaaRows
import Derived.WalkKit
import Derived.ProofKit
import Derived.OpenShut
import Derived.JoinedCond
namespace Go.BK
open Go.ChangeShapes
def isAggB (P : Program) (t : TypeId) : Bool := match P.underlying t with | some (.struct _) => true | some (.array _ _) => true | _ => false
section
variable {H : Type} {enc : TypeId × Value → H} {P : Program}
theorem mapM_to {α β : Type} {f g : α → Option β} : ∀ {l : List α} {ys : List β}, l.mapM f = some ys → (∀ i ∈ l, ∀ y ∈ ys, f i = some y → g i = some y) → l.mapM g = some ys
  | [], ys, h, _ => by simpa using h
  | x :: r, ys, h, hk => by
    rw [List.mapM_cons] at h ⊢
    cases hx : f x with
    | none => rw [hx] at h; cases h
    | some y =>
      rw [hx] at h
      cases hr : r.mapM f with
      | none => rw [hr] at h; cases h
      | some zs =>
        rw [hr] at h
        have : y :: zs = ys := by simpa using h
        subst this
        rw [hk x (by simp) y (by simp) hx, mapM_to hr fun i hi z hz => hk i (by simp [hi]) z (by simp [hz])]
        rfl
theorem mapM_mem {α β : Type} {f : α → Option β} : ∀ {l : List α} {ys : List β}, l.mapM f = some ys → ys.length = l.length ∧ (∀ y ∈ ys, ∃ i ∈ l, f i = some y) ∧ ∀ i ∈ l, ∃ y ∈ ys, f i = some y
  | [], ys, h => by
    have : ys = [] := by simpa using h.symm
    subst this
    simp
  | x :: r, ys, h => by
    rw [List.mapM_cons] at h
    cases hx : f x with
    | none => rw [hx] at h; cases h
    | some y =>
      rw [hx] at h
      cases hr : r.mapM f with
      | none => rw [hr] at h; cases h
      | some zs =>
        rw [hr] at h
        have : y :: zs = ys := by simpa using h
        subst this
        obtain ⟨h1, h2, h3⟩ := mapM_mem hr
        refine ⟨by simp [h1], fun z hz => ?_, fun i hi => ?_⟩
        · rcases List.mem_cons.1 hz with rfl | hz
          · exact ⟨x, by simp, hx⟩
          · obtain ⟨i, hi, e⟩ := h2 z hz
            exact ⟨i, by simp [hi], e⟩
        · rcases List.mem_cons.1 hi with rfl | hi
          · exact ⟨y, by simp, hx⟩
          · obtain ⟨z, hz, e⟩ := h3 i hi
            exact ⟨z, by simp [hz], e⟩
/-- All that lay lies as it lay. -/
def Kept (W W' : World) : Prop := W'.os = W.os ∧ W'.output = W.output ∧ ∀ (i : Nat) (o : Obj), W.heap[i]? = some o → W'.heap[i]? = some o
theorem Kept.of {W w' : World} (h : BK.Holds (envOf W) w' [allOf W]) : Kept W w' := by
  obtain ⟨q, os, rfl⟩ := grown_of h
  refine ⟨rfl, rfl, fun i o h => ?_⟩
  have := (Array.getElem?_eq_some_iff.1 h).1
  simp only [Go.Sort.grow, World.drewN]
  rw [Array.getElem?_append_left this]; exact h
theorem Kept.cell {W W' : World} (h : Kept W W') {a : Addr} {v : Value} (hc : W.cell? a = some v) : W'.cell? a = some v := by
  unfold World.cell? at hc ⊢
  cases ho : W.heap[a.block]? with
  | none => rw [ho] at hc; cases hc
  | some o => rw [h.2.2 _ _ ho]; rw [ho] at hc; exact hc
theorem Kept.cells {W W' : World} (h : Kept W W') {b : Nat} {a : Addr} {n : Nat} {vs : List Value} (hc : W.cells? b a n = some vs) : W'.cells? b a n = some vs := by
  unfold World.cells? at hc ⊢
  split at hc
  · rename_i hb
    rw [if_pos hb]
    exact mapM_to hc fun i _ y _ hy => h.cell hy
  · cases hc
end
section
variable {H : Type} {enc : TypeId × Value → H} {P : Program} {W W' : World} {sp : Nat → Bool}
theorem mapM_ix {α β : Type} {f : α → Option β} : ∀ {l : List α} {ys : List β}, l.length = ys.length → (∀ (k : Nat) (hk : k < l.length), f l[k] = ys[k]?) → l.mapM f = some ys
  | [], ys, hl, _ => by
    have : ys = [] := List.eq_nil_of_length_eq_zero hl.symm
    subst this; rfl
  | x :: r, ys, hl, h => by
    cases ys with
    | nil => simp at hl
    | cons y zs =>
      have h0 : f x = some y := h 0 (by simp)
      have := mapM_ix (f := f) (l := r) (ys := zs) (by simpa using hl) fun k hk => h (k + 1) (by simpa using hk)
      rw [List.mapM_cons, h0, this]
      rfl
theorem mapM_range {β : Type} {f : Nat → Option β} {n : Nat} {ys : List β} (hl : ys.length = n) (h : ∀ k, k < n → f k = ys[k]?) : (List.range n).mapM f = some ys :=
  mapM_ix (by simp [hl]) fun k hk => by simpa using h k (by simpa using hk)
/-- What is told of a type's memory, is told of it later still. -/
def TK (enc : TypeId × Value → H) (P : Program) (W W' : World) (sp : Nat → Bool) (t : TypeId) : Prop := ∀ (fuel : Nat) (cs : List Value) (x : DataW H × List MemPlace), DataW.trod enc P W 0 (fun _ => true) true fuel t cs = some x → (∀ p ∈ x.2, sp p.block = true) → DataW.trod enc P W' 0 sp true fuel t cs = some x
theorem tk_int {t : TypeId} {k : IntKind} (ht : P.underlying t = some (.int k)) : TK enc P W W' sp t := by
  intro fuel cs x h _
  cases fuel with
  | zero => simp [DataW.trod] at h
  | succ n => unfold DataW.trod at h ⊢; rw [ht] at h ⊢; split at h <;> simp_all
theorem tk_bool {t : TypeId} (ht : P.underlying t = some .bool) : TK enc P W W' sp t := by
  intro fuel cs x h _
  cases fuel with
  | zero => simp [DataW.trod] at h
  | succ n => unfold DataW.trod at h ⊢; rw [ht] at h ⊢; split at h <;> simp_all
theorem tk_string {t : TypeId} (ht : P.underlying t = some .string) : TK enc P W W' sp t := by
  intro fuel cs x h _
  cases fuel with
  | zero => simp [DataW.trod] at h
  | succ n => unfold DataW.trod at h ⊢; rw [ht] at h ⊢; split at h <;> simp_all
theorem tk_struct {t : TypeId} {fs : Array Field} (ht : P.underlying t = some (.struct fs)) (hf : ∀ f ∈ fs.toList, TK enc P W W' sp f.type) : TK enc P W W' sp t := by
  intro fuel cs x h hp
  obtain ⟨xs, n, rfl, rfl, hl, hlen, hx⟩ := DataW.trod_struct ht h
  refine trod_struct_mk ht hl (mapM_ix (by simp [hlen]) fun k hk => ?_)
  have hk' : k < fs.size := by simpa using hk
  have hkx : k < xs.length := by omega
  have h1 := hx k fs[k] (by simp [hk'])
  rw [List.getElem?_eq_getElem hkx] at h1 ⊢
  have h2 := hf fs[k] (by simp) n _ _ h1 fun p hp' => hp p (List.mem_flatMap.2 ⟨_, List.getElem_mem hkx, hp'⟩)
  simpa using h2
theorem tk_array {t e : TypeId} {n : Nat} (ht : P.underlying t = some (.array n e)) (he : TK enc P W W' sp e) : TK enc P W W' sp t := by
  intro fuel cs x h hp
  obtain ⟨xs, m, rfl, rfl, hl, hlen, hx⟩ := DataW.trod_array ht h
  have key : (List.range n).mapM (fun i => DataW.trod enc P W' 0 sp true m e ((cs.drop (i * P.cellsOf e)).take (P.cellsOf e))) = some xs := mapM_range hlen fun k hk => by
    have hkx : k < xs.length := by omega
    have h1 := hx k hk
    rw [List.getElem?_eq_getElem hkx] at h1 ⊢
    exact he m _ _ h1 fun p hp' => hp p (List.mem_flatMap.2 ⟨_, List.getElem_mem hkx, hp'⟩)
  unfold DataW.trod
  rw [ht]
  split <;> simp_all
theorem tk_slice (hK : Kept W W') {t e : TypeId} (ht : P.underlying t = some (.slice e)) (hpos : Nat.blt 0 (P.cellsOf e) = true) (he : TK enc P W W' sp e) : TK enc P W W' sp t := by
  intro fuel cs x h hp
  have hpos' : 0 < P.cellsOf e := by simpa [Nat.blt_eq] using hpos
  rcases DataW.trod_slice ht h with ⟨rfl, rfl⟩ | ⟨a, len, cap, elems, rest, n, rfl, rfl, rfl, hb, hl, hm, hlen, hel, hsp, _⟩
  · cases fuel with
    | zero => simp [DataW.trod] at h
    | succ n => unfold DataW.trod; rw [ht]; rfl
  · obtain ⟨hrl, hr⟩ := hsp rfl
    have each : ∀ (i : Nat) (y : DataW H × List MemPlace), y ∈ elems ++ rest → (W.cells? 0 (a.add (i * P.cellsOf e)) (P.cellsOf e)).bind (DataW.trod enc P W 0 (fun _ => true) true n e) = some y → (W'.cells? 0 (a.add (i * P.cellsOf e)) (P.cellsOf e)).bind (DataW.trod enc P W' 0 sp true n e) = some y := by
      intro i y hy hd
      cases hc : W.cells? 0 (a.add (i * P.cellsOf e)) (P.cellsOf e) with
      | none => rw [hc] at hd; cases hd
      | some vs =>
        rw [hc] at hd
        rw [hK.cells hc]
        exact he n vs y hd fun p hp' => hp p (List.mem_append_right _ (List.mem_flatMap.2 ⟨y, hy, hp'⟩))
    have k1 : (List.range len).mapM (fun i => (W'.cells? 0 (a.add (i * P.cellsOf e)) (P.cellsOf e)).bind (DataW.trod enc P W' 0 sp true n e)) = some elems := mapM_range hlen fun k hk => by
      have hkx : k < elems.length := by omega
      have h1 := hel k hk
      rw [List.getElem?_eq_getElem hkx] at h1 ⊢
      exact each k _ (List.mem_append_left _ (List.getElem_mem hkx)) h1
    have k2 : (List.range (cap - len)).mapM (fun j => (W'.cells? 0 (a.add ((len + j) * P.cellsOf e)) (P.cellsOf e)).bind (DataW.trod enc P W' 0 sp true n e)) = some rest := mapM_range hrl fun k hk => by
      have hkx : k < rest.length := by omega
      have h1 := hr k hk
      rw [List.getElem?_eq_getElem hkx] at h1 ⊢
      exact each (len + k) _ (List.mem_append_right _ (List.getElem_mem hkx)) h1
    have k3 : (if sp a.block then (List.range (cap - len)).mapM (fun j => (W'.cells? 0 (a.add ((len + j) * P.cellsOf e)) (P.cellsOf e)).bind (DataW.trod enc P W' 0 sp true n e)) else some []) = some rest := by
      by_cases h0 : elems.length + rest.length = 0
      · have : rest = [] := List.eq_nil_of_length_eq_zero (by omega)
        split
        · exact k2
        · rw [this]
      · have hmem : MemPlace.cell a.block (a.off + 0) ∈ MemPlace.row a ((elems.length + rest.length) * P.cellsOf e) := by
          unfold MemPlace.row
          exact List.mem_map.2 ⟨0, List.mem_range.2 (Nat.mul_pos (by omega) hpos'), rfl⟩
        have : sp a.block = true := hp _ (List.mem_append_left _ hmem)
        rw [if_pos this]
        exact k2
    unfold DataW.trod
    rw [ht]
    simp only []
    rw [if_pos ⟨hb, hl, hm⟩, k1]
    simp only [Option.bind_some]
    rw [k3]
    rfl
def TKs (enc : TypeId × Value → H) (P : Program) (W W' : World) (sp : Nat → Bool) : List TypeId → Prop
  | [] => True
  | t :: ts => TK enc P W W' sp t ∧ TKs enc P W W' sp ts
theorem trodAll_kept : ∀ {ts : List TypeId} {vs : List Value} {ds : List (DataW H)} {ps : List MemPlace}, TKs enc P W W' sp ts → DataW.TrodAll enc P W 0 (fun _ => true) true ts vs ds ps → (∀ p ∈ ps, sp p.block = true) → DataW.TrodAll enc P W' 0 sp true ts vs ds ps
  | [], [], [], ps, _, h, _ => h
  | t :: ts, v :: vs, d :: ds, ps, hk, h, hp => by
    obtain ⟨p, q, ⟨fuel, h1⟩, h2, rfl⟩ := h
    exact ⟨p, q, ⟨fuel, hk.1 fuel _ _ h1 fun x hx => hp x (List.mem_append_left _ hx)⟩, trodAll_kept hk.2 h2 fun x hx => hp x (List.mem_append_right _ hx), rfl⟩
  | [], [], _ :: _, _, _, h, _ => by cases h
  | [], _ :: _, _, _, _, h, _ => by cases h
  | _ :: _, [], _, _, _, h, _ => by cases h
  | _ :: _, _ :: _, [], _, _, h, _ => by cases h
/-- A law's call: true, and all lies as it lay. -/
theorem post_true {f : Func} {s : ChangeSpec} {args : Array Value} {ds gs : List (DataW H)} {before : List MemPlace} {t : TypeId} (hW : DataW.Whole enc P f.params.toList s.vars false W args.toList ds gs before)
    (hv : s.vars = []) (hres : f.resultTypes = #[t]) (ht : P.underlying t = some .bool) (hr : (s.fn H (ds ++ gs)).results = [.lit (.bool true)]) (ha : (s.fn H (ds ++ gs)).args = ds) (hg : (s.fn H (ds ++ gs)).vars = [])
    (hK : Kept W W') (hk : ∀ sp, TKs enc P W W' sp f.params.toList) : s.post enc P f false true false false W args (.bool true) W' := by
  have hW' := hW
  obtain ⟨p, q, hA, hV, rfl, hfz, hnd⟩ := hW
  rw [hv] at hV
  obtain ⟨rfl, rfl⟩ := trodVars_none hV
  refine ⟨ds, [], p ++ [], [], p, [], hW', ?_, ?_, ?_, ?_, fun h => by cases h⟩
  · rw [hres, hr]
    exact trodAll_mk1 (Go.RowKit.shut_bool ht true)
  · rw [ha]
    refine trodAll_kept (hk _) hA fun x hx => ?_
    simpa using hW'.lt x (List.mem_append_left _ hx)
  · rw [hv, hg]
    rfl
  · refine ⟨hK.1, hK.2.1, fun i hi => ?_⟩
    have ho : W.heap[i]? = some W.heap[i] := by simp [hi]
    rw [hK.2.2 i _ ho, ho]
    cases W.heap[i] with
    | cells c t fr => exact ⟨rfl, rfl, rfl, fun _ _ => rfl⟩
    | map es clock => exact .inr ⟨rfl, rfl⟩
    | _ => rfl
/-! ### What is told, as plain values -/
/-- Memory of this type, told, is a plain value. -/
def Dc (enc : TypeId × Value → H) (P : Program) (W : World) (t : TypeId) {α : Type} (R : List Value → α → Prop) : Prop := ∀ (fuel : Nat) (cs : List Value) (x : DataW H × List MemPlace), DataW.trod enc P W 0 (fun _ => true) true fuel t cs = some x → ∃ y, R cs y
/-- .. of as many cells as it takes. -/
abbrev Fl {α : Type} (e : α → List Value) (ok : α → Prop) : List Value → α → Prop := fun cs y => cs = e y ∧ ok y
theorem dc_int {t : TypeId} {k : IntKind} (ht : P.underlying t = some (.int k)) : Dc enc P W t (Fl (fun n => [.int k n]) (fun n : Int => k.min ≤ n ∧ n ≤ k.max)) := by
  intro fuel cs x h
  cases fuel with
  | zero => simp [DataW.trod] at h
  | succ n =>
    unfold DataW.trod at h
    rw [ht] at h
    split at h <;> simp_all [Lit.wf]
    exact ⟨_, rfl, h.1.2⟩
theorem dc_bool {t : TypeId} (ht : P.underlying t = some .bool) : Dc enc P W t (Fl (fun b => [.bool b]) (fun _ : Bool => True)) := by
  intro fuel cs x h
  cases fuel with
  | zero => simp [DataW.trod] at h
  | succ n =>
    unfold DataW.trod at h
    rw [ht] at h
    split at h <;> simp_all
theorem dc_string {t : TypeId} (ht : P.underlying t = some .string) : Dc enc P W t (Fl (fun s => [.string s]) (fun _ : ByteArray => True)) := by
  intro fuel cs x h
  cases fuel with
  | zero => simp [DataW.trod] at h
  | succ n =>
    unfold DataW.trod at h
    rw [ht] at h
    split at h <;> simp_all
theorem Dc.mono {t : TypeId} {α : Type} {R R' : List Value → α → Prop} (h : Dc enc P W t R) (hi : ∀ cs y, R cs y → R' cs y) : Dc enc P W t R' := fun fuel cs x hx => by
  obtain ⟨y, hy⟩ := h fuel cs x hx
  exact ⟨y, hi _ _ hy⟩
theorem dc_array {t e : TypeId} {n k : Nat} {α : Type} {enc1 : α → List Value} {ok : α → Prop} (ht : P.underlying t = some (.array n e)) (hc : P.cellsOf e = k) (hct : P.cellsOf t = n * k) (he : Dc enc P W e (Fl enc1 ok)) :
    Dc enc P W t (Fl (Tup.cells enc1 n) (fun y : Tup α n => ∀ z ∈ Tup.list n y, ok z)) := by
  intro fuel cs x h
  obtain ⟨xs, m, rfl, rfl, hl, hlen, hx⟩ := DataW.trod_array ht h
  rw [hct] at hl
  have each : ∀ i, i < n → ∃ y, (cs.drop (i * k)).take k = enc1 y ∧ ok y := by
    intro i hi
    have h1 := hx i hi
    rw [List.getElem?_eq_getElem (by omega), hc] at h1
    exact he m _ _ h1
  clear hx h hlen hc hct ht he
  have key : ∀ (n : Nat) (cs : List Value), cs.length = n * k → (∀ i, i < n → ∃ y, (cs.drop (i * k)).take k = enc1 y ∧ ok y) → ∃ y : Tup α n, cs = Tup.cells enc1 n y ∧ ∀ z ∈ Tup.list n y, ok z := by
    intro n
    induction n with
    | zero => intro cs hl _; exact ⟨(), by simpa [Tup.cells] using List.eq_nil_of_length_eq_zero (by simpa using hl), by simp [Tup.list]⟩
    | succ n ih =>
      intro cs hl h
      obtain ⟨y, hy, hoy⟩ := h 0 (by omega)
      obtain ⟨ys, hys, hoys⟩ := ih (cs.drop k) (by rw [List.length_drop, hl, Nat.add_mul, Nat.one_mul]; omega) (fun i hi => by
        obtain ⟨z, hz, hoz⟩ := h (i + 1) (by omega)
        refine ⟨z, ?_, hoz⟩
        rw [List.drop_drop]
        rw [Nat.add_mul, Nat.one_mul, Nat.add_comm] at hz
        exact hz)
      refine ⟨(y, ys), ?_, ?_⟩
      · have e : cs = cs.take k ++ cs.drop k := (List.take_append_drop k cs).symm
        simp only [Nat.zero_mul, List.drop_zero] at hy
        rw [e, hy, hys]
        rfl
      · intro z hz
        simp only [Tup.list, List.mem_cons] at hz
        rcases hz with rfl | hz
        · exact hoy
        · exact hoys z hz
  exact key n cs hl each
/-- The parts of a struct's cells, in order. -/
def parts (cs : List Value) : Nat → List Nat → List (List Value)
  | _, [] => []
  | o, s :: r => (cs.drop o).take s :: parts cs (o + s) r
theorem parts_flat (cs : List Value) : ∀ (ss : List Nat) (o : Nat), o + ss.sum = cs.length → (parts cs o ss).flatten = cs.drop o
  | [], o, h => by
    have : cs.length ≤ o := by simp at h; omega
    simp [parts, List.drop_eq_nil_of_le this]
  | s :: r, o, h => by
    simp only [parts, List.flatten_cons]
    rw [parts_flat cs r (o + s) (by simp only [List.sum_cons] at h; omega), ← List.drop_drop]
    exact List.take_append_drop _ _
theorem dc_struct {t : TypeId} {fs : Array Field} (ht : P.underlying t = some (.struct fs)) {fuel : Nat} {cs : List Value} {x : DataW H × List MemPlace} (h : DataW.trod enc P W 0 (fun _ => true) true fuel t cs = some x) :
    cs.length = P.cellsOf t ∧ ∀ (i : Nat) (f : Field), fs[i]? = some f → ∃ m y, DataW.trod enc P W 0 (fun _ => true) true m f.type ((cs.drop f.offset).take (P.cellsOf f.type)) = some y := by
  obtain ⟨xs, n, rfl, rfl, hl, hlen, hx⟩ := DataW.trod_struct ht h
  refine ⟨hl, fun i f hf => ?_⟩
  have hi : i < fs.size := (Array.getElem?_eq_some_iff.1 hf).1
  have h1 := hx i f hf
  rw [List.getElem?_eq_getElem (by omega)] at h1
  exact ⟨n, _, h1⟩
theorem cells_get {a : Addr} {n : Nat} {vs : List Value} (h : W.cells? 0 a n = some vs) : vs.length = n ∧ ∀ i, i < n → W.cell? (a.add i) = vs[i]? := by
  unfold World.cells? at h
  rw [if_pos (Nat.zero_le _)] at h
  have hl := (mapM_mem h).1
  refine ⟨by simpa using hl, ?_⟩
  have key : ∀ (l : List Nat) (ys : List Value), l.mapM (fun i => W.cell? (a.add i)) = some ys → ∀ (k : Nat) (hk : k < l.length), W.cell? (a.add l[k]) = ys[k]? := by
    intro l
    induction l with
    | nil => intro ys _ k hk; simp at hk
    | cons x r ih =>
      intro ys h k hk
      rw [List.mapM_cons] at h
      cases hx : W.cell? (a.add x) with
      | none => rw [hx] at h; cases h
      | some y =>
        rw [hx] at h
        cases hr : r.mapM (fun i => W.cell? (a.add i)) with
        | none => rw [hr] at h; cases h
        | some zs =>
          rw [hr] at h
          have : y :: zs = ys := by simpa using h
          subst this
          cases k with
          | zero => exact hx
          | succ k => exact ih zs hr k (by simpa using hk)
  intro i hi
  have := key _ _ h i (by simpa using hi)
  simpa using this
/-- A slice that came in reads as plain values, in all that lies. -/
theorem dc_slice {t e : TypeId} {k : Nat} {α : Type} {enc1 : α → List Value} {ok : α → Prop} (ht : P.underlying t = some (.slice e)) (hc : P.cellsOf e = k) (hpos : Nat.blt 0 k = true) (hk : ∀ y, (enc1 y).length = k) (he : Dc enc P W e (Fl enc1 ok)) {v : Value} {d : DataW H} {ps : List MemPlace}
    (h : DataW.Trod enc P W 0 (fun _ => true) true t v d ps) (hd : ∀ es rs, d = .slice es rs → es.length ≤ 140737488355328) (hv : v.cells.toList = [v]) : ∃ xs : List α, Rd (allOf W) enc1 v xs ∧ (∀ x ∈ xs, ok x) ∧ (∀ es rs, d = .slice es rs → es.length = xs.length) ∧ (d = .nil → xs = []) := by
  obtain ⟨fuel, h⟩ := h
  rw [hv] at h
  have hpos' : 0 < k := by simpa [Nat.blt_eq] using hpos
  rcases DataW.trod_slice ht h with ⟨e1, e2⟩ | ⟨a, len, cap, elems, rest, n, rfl, e1, e2, hb, hl, hm, hlen, hel, _, _⟩
  · obtain rfl : v = .slice none 0 0 := by simpa using e1
    have hd : d = .nil := congrArg Prod.fst e2
    subst hd
    exact ⟨[], Rd.nil _ _, by simp, (by intro _ _ h; cases h), fun _ => rfl⟩
  · obtain rfl : v = .slice (some a) len cap := by simpa using e1
    have hdd : d = .slice (elems.map (·.1)) (rest.map (·.1)) := congrArg Prod.fst e2
    have hlim := hd _ _ hdd
    rw [List.length_map] at hlim
    rw [hc] at hel
    have each : ∀ i, i < len → ∃ y, W.cells? 0 (a.add (i * k)) k = some (enc1 y) ∧ ok y := by
      intro i hi
      have h1 := hel i hi
      rw [List.getElem?_eq_getElem (by omega)] at h1
      cases hcs : W.cells? 0 (a.add (i * k)) k with
      | none => rw [hcs] at h1; cases h1
      | some vs =>
        rw [hcs] at h1
        obtain ⟨y, rfl, hoy⟩ := he n vs _ h1
        exact ⟨y, rfl, hoy⟩
    have hxs : ∀ m, m ≤ len → ∃ xs : List α, xs.length = m ∧ (∀ x ∈ xs, ok x) ∧ ∀ i (hi : i < xs.length), W.cells? 0 (a.add (i * k)) k = some (enc1 xs[i]) := by
      intro m
      induction m with
      | zero => intro _; exact ⟨[], rfl, by simp, fun i hi => by simp at hi⟩
      | succ m ih =>
        intro hm
        obtain ⟨xs, h1, h2, h3⟩ := ih (by omega)
        obtain ⟨y, h4, h5⟩ := each m (by omega)
        refine ⟨xs ++ [y], by simp [h1], fun x hx => ?_, fun i hi => ?_⟩
        · rcases List.mem_append.1 hx with hx | hx
          · exact h2 x hx
          · obtain rfl : x = y := by simpa using hx
            exact h5
        · by_cases hlt : i < xs.length
          · rw [List.getElem_append_left hlt]; exact h3 i hlt
          · obtain rfl : i = m := by simp at hi; omega
            rw [List.getElem_append_right (by omega)]
            simp only [h1, Nat.sub_self, List.getElem_cons_zero]
            exact h4
    obtain ⟨xs, hx1, hx2, hx3⟩ := hxs len (Nat.le_refl _)
    refine ⟨xs, ⟨some a, cap, by rw [hx1], by omega, by omega, ?_⟩, hx2, fun es rs he => by rw [hdd] at he; cases he; simp; omega, fun he => by rw [hdd] at he; cases he⟩
    cases hxn : xs with
    | nil => exact .inl rfl
    | cons x0 xr =>
      right
      rw [← hxn]
      have h0 : 0 < xs.length := by rw [hxn]; simp
      have cell : ∀ t, t < xs.length * k → W.cell? (a.add t) = (xs.flatMap enc1)[t]? := by
        intro t ht
        obtain ⟨g1, g2⟩ := flatMap_get hk xs t ht
        have g3 := (cells_get (hx3 _ g1)).2 (t % k) (Nat.mod_lt _ hpos')
        rw [g2, ← g3]
        congr 1
        have e : t = (t / k) * k + t % k := by rw [Nat.mul_comm]; exact (Nat.div_add_mod t k).symm
        unfold Addr.add
        by_cases z1 : t = 0
        · subst z1; simp
        · by_cases z2 : (t / k) * k = 0
          · rw [if_neg z1]
            simp only [z2, if_true]
            rw [if_neg (by omega)]
            congr 1; omega
          · rw [if_neg z1]
            simp only [z2, if_false]
            by_cases z3 : t % k = 0
            · rw [if_pos z3]; congr 1; omega
            · rw [if_neg z3]; congr 1; omega
      have hflen : (xs.flatMap enc1).length = xs.length * k := flat_length hk xs
      have hpos2 : 0 < xs.length * k := Nat.mul_pos h0 hpos'
      have c0 := cell 0 hpos2
      rw [List.getElem?_eq_getElem (by omega)] at c0
      have hadd0 : a.add 0 = a := by simp [Addr.add]
      rw [hadd0] at c0
      obtain ⟨ab, ao, asp⟩ := a
      unfold World.cell? at c0
      simp only at c0
      cases ho : W.heap[ab]? with
      | none => rw [ho] at c0; cases c0
      | some o =>
        rw [ho] at c0
        cases o with
        | cells c T fz =>
          simp only at c0
          cases asp with
          | some sp' => simp at c0
          | none =>
            simp only [Option.isSome_none, Bool.false_eq_true, if_false] at c0
            have hcell : ∀ t, t < xs.length * k → c[ao + t]? = (xs.flatMap enc1)[t]? := by
              intro t ht
              have := cell t ht
              by_cases z : t = 0
              · subst z
                rw [Nat.add_zero, c0, List.getElem?_eq_getElem (by omega)]
              · unfold Addr.add at this
                rw [if_neg z] at this
                unfold World.cell? at this
                simp only [ho, Option.isSome_none, Bool.false_eq_true, if_false] at this
                exact this
            have hcs : ao + xs.length * k ≤ c.size := by
              have := hcell (xs.length * k - 1) (by omega)
              rw [List.getElem?_eq_getElem (by omega)] at this
              have := (Array.getElem?_eq_some_iff.1 this).1
              omega
            refine ⟨ab, c.toList.take ao, c.toList.drop (ao + xs.length * k), T, fz, ?_, ?_⟩
            · have : (c.toList.take ao).length = ao := by rw [List.length_take, Array.length_toList]; omega
              rw [this]
            · have e : (c.toList.take ao ++ xs.flatMap enc1 ++ c.toList.drop (ao + xs.length * k)).toArray = c := by
                have : c.toList.take ao ++ xs.flatMap enc1 ++ c.toList.drop (ao + xs.length * k) = c.toList := by
                  have hmid : (c.toList.drop ao).take (xs.length * k) = xs.flatMap enc1 := by
                    apply List.ext_getElem?
                    intro t
                    rw [List.getElem?_take]
                    by_cases ht : t < xs.length * k
                    · rw [if_pos ht, List.getElem?_drop, ← hcell t ht]
                      simp
                    · rw [if_neg ht, List.getElem?_eq_none (by omega)]
                  rw [← hmid, ← List.drop_drop, List.append_assoc, List.take_append_drop, List.take_append_drop]
                rw [this]
              rw [e]
              have hlt := (Array.getElem?_eq_some_iff.1 ho).1
              unfold allOf
              refine List.mem_map.2 ⟨ab, List.mem_range.2 hlt, ?_⟩
              simp [objAt, ho]
        | _ => simp at c0
end
theorem u8r {z : Int} (h : IntKind.u8.min ≤ z ∧ z ≤ IntKind.u8.max) : 0 ≤ z ∧ z ≤ 255 := by simpa [IntKind.min, IntKind.max, IntKind.signed, IntKind.bits] using h
theorem i64r {z : Int} (h : IntKind.i64.min ≤ z ∧ z ≤ IntKind.i64.max) : -9223372036854775808 ≤ z ∧ z ≤ 9223372036854775807 := by simpa [IntKind.min, IntKind.max, IntKind.signed, IntKind.bits] using h
theorem u64r {z : Int} (h : IntKind.u64.min ≤ z ∧ z ≤ IntKind.u64.max) : 0 ≤ z ∧ z ≤ 18446744073709551615 := by simpa [IntKind.min, IntKind.max, IntKind.signed, IntKind.bits] using h
theorem u32r {z : Int} (h : IntKind.u32.min ≤ z ∧ z ≤ IntKind.u32.max) : 0 ≤ z ∧ z ≤ 4294967295 := by simpa [IntKind.min, IntKind.max, IntKind.signed, IntKind.bits] using h
theorem wfr {k : IntKind} {n : Int} (h : (Lit.int k n).wf = true) : k.min ≤ n ∧ n ≤ k.max := by simpa [Lit.wf] using h
/-- A struct that came in. -/
theorem dc_agg {H : Type} {enc : TypeId × Value → H} {P : Program} {W : World} {t : TypeId} {α : Type} {R : List Value → α → Prop} (hd : Dc enc P W t R) {r : Go.Reach} {b : Nat} {v : Value} {d : DataW H} {ps : List MemPlace} (hok : Value.okWide P W r b t v) (hs : isAggB P t = true) (h : DataW.Trod enc P W 0 (fun _ => true) true t v d ps) : ∃ (cs : List Value) (y : α), v = .agg cs.toArray ∧ R cs y := by
  obtain ⟨fuel, h⟩ := h
  unfold Value.okWide at hok
  unfold isAggB at hs
  split at hs
  · rename_i fs hu
    rw [hu] at hok
    obtain ⟨cs, rfl, _⟩ := hok
    obtain ⟨y, hy⟩ := hd fuel _ _ h
    exact ⟨cs.toList, y, by simp, hy⟩
  · rename_i n e hu
    rw [hu] at hok
    obtain ⟨cs, rfl, _⟩ := hok
    obtain ⟨y, hy⟩ := hd fuel _ _ h
    exact ⟨cs.toList, y, by simp, hy⟩
  · cases hs
end Go.BK
