/- Core G: more steps in the form in which a program prints them. Own work for this claim. -/
import Derived.Test.YtlbbpajjfhmfjaaCoreF
namespace Go.BK
theorem noneS {β : Type} {r : β} {p : Prop} (h : (none : Option β) = some r) : p := by cases h
/-- The slice's value lets number iv be reached: at m of block b. -/
def IxOk (v : Value) (k : Nat) (iv : Int) (b m : Nat) : Prop := ∃ off len cap, v = .slice (some ⟨b, off, none⟩) len cap ∧ 0 ≤ iv ∧ iv < (len : Int) ∧ m = off + iv.toNat * k
theorem stpB {R S : Type} {k : S → Option (Out R S)} {s : S} {o : Out R S} (h : stp k (.brk s) = some o) : o = .brk s := (Option.some.inj h).symm
theorem stpR {R S : Type} {k : S → Option (Out R S)} {r : R} {o : Out R S} (h : stp k (.ret r) = some o) : o = .ret r := (Option.some.inj h).symm
theorem aftS {R S β : Type} {f : R → β} {k : S → Option β} {s : S} {o : Out R S} {r : β} (h : aft f k o = some r) (ho : o = .brk s ∨ o = .nxt s) : k s = some r := by rcases ho with rfl | rfl <;> exact h
theorem aftR {R S β : Type} {f : R → β} {k : S → Option β} {x : R} {r : β} (h : aft f k (.ret x) = some r) : r = f x := (Option.some.inj h).symm
theorem allOne {vs : List Value} (h : vs.all Value.oneCell' = true) : ∀ v ∈ vs, v.oneCell' = true := List.all_eq_true.1 h
theorem sub_cons {cs cs' : List HL} {c : HL} {j : Nat} (hc : nth cs j = some c) (h : ∀ p ∈ cs'.flatten, p ∈ cs.flatten) : ∀ p ∈ (c :: cs').flatten, p ∈ cs.flatten := by
  intro p hp
  simp only [List.flatten_cons, List.mem_append] at hp
  rcases hp with hp | hp
  · exact memV hc hp
  · exact h p hp
theorem sub_drp {cs : List HL} (n : Nat) : ∀ p ∈ (cs.drop n).flatten, p ∈ cs.flatten := by
  intro p hp
  obtain ⟨c, hc, hm⟩ := List.mem_flatten.1 hp
  exact List.mem_flatten.2 ⟨c, List.mem_of_mem_drop hc, hm⟩
theorem Rd.at {α : Type} {C : HL} {enc : α → List Value} {k : Nat} {v : Value} {xs : List α} {iv : Int} {z : α} (h : Rd C enc v xs) (hk : ∀ x, (enc x).length = k) (hz : ix xs iv = some z) : ∃ b m, ElemAt C b m (enc z) ∧ IxOk v k iv b m := by
  obtain ⟨h0, h1, h2, h3⟩ := ixS hz
  obtain ⟨b, off, cap, hv, hE⟩ := h.elem hk h1
  exact ⟨b, _, hE, off, _, cap, hv, h0, h2, rfl⟩
theorem Ow.at {α : Type} {c : HL} {enc : α → List Value} {k T : Nat} {v : Value} {xs : List α} {iv : Int} {z : α} (h : Ow enc k T v xs c) (hk : ∀ x, (enc x).length = k) (hz : ix xs iv = some z) : ∃ b m, Focus enc k T v xs iv.toNat z c b m ∧ IxOk v k iv b m := by
  obtain ⟨h0, h1, h2, h3⟩ := ixS hz
  obtain ⟨b, off, cap, hv, hE⟩ := h.focus hk h1
  exact ⟨b, _, hE, off, _, cap, hv, h0, h2, rfl⟩
theorem gEx {c : Bool} {A : Nat → Nat → Prop} (h : c = true → ∃ b m, A b m) : ∃ b m, c = true → A b m := by
  cases c
  · exact ⟨0, 0, fun h => by cases h⟩
  · obtain ⟨b, m, h⟩ := h rfl; exact ⟨b, m, fun _ => h⟩
theorem evga {σ : List (Nat × Value)} {x : Operand} {c0 c : Bool} {v : Value} (h : ev σ x = some (gv (c0 && c) v)) (hc : c0 = true) : ev σ x = some (gv c v) := by subst hc; simpa using h
section
variable {P : Program} {l : List Oper} {Q : Exit → Act → World → Prop} {dr : Bool} {S : World → Prop} {a : Act} {w : World} {N : Nat} {σ : List (Nat × Value)} {i d : Nat} {r : Plan} {o : Oper} {v : Value}
variable {ty : TypeId} {pos : String} {af : Array Edge} {g : Option (Nat × Bool)} {dst : Option Tmp} {cs cs' : List HL} {E : Env}
theorem rIxO {t e k kk b m : Nat} {x y : Operand} {ik : IntKind} {iv : Int} (hf : Fr a N σ) (hx : ev σ x = some v) (hy : ev σ y = some (.int ik iv)) (h : sliceEl P t = some (e, k, kk)) (hI : IxOk v k iv b m) : Runs P S a ⟨dst, .indexAddr t x y, ty, pos, af, g⟩ (ptr b m) := by
  obtain ⟨off, len, cap, rfl, h0, h1, hm⟩ := hI
  exact rIx hf hx hy h h0 h1 hm
theorem rShc {t u : TypeId} {x y : Operand} {k k' : IntKind} {m n p : Int} (hf : Fr a N σ) (hx : ev σ x = some (.int k m)) (hy : ev σ y = some (.int k' n)) (hn : 0 ≤ n) (hp : 2 ^ (min n.toNat k.bits) = p) : Runs P S a ⟨dst, .binOp .shl t x y u, ty, pos, af, g⟩ (.int k (k.wrap (m * p))) := by
  subst hp; exact rShl hf hx hy hn
theorem rSrc {t u : TypeId} {x y : Operand} {k k' : IntKind} {m n p : Int} (hf : Fr a N σ) (hx : ev σ x = some (.int k m)) (hy : ev σ y = some (.int k' n)) (hn : 0 ≤ n) (hp : 2 ^ (min n.toNat k.bits) = p) : Runs P S a ⟨dst, .binOp .shr t x y u, ty, pos, af, g⟩ (.int k (m.fdiv p)) := by
  subst hp; exact rShr hf hx hy hn
theorem xt {K : Act → World → Prop} {id : Nat} (h : Q (.exit id) a w) : Exit.then K Q (.exit id) a w := h
/-- A function entered; its post under a letter. -/
theorem enterQ {f : FuncId} {fn : Func} {c : Code} {vs : List Value} {R : Value → World → Prop} (hf : P.funcs[f]? = some fn) (hb : fn.body = some c) (hn : Nat.ble vs.length fn.ntmps = true)
    (h : ∀ a (Q : Exit → Act → World → Prop), NP Q → (∀ a w, bodyPost P fn (fun e w' => ∃ v, e = .returned v ∧ R v w') .ret a w → Q .ret a w) → (∀ a w, bodyPost P fn (fun e w' => ∃ v, e = .returned v ∧ R v w') .ret a w → Q .normal a w) →
      Fr a fn.ntmps ((List.range vs.length).zip vs) → c.wp P Q a w) : Spec P f vs w R :=
  enter hf hb hn fun a hf => h a _ inferInstance (fun _ _ h => h) (fun _ _ h => h) hf
/-! effects, with the operation told first -/
theorem eC {f : FuncId} {args : List Operand} {vs : List Value} {ts : Array TypeId} {R : Value → World → Prop} (hf : Fr a N σ) (hi : nth l i = some ⟨some d, .call ⟨.value (.func f), args.toArray, ts⟩, ty, pos, af, none⟩) (hv : evs σ args = some vs) (hn : Nat.blt d N = true) (hk : callOk P f = true) (hs : Spec P f vs w R)
    (k : ∀ v a' w', R v w' → Fr a' N ((d, v) :: σ) → Kt P l Q dr S i r a' w') : planWp P l.toArray Q dr S (.e i r) a w := e0 hi rfl (wC hf hk hv hn hs k)
theorem eAl {t : Nat} {zs : List Value} (hf : Fr a N σ) (hi : nth l i = some ⟨some d, .alloc t, ty, pos, af, none⟩) (hn : Nat.blt d N = true) (hz : zCells P t = some zs) (hH : Holds E w cs)
    (k : ∀ b a' w', Holds E w' ([blk b zs t] :: cs) → Fr a' N ((d, ptr b 0) :: σ) → Kt P l Q dr S i r a' w') : planWp P l.toArray Q dr S (.e i r) a w := e0 hi rfl (wAl hf hn hz hH k)
theorem eBx {t : Nat} {x : Operand} {vs : List Value} (hf : Fr a N σ) (hi : nth l i = some ⟨some d, .box t x, ty, pos, af, none⟩) (hn : Nat.blt d N = true) (hx : ev σ x = some (.agg vs.toArray)) (hH : Holds E w cs)
    (k : ∀ b a' w', Holds E w' ([blk b vs t] :: cs) → Fr a' N ((d, ptr b 0) :: σ) → Kt P l Q dr S i r a' w') : planWp P l.toArray Q dr S (.e i r) a w := e0 hi rfl (wBx hf hn hx hH k)
theorem eB1 {t : Nat} {x : Operand} (hf : Fr a N σ) (hi : nth l i = some ⟨some d, .box t x, ty, pos, af, none⟩) (hn : Nat.blt d N = true) (hx : ev σ x = some v) (hv : v.oneCell' = true) (hH : Holds E w cs)
    (k : ∀ b a' w', Holds E w' ([blk b [v] t] :: cs) → Fr a' N ((d, ptr b 0) :: σ) → Kt P l Q dr S i r a' w') : planWp P l.toArray Q dr S (.e i r) a w := e0 hi rfl (wB1 hf hn hx hv hH k)
theorem eSt {t b off : Nat} {x y : Operand} {c : List Value} {T : TypeId} (hf : Fr a N σ) (hi : nth l i = some ⟨none, .store t x y, ty, pos, af, none⟩) (hx : ev σ x = some (ptr b off)) (hy : ev σ y = some v) (hv : v.oneCell' = true) (hn : szOf P t = some 1) (hH : Holds E w ([blk b c T] :: cs)) (hl : off < c.length)
    (k : ∀ w', Holds E w' ([blk b (c.set off v) T] :: cs) → Kt P l Q dr S i r a w') : planWp P l.toArray Q dr S (.e i r) a w := e0 hi rfl (wSt hf hx hy hv hn hH hl k)
theorem eSs {t b off : Nat} {x y : Operand} {c vs : List Value} {T : TypeId} (hf : Fr a N σ) (hi : nth l i = some ⟨none, .store t x y, ty, pos, af, none⟩) (hx : ev σ x = some (ptr b off)) (hy : ev σ y = some (.agg vs.toArray)) (hv : ∀ v ∈ vs, v.oneCell' = true) (hn : szOf P t = some vs.length) (hH : Holds E w ([blk b c T] :: cs)) (hl : off + vs.length ≤ c.length)
    (k : ∀ w', Holds E w' ([blk b (putAt c off vs) T] :: cs) → Kt P l Q dr S i r a w') : planWp P l.toArray Q dr S (.e i r) a w := e0 hi rfl (wSs hf hx hy hv hn hH hl k)
theorem eSe {α : Type} {enc : α → List Value} {xs : List α} {c : HL} {k T t b m off j : Nat} {x y : Operand} {z z' : α} (hf : Fr a N σ) (hi : nth l i = some ⟨none, .store t x y, ty, pos, af, none⟩) (hx : ev σ x = some (ptr b (m + off))) (hy : ev σ y = some v) (hv : v.oneCell' = true) (hn : szOf P t = some 1) {u : Value} (hF : Focus enc k T u xs j z c b m) (hH : Holds E w (c :: cs))
    (hl : Nat.blt off (enc z).length = true) (hz : (enc z).set off v = enc z') (kk : ∀ c' w', Ow enc k T u (xs.set j z') c' → Holds E w' (c' :: cs) → Kt P l Q dr S i r a w') : planWp P l.toArray Q dr S (.e i r) a w := e0 hi rfl (wSe hf hx hy hv hn hF hH hl hz kk)
theorem eSes {α : Type} {enc : α → List Value} {xs : List α} {c : HL} {k T t b m off j : Nat} {x y : Operand} {z z' : α} {vs : List Value} (hf : Fr a N σ) (hi : nth l i = some ⟨none, .store t x y, ty, pos, af, none⟩) (hx : ev σ x = some (ptr b (m + off))) (hy : ev σ y = some (.agg vs.toArray)) (hv : ∀ v ∈ vs, v.oneCell' = true) (hn : szOf P t = some vs.length) {u : Value} (hF : Focus enc k T u xs j z c b m) (hH : Holds E w (c :: cs))
    (hl : off + vs.length ≤ (enc z).length) (hz : putAt (enc z) off vs = enc z') (kk : ∀ c' w', Ow enc k T u (xs.set j z') c' → Holds E w' (c' :: cs) → Kt P l Q dr S i r a w') : planWp P l.toArray Q dr S (.e i r) a w := e0 hi rfl (wSes hf hx hy hv hn hF hH hl hz kk)
end
end Go.BK
