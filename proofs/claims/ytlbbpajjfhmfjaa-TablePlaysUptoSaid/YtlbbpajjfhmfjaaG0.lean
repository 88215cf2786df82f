/- Plain structures for the types, and facts of the program that the kernel compares. Printed by a program of mine. Own work for this claim. -/
import Derived.Test.YtlbbpajjfhmfjaaSort
import Derived.Test.YtlbbpajjfhmfjaaSortLay
import Derived.Test.YtlbbpajjfhmfjaaProg
set_option linter.unusedVariables false
set_option maxRecDepth 100000
namespace Go.Proofs
open Go.BK
structure api_Prefix where
  V6 : Bool
  Addr : (Tup Int 7)
  deriving DecidableEq
def enc_api_Prefix (x : api_Prefix) : List Value := (.bool x.V6 :: ((Tup.cells (fun y => [.int .u8 y]) 7) x.Addr))
theorem len_api_Prefix (x : api_Prefix) : (enc_api_Prefix x).length = 8 := rfl
def z_api_Prefix : api_Prefix := ⟨false, (Tup.rep 0 7)⟩

structure config_Config where
  Buckets : Int
  Packets : Int
  Levels : Int
  Bins : Int
  Up : Int
  Down : Int
  Slots : Int
  Room : Int
  Quantum : Int
  Reserve : Int
  Shared : Int
  Ns : Int
  ChokeMin : Int
  Target : Int
  Hold : Int
  WindowNs : Int
  Threshold : Int
  Term : Int
  Rate : Int
  Burst : Int
def enc_config_Config (x : config_Config) : List Value := (.int .i64 x.Buckets :: (.int .i64 x.Packets :: (.int .i64 x.Levels :: (.int .i64 x.Bins :: (.int .i64 x.Up :: (.int .i64 x.Down :: (.int .i64 x.Slots :: (.int .i64 x.Room :: (.int .i64 x.Quantum :: (.int .i64 x.Reserve :: (.int .i64 x.Shared :: (.int .i64 x.Ns :: (.int .i64 x.ChokeMin :: (.int .i64 x.Target :: (.int .i64 x.Hold :: (.int .i64 x.WindowNs :: (.int .i64 x.Threshold :: (.int .i64 x.Term :: (.int .i64 x.Rate :: [.int .i64 x.Burst])))))))))))))))))))
theorem len_config_Config (x : config_Config) : (enc_config_Config x).length = 20 := rfl
def z_config_Config : config_Config := ⟨0, 0, 0, 0, 0, 0, 0, 0, 0, 0, 0, 0, 0, 0, 0, 0, 0, 0, 0, 0⟩

structure script_Op where
  Kind : Int
  T : Int
  Draws : (Tup Int 2)
  B : (List Int)
  Key : (Tup Int 16)
  Prefix : api_Prefix
  Config : config_Config
def z_script_Op : script_Op := ⟨0, 0, (Tup.rep 0 2), [], (Tup.rep 0 16), z_api_Prefix, z_config_Config⟩

structure cursor_In where
  b : (List Int)
  bad : Bool
def z_cursor_In : cursor_In := ⟨[], false⟩

structure law21_Act where
  Kind : Int
  P : api_Prefix
  N : Int
def enc_law21_Act (x : law21_Act) : List Value := (.int .u8 x.Kind :: ((enc_api_Prefix x.P) ++ [.int .i64 x.N]))
theorem len_law21_Act (x : law21_Act) : (enc_law21_Act x).length = 10 := rfl
def z_law21_Act : law21_Act := ⟨0, z_api_Prefix, 0⟩

structure table_place_int where
  state : Int
  p : api_Prefix
  v : Int
def enc_table_place_int (x : table_place_int) : List Value := (.int .i64 x.state :: ((enc_api_Prefix x.p) ++ [.int .i64 x.v]))
theorem len_table_place_int (x : table_place_int) : (enc_table_place_int x).length = 10 := rfl
def z_table_place_int : table_place_int := ⟨0, z_api_Prefix, 0⟩

structure table_Table_int where
  l : (List table_place_int)
  room : Int
  n : Int
def z_table_Table_int : table_Table_int := ⟨[], 0, 0⟩

structure sip_state where
  a : Int
  b : Int
  c : Int
  d : Int
def enc_sip_state (x : sip_state) : List Value := (.int .u64 x.a :: (.int .u64 x.b :: (.int .u64 x.c :: [.int .u64 x.d])))
theorem len_sip_state (x : sip_state) : (enc_sip_state x).length = 4 := rfl
def z_sip_state : sip_state := ⟨0, 0, 0, 0⟩

structure ref21_Entry where
  P : api_Prefix
  V : Int
def enc_ref21_Entry (x : ref21_Entry) : List Value := ((enc_api_Prefix x.P) ++ [.int .i64 x.V])
theorem len_ref21_Entry (x : ref21_Entry) : (enc_ref21_Entry x).length = 9 := rfl
def z_ref21_Entry : ref21_Entry := ⟨z_api_Prefix, 0⟩

structure table_place_string where
  state : Int
  p : api_Prefix
  v : ByteArray
def enc_table_place_string (x : table_place_string) : List Value := (.int .i64 x.state :: ((enc_api_Prefix x.p) ++ [.string x.v]))
theorem len_table_place_string (x : table_place_string) : (enc_table_place_string x).length = 10 := rfl
def z_table_place_string : table_place_string := ⟨0, z_api_Prefix, (⟨#[]⟩ : ByteArray)⟩

structure table_Table_string where
  l : (List table_place_string)
  room : Int
  n : Int
def z_table_Table_string : table_Table_string := ⟨[], 0, 0⟩

structure box_entry where
  until' : Int
  tokens : (Option Addr)
def enc_box_entry (x : box_entry) : List Value := (.int .i64 x.until' :: [.pointer x.tokens])
theorem len_box_entry (x : box_entry) : (enc_box_entry x).length = 2 := rfl
def z_box_entry : box_entry := ⟨0, none⟩

structure table_place_box_entry where
  state : Int
  p : api_Prefix
  v : box_entry
def enc_table_place_box_entry (x : table_place_box_entry) : List Value := (.int .i64 x.state :: ((enc_api_Prefix x.p) ++ (enc_box_entry x.v)))
theorem len_table_place_box_entry (x : table_place_box_entry) : (enc_table_place_box_entry x).length = 11 := rfl
def z_table_place_box_entry : table_place_box_entry := ⟨0, z_api_Prefix, z_box_entry⟩

structure table_Table_box_entry where
  l : (List table_place_box_entry)
  room : Int
  n : Int
def z_table_Table_box_entry : table_Table_box_entry := ⟨[], 0, 0⟩

structure box_Box where
  t : table_Table_box_entry
  term : Int
  rate : Int
  burst : Int
def z_box_Box : box_Box := ⟨z_table_Table_box_entry, 0, 0, 0⟩

structure token_Tokens where
  rate : Int
  most : Int
  level : Int
  now : Int
def enc_token_Tokens (x : token_Tokens) : List Value := (.int .i64 x.rate :: (.int .i64 x.most :: (.int .i64 x.level :: [.int .i64 x.now])))
theorem len_token_Tokens (x : token_Tokens) : (enc_token_Tokens x).length = 4 := rfl
def z_token_Tokens : token_Tokens := ⟨0, 0, 0, 0⟩

structure law22_Act where
  Kind : Int
  P : api_Prefix
  Now : Int
  N : Int
def enc_law22_Act (x : law22_Act) : List Value := (.int .u8 x.Kind :: ((enc_api_Prefix x.P) ++ (.int .i64 x.Now :: [.int .i64 x.N])))
theorem len_law22_Act (x : law22_Act) : (enc_law22_Act x).length = 11 := rfl
def z_law22_Act : law22_Act := ⟨0, z_api_Prefix, 0, 0⟩

structure cursor_Out where
  b : (List Int)
def z_cursor_Out : cursor_Out := ⟨[]⟩

structure blue_bin where
  bytes : Int
  changed : Int
  p : Int
def enc_blue_bin (x : blue_bin) : List Value := (.int .i64 x.bytes :: (.int .i64 x.changed :: [.int .i64 x.p]))
theorem len_blue_bin (x : blue_bin) : (enc_blue_bin x).length = 3 := rfl
def z_blue_bin : blue_bin := ⟨0, 0, 0⟩

structure blue_Blue where
  l : (List blue_bin)
  levels : Int
  bins : Int
  target : Int
  hold : Int
  up : Int
  down : Int
def z_blue_Blue : blue_Blue := ⟨[], 0, 0, 0, 0, 0, 0⟩

structure sketch_Slot where
  Prefix : api_Prefix
  Count : Int
  Err : Int
def enc_sketch_Slot (x : sketch_Slot) : List Value := ((enc_api_Prefix x.Prefix) ++ (.int .i64 x.Count :: [.int .i64 x.Err]))
theorem len_sketch_Slot (x : sketch_Slot) : (enc_sketch_Slot x).length = 10 := rfl
def z_sketch_Slot : sketch_Slot := ⟨z_api_Prefix, 0, 0⟩

structure sketch_Sketch where
  l : (List sketch_Slot)
  total : Int
def z_sketch_Sketch : sketch_Sketch := ⟨[], 0⟩

structure window_Window where
  s : sketch_Sketch
  ns : Int
  threshold : Int
  number : Int
def z_window_Window : window_Window := ⟨z_sketch_Sketch, 0, 0, 0⟩

structure ref31_Op where
  Kind : Int
  T : Int
  Draws : (Tup Int 2)
  B : (List Int)
  Key : (Tup Int 16)
  Prefix : api_Prefix
  Config : config_Config
def z_ref31_Op : ref31_Op := ⟨0, 0, (Tup.rep 0 2), [], (Tup.rep 0 16), z_api_Prefix, z_config_Config⟩

structure ref17_Tokens where
  Rate : Int
  Burst : Int
  Level : Int
  Now : Int
def enc_ref17_Tokens (x : ref17_Tokens) : List Value := (.int .i64 x.Rate :: (.int .i64 x.Burst :: (.int .i64 x.Level :: [.int .i64 x.Now])))
theorem len_ref17_Tokens (x : ref17_Tokens) : (enc_ref17_Tokens x).length = 4 := rfl
def z_ref17_Tokens : ref17_Tokens := ⟨0, 0, 0, 0⟩

structure ref22_Entry where
  P : api_Prefix
  Until : Int
  Tokens : ref17_Tokens
def enc_ref22_Entry (x : ref22_Entry) : List Value := ((enc_api_Prefix x.P) ++ (.int .i64 x.Until :: (enc_ref17_Tokens x.Tokens)))
theorem len_ref22_Entry (x : ref22_Entry) : (enc_ref22_Entry x).length = 13 := rfl
def z_ref22_Entry : ref22_Entry := ⟨z_api_Prefix, 0, z_ref17_Tokens⟩

structure ref22_Box where
  L : (List ref22_Entry)
  Room : Int
  Term : Int
  Rate : Int
  Burst : Int
def z_ref22_Box : ref22_Box := ⟨[], 0, 0, 0, 0⟩

def cl_script_Op (x : script_Op) (l0 : Value) : List Value := (.int .u8 x.Kind :: (.int .i64 x.T :: (((Tup.cells (fun y => [.int .u64 y]) 2) x.Draws) ++ (l0 :: (((Tup.cells (fun y => [.int .u8 y]) 16) x.Key) ++ ((enc_api_Prefix x.Prefix) ++ (enc_config_Config x.Config)))))))
def R_script_Op (C : HL) (g : List Value) (x : script_Op) : Prop := ∃ l0, g = cl_script_Op x l0 ∧ Rd C (fun y => [.int .u8 y]) l0 x.B
theorem up_script_Op : RMono R_script_Op := fun _ _ _ _ s ⟨l0, hg, h0⟩ => ⟨l0, hg, h0.mono s⟩
theorem mk_script_Op {C : HL} {x : script_Op} {l0 : Value} (h0 : Rd C (fun y => [.int .u8 y]) l0 x.B) : R_script_Op C (cl_script_Op x l0) x := ⟨l0, rfl, h0⟩
def cl_table_Table_int (x : table_Table_int) (l0 : Value) : List Value := (l0 :: (.int .i64 x.room :: [.int .i64 x.n]))
def R_table_Table_int (C : HL) (g : List Value) (x : table_Table_int) : Prop := ∃ l0, g = cl_table_Table_int x l0 ∧ Rd C enc_table_place_int l0 x.l
theorem up_table_Table_int : RMono R_table_Table_int := fun _ _ _ _ s ⟨l0, hg, h0⟩ => ⟨l0, hg, h0.mono s⟩
theorem mk_table_Table_int {C : HL} {x : table_Table_int} {l0 : Value} (h0 : Rd C enc_table_place_int l0 x.l) : R_table_Table_int C (cl_table_Table_int x l0) x := ⟨l0, rfl, h0⟩
def cl_table_Table_string (x : table_Table_string) (l0 : Value) : List Value := (l0 :: (.int .i64 x.room :: [.int .i64 x.n]))
def R_table_Table_string (C : HL) (g : List Value) (x : table_Table_string) : Prop := ∃ l0, g = cl_table_Table_string x l0 ∧ Rd C enc_table_place_string l0 x.l
theorem up_table_Table_string : RMono R_table_Table_string := fun _ _ _ _ s ⟨l0, hg, h0⟩ => ⟨l0, hg, h0.mono s⟩
theorem mk_table_Table_string {C : HL} {x : table_Table_string} {l0 : Value} (h0 : Rd C enc_table_place_string l0 x.l) : R_table_Table_string C (cl_table_Table_string x l0) x := ⟨l0, rfl, h0⟩
def cl_table_Table_box_entry (x : table_Table_box_entry) (l0 : Value) : List Value := (l0 :: (.int .i64 x.room :: [.int .i64 x.n]))
def R_table_Table_box_entry (C : HL) (g : List Value) (x : table_Table_box_entry) : Prop := ∃ l0, g = cl_table_Table_box_entry x l0 ∧ Rd C enc_table_place_box_entry l0 x.l
theorem up_table_Table_box_entry : RMono R_table_Table_box_entry := fun _ _ _ _ s ⟨l0, hg, h0⟩ => ⟨l0, hg, h0.mono s⟩
theorem mk_table_Table_box_entry {C : HL} {x : table_Table_box_entry} {l0 : Value} (h0 : Rd C enc_table_place_box_entry l0 x.l) : R_table_Table_box_entry C (cl_table_Table_box_entry x l0) x := ⟨l0, rfl, h0⟩
def cl_cursor_Out (x : cursor_Out) (l0 : Value) : List Value := [l0]
def R_cursor_Out (C : HL) (g : List Value) (x : cursor_Out) : Prop := ∃ l0, g = cl_cursor_Out x l0 ∧ Rd C (fun y => [.int .u8 y]) l0 x.b
theorem up_cursor_Out : RMono R_cursor_Out := fun _ _ _ _ s ⟨l0, hg, h0⟩ => ⟨l0, hg, h0.mono s⟩
theorem mk_cursor_Out {C : HL} {x : cursor_Out} {l0 : Value} (h0 : Rd C (fun y => [.int .u8 y]) l0 x.b) : R_cursor_Out C (cl_cursor_Out x l0) x := ⟨l0, rfl, h0⟩
def cl_blue_Blue (x : blue_Blue) (l0 : Value) : List Value := (l0 :: (.int .i64 x.levels :: (.int .i64 x.bins :: (.int .i64 x.target :: (.int .i64 x.hold :: (.int .i64 x.up :: [.int .i64 x.down]))))))
def R_blue_Blue (C : HL) (g : List Value) (x : blue_Blue) : Prop := ∃ l0, g = cl_blue_Blue x l0 ∧ Rd C enc_blue_bin l0 x.l
theorem up_blue_Blue : RMono R_blue_Blue := fun _ _ _ _ s ⟨l0, hg, h0⟩ => ⟨l0, hg, h0.mono s⟩
theorem mk_blue_Blue {C : HL} {x : blue_Blue} {l0 : Value} (h0 : Rd C enc_blue_bin l0 x.l) : R_blue_Blue C (cl_blue_Blue x l0) x := ⟨l0, rfl, h0⟩
def cl_sketch_Sketch (x : sketch_Sketch) (l0 : Value) : List Value := (l0 :: [.int .i64 x.total])
def R_sketch_Sketch (C : HL) (g : List Value) (x : sketch_Sketch) : Prop := ∃ l0, g = cl_sketch_Sketch x l0 ∧ Rd C enc_sketch_Slot l0 x.l
theorem up_sketch_Sketch : RMono R_sketch_Sketch := fun _ _ _ _ s ⟨l0, hg, h0⟩ => ⟨l0, hg, h0.mono s⟩
theorem mk_sketch_Sketch {C : HL} {x : sketch_Sketch} {l0 : Value} (h0 : Rd C enc_sketch_Slot l0 x.l) : R_sketch_Sketch C (cl_sketch_Sketch x l0) x := ⟨l0, rfl, h0⟩
def cl_ref31_Op (x : ref31_Op) (l0 : Value) : List Value := (.int .u8 x.Kind :: (.int .i64 x.T :: (((Tup.cells (fun y => [.int .u64 y]) 2) x.Draws) ++ (l0 :: (((Tup.cells (fun y => [.int .u8 y]) 16) x.Key) ++ ((enc_api_Prefix x.Prefix) ++ (enc_config_Config x.Config)))))))
def R_ref31_Op (C : HL) (g : List Value) (x : ref31_Op) : Prop := ∃ l0, g = cl_ref31_Op x l0 ∧ Rd C (fun y => [.int .u8 y]) l0 x.B
theorem up_ref31_Op : RMono R_ref31_Op := fun _ _ _ _ s ⟨l0, hg, h0⟩ => ⟨l0, hg, h0.mono s⟩
theorem mk_ref31_Op {C : HL} {x : ref31_Op} {l0 : Value} (h0 : Rd C (fun y => [.int .u8 y]) l0 x.B) : R_ref31_Op C (cl_ref31_Op x l0) x := ⟨l0, rfl, h0⟩
def cl_ref22_Box (x : ref22_Box) (l0 : Value) : List Value := (l0 :: (.int .i64 x.Room :: (.int .i64 x.Term :: (.int .i64 x.Rate :: [.int .i64 x.Burst]))))
def R_ref22_Box (C : HL) (g : List Value) (x : ref22_Box) : Prop := ∃ l0, g = cl_ref22_Box x l0 ∧ Rd C enc_ref22_Entry l0 x.L
theorem up_ref22_Box : RMono R_ref22_Box := fun _ _ _ _ s ⟨l0, hg, h0⟩ => ⟨l0, hg, h0.mono s⟩
theorem mk_ref22_Box {C : HL} {x : ref22_Box} {l0 : Value} (h0 : Rd C enc_ref22_Entry l0 x.L) : R_ref22_Box C (cl_ref22_Box x l0) x := ⟨l0, rfl, h0⟩
def cl_cursor_In (x : cursor_In) (l0 : Value) : List Value := (l0 :: [.bool x.bad])
def R_cursor_In (C : HL) (g : List Value) (x : cursor_In) : Prop := ∃ l0, g = cl_cursor_In x l0 ∧ Rd C (fun y => [.int .u8 y]) l0 x.b
theorem up_cursor_In : RMono R_cursor_In := fun _ _ _ _ s ⟨l0, hg, h0⟩ => ⟨l0, hg, h0.mono s⟩
theorem mk_cursor_In {C : HL} {x : cursor_In} {l0 : Value} (h0 : Rd C (fun y => [.int .u8 y]) l0 x.b) : R_cursor_In C (cl_cursor_In x l0) x := ⟨l0, rfl, h0⟩
def ob_cursor_In (b : Nat) (x : cursor_In) (h : HL) : Prop := ∃ (v0 : Value) (c0 : HL), h = List.flatten [[blk b (cl_cursor_In x v0) 169], c0] ∧ Ow (fun y => [.int .u8 y]) 1 5 v0 x.b c0
theorem mo_cursor_In {b : Nat} {x : cursor_In} {v0 : Value} {c0 : HL} (f0 : Ow (fun y => [.int .u8 y]) 1 5 v0 x.b c0) : ob_cursor_In b x (List.flatten [[blk b (cl_cursor_In x v0) 169], c0]) := ⟨v0, c0, rfl, f0⟩
def ob_table_Table_int (b : Nat) (x : table_Table_int) (h : HL) : Prop := ∃ (v0 : Value) (c0 : HL), h = List.flatten [[blk b (cl_table_Table_int x v0) 117], c0] ∧ Ow enc_table_place_int 10 121 v0 x.l c0
theorem mo_table_Table_int {b : Nat} {x : table_Table_int} {v0 : Value} {c0 : HL} (f0 : Ow enc_table_place_int 10 121 v0 x.l c0) : ob_table_Table_int b x (List.flatten [[blk b (cl_table_Table_int x v0) 117], c0]) := ⟨v0, c0, rfl, f0⟩
abbrev ob_sip_state (b : Nat) (x : sip_state) (h : HL) : Prop := obF enc_sip_state 199 b x h
def ob_table_Table_string (b : Nat) (x : table_Table_string) (h : HL) : Prop := ∃ (v0 : Value) (c0 : HL), h = List.flatten [[blk b (cl_table_Table_string x v0) 129], c0] ∧ Ow enc_table_place_string 10 131 v0 x.l c0
theorem mo_table_Table_string {b : Nat} {x : table_Table_string} {v0 : Value} {c0 : HL} (f0 : Ow enc_table_place_string 10 131 v0 x.l c0) : ob_table_Table_string b x (List.flatten [[blk b (cl_table_Table_string x v0) 129], c0]) := ⟨v0, c0, rfl, f0⟩
def ob_table_Table_box_entry (b : Nat) (x : table_Table_box_entry) (h : HL) : Prop := ∃ (v0 : Value) (c0 : HL), h = List.flatten [[blk b (cl_table_Table_box_entry x v0) 181], c0] ∧ Ow enc_table_place_box_entry 11 185 v0 x.l c0
theorem mo_table_Table_box_entry {b : Nat} {x : table_Table_box_entry} {v0 : Value} {c0 : HL} (f0 : Ow enc_table_place_box_entry 11 185 v0 x.l c0) : ob_table_Table_box_entry b x (List.flatten [[blk b (cl_table_Table_box_entry x v0) 181], c0]) := ⟨v0, c0, rfl, f0⟩
def cl_box_Box (x : box_Box) (l0 : Value) : List Value := (l0 :: (.int .i64 x.term :: (.int .i64 x.rate :: [.int .i64 x.burst])))
def ob_box_Box (b : Nat) (x : box_Box) (h : HL) : Prop := ∃ (b0 : Nat) (h0 : HL), h = List.flatten [[blk b (cl_box_Box x (ptr b0 0)) 141], h0] ∧ ob_table_Table_box_entry b0 x.t h0
theorem mo_box_Box {b : Nat} {x : box_Box} {b0 : Nat} {h0 : HL} (f0 : ob_table_Table_box_entry b0 x.t h0) : ob_box_Box b x (List.flatten [[blk b (cl_box_Box x (ptr b0 0)) 141], h0]) := ⟨b0, h0, rfl, f0⟩
abbrev ob_token_Tokens (b : Nat) (x : token_Tokens) (h : HL) : Prop := obF enc_token_Tokens 183 b x h
def ob_cursor_Out (b : Nat) (x : cursor_Out) (h : HL) : Prop := ∃ (v0 : Value) (c0 : HL), h = List.flatten [[blk b (cl_cursor_Out x v0) 101], c0] ∧ Ow (fun y => [.int .u8 y]) 1 5 v0 x.b c0
theorem mo_cursor_Out {b : Nat} {x : cursor_Out} {v0 : Value} {c0 : HL} (f0 : Ow (fun y => [.int .u8 y]) 1 5 v0 x.b c0) : ob_cursor_Out b x (List.flatten [[blk b (cl_cursor_Out x v0) 101], c0]) := ⟨v0, c0, rfl, f0⟩
def ob_blue_Blue (b : Nat) (x : blue_Blue) (h : HL) : Prop := ∃ (v0 : Value) (c0 : HL), h = List.flatten [[blk b (cl_blue_Blue x v0) 229], c0] ∧ Ow enc_blue_bin 3 254 v0 x.l c0
theorem mo_blue_Blue {b : Nat} {x : blue_Blue} {v0 : Value} {c0 : HL} (f0 : Ow enc_blue_bin 3 254 v0 x.l c0) : ob_blue_Blue b x (List.flatten [[blk b (cl_blue_Blue x v0) 229], c0]) := ⟨v0, c0, rfl, f0⟩
def ob_sketch_Sketch (b : Nat) (x : sketch_Sketch) (h : HL) : Prop := ∃ (v0 : Value) (c0 : HL), h = List.flatten [[blk b (cl_sketch_Sketch x v0) 237], c0] ∧ Ow enc_sketch_Slot 10 256 v0 x.l c0
theorem mo_sketch_Sketch {b : Nat} {x : sketch_Sketch} {v0 : Value} {c0 : HL} (f0 : Ow enc_sketch_Slot 10 256 v0 x.l c0) : ob_sketch_Sketch b x (List.flatten [[blk b (cl_sketch_Sketch x v0) 237], c0]) := ⟨v0, c0, rfl, f0⟩
def cl_window_Window (x : window_Window) (l0 : Value) : List Value := (l0 :: (.int .i64 x.ns :: (.int .i64 x.threshold :: [.int .i64 x.number])))
def ob_window_Window (b : Nat) (x : window_Window) (h : HL) : Prop := ∃ (b0 : Nat) (h0 : HL), h = List.flatten [[blk b (cl_window_Window x (ptr b0 0)) 234], h0] ∧ ob_sketch_Sketch b0 x.s h0
theorem mo_window_Window {b : Nat} {x : window_Window} {b0 : Nat} {h0 : HL} (f0 : ob_sketch_Sketch b0 x.s h0) : ob_window_Window b x (List.flatten [[blk b (cl_window_Window x (ptr b0 0)) 234], h0]) := ⟨b0, h0, rfl, f0⟩
theorem ae_40 : arrEl Try.prog 40 = some (7, 5, 1) := by kernel_rfl
theorem ae_94 : arrEl Try.prog 94 = some (2, 68, 1) := by kernel_rfl
theorem ae_95 : arrEl Try.prog 95 = some (16, 5, 1) := by kernel_rfl
theorem ag_105 : aggB Try.prog 105 = some true := by kernel_rfl
theorem ag_107 : aggB Try.prog 107 = some true := by kernel_rfl
theorem ag_115 : aggB Try.prog 115 = some false := by kernel_rfl
theorem ag_121 : aggB Try.prog 121 = some true := by kernel_rfl
theorem ag_127 : aggB Try.prog 127 = some false := by kernel_rfl
theorem ag_131 : aggB Try.prog 131 = some true := by kernel_rfl
theorem ag_132 : aggB Try.prog 132 = some false := by kernel_rfl
theorem ag_135 : aggB Try.prog 135 = some false := by kernel_rfl
theorem ag_137 : aggB Try.prog 137 = some true := by kernel_rfl
theorem ag_149 : aggB Try.prog 149 = some true := by kernel_rfl
theorem ag_154 : aggB Try.prog 154 = some true := by kernel_rfl
theorem ag_179 : aggB Try.prog 179 = some false := by kernel_rfl
theorem ag_185 : aggB Try.prog 185 = some true := by kernel_rfl
theorem ag_2 : aggB Try.prog 2 = some false := by kernel_rfl
theorem ag_24 : aggB Try.prog 24 = some false := by kernel_rfl
theorem ag_3 : aggB Try.prog 3 = some false := by kernel_rfl
theorem ag_4 : aggB Try.prog 4 = some false := by kernel_rfl
theorem ag_42 : aggB Try.prog 42 = some true := by kernel_rfl
theorem ag_49 : aggB Try.prog 49 = some true := by kernel_rfl
theorem ag_5 : aggB Try.prog 5 = some false := by kernel_rfl
theorem ag_68 : aggB Try.prog 68 = some false := by kernel_rfl
theorem ag_83 : aggB Try.prog 83 = some false := by kernel_rfl
theorem ag_85 : aggB Try.prog 85 = some true := by kernel_rfl
theorem ag_9 : aggB Try.prog 9 = some false := by kernel_rfl
theorem ag_94 : aggB Try.prog 94 = some true := by kernel_rfl
theorem ag_95 : aggB Try.prog 95 = some true := by kernel_rfl
theorem ag_97 : aggB Try.prog 97 = some true := by kernel_rfl
theorem ag_99 : aggB Try.prog 99 = some true := by kernel_rfl
theorem ck_100 : callOk Try.prog 100 = true := by kernel_rfl
theorem ck_101 : callOk Try.prog 101 = true := by kernel_rfl
theorem ck_102 : callOk Try.prog 102 = true := by kernel_rfl
theorem ck_106 : callOk Try.prog 106 = true := by kernel_rfl
theorem ck_107 : callOk Try.prog 107 = true := by kernel_rfl
theorem ck_108 : callOk Try.prog 108 = true := by kernel_rfl
theorem ck_109 : callOk Try.prog 109 = true := by kernel_rfl
theorem ck_120 : callOk Try.prog 120 = true := by kernel_rfl
theorem ck_121 : callOk Try.prog 121 = true := by kernel_rfl
theorem ck_122 : callOk Try.prog 122 = true := by kernel_rfl
theorem ck_123 : callOk Try.prog 123 = true := by kernel_rfl
theorem ck_124 : callOk Try.prog 124 = true := by kernel_rfl
theorem ck_125 : callOk Try.prog 125 = true := by kernel_rfl
theorem ck_131 : callOk Try.prog 131 = true := by kernel_rfl
theorem ck_132 : callOk Try.prog 132 = true := by kernel_rfl
theorem ck_134 : callOk Try.prog 134 = true := by kernel_rfl
theorem ck_135 : callOk Try.prog 135 = true := by kernel_rfl
theorem ck_136 : callOk Try.prog 136 = true := by kernel_rfl
theorem ck_14 : callOk Try.prog 14 = true := by kernel_rfl
theorem ck_15 : callOk Try.prog 15 = true := by kernel_rfl
theorem ck_16 : callOk Try.prog 16 = true := by kernel_rfl
theorem ck_17 : callOk Try.prog 17 = true := by kernel_rfl
theorem ck_18 : callOk Try.prog 18 = true := by kernel_rfl
theorem ck_19 : callOk Try.prog 19 = true := by kernel_rfl
theorem ck_20 : callOk Try.prog 20 = true := by kernel_rfl
theorem ck_21 : callOk Try.prog 21 = true := by kernel_rfl
theorem ck_22 : callOk Try.prog 22 = true := by kernel_rfl
theorem ck_23 : callOk Try.prog 23 = true := by kernel_rfl
theorem ck_24 : callOk Try.prog 24 = true := by kernel_rfl
theorem ck_25 : callOk Try.prog 25 = true := by kernel_rfl
theorem ck_26 : callOk Try.prog 26 = true := by kernel_rfl
theorem ck_27 : callOk Try.prog 27 = true := by kernel_rfl
theorem ck_28 : callOk Try.prog 28 = true := by kernel_rfl
theorem ck_29 : callOk Try.prog 29 = true := by kernel_rfl
theorem ck_30 : callOk Try.prog 30 = true := by kernel_rfl
theorem ck_31 : callOk Try.prog 31 = true := by kernel_rfl
theorem ck_33 : callOk Try.prog 33 = true := by kernel_rfl
theorem ck_40 : callOk Try.prog 40 = true := by kernel_rfl
theorem ck_41 : callOk Try.prog 41 = true := by kernel_rfl
theorem ck_47 : callOk Try.prog 47 = true := by kernel_rfl
theorem ck_48 : callOk Try.prog 48 = true := by kernel_rfl
theorem ck_49 : callOk Try.prog 49 = true := by kernel_rfl
theorem ck_55 : callOk Try.prog 55 = true := by kernel_rfl
theorem ck_56 : callOk Try.prog 56 = true := by kernel_rfl
theorem ck_57 : callOk Try.prog 57 = true := by kernel_rfl
theorem ck_58 : callOk Try.prog 58 = true := by kernel_rfl
theorem ck_59 : callOk Try.prog 59 = true := by kernel_rfl
theorem ck_60 : callOk Try.prog 60 = true := by kernel_rfl
theorem ck_61 : callOk Try.prog 61 = true := by kernel_rfl
theorem ck_62 : callOk Try.prog 62 = true := by kernel_rfl
theorem ck_63 : callOk Try.prog 63 = true := by kernel_rfl
theorem ck_64 : callOk Try.prog 64 = true := by kernel_rfl
theorem ck_65 : callOk Try.prog 65 = true := by kernel_rfl
theorem ck_66 : callOk Try.prog 66 = true := by kernel_rfl
theorem ck_67 : callOk Try.prog 67 = true := by kernel_rfl
theorem ck_70 : callOk Try.prog 70 = true := by kernel_rfl
theorem ck_71 : callOk Try.prog 71 = true := by kernel_rfl
theorem ck_72 : callOk Try.prog 72 = true := by kernel_rfl
theorem ck_73 : callOk Try.prog 73 = true := by kernel_rfl
theorem ck_74 : callOk Try.prog 74 = true := by kernel_rfl
theorem ck_75 : callOk Try.prog 75 = true := by kernel_rfl
theorem ck_76 : callOk Try.prog 76 = true := by kernel_rfl
theorem ck_77 : callOk Try.prog 77 = true := by kernel_rfl
theorem ck_78 : callOk Try.prog 78 = true := by kernel_rfl
theorem ck_79 : callOk Try.prog 79 = true := by kernel_rfl
theorem ck_80 : callOk Try.prog 80 = true := by kernel_rfl
theorem ck_83 : callOk Try.prog 83 = true := by kernel_rfl
theorem ck_84 : callOk Try.prog 84 = true := by kernel_rfl
theorem ck_91 : callOk Try.prog 91 = true := by kernel_rfl
theorem ck_95 : callOk Try.prog 95 = true := by kernel_rfl
theorem ck_96 : callOk Try.prog 96 = true := by kernel_rfl
theorem ck_97 : callOk Try.prog 97 = true := by kernel_rfl
theorem ck_98 : callOk Try.prog 98 = true := by kernel_rfl
theorem ck_99 : callOk Try.prog 99 = true := by kernel_rfl
theorem cmpf_94 : Extern.find Try.f94 = some Extern.BytealgCompare.compare := by kernel_rfl
theorem cmpo_94 : cmpOk Try.prog 94 = true := by kernel_rfl
theorem fl_85_0 : fldOf Try.prog 85 0 = some (0, 1, false) := by kernel_rfl
theorem fo_101_0 : fOff Try.prog 101 0 = some 0 := by kernel_rfl
theorem fo_105_0 : fOff Try.prog 105 0 = some 0 := by kernel_rfl
theorem fo_105_1 : fOff Try.prog 105 1 = some 1 := by kernel_rfl
theorem fo_105_10 : fOff Try.prog 105 10 = some 10 := by kernel_rfl
theorem fo_105_11 : fOff Try.prog 105 11 = some 11 := by kernel_rfl
theorem fo_105_12 : fOff Try.prog 105 12 = some 12 := by kernel_rfl
theorem fo_105_13 : fOff Try.prog 105 13 = some 13 := by kernel_rfl
theorem fo_105_14 : fOff Try.prog 105 14 = some 14 := by kernel_rfl
theorem fo_105_15 : fOff Try.prog 105 15 = some 15 := by kernel_rfl
theorem fo_105_16 : fOff Try.prog 105 16 = some 16 := by kernel_rfl
theorem fo_105_17 : fOff Try.prog 105 17 = some 17 := by kernel_rfl
theorem fo_105_18 : fOff Try.prog 105 18 = some 18 := by kernel_rfl
theorem fo_105_19 : fOff Try.prog 105 19 = some 19 := by kernel_rfl
theorem fo_105_2 : fOff Try.prog 105 2 = some 2 := by kernel_rfl
theorem fo_105_3 : fOff Try.prog 105 3 = some 3 := by kernel_rfl
theorem fo_105_4 : fOff Try.prog 105 4 = some 4 := by kernel_rfl
theorem fo_105_5 : fOff Try.prog 105 5 = some 5 := by kernel_rfl
theorem fo_105_6 : fOff Try.prog 105 6 = some 6 := by kernel_rfl
theorem fo_105_7 : fOff Try.prog 105 7 = some 7 := by kernel_rfl
theorem fo_105_8 : fOff Try.prog 105 8 = some 8 := by kernel_rfl
theorem fo_105_9 : fOff Try.prog 105 9 = some 9 := by kernel_rfl
theorem fo_107_0 : fOff Try.prog 107 0 = some 0 := by kernel_rfl
theorem fo_107_1 : fOff Try.prog 107 1 = some 1 := by kernel_rfl
theorem fo_107_2 : fOff Try.prog 107 2 = some 2 := by kernel_rfl
theorem fo_107_3 : fOff Try.prog 107 3 = some 4 := by kernel_rfl
theorem fo_107_4 : fOff Try.prog 107 4 = some 5 := by kernel_rfl
theorem fo_107_5 : fOff Try.prog 107 5 = some 21 := by kernel_rfl
theorem fo_107_6 : fOff Try.prog 107 6 = some 29 := by kernel_rfl
theorem fo_117_0 : fOff Try.prog 117 0 = some 0 := by kernel_rfl
theorem fo_117_1 : fOff Try.prog 117 1 = some 1 := by kernel_rfl
theorem fo_117_2 : fOff Try.prog 117 2 = some 2 := by kernel_rfl
theorem fo_121_0 : fOff Try.prog 121 0 = some 0 := by kernel_rfl
theorem fo_121_1 : fOff Try.prog 121 1 = some 1 := by kernel_rfl
theorem fo_121_2 : fOff Try.prog 121 2 = some 9 := by kernel_rfl
theorem fo_129_0 : fOff Try.prog 129 0 = some 0 := by kernel_rfl
theorem fo_129_1 : fOff Try.prog 129 1 = some 1 := by kernel_rfl
theorem fo_129_2 : fOff Try.prog 129 2 = some 2 := by kernel_rfl
theorem fo_131_0 : fOff Try.prog 131 0 = some 0 := by kernel_rfl
theorem fo_131_1 : fOff Try.prog 131 1 = some 1 := by kernel_rfl
theorem fo_131_2 : fOff Try.prog 131 2 = some 9 := by kernel_rfl
theorem fo_137_0 : fOff Try.prog 137 0 = some 0 := by kernel_rfl
theorem fo_137_1 : fOff Try.prog 137 1 = some 1 := by kernel_rfl
theorem fo_141_0 : fOff Try.prog 141 0 = some 0 := by kernel_rfl
theorem fo_141_1 : fOff Try.prog 141 1 = some 1 := by kernel_rfl
theorem fo_141_2 : fOff Try.prog 141 2 = some 2 := by kernel_rfl
theorem fo_141_3 : fOff Try.prog 141 3 = some 3 := by kernel_rfl
theorem fo_149_0 : fOff Try.prog 149 0 = some 0 := by kernel_rfl
theorem fo_149_1 : fOff Try.prog 149 1 = some 1 := by kernel_rfl
theorem fo_149_2 : fOff Try.prog 149 2 = some 2 := by kernel_rfl
theorem fo_149_3 : fOff Try.prog 149 3 = some 3 := by kernel_rfl
theorem fo_154_0 : fOff Try.prog 154 0 = some 0 := by kernel_rfl
theorem fo_154_1 : fOff Try.prog 154 1 = some 8 := by kernel_rfl
theorem fo_154_2 : fOff Try.prog 154 2 = some 9 := by kernel_rfl
theorem fo_169_0 : fOff Try.prog 169 0 = some 0 := by kernel_rfl
theorem fo_169_1 : fOff Try.prog 169 1 = some 1 := by kernel_rfl
theorem fo_181_0 : fOff Try.prog 181 0 = some 0 := by kernel_rfl
theorem fo_181_1 : fOff Try.prog 181 1 = some 1 := by kernel_rfl
theorem fo_181_2 : fOff Try.prog 181 2 = some 2 := by kernel_rfl
theorem fo_183_0 : fOff Try.prog 183 0 = some 0 := by kernel_rfl
theorem fo_183_1 : fOff Try.prog 183 1 = some 1 := by kernel_rfl
theorem fo_183_2 : fOff Try.prog 183 2 = some 2 := by kernel_rfl
theorem fo_183_3 : fOff Try.prog 183 3 = some 3 := by kernel_rfl
theorem fo_185_0 : fOff Try.prog 185 0 = some 0 := by kernel_rfl
theorem fo_185_1 : fOff Try.prog 185 1 = some 1 := by kernel_rfl
theorem fo_185_2 : fOff Try.prog 185 2 = some 9 := by kernel_rfl
theorem fo_199_0 : fOff Try.prog 199 0 = some 0 := by kernel_rfl
theorem fo_199_1 : fOff Try.prog 199 1 = some 1 := by kernel_rfl
theorem fo_199_2 : fOff Try.prog 199 2 = some 2 := by kernel_rfl
theorem fo_199_3 : fOff Try.prog 199 3 = some 3 := by kernel_rfl
theorem fo_42_0 : fOff Try.prog 42 0 = some 0 := by kernel_rfl
theorem fo_42_1 : fOff Try.prog 42 1 = some 1 := by kernel_rfl
theorem fo_49_0 : fOff Try.prog 49 0 = some 0 := by kernel_rfl
theorem fo_49_1 : fOff Try.prog 49 1 = some 1 := by kernel_rfl
theorem fo_49_2 : fOff Try.prog 49 2 = some 9 := by kernel_rfl
theorem fo_54_0 : fOff Try.prog 54 0 = some 0 := by kernel_rfl
theorem fo_54_1 : fOff Try.prog 54 1 = some 8 := by kernel_rfl
theorem fo_85_0 : fOff Try.prog 85 0 = some 0 := by kernel_rfl
theorem fo_85_1 : fOff Try.prog 85 1 = some 1 := by kernel_rfl
theorem fo_85_2 : fOff Try.prog 85 2 = some 2 := by kernel_rfl
theorem fo_85_3 : fOff Try.prog 85 3 = some 3 := by kernel_rfl
theorem fo_85_4 : fOff Try.prog 85 4 = some 4 := by kernel_rfl
theorem fo_97_0 : fOff Try.prog 97 0 = some 0 := by kernel_rfl
theorem fo_97_1 : fOff Try.prog 97 1 = some 1 := by kernel_rfl
theorem fo_97_10 : fOff Try.prog 97 10 = some 10 := by kernel_rfl
theorem fo_97_11 : fOff Try.prog 97 11 = some 11 := by kernel_rfl
theorem fo_97_12 : fOff Try.prog 97 12 = some 12 := by kernel_rfl
theorem fo_97_13 : fOff Try.prog 97 13 = some 13 := by kernel_rfl
theorem fo_97_14 : fOff Try.prog 97 14 = some 14 := by kernel_rfl
theorem fo_97_15 : fOff Try.prog 97 15 = some 15 := by kernel_rfl
theorem fo_97_16 : fOff Try.prog 97 16 = some 16 := by kernel_rfl
theorem fo_97_17 : fOff Try.prog 97 17 = some 17 := by kernel_rfl
theorem fo_97_18 : fOff Try.prog 97 18 = some 18 := by kernel_rfl
theorem fo_97_19 : fOff Try.prog 97 19 = some 19 := by kernel_rfl
theorem fo_97_2 : fOff Try.prog 97 2 = some 2 := by kernel_rfl
theorem fo_97_3 : fOff Try.prog 97 3 = some 3 := by kernel_rfl
theorem fo_97_4 : fOff Try.prog 97 4 = some 4 := by kernel_rfl
theorem fo_97_5 : fOff Try.prog 97 5 = some 5 := by kernel_rfl
theorem fo_97_6 : fOff Try.prog 97 6 = some 6 := by kernel_rfl
theorem fo_97_7 : fOff Try.prog 97 7 = some 7 := by kernel_rfl
theorem fo_97_8 : fOff Try.prog 97 8 = some 8 := by kernel_rfl
theorem fo_97_9 : fOff Try.prog 97 9 = some 9 := by kernel_rfl
theorem fo_99_0 : fOff Try.prog 99 0 = some 0 := by kernel_rfl
theorem fo_99_1 : fOff Try.prog 99 1 = some 1 := by kernel_rfl
theorem fo_99_2 : fOff Try.prog 99 2 = some 2 := by kernel_rfl
theorem fo_99_3 : fOff Try.prog 99 3 = some 4 := by kernel_rfl
theorem fo_99_4 : fOff Try.prog 99 4 = some 5 := by kernel_rfl
theorem fo_99_5 : fOff Try.prog 99 5 = some 21 := by kernel_rfl
theorem fo_99_6 : fOff Try.prog 99 6 = some 29 := by kernel_rfl
theorem ii_160 : isInt Try.prog 160 .u16 = true := by kernel_rfl
theorem ii_165 : isInt Try.prog 165 .u64 = true := by kernel_rfl
theorem ii_2 : isInt Try.prog 2 .i64 = true := by kernel_rfl
theorem ii_3 : isInt Try.prog 3 .i64 = true := by kernel_rfl
theorem ii_5 : isInt Try.prog 5 .u8 = true := by kernel_rfl
theorem ii_68 : isInt Try.prog 68 .u64 = true := by kernel_rfl
theorem ik_3 : intK Try.prog 3 = true := by kernel_rfl
theorem mix_ : Try.prog.follows .mixedOrders = true := by kernel_rfl
theorem se_115 : sliceEl Try.prog 115 = some (121, 10, 24) := by kernel_rfl
theorem se_127 : sliceEl Try.prog 127 = some (131, 10, 32) := by kernel_rfl
theorem se_179 : sliceEl Try.prog 179 = some (185, 11, 32) := by kernel_rfl
theorem se_195 : sliceEl Try.prog 195 = some (24, 1, 24) := by kernel_rfl
theorem se_22 : sliceEl Try.prog 22 = some (99, 49, 240) := by kernel_rfl
theorem se_227 : sliceEl Try.prog 227 = some (254, 3, 24) := by kernel_rfl
theorem se_235 : sliceEl Try.prog 235 = some (256, 10, 24) := by kernel_rfl
theorem se_24 : sliceEl Try.prog 24 = some (5, 1, 1) := by kernel_rfl
theorem se_30 : sliceEl Try.prog 30 = some (107, 49, 240) := by kernel_rfl
theorem se_35 : sliceEl Try.prog 35 = some (49, 10, 24) := by kernel_rfl
theorem se_44 : sliceEl Try.prog 44 = some (42, 8, 8) := by kernel_rfl
theorem se_47 : sliceEl Try.prog 47 = some (54, 9, 16) := by kernel_rfl
theorem se_77 : sliceEl Try.prog 77 = some (2, 1, 8) := by kernel_rfl
theorem se_83 : sliceEl Try.prog 83 = some (154, 13, 48) := by kernel_rfl
theorem sz_105 : szOf Try.prog 105 = some 20 := by kernel_rfl
theorem sz_107 : szOf Try.prog 107 = some 49 := by kernel_rfl
theorem sz_121 : szOf Try.prog 121 = some 10 := by kernel_rfl
theorem sz_131 : szOf Try.prog 131 = some 10 := by kernel_rfl
theorem sz_137 : szOf Try.prog 137 = some 2 := by kernel_rfl
theorem sz_149 : szOf Try.prog 149 = some 4 := by kernel_rfl
theorem sz_154 : szOf Try.prog 154 = some 13 := by kernel_rfl
theorem sz_185 : szOf Try.prog 185 = some 11 := by kernel_rfl
theorem sz_2 : szOf Try.prog 2 = some 1 := by kernel_rfl
theorem sz_24 : szOf Try.prog 24 = some 1 := by kernel_rfl
theorem sz_3 : szOf Try.prog 3 = some 1 := by kernel_rfl
theorem sz_4 : szOf Try.prog 4 = some 1 := by kernel_rfl
theorem sz_42 : szOf Try.prog 42 = some 8 := by kernel_rfl
theorem sz_49 : szOf Try.prog 49 = some 10 := by kernel_rfl
theorem sz_68 : szOf Try.prog 68 = some 1 := by kernel_rfl
theorem sz_83 : szOf Try.prog 83 = some 1 := by kernel_rfl
theorem sz_85 : szOf Try.prog 85 = some 5 := by kernel_rfl
theorem sz_9 : szOf Try.prog 9 = some 1 := by kernel_rfl
theorem sz_94 : szOf Try.prog 94 = some 2 := by kernel_rfl
theorem sz_95 : szOf Try.prog 95 = some 16 := by kernel_rfl
theorem sz_97 : szOf Try.prog 97 = some 20 := by kernel_rfl
theorem sz_99 : szOf Try.prog 99 = some 49 := by kernel_rfl
theorem ub_4 : Try.prog.underlying 4 = some .bool := by kernel_rfl
theorem un_103 : Try.prog.underlying 103 = some (.pointer 101) := by kernel_rfl
theorem un_111 : Try.prog.underlying 111 = some (.pointer 169) := by kernel_rfl
theorem un_132 : Try.prog.underlying 132 = some (.pointer 181) := by kernel_rfl
theorem un_135 : Try.prog.underlying 135 = some (.pointer 183) := by kernel_rfl
theorem un_36 : Try.prog.underlying 36 = some (.pointer 117) := by kernel_rfl
theorem un_61 : Try.prog.underlying 61 = some (.pointer 129) := by kernel_rfl
theorem un_69 : Try.prog.underlying 69 = some (.pointer 141) := by kernel_rfl
theorem us_160 : (Try.prog.underlying 160).isSome = true := by kernel_rfl
theorem us_2 : (Try.prog.underlying 2).isSome = true := by kernel_rfl
theorem us_3 : (Try.prog.underlying 3).isSome = true := by kernel_rfl
theorem us_5 : (Try.prog.underlying 5).isSome = true := by kernel_rfl
theorem us_68 : (Try.prog.underlying 68).isSome = true := by kernel_rfl
theorem us_75 : (Try.prog.underlying 75).isSome = true := by kernel_rfl
theorem zc_101 : zCells Try.prog 101 = some ((cl_cursor_Out (⟨[]⟩ : cursor_Out) (.slice none 0 0))) := by kernel_rfl
theorem zc_107 : zCells Try.prog 107 = some ((cl_ref31_Op (⟨0, 0, (Tup.rep 0 2), [], (Tup.rep 0 16), z_api_Prefix, z_config_Config⟩ : ref31_Op) (.slice none 0 0))) := by kernel_rfl
theorem zc_121 : zCells Try.prog 121 = some ((enc_table_place_int z_table_place_int)) := by kernel_rfl
theorem zc_131 : zCells Try.prog 131 = some ((enc_table_place_string z_table_place_string)) := by kernel_rfl
theorem zc_137 : zCells Try.prog 137 = some ((enc_box_entry z_box_entry)) := by kernel_rfl
theorem zc_149 : zCells Try.prog 149 = some ((enc_ref17_Tokens z_ref17_Tokens)) := by kernel_rfl
theorem zc_154 : zCells Try.prog 154 = some ((enc_ref22_Entry z_ref22_Entry)) := by kernel_rfl
theorem zc_185 : zCells Try.prog 185 = some ((enc_table_place_box_entry z_table_place_box_entry)) := by kernel_rfl
theorem zc_254 : zCells Try.prog 254 = some ((enc_blue_bin z_blue_bin)) := by kernel_rfl
theorem zc_256 : zCells Try.prog 256 = some ((enc_sketch_Slot z_sketch_Slot)) := by kernel_rfl
theorem zc_42 : zCells Try.prog 42 = some ((enc_api_Prefix z_api_Prefix)) := by kernel_rfl
theorem zc_49 : zCells Try.prog 49 = some ((enc_law21_Act z_law21_Act)) := by kernel_rfl
theorem zc_5 : zCells Try.prog 5 = some ([.int .u8 0]) := by kernel_rfl
theorem zc_54 : zCells Try.prog 54 = some ((enc_ref21_Entry z_ref21_Entry)) := by kernel_rfl
theorem zc_85 : zCells Try.prog 85 = some ((cl_ref22_Box (⟨[], 0, 0, 0, 0⟩ : ref22_Box) (.slice none 0 0))) := by kernel_rfl
theorem zc_97 : zCells Try.prog 97 = some ((enc_config_Config z_config_Config)) := by kernel_rfl
theorem zc_99 : zCells Try.prog 99 = some ((cl_script_Op (⟨0, 0, (Tup.rep 0 2), [], (Tup.rep 0 16), z_api_Prefix, z_config_Config⟩ : script_Op) (.slice none 0 0))) := by kernel_rfl
def eqB_api_Prefix (x y : api_Prefix) : Bool := ((fun a b : Bool => a == b) x.V6 y.V6 && ((Tup.eqB (fun a b : Int => a == b) 7) x.Addr y.Addr && true))
theorem eqD_api_Prefix (x y : api_Prefix) : eqB_api_Prefix x y = decide (x = y) := by
  obtain ⟨a0, a1⟩ := x
  obtain ⟨b0, b1⟩ := y
  simp only [eqB_api_Prefix, beqB _ _, (Tup.eqB_dec beqI 7) _ _]
  simp
theorem eqF_42 : EqOk Try.prog 42 enc_api_Prefix := EqOk.of (by kernel_rfl) (by kernel_rfl) (fun _ => by kernel_rfl) (fun x y => (show cmpB Try.prog 10000 42 (enc_api_Prefix x) (enc_api_Prefix y) = eqB_api_Prefix x y by kernel_rfl).trans (eqD_api_Prefix x y))
end Go.Proofs
