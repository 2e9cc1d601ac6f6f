/- The program's plain structs as Lean structures; their cells in memory, part by part. No program in sight. Written by gen_data.py. -/
import Derived.Test.YtkiindgcbpkddaaMem
set_option linter.unusedSimpArgs false
set_option linter.unusedVariables false
namespace Go.Proofs.Ytkiindgcbpkddaa
open Go.RowKit

def i64 (n : Int) : Prop := -9223372036854775808 ≤ n ∧ n ≤ 9223372036854775807
def byteV (b : UInt8) : Value := .int .u8 (b.toNat : Int)
structure Hash where
  l : List UInt8
  len : l.length = 32
  deriving DecidableEq
def Hash.arr (h : Hash) : Array Value := (h.l.map byteV).toArray
@[simp] theorem Hash.size_arr (h : Hash) : h.arr.size = 32 := by simp [Hash.arr, h.len]
@[simp] theorem Hash.length_arr (h : Hash) : h.arr.toList.length = 32 := by simp [Hash.arr, h.len]
theorem Hash.arr_get (h : Hash) (i : Nat) (hi : i < 32) : h.arr[i]? = some (byteV (h.l[i]'(by rw [h.len]; exact hi))) := by
  simp [Hash.arr, List.getElem?_eq_getElem (show i < h.l.length by rw [h.len]; exact hi)]
structure Sl where
  a : Option Addr
  n : Nat
  c : Nat
  deriving DecidableEq
theorem one_Hash (h : Hash) : ∀ v ∈ h.arr.toList, v.oneCell' = true := by
  intro v hv; simp [Hash.arr] at hv; obtain ⟨b, _, rfl⟩ := hv; rfl
def Hash.zero : Hash := ⟨List.replicate 32 0, by simp⟩
theorem ext_mid (A C : List Value) (b : Array Value) (o n e : Nat) (hA : A.length = o) (hb : b.size = n) (he : e = o + n) : (A ++ (b.toList ++ C)).toArray.extract o e = b := by
  subst hA hb he
  apply Array.ext'
  simp [List.extract_eq_take_drop, List.take_append]
theorem arr_of_ext {a b : Array Value} {o n k : Nat} {v : Value} (h : a.extract o n = b) (i : Nat) (hi : i = o + k) (hk : k + o < n) (hv : b[k]? = some v) : a[i]? = some v := by
  subst h hi
  rw [Array.getElem?_extract] at hv
  split at hv
  · exact hv
  · simp at hv
theorem Hash.ext' {a b : Hash} (h : a.l = b.l) : a = b := by cases a; cases b; simp_all

structure Outpoint where
  tx : Hash
  n : Int
  deriving DecidableEq
def Outpoint.arr (x : Outpoint) : Array Value := (x.tx.arr.toList ++ [Value.int .i64 x.n]).toArray
def Outpoint.zero : Outpoint := { tx := Hash.zero, n := 0 }
@[simp] theorem Outpoint.ext_all (x : Outpoint) : x.arr.extract 0 33 = x.arr := by rw [show 33 = x.arr.size by simp [Outpoint.arr]]; exact Array.extract_size
theorem one_Outpoint (x : Outpoint) : ∀ v ∈ x.arr.toList, v.oneCell' = true := by
  show ∀ v ∈ (x.tx.arr.toList ++ [Value.int .i64 x.n] : List Value), v.oneCell' = true
  intro v hv
  simp only [List.mem_append] at hv
  rcases hv with h0 | h1
  · exact one_Hash _ v h0
  · simp only [List.mem_cons, List.not_mem_nil, or_false] at h1
    rcases h1 with rfl <;> rfl
def Outpoint.wf (x : Outpoint) : Prop := i64 x.n
@[simp] theorem Outpoint.size_arr (x : Outpoint) : x.arr.size = 33 := by simp [Outpoint.arr]
@[simp] theorem Outpoint.length_arr (x : Outpoint) : x.arr.toList.length = 33 := by simp [Outpoint.arr]
@[simp] theorem Outpoint.set_32 (x : Outpoint) (v : Int) : x.arr.setIfInBounds 32 (Value.int .i64 v) = ({ x with n := v } : Outpoint).arr := by
  apply Array.ext'; simp [Outpoint.arr, List.set_append]
@[simp] theorem Outpoint.ext_0 (x : Outpoint) : x.arr.extract 0 32 = x.tx.arr := by
  have h : (x.tx.arr.toList ++ [Value.int .i64 x.n] : List Value) = ([]) ++ (x.tx.arr.toList ++ ([Value.int .i64 x.n])) := by simp only [List.append_assoc, List.append_nil, List.nil_append, List.cons_append]
  unfold Outpoint.arr; rw [h]; exact ext_mid _ _ _ _ 32 _ (by simp) (by simp) rfl
@[simp] theorem Outpoint.arr_32 (x : Outpoint) : x.arr[32]? = some (Value.int .i64 x.n) := by simp [Outpoint.arr, List.getElem?_append, List.getElem?_cons]
@[simp] theorem Outpoint.get_32 (x : Outpoint) (h) : x.arr[32]'h = Value.int .i64 x.n := Option.some.inj (by rw [← Array.getElem?_eq_getElem]; exact Outpoint.arr_32 x)

structure Script where
  kind : Int
  key : Int
  other : Int
  rev : Int
  delay : Int
  expiry : Int
  hash : Hash
  deriving DecidableEq
def Script.arr (x : Script) : Array Value := ([Value.int .i64 x.kind, Value.int .i64 x.key, Value.int .i64 x.other, Value.int .i64 x.rev, Value.int .i64 x.delay, Value.int .i64 x.expiry] ++ x.hash.arr.toList).toArray
def Script.zero : Script := { kind := 0, key := 0, other := 0, rev := 0, delay := 0, expiry := 0, hash := Hash.zero }
@[simp] theorem Script.ext_all (x : Script) : x.arr.extract 0 38 = x.arr := by rw [show 38 = x.arr.size by simp [Script.arr]]; exact Array.extract_size
theorem one_Script (x : Script) : ∀ v ∈ x.arr.toList, v.oneCell' = true := by
  show ∀ v ∈ ([Value.int .i64 x.kind, Value.int .i64 x.key, Value.int .i64 x.other, Value.int .i64 x.rev, Value.int .i64 x.delay, Value.int .i64 x.expiry] ++ x.hash.arr.toList : List Value), v.oneCell' = true
  intro v hv
  simp only [List.mem_append] at hv
  rcases hv with h0 | h1
  · simp only [List.mem_cons, List.not_mem_nil, or_false] at h0
    rcases h0 with rfl | rfl | rfl | rfl | rfl | rfl <;> rfl
  · exact one_Hash _ v h1
def Script.wf (x : Script) : Prop := i64 x.kind ∧ i64 x.key ∧ i64 x.other ∧ i64 x.rev ∧ i64 x.delay ∧ i64 x.expiry
@[simp] theorem Script.size_arr (x : Script) : x.arr.size = 38 := by simp [Script.arr]
@[simp] theorem Script.length_arr (x : Script) : x.arr.toList.length = 38 := by simp [Script.arr]
@[simp] theorem Script.set_0 (x : Script) (v : Int) : x.arr.setIfInBounds 0 (Value.int .i64 v) = ({ x with kind := v } : Script).arr := by
  apply Array.ext'; simp [Script.arr, List.set_append]
@[simp] theorem Script.set_1 (x : Script) (v : Int) : x.arr.setIfInBounds 1 (Value.int .i64 v) = ({ x with key := v } : Script).arr := by
  apply Array.ext'; simp [Script.arr, List.set_append]
@[simp] theorem Script.set_2 (x : Script) (v : Int) : x.arr.setIfInBounds 2 (Value.int .i64 v) = ({ x with other := v } : Script).arr := by
  apply Array.ext'; simp [Script.arr, List.set_append]
@[simp] theorem Script.set_3 (x : Script) (v : Int) : x.arr.setIfInBounds 3 (Value.int .i64 v) = ({ x with rev := v } : Script).arr := by
  apply Array.ext'; simp [Script.arr, List.set_append]
@[simp] theorem Script.set_4 (x : Script) (v : Int) : x.arr.setIfInBounds 4 (Value.int .i64 v) = ({ x with delay := v } : Script).arr := by
  apply Array.ext'; simp [Script.arr, List.set_append]
@[simp] theorem Script.set_5 (x : Script) (v : Int) : x.arr.setIfInBounds 5 (Value.int .i64 v) = ({ x with expiry := v } : Script).arr := by
  apply Array.ext'; simp [Script.arr, List.set_append]
@[simp] theorem Script.arr_0 (x : Script) : x.arr[0]? = some (Value.int .i64 x.kind) := by simp [Script.arr, List.getElem?_append, List.getElem?_cons]
@[simp] theorem Script.get_0 (x : Script) (h) : x.arr[0]'h = Value.int .i64 x.kind := Option.some.inj (by rw [← Array.getElem?_eq_getElem]; exact Script.arr_0 x)
@[simp] theorem Script.arr_1 (x : Script) : x.arr[1]? = some (Value.int .i64 x.key) := by simp [Script.arr, List.getElem?_append, List.getElem?_cons]
@[simp] theorem Script.get_1 (x : Script) (h) : x.arr[1]'h = Value.int .i64 x.key := Option.some.inj (by rw [← Array.getElem?_eq_getElem]; exact Script.arr_1 x)
@[simp] theorem Script.arr_2 (x : Script) : x.arr[2]? = some (Value.int .i64 x.other) := by simp [Script.arr, List.getElem?_append, List.getElem?_cons]
@[simp] theorem Script.get_2 (x : Script) (h) : x.arr[2]'h = Value.int .i64 x.other := Option.some.inj (by rw [← Array.getElem?_eq_getElem]; exact Script.arr_2 x)
@[simp] theorem Script.arr_3 (x : Script) : x.arr[3]? = some (Value.int .i64 x.rev) := by simp [Script.arr, List.getElem?_append, List.getElem?_cons]
@[simp] theorem Script.get_3 (x : Script) (h) : x.arr[3]'h = Value.int .i64 x.rev := Option.some.inj (by rw [← Array.getElem?_eq_getElem]; exact Script.arr_3 x)
@[simp] theorem Script.arr_4 (x : Script) : x.arr[4]? = some (Value.int .i64 x.delay) := by simp [Script.arr, List.getElem?_append, List.getElem?_cons]
@[simp] theorem Script.get_4 (x : Script) (h) : x.arr[4]'h = Value.int .i64 x.delay := Option.some.inj (by rw [← Array.getElem?_eq_getElem]; exact Script.arr_4 x)
@[simp] theorem Script.arr_5 (x : Script) : x.arr[5]? = some (Value.int .i64 x.expiry) := by simp [Script.arr, List.getElem?_append, List.getElem?_cons]
@[simp] theorem Script.get_5 (x : Script) (h) : x.arr[5]'h = Value.int .i64 x.expiry := Option.some.inj (by rw [← Array.getElem?_eq_getElem]; exact Script.arr_5 x)
@[simp] theorem Script.ext_6 (x : Script) : x.arr.extract 6 38 = x.hash.arr := by
  have h : ([Value.int .i64 x.kind, Value.int .i64 x.key, Value.int .i64 x.other, Value.int .i64 x.rev, Value.int .i64 x.delay, Value.int .i64 x.expiry] ++ x.hash.arr.toList : List Value) = ([Value.int .i64 x.kind, Value.int .i64 x.key, Value.int .i64 x.other, Value.int .i64 x.rev, Value.int .i64 x.delay, Value.int .i64 x.expiry]) ++ (x.hash.arr.toList ++ ([])) := by simp only [List.append_assoc, List.append_nil, List.nil_append, List.cons_append]
  unfold Script.arr; rw [h]; exact ext_mid _ _ _ _ 32 _ (by simp) (by simp) rfl

structure Witness where
  kind : Int
  key : Int
  pre : ByteArray
  deriving DecidableEq
def Witness.arr (x : Witness) : Array Value := ([Value.int .i64 x.kind, Value.int .i64 x.key, Value.string x.pre]).toArray
def Witness.zero : Witness := { kind := 0, key := 0, pre := ByteArray.empty }
@[simp] theorem Witness.ext_all (x : Witness) : x.arr.extract 0 3 = x.arr := by rw [show 3 = x.arr.size by simp [Witness.arr]]; exact Array.extract_size
theorem one_Witness (x : Witness) : ∀ v ∈ x.arr.toList, v.oneCell' = true := by
  show ∀ v ∈ ([Value.int .i64 x.kind, Value.int .i64 x.key, Value.string x.pre] : List Value), v.oneCell' = true
  intro v hv
  have h0 := hv
  · simp only [List.mem_cons, List.not_mem_nil, or_false] at h0
    rcases h0 with rfl | rfl | rfl <;> rfl
def Witness.wf (x : Witness) : Prop := i64 x.kind ∧ i64 x.key ∧ x.pre.size ≤ maxLen
@[simp] theorem Witness.size_arr (x : Witness) : x.arr.size = 3 := by simp [Witness.arr]
@[simp] theorem Witness.length_arr (x : Witness) : x.arr.toList.length = 3 := by simp [Witness.arr]
@[simp] theorem Witness.set_0 (x : Witness) (v : Int) : x.arr.setIfInBounds 0 (Value.int .i64 v) = ({ x with kind := v } : Witness).arr := by
  apply Array.ext'; simp [Witness.arr, List.set_append]
@[simp] theorem Witness.set_1 (x : Witness) (v : Int) : x.arr.setIfInBounds 1 (Value.int .i64 v) = ({ x with key := v } : Witness).arr := by
  apply Array.ext'; simp [Witness.arr, List.set_append]
@[simp] theorem Witness.set_2 (x : Witness) (v : ByteArray) : x.arr.setIfInBounds 2 (Value.string v) = ({ x with pre := v } : Witness).arr := by
  apply Array.ext'; simp [Witness.arr, List.set_append]
@[simp] theorem Witness.arr_0 (x : Witness) : x.arr[0]? = some (Value.int .i64 x.kind) := by simp [Witness.arr, List.getElem?_append, List.getElem?_cons]
@[simp] theorem Witness.get_0 (x : Witness) (h) : x.arr[0]'h = Value.int .i64 x.kind := Option.some.inj (by rw [← Array.getElem?_eq_getElem]; exact Witness.arr_0 x)
@[simp] theorem Witness.arr_1 (x : Witness) : x.arr[1]? = some (Value.int .i64 x.key) := by simp [Witness.arr, List.getElem?_append, List.getElem?_cons]
@[simp] theorem Witness.get_1 (x : Witness) (h) : x.arr[1]'h = Value.int .i64 x.key := Option.some.inj (by rw [← Array.getElem?_eq_getElem]; exact Witness.arr_1 x)
@[simp] theorem Witness.arr_2 (x : Witness) : x.arr[2]? = some (Value.string x.pre) := by simp [Witness.arr, List.getElem?_append, List.getElem?_cons]
@[simp] theorem Witness.get_2 (x : Witness) (h) : x.arr[2]'h = Value.string x.pre := Option.some.inj (by rw [← Array.getElem?_eq_getElem]; exact Witness.arr_2 x)

structure In where
  prev : Outpoint
  seq : Int
  wit : Witness
  deriving DecidableEq
def In.arr (x : In) : Array Value := (x.prev.arr.toList ++ [Value.int .i64 x.seq] ++ x.wit.arr.toList).toArray
def In.zero : In := { prev := Outpoint.zero, seq := 0, wit := Witness.zero }
@[simp] theorem In.ext_all (x : In) : x.arr.extract 0 37 = x.arr := by rw [show 37 = x.arr.size by simp [In.arr]]; exact Array.extract_size
theorem one_In (x : In) : ∀ v ∈ x.arr.toList, v.oneCell' = true := by
  show ∀ v ∈ (x.prev.arr.toList ++ [Value.int .i64 x.seq] ++ x.wit.arr.toList : List Value), v.oneCell' = true
  intro v hv
  simp only [List.mem_append] at hv
  rcases hv with (h0 | h1) | h2
  · exact one_Outpoint _ v h0
  · simp only [List.mem_cons, List.not_mem_nil, or_false] at h1
    rcases h1 with rfl <;> rfl
  · exact one_Witness _ v h2
def In.wf (x : In) : Prop := x.prev.wf ∧ i64 x.seq ∧ x.wit.wf
@[simp] theorem In.size_arr (x : In) : x.arr.size = 37 := by simp [In.arr]
@[simp] theorem In.length_arr (x : In) : x.arr.toList.length = 37 := by simp [In.arr]
@[simp] theorem In.set_33 (x : In) (v : Int) : x.arr.setIfInBounds 33 (Value.int .i64 v) = ({ x with seq := v } : In).arr := by
  apply Array.ext'; simp [In.arr, List.set_append]
@[simp] theorem In.ext_0 (x : In) : x.arr.extract 0 33 = x.prev.arr := by
  have h : (x.prev.arr.toList ++ [Value.int .i64 x.seq] ++ x.wit.arr.toList : List Value) = ([]) ++ (x.prev.arr.toList ++ ([Value.int .i64 x.seq] ++ x.wit.arr.toList)) := by simp only [List.append_assoc, List.append_nil, List.nil_append, List.cons_append]
  unfold In.arr; rw [h]; exact ext_mid _ _ _ _ 33 _ (by simp) (by simp) rfl
@[simp] theorem In.arr_32 (x : In) : x.arr[32]? = some (Value.int .i64 x.prev.n) := arr_of_ext (k := 32) (In.ext_0 x) _ rfl (by decide) (Outpoint.arr_32 _)
@[simp] theorem In.get_32 (x : In) (h) : x.arr[32]'h = Value.int .i64 x.prev.n := Option.some.inj (by rw [← Array.getElem?_eq_getElem]; exact In.arr_32 x)
@[simp] theorem In.arr_33 (x : In) : x.arr[33]? = some (Value.int .i64 x.seq) := by simp [In.arr, List.getElem?_append, List.getElem?_cons]
@[simp] theorem In.get_33 (x : In) (h) : x.arr[33]'h = Value.int .i64 x.seq := Option.some.inj (by rw [← Array.getElem?_eq_getElem]; exact In.arr_33 x)
@[simp] theorem In.ext_34 (x : In) : x.arr.extract 34 37 = x.wit.arr := by
  have h : (x.prev.arr.toList ++ [Value.int .i64 x.seq] ++ x.wit.arr.toList : List Value) = (x.prev.arr.toList ++ [Value.int .i64 x.seq]) ++ (x.wit.arr.toList ++ ([])) := by simp only [List.append_assoc, List.append_nil, List.nil_append, List.cons_append]
  unfold In.arr; rw [h]; exact ext_mid _ _ _ _ 3 _ (by simp) (by simp) rfl
@[simp] theorem In.arr_34 (x : In) : x.arr[34]? = some (Value.int .i64 x.wit.kind) := arr_of_ext (k := 0) (In.ext_34 x) _ rfl (by decide) (Witness.arr_0 _)
@[simp] theorem In.get_34 (x : In) (h) : x.arr[34]'h = Value.int .i64 x.wit.kind := Option.some.inj (by rw [← Array.getElem?_eq_getElem]; exact In.arr_34 x)
@[simp] theorem In.arr_35 (x : In) : x.arr[35]? = some (Value.int .i64 x.wit.key) := arr_of_ext (k := 1) (In.ext_34 x) _ rfl (by decide) (Witness.arr_1 _)
@[simp] theorem In.get_35 (x : In) (h) : x.arr[35]'h = Value.int .i64 x.wit.key := Option.some.inj (by rw [← Array.getElem?_eq_getElem]; exact In.arr_35 x)
@[simp] theorem In.arr_36 (x : In) : x.arr[36]? = some (Value.string x.wit.pre) := arr_of_ext (k := 2) (In.ext_34 x) _ rfl (by decide) (Witness.arr_2 _)
@[simp] theorem In.get_36 (x : In) (h) : x.arr[36]'h = Value.string x.wit.pre := Option.some.inj (by rw [← Array.getElem?_eq_getElem]; exact In.arr_36 x)

structure Out where
  value : Int
  script : Script
  deriving DecidableEq
def Out.arr (x : Out) : Array Value := ([Value.int .i64 x.value] ++ x.script.arr.toList).toArray
def Out.zero : Out := { value := 0, script := Script.zero }
@[simp] theorem Out.ext_all (x : Out) : x.arr.extract 0 39 = x.arr := by rw [show 39 = x.arr.size by simp [Out.arr]]; exact Array.extract_size
theorem one_Out (x : Out) : ∀ v ∈ x.arr.toList, v.oneCell' = true := by
  show ∀ v ∈ ([Value.int .i64 x.value] ++ x.script.arr.toList : List Value), v.oneCell' = true
  intro v hv
  simp only [List.mem_append] at hv
  rcases hv with h0 | h1
  · simp only [List.mem_cons, List.not_mem_nil, or_false] at h0
    rcases h0 with rfl <;> rfl
  · exact one_Script _ v h1
def Out.wf (x : Out) : Prop := i64 x.value ∧ x.script.wf
@[simp] theorem Out.size_arr (x : Out) : x.arr.size = 39 := by simp [Out.arr]
@[simp] theorem Out.length_arr (x : Out) : x.arr.toList.length = 39 := by simp [Out.arr]
@[simp] theorem Out.set_0 (x : Out) (v : Int) : x.arr.setIfInBounds 0 (Value.int .i64 v) = ({ x with value := v } : Out).arr := by
  apply Array.ext'; simp [Out.arr, List.set_append]
@[simp] theorem Out.arr_0 (x : Out) : x.arr[0]? = some (Value.int .i64 x.value) := by simp [Out.arr, List.getElem?_append, List.getElem?_cons]
@[simp] theorem Out.get_0 (x : Out) (h) : x.arr[0]'h = Value.int .i64 x.value := Option.some.inj (by rw [← Array.getElem?_eq_getElem]; exact Out.arr_0 x)
@[simp] theorem Out.ext_1 (x : Out) : x.arr.extract 1 39 = x.script.arr := by
  have h : ([Value.int .i64 x.value] ++ x.script.arr.toList : List Value) = ([Value.int .i64 x.value]) ++ (x.script.arr.toList ++ ([])) := by simp only [List.append_assoc, List.append_nil, List.nil_append, List.cons_append]
  unfold Out.arr; rw [h]; exact ext_mid _ _ _ _ 38 _ (by simp) (by simp) rfl
@[simp] theorem Out.arr_1 (x : Out) : x.arr[1]? = some (Value.int .i64 x.script.kind) := arr_of_ext (k := 0) (Out.ext_1 x) _ rfl (by decide) (Script.arr_0 _)
@[simp] theorem Out.get_1 (x : Out) (h) : x.arr[1]'h = Value.int .i64 x.script.kind := Option.some.inj (by rw [← Array.getElem?_eq_getElem]; exact Out.arr_1 x)
@[simp] theorem Out.arr_2 (x : Out) : x.arr[2]? = some (Value.int .i64 x.script.key) := arr_of_ext (k := 1) (Out.ext_1 x) _ rfl (by decide) (Script.arr_1 _)
@[simp] theorem Out.get_2 (x : Out) (h) : x.arr[2]'h = Value.int .i64 x.script.key := Option.some.inj (by rw [← Array.getElem?_eq_getElem]; exact Out.arr_2 x)
@[simp] theorem Out.arr_3 (x : Out) : x.arr[3]? = some (Value.int .i64 x.script.other) := arr_of_ext (k := 2) (Out.ext_1 x) _ rfl (by decide) (Script.arr_2 _)
@[simp] theorem Out.get_3 (x : Out) (h) : x.arr[3]'h = Value.int .i64 x.script.other := Option.some.inj (by rw [← Array.getElem?_eq_getElem]; exact Out.arr_3 x)
@[simp] theorem Out.arr_4 (x : Out) : x.arr[4]? = some (Value.int .i64 x.script.rev) := arr_of_ext (k := 3) (Out.ext_1 x) _ rfl (by decide) (Script.arr_3 _)
@[simp] theorem Out.get_4 (x : Out) (h) : x.arr[4]'h = Value.int .i64 x.script.rev := Option.some.inj (by rw [← Array.getElem?_eq_getElem]; exact Out.arr_4 x)
@[simp] theorem Out.arr_5 (x : Out) : x.arr[5]? = some (Value.int .i64 x.script.delay) := arr_of_ext (k := 4) (Out.ext_1 x) _ rfl (by decide) (Script.arr_4 _)
@[simp] theorem Out.get_5 (x : Out) (h) : x.arr[5]'h = Value.int .i64 x.script.delay := Option.some.inj (by rw [← Array.getElem?_eq_getElem]; exact Out.arr_5 x)
@[simp] theorem Out.arr_6 (x : Out) : x.arr[6]? = some (Value.int .i64 x.script.expiry) := arr_of_ext (k := 5) (Out.ext_1 x) _ rfl (by decide) (Script.arr_5 _)
@[simp] theorem Out.get_6 (x : Out) (h) : x.arr[6]'h = Value.int .i64 x.script.expiry := Option.some.inj (by rw [← Array.getElem?_eq_getElem]; exact Out.arr_6 x)

structure Keys where
  wallet : Int
  own : Int
  rev : Int
  deriving DecidableEq
def Keys.arr (x : Keys) : Array Value := ([Value.int .i64 x.wallet, Value.int .i64 x.own, Value.int .i64 x.rev]).toArray
def Keys.zero : Keys := { wallet := 0, own := 0, rev := 0 }
@[simp] theorem Keys.ext_all (x : Keys) : x.arr.extract 0 3 = x.arr := by rw [show 3 = x.arr.size by simp [Keys.arr]]; exact Array.extract_size
theorem one_Keys (x : Keys) : ∀ v ∈ x.arr.toList, v.oneCell' = true := by
  show ∀ v ∈ ([Value.int .i64 x.wallet, Value.int .i64 x.own, Value.int .i64 x.rev] : List Value), v.oneCell' = true
  intro v hv
  have h0 := hv
  · simp only [List.mem_cons, List.not_mem_nil, or_false] at h0
    rcases h0 with rfl | rfl | rfl <;> rfl
def Keys.wf (x : Keys) : Prop := i64 x.wallet ∧ i64 x.own ∧ i64 x.rev
@[simp] theorem Keys.size_arr (x : Keys) : x.arr.size = 3 := by simp [Keys.arr]
@[simp] theorem Keys.length_arr (x : Keys) : x.arr.toList.length = 3 := by simp [Keys.arr]
@[simp] theorem Keys.set_0 (x : Keys) (v : Int) : x.arr.setIfInBounds 0 (Value.int .i64 v) = ({ x with wallet := v } : Keys).arr := by
  apply Array.ext'; simp [Keys.arr, List.set_append]
@[simp] theorem Keys.set_1 (x : Keys) (v : Int) : x.arr.setIfInBounds 1 (Value.int .i64 v) = ({ x with own := v } : Keys).arr := by
  apply Array.ext'; simp [Keys.arr, List.set_append]
@[simp] theorem Keys.set_2 (x : Keys) (v : Int) : x.arr.setIfInBounds 2 (Value.int .i64 v) = ({ x with rev := v } : Keys).arr := by
  apply Array.ext'; simp [Keys.arr, List.set_append]
@[simp] theorem Keys.arr_0 (x : Keys) : x.arr[0]? = some (Value.int .i64 x.wallet) := by simp [Keys.arr, List.getElem?_append, List.getElem?_cons]
@[simp] theorem Keys.get_0 (x : Keys) (h) : x.arr[0]'h = Value.int .i64 x.wallet := Option.some.inj (by rw [← Array.getElem?_eq_getElem]; exact Keys.arr_0 x)
@[simp] theorem Keys.arr_1 (x : Keys) : x.arr[1]? = some (Value.int .i64 x.own) := by simp [Keys.arr, List.getElem?_append, List.getElem?_cons]
@[simp] theorem Keys.get_1 (x : Keys) (h) : x.arr[1]'h = Value.int .i64 x.own := Option.some.inj (by rw [← Array.getElem?_eq_getElem]; exact Keys.arr_1 x)
@[simp] theorem Keys.arr_2 (x : Keys) : x.arr[2]? = some (Value.int .i64 x.rev) := by simp [Keys.arr, List.getElem?_append, List.getElem?_cons]
@[simp] theorem Keys.get_2 (x : Keys) (h) : x.arr[2]'h = Value.int .i64 x.rev := Option.some.inj (by rw [← Array.getElem?_eq_getElem]; exact Keys.arr_2 x)

structure Commit where
  id : Hash
  mine : Bool
  revoked : Bool
  deriving DecidableEq
def Commit.arr (x : Commit) : Array Value := (x.id.arr.toList ++ [Value.bool x.mine, Value.bool x.revoked]).toArray
def Commit.zero : Commit := { id := Hash.zero, mine := false, revoked := false }
@[simp] theorem Commit.ext_all (x : Commit) : x.arr.extract 0 34 = x.arr := by rw [show 34 = x.arr.size by simp [Commit.arr]]; exact Array.extract_size
theorem one_Commit (x : Commit) : ∀ v ∈ x.arr.toList, v.oneCell' = true := by
  show ∀ v ∈ (x.id.arr.toList ++ [Value.bool x.mine, Value.bool x.revoked] : List Value), v.oneCell' = true
  intro v hv
  simp only [List.mem_append] at hv
  rcases hv with h0 | h1
  · exact one_Hash _ v h0
  · simp only [List.mem_cons, List.not_mem_nil, or_false] at h1
    rcases h1 with rfl | rfl <;> rfl
def Commit.wf (x : Commit) : Prop := True
@[simp] theorem Commit.size_arr (x : Commit) : x.arr.size = 34 := by simp [Commit.arr]
@[simp] theorem Commit.length_arr (x : Commit) : x.arr.toList.length = 34 := by simp [Commit.arr]
@[simp] theorem Commit.set_32 (x : Commit) (v : Bool) : x.arr.setIfInBounds 32 (Value.bool v) = ({ x with mine := v } : Commit).arr := by
  apply Array.ext'; simp [Commit.arr, List.set_append]
@[simp] theorem Commit.set_33 (x : Commit) (v : Bool) : x.arr.setIfInBounds 33 (Value.bool v) = ({ x with revoked := v } : Commit).arr := by
  apply Array.ext'; simp [Commit.arr, List.set_append]
@[simp] theorem Commit.ext_0 (x : Commit) : x.arr.extract 0 32 = x.id.arr := by
  have h : (x.id.arr.toList ++ [Value.bool x.mine, Value.bool x.revoked] : List Value) = ([]) ++ (x.id.arr.toList ++ ([Value.bool x.mine, Value.bool x.revoked])) := by simp only [List.append_assoc, List.append_nil, List.nil_append, List.cons_append]
  unfold Commit.arr; rw [h]; exact ext_mid _ _ _ _ 32 _ (by simp) (by simp) rfl
@[simp] theorem Commit.arr_32 (x : Commit) : x.arr[32]? = some (Value.bool x.mine) := by simp [Commit.arr, List.getElem?_append, List.getElem?_cons]
@[simp] theorem Commit.get_32 (x : Commit) (h) : x.arr[32]'h = Value.bool x.mine := Option.some.inj (by rw [← Array.getElem?_eq_getElem]; exact Commit.arr_32 x)
@[simp] theorem Commit.arr_33 (x : Commit) : x.arr[33]? = some (Value.bool x.revoked) := by simp [Commit.arr, List.getElem?_append, List.getElem?_cons]
@[simp] theorem Commit.get_33 (x : Commit) (h) : x.arr[33]'h = Value.bool x.revoked := Option.some.inj (by rw [← Array.getElem?_eq_getElem]; exact Commit.arr_33 x)

structure Claim where
  wit : Witness
  seq : Int
  lock : Int
  wait : Int
  deriving DecidableEq
def Claim.arr (x : Claim) : Array Value := (x.wit.arr.toList ++ [Value.int .i64 x.seq, Value.int .i64 x.lock, Value.int .i64 x.wait]).toArray
def Claim.zero : Claim := { wit := Witness.zero, seq := 0, lock := 0, wait := 0 }
@[simp] theorem Claim.ext_all (x : Claim) : x.arr.extract 0 6 = x.arr := by rw [show 6 = x.arr.size by simp [Claim.arr]]; exact Array.extract_size
theorem one_Claim (x : Claim) : ∀ v ∈ x.arr.toList, v.oneCell' = true := by
  show ∀ v ∈ (x.wit.arr.toList ++ [Value.int .i64 x.seq, Value.int .i64 x.lock, Value.int .i64 x.wait] : List Value), v.oneCell' = true
  intro v hv
  simp only [List.mem_append] at hv
  rcases hv with h0 | h1
  · exact one_Witness _ v h0
  · simp only [List.mem_cons, List.not_mem_nil, or_false] at h1
    rcases h1 with rfl | rfl | rfl <;> rfl
def Claim.wf (x : Claim) : Prop := x.wit.wf ∧ i64 x.seq ∧ i64 x.lock ∧ i64 x.wait
@[simp] theorem Claim.size_arr (x : Claim) : x.arr.size = 6 := by simp [Claim.arr]
@[simp] theorem Claim.length_arr (x : Claim) : x.arr.toList.length = 6 := by simp [Claim.arr]
@[simp] theorem Claim.set_3 (x : Claim) (v : Int) : x.arr.setIfInBounds 3 (Value.int .i64 v) = ({ x with seq := v } : Claim).arr := by
  apply Array.ext'; simp [Claim.arr, List.set_append]
@[simp] theorem Claim.set_4 (x : Claim) (v : Int) : x.arr.setIfInBounds 4 (Value.int .i64 v) = ({ x with lock := v } : Claim).arr := by
  apply Array.ext'; simp [Claim.arr, List.set_append]
@[simp] theorem Claim.set_5 (x : Claim) (v : Int) : x.arr.setIfInBounds 5 (Value.int .i64 v) = ({ x with wait := v } : Claim).arr := by
  apply Array.ext'; simp [Claim.arr, List.set_append]
@[simp] theorem Claim.ext_0 (x : Claim) : x.arr.extract 0 3 = x.wit.arr := by
  have h : (x.wit.arr.toList ++ [Value.int .i64 x.seq, Value.int .i64 x.lock, Value.int .i64 x.wait] : List Value) = ([]) ++ (x.wit.arr.toList ++ ([Value.int .i64 x.seq, Value.int .i64 x.lock, Value.int .i64 x.wait])) := by simp only [List.append_assoc, List.append_nil, List.nil_append, List.cons_append]
  unfold Claim.arr; rw [h]; exact ext_mid _ _ _ _ 3 _ (by simp) (by simp) rfl
@[simp] theorem Claim.arr_0 (x : Claim) : x.arr[0]? = some (Value.int .i64 x.wit.kind) := arr_of_ext (k := 0) (Claim.ext_0 x) _ rfl (by decide) (Witness.arr_0 _)
@[simp] theorem Claim.get_0 (x : Claim) (h) : x.arr[0]'h = Value.int .i64 x.wit.kind := Option.some.inj (by rw [← Array.getElem?_eq_getElem]; exact Claim.arr_0 x)
@[simp] theorem Claim.arr_1 (x : Claim) : x.arr[1]? = some (Value.int .i64 x.wit.key) := arr_of_ext (k := 1) (Claim.ext_0 x) _ rfl (by decide) (Witness.arr_1 _)
@[simp] theorem Claim.get_1 (x : Claim) (h) : x.arr[1]'h = Value.int .i64 x.wit.key := Option.some.inj (by rw [← Array.getElem?_eq_getElem]; exact Claim.arr_1 x)
@[simp] theorem Claim.arr_2 (x : Claim) : x.arr[2]? = some (Value.string x.wit.pre) := arr_of_ext (k := 2) (Claim.ext_0 x) _ rfl (by decide) (Witness.arr_2 _)
@[simp] theorem Claim.get_2 (x : Claim) (h) : x.arr[2]'h = Value.string x.wit.pre := Option.some.inj (by rw [← Array.getElem?_eq_getElem]; exact Claim.arr_2 x)
@[simp] theorem Claim.arr_3 (x : Claim) : x.arr[3]? = some (Value.int .i64 x.seq) := by simp [Claim.arr, List.getElem?_append, List.getElem?_cons]
@[simp] theorem Claim.get_3 (x : Claim) (h) : x.arr[3]'h = Value.int .i64 x.seq := Option.some.inj (by rw [← Array.getElem?_eq_getElem]; exact Claim.arr_3 x)
@[simp] theorem Claim.arr_4 (x : Claim) : x.arr[4]? = some (Value.int .i64 x.lock) := by simp [Claim.arr, List.getElem?_append, List.getElem?_cons]
@[simp] theorem Claim.get_4 (x : Claim) (h) : x.arr[4]'h = Value.int .i64 x.lock := Option.some.inj (by rw [← Array.getElem?_eq_getElem]; exact Claim.arr_4 x)
@[simp] theorem Claim.arr_5 (x : Claim) : x.arr[5]? = some (Value.int .i64 x.wait) := by simp [Claim.arr, List.getElem?_append, List.getElem?_cons]
@[simp] theorem Claim.get_5 (x : Claim) (h) : x.arr[5]'h = Value.int .i64 x.wait := Option.some.inj (by rw [← Array.getElem?_eq_getElem]; exact Claim.arr_5 x)

structure Item where
  channel : Int
  point : Outpoint
  value : Int
  script : Script
  role : Int
  conf : Int
  state : Int
  by_ : Hash
  at_ : Int
  deriving DecidableEq
def Item.arr (x : Item) : Array Value := ([Value.int .i64 x.channel] ++ x.point.arr.toList ++ [Value.int .i64 x.value] ++ x.script.arr.toList ++ [Value.int .i64 x.role, Value.int .i64 x.conf, Value.int .i64 x.state] ++ x.by_.arr.toList ++ [Value.int .i64 x.at_]).toArray
def Item.zero : Item := { channel := 0, point := Outpoint.zero, value := 0, script := Script.zero, role := 0, conf := 0, state := 0, by_ := Hash.zero, at_ := 0 }
@[simp] theorem Item.ext_all (x : Item) : x.arr.extract 0 109 = x.arr := by rw [show 109 = x.arr.size by simp [Item.arr]]; exact Array.extract_size
theorem one_Item (x : Item) : ∀ v ∈ x.arr.toList, v.oneCell' = true := by
  show ∀ v ∈ ([Value.int .i64 x.channel] ++ x.point.arr.toList ++ [Value.int .i64 x.value] ++ x.script.arr.toList ++ [Value.int .i64 x.role, Value.int .i64 x.conf, Value.int .i64 x.state] ++ x.by_.arr.toList ++ [Value.int .i64 x.at_] : List Value), v.oneCell' = true
  intro v hv
  simp only [List.mem_append] at hv
  rcases hv with (((((h0 | h1) | h2) | h3) | h4) | h5) | h6
  · simp only [List.mem_cons, List.not_mem_nil, or_false] at h0
    rcases h0 with rfl <;> rfl
  · exact one_Outpoint _ v h1
  · simp only [List.mem_cons, List.not_mem_nil, or_false] at h2
    rcases h2 with rfl <;> rfl
  · exact one_Script _ v h3
  · simp only [List.mem_cons, List.not_mem_nil, or_false] at h4
    rcases h4 with rfl | rfl | rfl <;> rfl
  · exact one_Hash _ v h5
  · simp only [List.mem_cons, List.not_mem_nil, or_false] at h6
    rcases h6 with rfl <;> rfl
def Item.wf (x : Item) : Prop := i64 x.channel ∧ x.point.wf ∧ i64 x.value ∧ x.script.wf ∧ i64 x.role ∧ i64 x.conf ∧ i64 x.state ∧ i64 x.at_
@[simp] theorem Item.size_arr (x : Item) : x.arr.size = 109 := by simp [Item.arr]
@[simp] theorem Item.length_arr (x : Item) : x.arr.toList.length = 109 := by simp [Item.arr]
@[simp] theorem Item.set_0 (x : Item) (v : Int) : x.arr.setIfInBounds 0 (Value.int .i64 v) = ({ x with channel := v } : Item).arr := by
  apply Array.ext'; simp [Item.arr, List.set_append]
@[simp] theorem Item.set_34 (x : Item) (v : Int) : x.arr.setIfInBounds 34 (Value.int .i64 v) = ({ x with value := v } : Item).arr := by
  apply Array.ext'; simp [Item.arr, List.set_append]
@[simp] theorem Item.set_73 (x : Item) (v : Int) : x.arr.setIfInBounds 73 (Value.int .i64 v) = ({ x with role := v } : Item).arr := by
  apply Array.ext'; simp [Item.arr, List.set_append]
@[simp] theorem Item.set_74 (x : Item) (v : Int) : x.arr.setIfInBounds 74 (Value.int .i64 v) = ({ x with conf := v } : Item).arr := by
  apply Array.ext'; simp [Item.arr, List.set_append]
@[simp] theorem Item.set_75 (x : Item) (v : Int) : x.arr.setIfInBounds 75 (Value.int .i64 v) = ({ x with state := v } : Item).arr := by
  apply Array.ext'; simp [Item.arr, List.set_append]
@[simp] theorem Item.set_108 (x : Item) (v : Int) : x.arr.setIfInBounds 108 (Value.int .i64 v) = ({ x with at_ := v } : Item).arr := by
  apply Array.ext'; simp [Item.arr, List.set_append]
@[simp] theorem Item.arr_0 (x : Item) : x.arr[0]? = some (Value.int .i64 x.channel) := by simp [Item.arr, List.getElem?_append, List.getElem?_cons]
@[simp] theorem Item.get_0 (x : Item) (h) : x.arr[0]'h = Value.int .i64 x.channel := Option.some.inj (by rw [← Array.getElem?_eq_getElem]; exact Item.arr_0 x)
@[simp] theorem Item.ext_1 (x : Item) : x.arr.extract 1 34 = x.point.arr := by
  have h : ([Value.int .i64 x.channel] ++ x.point.arr.toList ++ [Value.int .i64 x.value] ++ x.script.arr.toList ++ [Value.int .i64 x.role, Value.int .i64 x.conf, Value.int .i64 x.state] ++ x.by_.arr.toList ++ [Value.int .i64 x.at_] : List Value) = ([Value.int .i64 x.channel]) ++ (x.point.arr.toList ++ ([Value.int .i64 x.value] ++ x.script.arr.toList ++ [Value.int .i64 x.role, Value.int .i64 x.conf, Value.int .i64 x.state] ++ x.by_.arr.toList ++ [Value.int .i64 x.at_])) := by simp only [List.append_assoc, List.append_nil, List.nil_append, List.cons_append]
  unfold Item.arr; rw [h]; exact ext_mid _ _ _ _ 33 _ (by simp) (by simp) rfl
@[simp] theorem Item.arr_33 (x : Item) : x.arr[33]? = some (Value.int .i64 x.point.n) := arr_of_ext (k := 32) (Item.ext_1 x) _ rfl (by decide) (Outpoint.arr_32 _)
@[simp] theorem Item.get_33 (x : Item) (h) : x.arr[33]'h = Value.int .i64 x.point.n := Option.some.inj (by rw [← Array.getElem?_eq_getElem]; exact Item.arr_33 x)
@[simp] theorem Item.arr_34 (x : Item) : x.arr[34]? = some (Value.int .i64 x.value) := by simp [Item.arr, List.getElem?_append, List.getElem?_cons]
@[simp] theorem Item.get_34 (x : Item) (h) : x.arr[34]'h = Value.int .i64 x.value := Option.some.inj (by rw [← Array.getElem?_eq_getElem]; exact Item.arr_34 x)
@[simp] theorem Item.ext_35 (x : Item) : x.arr.extract 35 73 = x.script.arr := by
  have h : ([Value.int .i64 x.channel] ++ x.point.arr.toList ++ [Value.int .i64 x.value] ++ x.script.arr.toList ++ [Value.int .i64 x.role, Value.int .i64 x.conf, Value.int .i64 x.state] ++ x.by_.arr.toList ++ [Value.int .i64 x.at_] : List Value) = ([Value.int .i64 x.channel] ++ x.point.arr.toList ++ [Value.int .i64 x.value]) ++ (x.script.arr.toList ++ ([Value.int .i64 x.role, Value.int .i64 x.conf, Value.int .i64 x.state] ++ x.by_.arr.toList ++ [Value.int .i64 x.at_])) := by simp only [List.append_assoc, List.append_nil, List.nil_append, List.cons_append]
  unfold Item.arr; rw [h]; exact ext_mid _ _ _ _ 38 _ (by simp) (by simp) rfl
@[simp] theorem Item.arr_35 (x : Item) : x.arr[35]? = some (Value.int .i64 x.script.kind) := arr_of_ext (k := 0) (Item.ext_35 x) _ rfl (by decide) (Script.arr_0 _)
@[simp] theorem Item.get_35 (x : Item) (h) : x.arr[35]'h = Value.int .i64 x.script.kind := Option.some.inj (by rw [← Array.getElem?_eq_getElem]; exact Item.arr_35 x)
@[simp] theorem Item.arr_36 (x : Item) : x.arr[36]? = some (Value.int .i64 x.script.key) := arr_of_ext (k := 1) (Item.ext_35 x) _ rfl (by decide) (Script.arr_1 _)
@[simp] theorem Item.get_36 (x : Item) (h) : x.arr[36]'h = Value.int .i64 x.script.key := Option.some.inj (by rw [← Array.getElem?_eq_getElem]; exact Item.arr_36 x)
@[simp] theorem Item.arr_37 (x : Item) : x.arr[37]? = some (Value.int .i64 x.script.other) := arr_of_ext (k := 2) (Item.ext_35 x) _ rfl (by decide) (Script.arr_2 _)
@[simp] theorem Item.get_37 (x : Item) (h) : x.arr[37]'h = Value.int .i64 x.script.other := Option.some.inj (by rw [← Array.getElem?_eq_getElem]; exact Item.arr_37 x)
@[simp] theorem Item.arr_38 (x : Item) : x.arr[38]? = some (Value.int .i64 x.script.rev) := arr_of_ext (k := 3) (Item.ext_35 x) _ rfl (by decide) (Script.arr_3 _)
@[simp] theorem Item.get_38 (x : Item) (h) : x.arr[38]'h = Value.int .i64 x.script.rev := Option.some.inj (by rw [← Array.getElem?_eq_getElem]; exact Item.arr_38 x)
@[simp] theorem Item.arr_39 (x : Item) : x.arr[39]? = some (Value.int .i64 x.script.delay) := arr_of_ext (k := 4) (Item.ext_35 x) _ rfl (by decide) (Script.arr_4 _)
@[simp] theorem Item.get_39 (x : Item) (h) : x.arr[39]'h = Value.int .i64 x.script.delay := Option.some.inj (by rw [← Array.getElem?_eq_getElem]; exact Item.arr_39 x)
@[simp] theorem Item.arr_40 (x : Item) : x.arr[40]? = some (Value.int .i64 x.script.expiry) := arr_of_ext (k := 5) (Item.ext_35 x) _ rfl (by decide) (Script.arr_5 _)
@[simp] theorem Item.get_40 (x : Item) (h) : x.arr[40]'h = Value.int .i64 x.script.expiry := Option.some.inj (by rw [← Array.getElem?_eq_getElem]; exact Item.arr_40 x)
@[simp] theorem Item.arr_73 (x : Item) : x.arr[73]? = some (Value.int .i64 x.role) := by simp [Item.arr, List.getElem?_append, List.getElem?_cons]
@[simp] theorem Item.get_73 (x : Item) (h) : x.arr[73]'h = Value.int .i64 x.role := Option.some.inj (by rw [← Array.getElem?_eq_getElem]; exact Item.arr_73 x)
@[simp] theorem Item.arr_74 (x : Item) : x.arr[74]? = some (Value.int .i64 x.conf) := by simp [Item.arr, List.getElem?_append, List.getElem?_cons]
@[simp] theorem Item.get_74 (x : Item) (h) : x.arr[74]'h = Value.int .i64 x.conf := Option.some.inj (by rw [← Array.getElem?_eq_getElem]; exact Item.arr_74 x)
@[simp] theorem Item.arr_75 (x : Item) : x.arr[75]? = some (Value.int .i64 x.state) := by simp [Item.arr, List.getElem?_append, List.getElem?_cons]
@[simp] theorem Item.get_75 (x : Item) (h) : x.arr[75]'h = Value.int .i64 x.state := Option.some.inj (by rw [← Array.getElem?_eq_getElem]; exact Item.arr_75 x)
@[simp] theorem Item.ext_76 (x : Item) : x.arr.extract 76 108 = x.by_.arr := by
  have h : ([Value.int .i64 x.channel] ++ x.point.arr.toList ++ [Value.int .i64 x.value] ++ x.script.arr.toList ++ [Value.int .i64 x.role, Value.int .i64 x.conf, Value.int .i64 x.state] ++ x.by_.arr.toList ++ [Value.int .i64 x.at_] : List Value) = ([Value.int .i64 x.channel] ++ x.point.arr.toList ++ [Value.int .i64 x.value] ++ x.script.arr.toList ++ [Value.int .i64 x.role, Value.int .i64 x.conf, Value.int .i64 x.state]) ++ (x.by_.arr.toList ++ ([Value.int .i64 x.at_])) := by simp only [List.append_assoc, List.append_nil, List.nil_append, List.cons_append]
  unfold Item.arr; rw [h]; exact ext_mid _ _ _ _ 32 _ (by simp) (by simp) rfl
@[simp] theorem Item.arr_108 (x : Item) : x.arr[108]? = some (Value.int .i64 x.at_) := by simp [Item.arr, List.getElem?_append, List.getElem?_cons]
@[simp] theorem Item.get_108 (x : Item) (h) : x.arr[108]'h = Value.int .i64 x.at_ := Option.some.inj (by rw [← Array.getElem?_eq_getElem]; exact Item.arr_108 x)

structure Input where
  point : Outpoint
  value : Int
  claim : Claim
  conf : Int
  since : Int
  deadline : Int
  budget : Int
  deriving DecidableEq
def Input.arr (x : Input) : Array Value := (x.point.arr.toList ++ [Value.int .i64 x.value] ++ x.claim.arr.toList ++ [Value.int .i64 x.conf, Value.int .i64 x.since, Value.int .i64 x.deadline, Value.int .i64 x.budget]).toArray
def Input.zero : Input := { point := Outpoint.zero, value := 0, claim := Claim.zero, conf := 0, since := 0, deadline := 0, budget := 0 }
@[simp] theorem Input.ext_all (x : Input) : x.arr.extract 0 44 = x.arr := by rw [show 44 = x.arr.size by simp [Input.arr]]; exact Array.extract_size
theorem one_Input (x : Input) : ∀ v ∈ x.arr.toList, v.oneCell' = true := by
  show ∀ v ∈ (x.point.arr.toList ++ [Value.int .i64 x.value] ++ x.claim.arr.toList ++ [Value.int .i64 x.conf, Value.int .i64 x.since, Value.int .i64 x.deadline, Value.int .i64 x.budget] : List Value), v.oneCell' = true
  intro v hv
  simp only [List.mem_append] at hv
  rcases hv with ((h0 | h1) | h2) | h3
  · exact one_Outpoint _ v h0
  · simp only [List.mem_cons, List.not_mem_nil, or_false] at h1
    rcases h1 with rfl <;> rfl
  · exact one_Claim _ v h2
  · simp only [List.mem_cons, List.not_mem_nil, or_false] at h3
    rcases h3 with rfl | rfl | rfl | rfl <;> rfl
def Input.wf (x : Input) : Prop := x.point.wf ∧ i64 x.value ∧ x.claim.wf ∧ i64 x.conf ∧ i64 x.since ∧ i64 x.deadline ∧ i64 x.budget
@[simp] theorem Input.size_arr (x : Input) : x.arr.size = 44 := by simp [Input.arr]
@[simp] theorem Input.length_arr (x : Input) : x.arr.toList.length = 44 := by simp [Input.arr]
@[simp] theorem Input.set_33 (x : Input) (v : Int) : x.arr.setIfInBounds 33 (Value.int .i64 v) = ({ x with value := v } : Input).arr := by
  apply Array.ext'; simp [Input.arr, List.set_append]
@[simp] theorem Input.set_40 (x : Input) (v : Int) : x.arr.setIfInBounds 40 (Value.int .i64 v) = ({ x with conf := v } : Input).arr := by
  apply Array.ext'; simp [Input.arr, List.set_append]
@[simp] theorem Input.set_41 (x : Input) (v : Int) : x.arr.setIfInBounds 41 (Value.int .i64 v) = ({ x with since := v } : Input).arr := by
  apply Array.ext'; simp [Input.arr, List.set_append]
@[simp] theorem Input.set_42 (x : Input) (v : Int) : x.arr.setIfInBounds 42 (Value.int .i64 v) = ({ x with deadline := v } : Input).arr := by
  apply Array.ext'; simp [Input.arr, List.set_append]
@[simp] theorem Input.set_43 (x : Input) (v : Int) : x.arr.setIfInBounds 43 (Value.int .i64 v) = ({ x with budget := v } : Input).arr := by
  apply Array.ext'; simp [Input.arr, List.set_append]
@[simp] theorem Input.ext_0 (x : Input) : x.arr.extract 0 33 = x.point.arr := by
  have h : (x.point.arr.toList ++ [Value.int .i64 x.value] ++ x.claim.arr.toList ++ [Value.int .i64 x.conf, Value.int .i64 x.since, Value.int .i64 x.deadline, Value.int .i64 x.budget] : List Value) = ([]) ++ (x.point.arr.toList ++ ([Value.int .i64 x.value] ++ x.claim.arr.toList ++ [Value.int .i64 x.conf, Value.int .i64 x.since, Value.int .i64 x.deadline, Value.int .i64 x.budget])) := by simp only [List.append_assoc, List.append_nil, List.nil_append, List.cons_append]
  unfold Input.arr; rw [h]; exact ext_mid _ _ _ _ 33 _ (by simp) (by simp) rfl
@[simp] theorem Input.arr_32 (x : Input) : x.arr[32]? = some (Value.int .i64 x.point.n) := arr_of_ext (k := 32) (Input.ext_0 x) _ rfl (by decide) (Outpoint.arr_32 _)
@[simp] theorem Input.get_32 (x : Input) (h) : x.arr[32]'h = Value.int .i64 x.point.n := Option.some.inj (by rw [← Array.getElem?_eq_getElem]; exact Input.arr_32 x)
@[simp] theorem Input.arr_33 (x : Input) : x.arr[33]? = some (Value.int .i64 x.value) := by simp [Input.arr, List.getElem?_append, List.getElem?_cons]
@[simp] theorem Input.get_33 (x : Input) (h) : x.arr[33]'h = Value.int .i64 x.value := Option.some.inj (by rw [← Array.getElem?_eq_getElem]; exact Input.arr_33 x)
@[simp] theorem Input.ext_34 (x : Input) : x.arr.extract 34 40 = x.claim.arr := by
  have h : (x.point.arr.toList ++ [Value.int .i64 x.value] ++ x.claim.arr.toList ++ [Value.int .i64 x.conf, Value.int .i64 x.since, Value.int .i64 x.deadline, Value.int .i64 x.budget] : List Value) = (x.point.arr.toList ++ [Value.int .i64 x.value]) ++ (x.claim.arr.toList ++ ([Value.int .i64 x.conf, Value.int .i64 x.since, Value.int .i64 x.deadline, Value.int .i64 x.budget])) := by simp only [List.append_assoc, List.append_nil, List.nil_append, List.cons_append]
  unfold Input.arr; rw [h]; exact ext_mid _ _ _ _ 6 _ (by simp) (by simp) rfl
@[simp] theorem Input.arr_34 (x : Input) : x.arr[34]? = some (Value.int .i64 x.claim.wit.kind) := arr_of_ext (k := 0) (Input.ext_34 x) _ rfl (by decide) (Claim.arr_0 _)
@[simp] theorem Input.get_34 (x : Input) (h) : x.arr[34]'h = Value.int .i64 x.claim.wit.kind := Option.some.inj (by rw [← Array.getElem?_eq_getElem]; exact Input.arr_34 x)
@[simp] theorem Input.arr_35 (x : Input) : x.arr[35]? = some (Value.int .i64 x.claim.wit.key) := arr_of_ext (k := 1) (Input.ext_34 x) _ rfl (by decide) (Claim.arr_1 _)
@[simp] theorem Input.get_35 (x : Input) (h) : x.arr[35]'h = Value.int .i64 x.claim.wit.key := Option.some.inj (by rw [← Array.getElem?_eq_getElem]; exact Input.arr_35 x)
@[simp] theorem Input.arr_36 (x : Input) : x.arr[36]? = some (Value.string x.claim.wit.pre) := arr_of_ext (k := 2) (Input.ext_34 x) _ rfl (by decide) (Claim.arr_2 _)
@[simp] theorem Input.get_36 (x : Input) (h) : x.arr[36]'h = Value.string x.claim.wit.pre := Option.some.inj (by rw [← Array.getElem?_eq_getElem]; exact Input.arr_36 x)
@[simp] theorem Input.arr_37 (x : Input) : x.arr[37]? = some (Value.int .i64 x.claim.seq) := arr_of_ext (k := 3) (Input.ext_34 x) _ rfl (by decide) (Claim.arr_3 _)
@[simp] theorem Input.get_37 (x : Input) (h) : x.arr[37]'h = Value.int .i64 x.claim.seq := Option.some.inj (by rw [← Array.getElem?_eq_getElem]; exact Input.arr_37 x)
@[simp] theorem Input.arr_38 (x : Input) : x.arr[38]? = some (Value.int .i64 x.claim.lock) := arr_of_ext (k := 4) (Input.ext_34 x) _ rfl (by decide) (Claim.arr_4 _)
@[simp] theorem Input.get_38 (x : Input) (h) : x.arr[38]'h = Value.int .i64 x.claim.lock := Option.some.inj (by rw [← Array.getElem?_eq_getElem]; exact Input.arr_38 x)
@[simp] theorem Input.arr_39 (x : Input) : x.arr[39]? = some (Value.int .i64 x.claim.wait) := arr_of_ext (k := 5) (Input.ext_34 x) _ rfl (by decide) (Claim.arr_5 _)
@[simp] theorem Input.get_39 (x : Input) (h) : x.arr[39]'h = Value.int .i64 x.claim.wait := Option.some.inj (by rw [← Array.getElem?_eq_getElem]; exact Input.arr_39 x)
@[simp] theorem Input.arr_40 (x : Input) : x.arr[40]? = some (Value.int .i64 x.conf) := by simp [Input.arr, List.getElem?_append, List.getElem?_cons]
@[simp] theorem Input.get_40 (x : Input) (h) : x.arr[40]'h = Value.int .i64 x.conf := Option.some.inj (by rw [← Array.getElem?_eq_getElem]; exact Input.arr_40 x)
@[simp] theorem Input.arr_41 (x : Input) : x.arr[41]? = some (Value.int .i64 x.since) := by simp [Input.arr, List.getElem?_append, List.getElem?_cons]
@[simp] theorem Input.get_41 (x : Input) (h) : x.arr[41]'h = Value.int .i64 x.since := Option.some.inj (by rw [← Array.getElem?_eq_getElem]; exact Input.arr_41 x)
@[simp] theorem Input.arr_42 (x : Input) : x.arr[42]? = some (Value.int .i64 x.deadline) := by simp [Input.arr, List.getElem?_append, List.getElem?_cons]
@[simp] theorem Input.get_42 (x : Input) (h) : x.arr[42]'h = Value.int .i64 x.deadline := Option.some.inj (by rw [← Array.getElem?_eq_getElem]; exact Input.arr_42 x)
@[simp] theorem Input.arr_43 (x : Input) : x.arr[43]? = some (Value.int .i64 x.budget) := by simp [Input.arr, List.getElem?_append, List.getElem?_cons]
@[simp] theorem Input.get_43 (x : Input) (h) : x.arr[43]'h = Value.int .i64 x.budget := Option.some.inj (by rw [← Array.getElem?_eq_getElem]; exact Input.arr_43 x)

structure Output where
  point : Outpoint
  value : Int
  script : Script
  role : Int
  deriving DecidableEq
def Output.arr (x : Output) : Array Value := (x.point.arr.toList ++ [Value.int .i64 x.value] ++ x.script.arr.toList ++ [Value.int .i64 x.role]).toArray
def Output.zero : Output := { point := Outpoint.zero, value := 0, script := Script.zero, role := 0 }
@[simp] theorem Output.ext_all (x : Output) : x.arr.extract 0 73 = x.arr := by rw [show 73 = x.arr.size by simp [Output.arr]]; exact Array.extract_size
theorem one_Output (x : Output) : ∀ v ∈ x.arr.toList, v.oneCell' = true := by
  show ∀ v ∈ (x.point.arr.toList ++ [Value.int .i64 x.value] ++ x.script.arr.toList ++ [Value.int .i64 x.role] : List Value), v.oneCell' = true
  intro v hv
  simp only [List.mem_append] at hv
  rcases hv with ((h0 | h1) | h2) | h3
  · exact one_Outpoint _ v h0
  · simp only [List.mem_cons, List.not_mem_nil, or_false] at h1
    rcases h1 with rfl <;> rfl
  · exact one_Script _ v h2
  · simp only [List.mem_cons, List.not_mem_nil, or_false] at h3
    rcases h3 with rfl <;> rfl
def Output.wf (x : Output) : Prop := x.point.wf ∧ i64 x.value ∧ x.script.wf ∧ i64 x.role
@[simp] theorem Output.size_arr (x : Output) : x.arr.size = 73 := by simp [Output.arr]
@[simp] theorem Output.length_arr (x : Output) : x.arr.toList.length = 73 := by simp [Output.arr]
@[simp] theorem Output.set_33 (x : Output) (v : Int) : x.arr.setIfInBounds 33 (Value.int .i64 v) = ({ x with value := v } : Output).arr := by
  apply Array.ext'; simp [Output.arr, List.set_append]
@[simp] theorem Output.set_72 (x : Output) (v : Int) : x.arr.setIfInBounds 72 (Value.int .i64 v) = ({ x with role := v } : Output).arr := by
  apply Array.ext'; simp [Output.arr, List.set_append]
@[simp] theorem Output.ext_0 (x : Output) : x.arr.extract 0 33 = x.point.arr := by
  have h : (x.point.arr.toList ++ [Value.int .i64 x.value] ++ x.script.arr.toList ++ [Value.int .i64 x.role] : List Value) = ([]) ++ (x.point.arr.toList ++ ([Value.int .i64 x.value] ++ x.script.arr.toList ++ [Value.int .i64 x.role])) := by simp only [List.append_assoc, List.append_nil, List.nil_append, List.cons_append]
  unfold Output.arr; rw [h]; exact ext_mid _ _ _ _ 33 _ (by simp) (by simp) rfl
@[simp] theorem Output.arr_32 (x : Output) : x.arr[32]? = some (Value.int .i64 x.point.n) := arr_of_ext (k := 32) (Output.ext_0 x) _ rfl (by decide) (Outpoint.arr_32 _)
@[simp] theorem Output.get_32 (x : Output) (h) : x.arr[32]'h = Value.int .i64 x.point.n := Option.some.inj (by rw [← Array.getElem?_eq_getElem]; exact Output.arr_32 x)
@[simp] theorem Output.arr_33 (x : Output) : x.arr[33]? = some (Value.int .i64 x.value) := by simp [Output.arr, List.getElem?_append, List.getElem?_cons]
@[simp] theorem Output.get_33 (x : Output) (h) : x.arr[33]'h = Value.int .i64 x.value := Option.some.inj (by rw [← Array.getElem?_eq_getElem]; exact Output.arr_33 x)
@[simp] theorem Output.ext_34 (x : Output) : x.arr.extract 34 72 = x.script.arr := by
  have h : (x.point.arr.toList ++ [Value.int .i64 x.value] ++ x.script.arr.toList ++ [Value.int .i64 x.role] : List Value) = (x.point.arr.toList ++ [Value.int .i64 x.value]) ++ (x.script.arr.toList ++ ([Value.int .i64 x.role])) := by simp only [List.append_assoc, List.append_nil, List.nil_append, List.cons_append]
  unfold Output.arr; rw [h]; exact ext_mid _ _ _ _ 38 _ (by simp) (by simp) rfl
@[simp] theorem Output.arr_34 (x : Output) : x.arr[34]? = some (Value.int .i64 x.script.kind) := arr_of_ext (k := 0) (Output.ext_34 x) _ rfl (by decide) (Script.arr_0 _)
@[simp] theorem Output.get_34 (x : Output) (h) : x.arr[34]'h = Value.int .i64 x.script.kind := Option.some.inj (by rw [← Array.getElem?_eq_getElem]; exact Output.arr_34 x)
@[simp] theorem Output.arr_35 (x : Output) : x.arr[35]? = some (Value.int .i64 x.script.key) := arr_of_ext (k := 1) (Output.ext_34 x) _ rfl (by decide) (Script.arr_1 _)
@[simp] theorem Output.get_35 (x : Output) (h) : x.arr[35]'h = Value.int .i64 x.script.key := Option.some.inj (by rw [← Array.getElem?_eq_getElem]; exact Output.arr_35 x)
@[simp] theorem Output.arr_36 (x : Output) : x.arr[36]? = some (Value.int .i64 x.script.other) := arr_of_ext (k := 2) (Output.ext_34 x) _ rfl (by decide) (Script.arr_2 _)
@[simp] theorem Output.get_36 (x : Output) (h) : x.arr[36]'h = Value.int .i64 x.script.other := Option.some.inj (by rw [← Array.getElem?_eq_getElem]; exact Output.arr_36 x)
@[simp] theorem Output.arr_37 (x : Output) : x.arr[37]? = some (Value.int .i64 x.script.rev) := arr_of_ext (k := 3) (Output.ext_34 x) _ rfl (by decide) (Script.arr_3 _)
@[simp] theorem Output.get_37 (x : Output) (h) : x.arr[37]'h = Value.int .i64 x.script.rev := Option.some.inj (by rw [← Array.getElem?_eq_getElem]; exact Output.arr_37 x)
@[simp] theorem Output.arr_38 (x : Output) : x.arr[38]? = some (Value.int .i64 x.script.delay) := arr_of_ext (k := 4) (Output.ext_34 x) _ rfl (by decide) (Script.arr_4 _)
@[simp] theorem Output.get_38 (x : Output) (h) : x.arr[38]'h = Value.int .i64 x.script.delay := Option.some.inj (by rw [← Array.getElem?_eq_getElem]; exact Output.arr_38 x)
@[simp] theorem Output.arr_39 (x : Output) : x.arr[39]? = some (Value.int .i64 x.script.expiry) := arr_of_ext (k := 5) (Output.ext_34 x) _ rfl (by decide) (Script.arr_5 _)
@[simp] theorem Output.get_39 (x : Output) (h) : x.arr[39]'h = Value.int .i64 x.script.expiry := Option.some.inj (by rw [← Array.getElem?_eq_getElem]; exact Output.arr_39 x)
@[simp] theorem Output.arr_72 (x : Output) : x.arr[72]? = some (Value.int .i64 x.role) := by simp [Output.arr, List.getElem?_append, List.getElem?_cons]
@[simp] theorem Output.get_72 (x : Output) (h) : x.arr[72]'h = Value.int .i64 x.role := Option.some.inj (by rw [← Array.getElem?_eq_getElem]; exact Output.arr_72 x)

structure Header where
  prev : Hash
  root : Hash
  work : Int
  nonce : Int
  deriving DecidableEq
def Header.arr (x : Header) : Array Value := (x.prev.arr.toList ++ x.root.arr.toList ++ [Value.int .i64 x.work, Value.int .i64 x.nonce]).toArray
def Header.zero : Header := { prev := Hash.zero, root := Hash.zero, work := 0, nonce := 0 }
@[simp] theorem Header.ext_all (x : Header) : x.arr.extract 0 66 = x.arr := by rw [show 66 = x.arr.size by simp [Header.arr]]; exact Array.extract_size
theorem one_Header (x : Header) : ∀ v ∈ x.arr.toList, v.oneCell' = true := by
  show ∀ v ∈ (x.prev.arr.toList ++ x.root.arr.toList ++ [Value.int .i64 x.work, Value.int .i64 x.nonce] : List Value), v.oneCell' = true
  intro v hv
  simp only [List.mem_append] at hv
  rcases hv with (h0 | h1) | h2
  · exact one_Hash _ v h0
  · exact one_Hash _ v h1
  · simp only [List.mem_cons, List.not_mem_nil, or_false] at h2
    rcases h2 with rfl | rfl <;> rfl
def Header.wf (x : Header) : Prop := i64 x.work ∧ i64 x.nonce
@[simp] theorem Header.size_arr (x : Header) : x.arr.size = 66 := by simp [Header.arr]
@[simp] theorem Header.length_arr (x : Header) : x.arr.toList.length = 66 := by simp [Header.arr]
@[simp] theorem Header.set_64 (x : Header) (v : Int) : x.arr.setIfInBounds 64 (Value.int .i64 v) = ({ x with work := v } : Header).arr := by
  apply Array.ext'; simp [Header.arr, List.set_append]
@[simp] theorem Header.set_65 (x : Header) (v : Int) : x.arr.setIfInBounds 65 (Value.int .i64 v) = ({ x with nonce := v } : Header).arr := by
  apply Array.ext'; simp [Header.arr, List.set_append]
@[simp] theorem Header.ext_0 (x : Header) : x.arr.extract 0 32 = x.prev.arr := by
  have h : (x.prev.arr.toList ++ x.root.arr.toList ++ [Value.int .i64 x.work, Value.int .i64 x.nonce] : List Value) = ([]) ++ (x.prev.arr.toList ++ (x.root.arr.toList ++ [Value.int .i64 x.work, Value.int .i64 x.nonce])) := by simp only [List.append_assoc, List.append_nil, List.nil_append, List.cons_append]
  unfold Header.arr; rw [h]; exact ext_mid _ _ _ _ 32 _ (by simp) (by simp) rfl
@[simp] theorem Header.ext_32 (x : Header) : x.arr.extract 32 64 = x.root.arr := by
  have h : (x.prev.arr.toList ++ x.root.arr.toList ++ [Value.int .i64 x.work, Value.int .i64 x.nonce] : List Value) = (x.prev.arr.toList) ++ (x.root.arr.toList ++ ([Value.int .i64 x.work, Value.int .i64 x.nonce])) := by simp only [List.append_assoc, List.append_nil, List.nil_append, List.cons_append]
  unfold Header.arr; rw [h]; exact ext_mid _ _ _ _ 32 _ (by simp) (by simp) rfl
@[simp] theorem Header.arr_64 (x : Header) : x.arr[64]? = some (Value.int .i64 x.work) := by simp [Header.arr, List.getElem?_append, List.getElem?_cons]
@[simp] theorem Header.get_64 (x : Header) (h) : x.arr[64]'h = Value.int .i64 x.work := Option.some.inj (by rw [← Array.getElem?_eq_getElem]; exact Header.arr_64 x)
@[simp] theorem Header.arr_65 (x : Header) : x.arr[65]? = some (Value.int .i64 x.nonce) := by simp [Header.arr, List.getElem?_append, List.getElem?_cons]
@[simp] theorem Header.get_65 (x : Header) (h) : x.arr[65]'h = Value.int .i64 x.nonce := Option.some.inj (by rw [← Array.getElem?_eq_getElem]; exact Header.arr_65 x)

structure Deed where
  kind : Int
  a : ByteArray
  b : ByteArray
  n : Int
  deriving DecidableEq
def Deed.arr (x : Deed) : Array Value := ([Value.int .i64 x.kind, Value.string x.a, Value.string x.b, Value.int .i64 x.n]).toArray
def Deed.zero : Deed := { kind := 0, a := ByteArray.empty, b := ByteArray.empty, n := 0 }
@[simp] theorem Deed.ext_all (x : Deed) : x.arr.extract 0 4 = x.arr := by rw [show 4 = x.arr.size by simp [Deed.arr]]; exact Array.extract_size
theorem one_Deed (x : Deed) : ∀ v ∈ x.arr.toList, v.oneCell' = true := by
  show ∀ v ∈ ([Value.int .i64 x.kind, Value.string x.a, Value.string x.b, Value.int .i64 x.n] : List Value), v.oneCell' = true
  intro v hv
  have h0 := hv
  · simp only [List.mem_cons, List.not_mem_nil, or_false] at h0
    rcases h0 with rfl | rfl | rfl | rfl <;> rfl
def Deed.wf (x : Deed) : Prop := i64 x.kind ∧ x.a.size ≤ maxLen ∧ x.b.size ≤ maxLen ∧ i64 x.n
@[simp] theorem Deed.size_arr (x : Deed) : x.arr.size = 4 := by simp [Deed.arr]
@[simp] theorem Deed.length_arr (x : Deed) : x.arr.toList.length = 4 := by simp [Deed.arr]
@[simp] theorem Deed.set_0 (x : Deed) (v : Int) : x.arr.setIfInBounds 0 (Value.int .i64 v) = ({ x with kind := v } : Deed).arr := by
  apply Array.ext'; simp [Deed.arr, List.set_append]
@[simp] theorem Deed.set_1 (x : Deed) (v : ByteArray) : x.arr.setIfInBounds 1 (Value.string v) = ({ x with a := v } : Deed).arr := by
  apply Array.ext'; simp [Deed.arr, List.set_append]
@[simp] theorem Deed.set_2 (x : Deed) (v : ByteArray) : x.arr.setIfInBounds 2 (Value.string v) = ({ x with b := v } : Deed).arr := by
  apply Array.ext'; simp [Deed.arr, List.set_append]
@[simp] theorem Deed.set_3 (x : Deed) (v : Int) : x.arr.setIfInBounds 3 (Value.int .i64 v) = ({ x with n := v } : Deed).arr := by
  apply Array.ext'; simp [Deed.arr, List.set_append]
@[simp] theorem Deed.arr_0 (x : Deed) : x.arr[0]? = some (Value.int .i64 x.kind) := by simp [Deed.arr, List.getElem?_append, List.getElem?_cons]
@[simp] theorem Deed.get_0 (x : Deed) (h) : x.arr[0]'h = Value.int .i64 x.kind := Option.some.inj (by rw [← Array.getElem?_eq_getElem]; exact Deed.arr_0 x)
@[simp] theorem Deed.arr_1 (x : Deed) : x.arr[1]? = some (Value.string x.a) := by simp [Deed.arr, List.getElem?_append, List.getElem?_cons]
@[simp] theorem Deed.get_1 (x : Deed) (h) : x.arr[1]'h = Value.string x.a := Option.some.inj (by rw [← Array.getElem?_eq_getElem]; exact Deed.arr_1 x)
@[simp] theorem Deed.arr_2 (x : Deed) : x.arr[2]? = some (Value.string x.b) := by simp [Deed.arr, List.getElem?_append, List.getElem?_cons]
@[simp] theorem Deed.get_2 (x : Deed) (h) : x.arr[2]'h = Value.string x.b := Option.some.inj (by rw [← Array.getElem?_eq_getElem]; exact Deed.arr_2 x)
@[simp] theorem Deed.arr_3 (x : Deed) : x.arr[3]? = some (Value.int .i64 x.n) := by simp [Deed.arr, List.getElem?_append, List.getElem?_cons]
@[simp] theorem Deed.get_3 (x : Deed) (h) : x.arr[3]'h = Value.int .i64 x.n := Option.some.inj (by rw [← Array.getElem?_eq_getElem]; exact Deed.arr_3 x)

structure Turn where
  kind : Int
  n : Int
  m : Int
  deriving DecidableEq
def Turn.arr (x : Turn) : Array Value := ([Value.int .i64 x.kind, Value.int .i64 x.n, Value.int .i64 x.m]).toArray
def Turn.zero : Turn := { kind := 0, n := 0, m := 0 }
@[simp] theorem Turn.ext_all (x : Turn) : x.arr.extract 0 3 = x.arr := by rw [show 3 = x.arr.size by simp [Turn.arr]]; exact Array.extract_size
theorem one_Turn (x : Turn) : ∀ v ∈ x.arr.toList, v.oneCell' = true := by
  show ∀ v ∈ ([Value.int .i64 x.kind, Value.int .i64 x.n, Value.int .i64 x.m] : List Value), v.oneCell' = true
  intro v hv
  have h0 := hv
  · simp only [List.mem_cons, List.not_mem_nil, or_false] at h0
    rcases h0 with rfl | rfl | rfl <;> rfl
def Turn.wf (x : Turn) : Prop := i64 x.kind ∧ i64 x.n ∧ i64 x.m
@[simp] theorem Turn.size_arr (x : Turn) : x.arr.size = 3 := by simp [Turn.arr]
@[simp] theorem Turn.length_arr (x : Turn) : x.arr.toList.length = 3 := by simp [Turn.arr]
@[simp] theorem Turn.set_0 (x : Turn) (v : Int) : x.arr.setIfInBounds 0 (Value.int .i64 v) = ({ x with kind := v } : Turn).arr := by
  apply Array.ext'; simp [Turn.arr, List.set_append]
@[simp] theorem Turn.set_1 (x : Turn) (v : Int) : x.arr.setIfInBounds 1 (Value.int .i64 v) = ({ x with n := v } : Turn).arr := by
  apply Array.ext'; simp [Turn.arr, List.set_append]
@[simp] theorem Turn.set_2 (x : Turn) (v : Int) : x.arr.setIfInBounds 2 (Value.int .i64 v) = ({ x with m := v } : Turn).arr := by
  apply Array.ext'; simp [Turn.arr, List.set_append]
@[simp] theorem Turn.arr_0 (x : Turn) : x.arr[0]? = some (Value.int .i64 x.kind) := by simp [Turn.arr, List.getElem?_append, List.getElem?_cons]
@[simp] theorem Turn.get_0 (x : Turn) (h) : x.arr[0]'h = Value.int .i64 x.kind := Option.some.inj (by rw [← Array.getElem?_eq_getElem]; exact Turn.arr_0 x)
@[simp] theorem Turn.arr_1 (x : Turn) : x.arr[1]? = some (Value.int .i64 x.n) := by simp [Turn.arr, List.getElem?_append, List.getElem?_cons]
@[simp] theorem Turn.get_1 (x : Turn) (h) : x.arr[1]'h = Value.int .i64 x.n := Option.some.inj (by rw [← Array.getElem?_eq_getElem]; exact Turn.arr_1 x)
@[simp] theorem Turn.arr_2 (x : Turn) : x.arr[2]? = some (Value.int .i64 x.m) := by simp [Turn.arr, List.getElem?_append, List.getElem?_cons]
@[simp] theorem Turn.get_2 (x : Turn) (h) : x.arr[2]'h = Value.int .i64 x.m := Option.some.inj (by rw [← Array.getElem?_eq_getElem]; exact Turn.arr_2 x)

structure TxV where
  ins : Sl
  outs : Sl
  lock : Int
  deriving DecidableEq
def TxV.arr (x : TxV) : Array Value := ([Value.slice x.ins.a x.ins.n x.ins.c, Value.slice x.outs.a x.outs.n x.outs.c, Value.int .i64 x.lock]).toArray
def TxV.zero : TxV := { ins := ⟨none, 0, 0⟩, outs := ⟨none, 0, 0⟩, lock := 0 }
@[simp] theorem TxV.ext_all (x : TxV) : x.arr.extract 0 3 = x.arr := by rw [show 3 = x.arr.size by simp [TxV.arr]]; exact Array.extract_size
theorem one_TxV (x : TxV) : ∀ v ∈ x.arr.toList, v.oneCell' = true := by
  show ∀ v ∈ ([Value.slice x.ins.a x.ins.n x.ins.c, Value.slice x.outs.a x.outs.n x.outs.c, Value.int .i64 x.lock] : List Value), v.oneCell' = true
  intro v hv
  have h0 := hv
  · simp only [List.mem_cons, List.not_mem_nil, or_false] at h0
    rcases h0 with rfl | rfl | rfl <;> rfl
def TxV.wf (x : TxV) : Prop := i64 x.lock
@[simp] theorem TxV.size_arr (x : TxV) : x.arr.size = 3 := by simp [TxV.arr]
@[simp] theorem TxV.length_arr (x : TxV) : x.arr.toList.length = 3 := by simp [TxV.arr]
@[simp] theorem TxV.set_0 (x : TxV) (a : Option Addr) (m c : Nat) : x.arr.setIfInBounds 0 (Value.slice a m c) = ({ x with ins := ⟨a, m, c⟩ } : TxV).arr := by
  apply Array.ext'; simp [TxV.arr, List.set_append]
@[simp] theorem TxV.set_1 (x : TxV) (a : Option Addr) (m c : Nat) : x.arr.setIfInBounds 1 (Value.slice a m c) = ({ x with outs := ⟨a, m, c⟩ } : TxV).arr := by
  apply Array.ext'; simp [TxV.arr, List.set_append]
@[simp] theorem TxV.set_2 (x : TxV) (v : Int) : x.arr.setIfInBounds 2 (Value.int .i64 v) = ({ x with lock := v } : TxV).arr := by
  apply Array.ext'; simp [TxV.arr, List.set_append]
@[simp] theorem TxV.arr_0 (x : TxV) : x.arr[0]? = some (Value.slice x.ins.a x.ins.n x.ins.c) := by simp [TxV.arr, List.getElem?_append, List.getElem?_cons]
@[simp] theorem TxV.get_0 (x : TxV) (h) : x.arr[0]'h = Value.slice x.ins.a x.ins.n x.ins.c := Option.some.inj (by rw [← Array.getElem?_eq_getElem]; exact TxV.arr_0 x)
@[simp] theorem TxV.arr_1 (x : TxV) : x.arr[1]? = some (Value.slice x.outs.a x.outs.n x.outs.c) := by simp [TxV.arr, List.getElem?_append, List.getElem?_cons]
@[simp] theorem TxV.get_1 (x : TxV) (h) : x.arr[1]'h = Value.slice x.outs.a x.outs.n x.outs.c := Option.some.inj (by rw [← Array.getElem?_eq_getElem]; exact TxV.arr_1 x)
@[simp] theorem TxV.arr_2 (x : TxV) : x.arr[2]? = some (Value.int .i64 x.lock) := by simp [TxV.arr, List.getElem?_append, List.getElem?_cons]
@[simp] theorem TxV.get_2 (x : TxV) (h) : x.arr[2]'h = Value.int .i64 x.lock := Option.some.inj (by rw [← Array.getElem?_eq_getElem]; exact TxV.arr_2 x)

structure ChannelV where
  funding : Outpoint
  commits : Sl
  deriving DecidableEq
def ChannelV.arr (x : ChannelV) : Array Value := (x.funding.arr.toList ++ [Value.slice x.commits.a x.commits.n x.commits.c]).toArray
def ChannelV.zero : ChannelV := { funding := Outpoint.zero, commits := ⟨none, 0, 0⟩ }
@[simp] theorem ChannelV.ext_all (x : ChannelV) : x.arr.extract 0 34 = x.arr := by rw [show 34 = x.arr.size by simp [ChannelV.arr]]; exact Array.extract_size
theorem one_ChannelV (x : ChannelV) : ∀ v ∈ x.arr.toList, v.oneCell' = true := by
  show ∀ v ∈ (x.funding.arr.toList ++ [Value.slice x.commits.a x.commits.n x.commits.c] : List Value), v.oneCell' = true
  intro v hv
  simp only [List.mem_append] at hv
  rcases hv with h0 | h1
  · exact one_Outpoint _ v h0
  · simp only [List.mem_cons, List.not_mem_nil, or_false] at h1
    rcases h1 with rfl <;> rfl
def ChannelV.wf (x : ChannelV) : Prop := x.funding.wf
@[simp] theorem ChannelV.size_arr (x : ChannelV) : x.arr.size = 34 := by simp [ChannelV.arr]
@[simp] theorem ChannelV.length_arr (x : ChannelV) : x.arr.toList.length = 34 := by simp [ChannelV.arr]
@[simp] theorem ChannelV.set_33 (x : ChannelV) (a : Option Addr) (m c : Nat) : x.arr.setIfInBounds 33 (Value.slice a m c) = ({ x with commits := ⟨a, m, c⟩ } : ChannelV).arr := by
  apply Array.ext'; simp [ChannelV.arr, List.set_append]
@[simp] theorem ChannelV.ext_0 (x : ChannelV) : x.arr.extract 0 33 = x.funding.arr := by
  have h : (x.funding.arr.toList ++ [Value.slice x.commits.a x.commits.n x.commits.c] : List Value) = ([]) ++ (x.funding.arr.toList ++ ([Value.slice x.commits.a x.commits.n x.commits.c])) := by simp only [List.append_assoc, List.append_nil, List.nil_append, List.cons_append]
  unfold ChannelV.arr; rw [h]; exact ext_mid _ _ _ _ 33 _ (by simp) (by simp) rfl
@[simp] theorem ChannelV.arr_32 (x : ChannelV) : x.arr[32]? = some (Value.int .i64 x.funding.n) := arr_of_ext (k := 32) (ChannelV.ext_0 x) _ rfl (by decide) (Outpoint.arr_32 _)
@[simp] theorem ChannelV.get_32 (x : ChannelV) (h) : x.arr[32]'h = Value.int .i64 x.funding.n := Option.some.inj (by rw [← Array.getElem?_eq_getElem]; exact ChannelV.arr_32 x)
@[simp] theorem ChannelV.arr_33 (x : ChannelV) : x.arr[33]? = some (Value.slice x.commits.a x.commits.n x.commits.c) := by simp [ChannelV.arr, List.getElem?_append, List.getElem?_cons]
@[simp] theorem ChannelV.get_33 (x : ChannelV) (h) : x.arr[33]'h = Value.slice x.commits.a x.commits.n x.commits.c := Option.some.inj (by rw [← Array.getElem?_eq_getElem]; exact ChannelV.arr_33 x)

structure BlockV where
  head : Header
  txs : Sl
  deriving DecidableEq
def BlockV.arr (x : BlockV) : Array Value := (x.head.arr.toList ++ [Value.slice x.txs.a x.txs.n x.txs.c]).toArray
def BlockV.zero : BlockV := { head := Header.zero, txs := ⟨none, 0, 0⟩ }
@[simp] theorem BlockV.ext_all (x : BlockV) : x.arr.extract 0 67 = x.arr := by rw [show 67 = x.arr.size by simp [BlockV.arr]]; exact Array.extract_size
theorem one_BlockV (x : BlockV) : ∀ v ∈ x.arr.toList, v.oneCell' = true := by
  show ∀ v ∈ (x.head.arr.toList ++ [Value.slice x.txs.a x.txs.n x.txs.c] : List Value), v.oneCell' = true
  intro v hv
  simp only [List.mem_append] at hv
  rcases hv with h0 | h1
  · exact one_Header _ v h0
  · simp only [List.mem_cons, List.not_mem_nil, or_false] at h1
    rcases h1 with rfl <;> rfl
def BlockV.wf (x : BlockV) : Prop := x.head.wf
@[simp] theorem BlockV.size_arr (x : BlockV) : x.arr.size = 67 := by simp [BlockV.arr]
@[simp] theorem BlockV.length_arr (x : BlockV) : x.arr.toList.length = 67 := by simp [BlockV.arr]
@[simp] theorem BlockV.set_66 (x : BlockV) (a : Option Addr) (m c : Nat) : x.arr.setIfInBounds 66 (Value.slice a m c) = ({ x with txs := ⟨a, m, c⟩ } : BlockV).arr := by
  apply Array.ext'; simp [BlockV.arr, List.set_append]
@[simp] theorem BlockV.ext_0 (x : BlockV) : x.arr.extract 0 66 = x.head.arr := by
  have h : (x.head.arr.toList ++ [Value.slice x.txs.a x.txs.n x.txs.c] : List Value) = ([]) ++ (x.head.arr.toList ++ ([Value.slice x.txs.a x.txs.n x.txs.c])) := by simp only [List.append_assoc, List.append_nil, List.nil_append, List.cons_append]
  unfold BlockV.arr; rw [h]; exact ext_mid _ _ _ _ 66 _ (by simp) (by simp) rfl
@[simp] theorem BlockV.arr_64 (x : BlockV) : x.arr[64]? = some (Value.int .i64 x.head.work) := arr_of_ext (k := 64) (BlockV.ext_0 x) _ rfl (by decide) (Header.arr_64 _)
@[simp] theorem BlockV.get_64 (x : BlockV) (h) : x.arr[64]'h = Value.int .i64 x.head.work := Option.some.inj (by rw [← Array.getElem?_eq_getElem]; exact BlockV.arr_64 x)
@[simp] theorem BlockV.arr_65 (x : BlockV) : x.arr[65]? = some (Value.int .i64 x.head.nonce) := arr_of_ext (k := 65) (BlockV.ext_0 x) _ rfl (by decide) (Header.arr_65 _)
@[simp] theorem BlockV.get_65 (x : BlockV) (h) : x.arr[65]'h = Value.int .i64 x.head.nonce := Option.some.inj (by rw [← Array.getElem?_eq_getElem]; exact BlockV.arr_65 x)
@[simp] theorem BlockV.arr_66 (x : BlockV) : x.arr[66]? = some (Value.slice x.txs.a x.txs.n x.txs.c) := by simp [BlockV.arr, List.getElem?_append, List.getElem?_cons]
@[simp] theorem BlockV.get_66 (x : BlockV) (h) : x.arr[66]'h = Value.slice x.txs.a x.txs.n x.txs.c := Option.some.inj (by rw [← Array.getElem?_eq_getElem]; exact BlockV.arr_66 x)

structure EntryV where
  t : TxV
  height : Int
  deriving DecidableEq
def EntryV.arr (x : EntryV) : Array Value := (x.t.arr.toList ++ [Value.int .i64 x.height]).toArray
def EntryV.zero : EntryV := { t := TxV.zero, height := 0 }
@[simp] theorem EntryV.ext_all (x : EntryV) : x.arr.extract 0 4 = x.arr := by rw [show 4 = x.arr.size by simp [EntryV.arr]]; exact Array.extract_size
theorem one_EntryV (x : EntryV) : ∀ v ∈ x.arr.toList, v.oneCell' = true := by
  show ∀ v ∈ (x.t.arr.toList ++ [Value.int .i64 x.height] : List Value), v.oneCell' = true
  intro v hv
  simp only [List.mem_append] at hv
  rcases hv with h0 | h1
  · exact one_TxV _ v h0
  · simp only [List.mem_cons, List.not_mem_nil, or_false] at h1
    rcases h1 with rfl <;> rfl
def EntryV.wf (x : EntryV) : Prop := x.t.wf ∧ i64 x.height
@[simp] theorem EntryV.size_arr (x : EntryV) : x.arr.size = 4 := by simp [EntryV.arr]
@[simp] theorem EntryV.length_arr (x : EntryV) : x.arr.toList.length = 4 := by simp [EntryV.arr]
@[simp] theorem EntryV.set_3 (x : EntryV) (v : Int) : x.arr.setIfInBounds 3 (Value.int .i64 v) = ({ x with height := v } : EntryV).arr := by
  apply Array.ext'; simp [EntryV.arr, List.set_append]
@[simp] theorem EntryV.ext_0 (x : EntryV) : x.arr.extract 0 3 = x.t.arr := by
  have h : (x.t.arr.toList ++ [Value.int .i64 x.height] : List Value) = ([]) ++ (x.t.arr.toList ++ ([Value.int .i64 x.height])) := by simp only [List.append_assoc, List.append_nil, List.nil_append, List.cons_append]
  unfold EntryV.arr; rw [h]; exact ext_mid _ _ _ _ 3 _ (by simp) (by simp) rfl
@[simp] theorem EntryV.arr_0 (x : EntryV) : x.arr[0]? = some (Value.slice x.t.ins.a x.t.ins.n x.t.ins.c) := arr_of_ext (k := 0) (EntryV.ext_0 x) _ rfl (by decide) (TxV.arr_0 _)
@[simp] theorem EntryV.get_0 (x : EntryV) (h) : x.arr[0]'h = Value.slice x.t.ins.a x.t.ins.n x.t.ins.c := Option.some.inj (by rw [← Array.getElem?_eq_getElem]; exact EntryV.arr_0 x)
@[simp] theorem EntryV.arr_1 (x : EntryV) : x.arr[1]? = some (Value.slice x.t.outs.a x.t.outs.n x.t.outs.c) := arr_of_ext (k := 1) (EntryV.ext_0 x) _ rfl (by decide) (TxV.arr_1 _)
@[simp] theorem EntryV.get_1 (x : EntryV) (h) : x.arr[1]'h = Value.slice x.t.outs.a x.t.outs.n x.t.outs.c := Option.some.inj (by rw [← Array.getElem?_eq_getElem]; exact EntryV.arr_1 x)
@[simp] theorem EntryV.arr_2 (x : EntryV) : x.arr[2]? = some (Value.int .i64 x.t.lock) := arr_of_ext (k := 2) (EntryV.ext_0 x) _ rfl (by decide) (TxV.arr_2 _)
@[simp] theorem EntryV.get_2 (x : EntryV) (h) : x.arr[2]'h = Value.int .i64 x.t.lock := Option.some.inj (by rw [← Array.getElem?_eq_getElem]; exact EntryV.arr_2 x)
@[simp] theorem EntryV.arr_3 (x : EntryV) : x.arr[3]? = some (Value.int .i64 x.height) := by simp [EntryV.arr, List.getElem?_append, List.getElem?_cons]
@[simp] theorem EntryV.get_3 (x : EntryV) (h) : x.arr[3]'h = Value.int .i64 x.height := Option.some.inj (by rw [← Array.getElem?_eq_getElem]; exact EntryV.arr_3 x)

structure IndexV where
  blocks : Sl
  txs : Option Nat
  spender : Option Nat
  deriving DecidableEq
def IndexV.arr (x : IndexV) : Array Value := ([Value.slice x.blocks.a x.blocks.n x.blocks.c, Value.map x.txs, Value.map x.spender]).toArray
def IndexV.zero : IndexV := { blocks := ⟨none, 0, 0⟩, txs := none, spender := none }
@[simp] theorem IndexV.ext_all (x : IndexV) : x.arr.extract 0 3 = x.arr := by rw [show 3 = x.arr.size by simp [IndexV.arr]]; exact Array.extract_size
theorem one_IndexV (x : IndexV) : ∀ v ∈ x.arr.toList, v.oneCell' = true := by
  show ∀ v ∈ ([Value.slice x.blocks.a x.blocks.n x.blocks.c, Value.map x.txs, Value.map x.spender] : List Value), v.oneCell' = true
  intro v hv
  have h0 := hv
  · simp only [List.mem_cons, List.not_mem_nil, or_false] at h0
    rcases h0 with rfl | rfl | rfl <;> rfl
def IndexV.wf (x : IndexV) : Prop := True
@[simp] theorem IndexV.size_arr (x : IndexV) : x.arr.size = 3 := by simp [IndexV.arr]
@[simp] theorem IndexV.length_arr (x : IndexV) : x.arr.toList.length = 3 := by simp [IndexV.arr]
@[simp] theorem IndexV.set_0 (x : IndexV) (a : Option Addr) (m c : Nat) : x.arr.setIfInBounds 0 (Value.slice a m c) = ({ x with blocks := ⟨a, m, c⟩ } : IndexV).arr := by
  apply Array.ext'; simp [IndexV.arr, List.set_append]
@[simp] theorem IndexV.set_1 (x : IndexV) (v : Option Nat) : x.arr.setIfInBounds 1 (Value.map v) = ({ x with txs := v } : IndexV).arr := by
  apply Array.ext'; simp [IndexV.arr, List.set_append]
@[simp] theorem IndexV.set_2 (x : IndexV) (v : Option Nat) : x.arr.setIfInBounds 2 (Value.map v) = ({ x with spender := v } : IndexV).arr := by
  apply Array.ext'; simp [IndexV.arr, List.set_append]
@[simp] theorem IndexV.arr_0 (x : IndexV) : x.arr[0]? = some (Value.slice x.blocks.a x.blocks.n x.blocks.c) := by simp [IndexV.arr, List.getElem?_append, List.getElem?_cons]
@[simp] theorem IndexV.get_0 (x : IndexV) (h) : x.arr[0]'h = Value.slice x.blocks.a x.blocks.n x.blocks.c := Option.some.inj (by rw [← Array.getElem?_eq_getElem]; exact IndexV.arr_0 x)
@[simp] theorem IndexV.arr_1 (x : IndexV) : x.arr[1]? = some (Value.map x.txs) := by simp [IndexV.arr, List.getElem?_append, List.getElem?_cons]
@[simp] theorem IndexV.get_1 (x : IndexV) (h) : x.arr[1]'h = Value.map x.txs := Option.some.inj (by rw [← Array.getElem?_eq_getElem]; exact IndexV.arr_1 x)
@[simp] theorem IndexV.arr_2 (x : IndexV) : x.arr[2]? = some (Value.map x.spender) := by simp [IndexV.arr, List.getElem?_append, List.getElem?_cons]
@[simp] theorem IndexV.get_2 (x : IndexV) (h) : x.arr[2]'h = Value.map x.spender := Option.some.inj (by rw [← Array.getElem?_eq_getElem]; exact IndexV.arr_2 x)

structure RIndexV where
  l : Sl
  deriving DecidableEq
def RIndexV.arr (x : RIndexV) : Array Value := ([Value.slice x.l.a x.l.n x.l.c]).toArray
def RIndexV.zero : RIndexV := { l := ⟨none, 0, 0⟩ }
@[simp] theorem RIndexV.ext_all (x : RIndexV) : x.arr.extract 0 1 = x.arr := by rw [show 1 = x.arr.size by simp [RIndexV.arr]]; exact Array.extract_size
theorem one_RIndexV (x : RIndexV) : ∀ v ∈ x.arr.toList, v.oneCell' = true := by
  show ∀ v ∈ ([Value.slice x.l.a x.l.n x.l.c] : List Value), v.oneCell' = true
  intro v hv
  have h0 := hv
  · simp only [List.mem_cons, List.not_mem_nil, or_false] at h0
    rcases h0 with rfl <;> rfl
def RIndexV.wf (x : RIndexV) : Prop := True
@[simp] theorem RIndexV.size_arr (x : RIndexV) : x.arr.size = 1 := by simp [RIndexV.arr]
@[simp] theorem RIndexV.length_arr (x : RIndexV) : x.arr.toList.length = 1 := by simp [RIndexV.arr]
@[simp] theorem RIndexV.set_0 (x : RIndexV) (a : Option Addr) (m c : Nat) : x.arr.setIfInBounds 0 (Value.slice a m c) = ({ x with l := ⟨a, m, c⟩ } : RIndexV).arr := by
  apply Array.ext'; simp [RIndexV.arr, List.set_append]
@[simp] theorem RIndexV.arr_0 (x : RIndexV) : x.arr[0]? = some (Value.slice x.l.a x.l.n x.l.c) := by simp [RIndexV.arr, List.getElem?_append, List.getElem?_cons]
@[simp] theorem RIndexV.get_0 (x : RIndexV) (h) : x.arr[0]'h = Value.slice x.l.a x.l.n x.l.c := Option.some.inj (by rw [← Array.getElem?_eq_getElem]; exact RIndexV.arr_0 x)

structure InkV where
  b : Sl
  blot : Bool
  deriving DecidableEq
def InkV.arr (x : InkV) : Array Value := ([Value.slice x.b.a x.b.n x.b.c, Value.bool x.blot]).toArray
def InkV.zero : InkV := { b := ⟨none, 0, 0⟩, blot := false }
@[simp] theorem InkV.ext_all (x : InkV) : x.arr.extract 0 2 = x.arr := by rw [show 2 = x.arr.size by simp [InkV.arr]]; exact Array.extract_size
theorem one_InkV (x : InkV) : ∀ v ∈ x.arr.toList, v.oneCell' = true := by
  show ∀ v ∈ ([Value.slice x.b.a x.b.n x.b.c, Value.bool x.blot] : List Value), v.oneCell' = true
  intro v hv
  have h0 := hv
  · simp only [List.mem_cons, List.not_mem_nil, or_false] at h0
    rcases h0 with rfl | rfl <;> rfl
def InkV.wf (x : InkV) : Prop := True
@[simp] theorem InkV.size_arr (x : InkV) : x.arr.size = 2 := by simp [InkV.arr]
@[simp] theorem InkV.length_arr (x : InkV) : x.arr.toList.length = 2 := by simp [InkV.arr]
@[simp] theorem InkV.set_0 (x : InkV) (a : Option Addr) (m c : Nat) : x.arr.setIfInBounds 0 (Value.slice a m c) = ({ x with b := ⟨a, m, c⟩ } : InkV).arr := by
  apply Array.ext'; simp [InkV.arr, List.set_append]
@[simp] theorem InkV.set_1 (x : InkV) (v : Bool) : x.arr.setIfInBounds 1 (Value.bool v) = ({ x with blot := v } : InkV).arr := by
  apply Array.ext'; simp [InkV.arr, List.set_append]
@[simp] theorem InkV.arr_0 (x : InkV) : x.arr[0]? = some (Value.slice x.b.a x.b.n x.b.c) := by simp [InkV.arr, List.getElem?_append, List.getElem?_cons]
@[simp] theorem InkV.get_0 (x : InkV) (h) : x.arr[0]'h = Value.slice x.b.a x.b.n x.b.c := Option.some.inj (by rw [← Array.getElem?_eq_getElem]; exact InkV.arr_0 x)
@[simp] theorem InkV.arr_1 (x : InkV) : x.arr[1]? = some (Value.bool x.blot) := by simp [InkV.arr, List.getElem?_append, List.getElem?_cons]
@[simp] theorem InkV.get_1 (x : InkV) (h) : x.arr[1]'h = Value.bool x.blot := Option.some.inj (by rw [← Array.getElem?_eq_getElem]; exact InkV.arr_1 x)

structure FileV where
  b : Sl
  safe : Int
  deriving DecidableEq
def FileV.arr (x : FileV) : Array Value := ([Value.slice x.b.a x.b.n x.b.c, Value.int .i64 x.safe]).toArray
def FileV.zero : FileV := { b := ⟨none, 0, 0⟩, safe := 0 }
@[simp] theorem FileV.ext_all (x : FileV) : x.arr.extract 0 2 = x.arr := by rw [show 2 = x.arr.size by simp [FileV.arr]]; exact Array.extract_size
theorem one_FileV (x : FileV) : ∀ v ∈ x.arr.toList, v.oneCell' = true := by
  show ∀ v ∈ ([Value.slice x.b.a x.b.n x.b.c, Value.int .i64 x.safe] : List Value), v.oneCell' = true
  intro v hv
  have h0 := hv
  · simp only [List.mem_cons, List.not_mem_nil, or_false] at h0
    rcases h0 with rfl | rfl <;> rfl
def FileV.wf (x : FileV) : Prop := i64 x.safe
@[simp] theorem FileV.size_arr (x : FileV) : x.arr.size = 2 := by simp [FileV.arr]
@[simp] theorem FileV.length_arr (x : FileV) : x.arr.toList.length = 2 := by simp [FileV.arr]
@[simp] theorem FileV.set_0 (x : FileV) (a : Option Addr) (m c : Nat) : x.arr.setIfInBounds 0 (Value.slice a m c) = ({ x with b := ⟨a, m, c⟩ } : FileV).arr := by
  apply Array.ext'; simp [FileV.arr, List.set_append]
@[simp] theorem FileV.set_1 (x : FileV) (v : Int) : x.arr.setIfInBounds 1 (Value.int .i64 v) = ({ x with safe := v } : FileV).arr := by
  apply Array.ext'; simp [FileV.arr, List.set_append]
@[simp] theorem FileV.arr_0 (x : FileV) : x.arr[0]? = some (Value.slice x.b.a x.b.n x.b.c) := by simp [FileV.arr, List.getElem?_append, List.getElem?_cons]
@[simp] theorem FileV.get_0 (x : FileV) (h) : x.arr[0]'h = Value.slice x.b.a x.b.n x.b.c := Option.some.inj (by rw [← Array.getElem?_eq_getElem]; exact FileV.arr_0 x)
@[simp] theorem FileV.arr_1 (x : FileV) : x.arr[1]? = some (Value.int .i64 x.safe) := by simp [FileV.arr, List.getElem?_append, List.getElem?_cons]
@[simp] theorem FileV.get_1 (x : FileV) (h) : x.arr[1]'h = Value.int .i64 x.safe := Option.some.inj (by rw [← Array.getElem?_eq_getElem]; exact FileV.arr_1 x)

structure FSV where
  m : Option Nat
  cut : Bool
  off : Bool
  left : Int
  ops : Int
  deriving DecidableEq
def FSV.arr (x : FSV) : Array Value := ([Value.map x.m, Value.bool x.cut, Value.bool x.off, Value.int .i64 x.left, Value.int .i64 x.ops]).toArray
def FSV.zero : FSV := { m := none, cut := false, off := false, left := 0, ops := 0 }
@[simp] theorem FSV.ext_all (x : FSV) : x.arr.extract 0 5 = x.arr := by rw [show 5 = x.arr.size by simp [FSV.arr]]; exact Array.extract_size
theorem one_FSV (x : FSV) : ∀ v ∈ x.arr.toList, v.oneCell' = true := by
  show ∀ v ∈ ([Value.map x.m, Value.bool x.cut, Value.bool x.off, Value.int .i64 x.left, Value.int .i64 x.ops] : List Value), v.oneCell' = true
  intro v hv
  have h0 := hv
  · simp only [List.mem_cons, List.not_mem_nil, or_false] at h0
    rcases h0 with rfl | rfl | rfl | rfl | rfl <;> rfl
def FSV.wf (x : FSV) : Prop := i64 x.left ∧ i64 x.ops
@[simp] theorem FSV.size_arr (x : FSV) : x.arr.size = 5 := by simp [FSV.arr]
@[simp] theorem FSV.length_arr (x : FSV) : x.arr.toList.length = 5 := by simp [FSV.arr]
@[simp] theorem FSV.set_0 (x : FSV) (v : Option Nat) : x.arr.setIfInBounds 0 (Value.map v) = ({ x with m := v } : FSV).arr := by
  apply Array.ext'; simp [FSV.arr, List.set_append]
@[simp] theorem FSV.set_1 (x : FSV) (v : Bool) : x.arr.setIfInBounds 1 (Value.bool v) = ({ x with cut := v } : FSV).arr := by
  apply Array.ext'; simp [FSV.arr, List.set_append]
@[simp] theorem FSV.set_2 (x : FSV) (v : Bool) : x.arr.setIfInBounds 2 (Value.bool v) = ({ x with off := v } : FSV).arr := by
  apply Array.ext'; simp [FSV.arr, List.set_append]
@[simp] theorem FSV.set_3 (x : FSV) (v : Int) : x.arr.setIfInBounds 3 (Value.int .i64 v) = ({ x with left := v } : FSV).arr := by
  apply Array.ext'; simp [FSV.arr, List.set_append]
@[simp] theorem FSV.set_4 (x : FSV) (v : Int) : x.arr.setIfInBounds 4 (Value.int .i64 v) = ({ x with ops := v } : FSV).arr := by
  apply Array.ext'; simp [FSV.arr, List.set_append]
@[simp] theorem FSV.arr_0 (x : FSV) : x.arr[0]? = some (Value.map x.m) := by simp [FSV.arr, List.getElem?_append, List.getElem?_cons]
@[simp] theorem FSV.get_0 (x : FSV) (h) : x.arr[0]'h = Value.map x.m := Option.some.inj (by rw [← Array.getElem?_eq_getElem]; exact FSV.arr_0 x)
@[simp] theorem FSV.arr_1 (x : FSV) : x.arr[1]? = some (Value.bool x.cut) := by simp [FSV.arr, List.getElem?_append, List.getElem?_cons]
@[simp] theorem FSV.get_1 (x : FSV) (h) : x.arr[1]'h = Value.bool x.cut := Option.some.inj (by rw [← Array.getElem?_eq_getElem]; exact FSV.arr_1 x)
@[simp] theorem FSV.arr_2 (x : FSV) : x.arr[2]? = some (Value.bool x.off) := by simp [FSV.arr, List.getElem?_append, List.getElem?_cons]
@[simp] theorem FSV.get_2 (x : FSV) (h) : x.arr[2]'h = Value.bool x.off := Option.some.inj (by rw [← Array.getElem?_eq_getElem]; exact FSV.arr_2 x)
@[simp] theorem FSV.arr_3 (x : FSV) : x.arr[3]? = some (Value.int .i64 x.left) := by simp [FSV.arr, List.getElem?_append, List.getElem?_cons]
@[simp] theorem FSV.get_3 (x : FSV) (h) : x.arr[3]'h = Value.int .i64 x.left := Option.some.inj (by rw [← Array.getElem?_eq_getElem]; exact FSV.arr_3 x)
@[simp] theorem FSV.arr_4 (x : FSV) : x.arr[4]? = some (Value.int .i64 x.ops) := by simp [FSV.arr, List.getElem?_append, List.getElem?_cons]
@[simp] theorem FSV.get_4 (x : FSV) (h) : x.arr[4]'h = Value.int .i64 x.ops := Option.some.inj (by rw [← Array.getElem?_eq_getElem]; exact FSV.arr_4 x)

structure LogV where
  f : Option Addr
  name : ByteArray
  records : Sl
  size : Int
  dead : Bool
  deriving DecidableEq
def LogV.arr (x : LogV) : Array Value := ([Value.pointer x.f, Value.string x.name, Value.slice x.records.a x.records.n x.records.c, Value.int .i64 x.size, Value.bool x.dead]).toArray
def LogV.zero : LogV := { f := none, name := ByteArray.empty, records := ⟨none, 0, 0⟩, size := 0, dead := false }
@[simp] theorem LogV.ext_all (x : LogV) : x.arr.extract 0 5 = x.arr := by rw [show 5 = x.arr.size by simp [LogV.arr]]; exact Array.extract_size
theorem one_LogV (x : LogV) : ∀ v ∈ x.arr.toList, v.oneCell' = true := by
  show ∀ v ∈ ([Value.pointer x.f, Value.string x.name, Value.slice x.records.a x.records.n x.records.c, Value.int .i64 x.size, Value.bool x.dead] : List Value), v.oneCell' = true
  intro v hv
  have h0 := hv
  · simp only [List.mem_cons, List.not_mem_nil, or_false] at h0
    rcases h0 with rfl | rfl | rfl | rfl | rfl <;> rfl
def LogV.wf (x : LogV) : Prop := x.name.size ≤ maxLen ∧ i64 x.size
@[simp] theorem LogV.size_arr (x : LogV) : x.arr.size = 5 := by simp [LogV.arr]
@[simp] theorem LogV.length_arr (x : LogV) : x.arr.toList.length = 5 := by simp [LogV.arr]
@[simp] theorem LogV.set_0 (x : LogV) (v : Option Addr) : x.arr.setIfInBounds 0 (Value.pointer v) = ({ x with f := v } : LogV).arr := by
  apply Array.ext'; simp [LogV.arr, List.set_append]
@[simp] theorem LogV.set_1 (x : LogV) (v : ByteArray) : x.arr.setIfInBounds 1 (Value.string v) = ({ x with name := v } : LogV).arr := by
  apply Array.ext'; simp [LogV.arr, List.set_append]
@[simp] theorem LogV.set_2 (x : LogV) (a : Option Addr) (m c : Nat) : x.arr.setIfInBounds 2 (Value.slice a m c) = ({ x with records := ⟨a, m, c⟩ } : LogV).arr := by
  apply Array.ext'; simp [LogV.arr, List.set_append]
@[simp] theorem LogV.set_3 (x : LogV) (v : Int) : x.arr.setIfInBounds 3 (Value.int .i64 v) = ({ x with size := v } : LogV).arr := by
  apply Array.ext'; simp [LogV.arr, List.set_append]
@[simp] theorem LogV.set_4 (x : LogV) (v : Bool) : x.arr.setIfInBounds 4 (Value.bool v) = ({ x with dead := v } : LogV).arr := by
  apply Array.ext'; simp [LogV.arr, List.set_append]
@[simp] theorem LogV.arr_0 (x : LogV) : x.arr[0]? = some (Value.pointer x.f) := by simp [LogV.arr, List.getElem?_append, List.getElem?_cons]
@[simp] theorem LogV.get_0 (x : LogV) (h) : x.arr[0]'h = Value.pointer x.f := Option.some.inj (by rw [← Array.getElem?_eq_getElem]; exact LogV.arr_0 x)
@[simp] theorem LogV.arr_1 (x : LogV) : x.arr[1]? = some (Value.string x.name) := by simp [LogV.arr, List.getElem?_append, List.getElem?_cons]
@[simp] theorem LogV.get_1 (x : LogV) (h) : x.arr[1]'h = Value.string x.name := Option.some.inj (by rw [← Array.getElem?_eq_getElem]; exact LogV.arr_1 x)
@[simp] theorem LogV.arr_2 (x : LogV) : x.arr[2]? = some (Value.slice x.records.a x.records.n x.records.c) := by simp [LogV.arr, List.getElem?_append, List.getElem?_cons]
@[simp] theorem LogV.get_2 (x : LogV) (h) : x.arr[2]'h = Value.slice x.records.a x.records.n x.records.c := Option.some.inj (by rw [← Array.getElem?_eq_getElem]; exact LogV.arr_2 x)
@[simp] theorem LogV.arr_3 (x : LogV) : x.arr[3]? = some (Value.int .i64 x.size) := by simp [LogV.arr, List.getElem?_append, List.getElem?_cons]
@[simp] theorem LogV.get_3 (x : LogV) (h) : x.arr[3]'h = Value.int .i64 x.size := Option.some.inj (by rw [← Array.getElem?_eq_getElem]; exact LogV.arr_3 x)
@[simp] theorem LogV.arr_4 (x : LogV) : x.arr[4]? = some (Value.bool x.dead) := by simp [LogV.arr, List.getElem?_append, List.getElem?_cons]
@[simp] theorem LogV.get_4 (x : LogV) (h) : x.arr[4]'h = Value.bool x.dead := Option.some.inj (by rw [← Array.getElem?_eq_getElem]; exact LogV.arr_4 x)

structure WalkV where
  x : Option Addr
  b : Option Addr
  k : Keys
  depth : Int
  out : Sl
  met : Option Nat
  deriving DecidableEq
def WalkV.arr (x : WalkV) : Array Value := ([Value.pointer x.x, Value.pointer x.b] ++ x.k.arr.toList ++ [Value.int .i64 x.depth, Value.slice x.out.a x.out.n x.out.c, Value.map x.met]).toArray
def WalkV.zero : WalkV := { x := none, b := none, k := Keys.zero, depth := 0, out := ⟨none, 0, 0⟩, met := none }
@[simp] theorem WalkV.ext_all (x : WalkV) : x.arr.extract 0 8 = x.arr := by rw [show 8 = x.arr.size by simp [WalkV.arr]]; exact Array.extract_size
theorem one_WalkV (x : WalkV) : ∀ v ∈ x.arr.toList, v.oneCell' = true := by
  show ∀ v ∈ ([Value.pointer x.x, Value.pointer x.b] ++ x.k.arr.toList ++ [Value.int .i64 x.depth, Value.slice x.out.a x.out.n x.out.c, Value.map x.met] : List Value), v.oneCell' = true
  intro v hv
  simp only [List.mem_append] at hv
  rcases hv with (h0 | h1) | h2
  · simp only [List.mem_cons, List.not_mem_nil, or_false] at h0
    rcases h0 with rfl | rfl <;> rfl
  · exact one_Keys _ v h1
  · simp only [List.mem_cons, List.not_mem_nil, or_false] at h2
    rcases h2 with rfl | rfl | rfl <;> rfl
def WalkV.wf (x : WalkV) : Prop := x.k.wf ∧ i64 x.depth
@[simp] theorem WalkV.size_arr (x : WalkV) : x.arr.size = 8 := by simp [WalkV.arr]
@[simp] theorem WalkV.length_arr (x : WalkV) : x.arr.toList.length = 8 := by simp [WalkV.arr]
@[simp] theorem WalkV.set_0 (x : WalkV) (v : Option Addr) : x.arr.setIfInBounds 0 (Value.pointer v) = ({ x with x := v } : WalkV).arr := by
  apply Array.ext'; simp [WalkV.arr, List.set_append]
@[simp] theorem WalkV.set_1 (x : WalkV) (v : Option Addr) : x.arr.setIfInBounds 1 (Value.pointer v) = ({ x with b := v } : WalkV).arr := by
  apply Array.ext'; simp [WalkV.arr, List.set_append]
@[simp] theorem WalkV.set_5 (x : WalkV) (v : Int) : x.arr.setIfInBounds 5 (Value.int .i64 v) = ({ x with depth := v } : WalkV).arr := by
  apply Array.ext'; simp [WalkV.arr, List.set_append]
@[simp] theorem WalkV.set_6 (x : WalkV) (a : Option Addr) (m c : Nat) : x.arr.setIfInBounds 6 (Value.slice a m c) = ({ x with out := ⟨a, m, c⟩ } : WalkV).arr := by
  apply Array.ext'; simp [WalkV.arr, List.set_append]
@[simp] theorem WalkV.set_7 (x : WalkV) (v : Option Nat) : x.arr.setIfInBounds 7 (Value.map v) = ({ x with met := v } : WalkV).arr := by
  apply Array.ext'; simp [WalkV.arr, List.set_append]
@[simp] theorem WalkV.arr_0 (x : WalkV) : x.arr[0]? = some (Value.pointer x.x) := by simp [WalkV.arr, List.getElem?_append, List.getElem?_cons]
@[simp] theorem WalkV.get_0 (x : WalkV) (h) : x.arr[0]'h = Value.pointer x.x := Option.some.inj (by rw [← Array.getElem?_eq_getElem]; exact WalkV.arr_0 x)
@[simp] theorem WalkV.arr_1 (x : WalkV) : x.arr[1]? = some (Value.pointer x.b) := by simp [WalkV.arr, List.getElem?_append, List.getElem?_cons]
@[simp] theorem WalkV.get_1 (x : WalkV) (h) : x.arr[1]'h = Value.pointer x.b := Option.some.inj (by rw [← Array.getElem?_eq_getElem]; exact WalkV.arr_1 x)
@[simp] theorem WalkV.ext_2 (x : WalkV) : x.arr.extract 2 5 = x.k.arr := by
  have h : ([Value.pointer x.x, Value.pointer x.b] ++ x.k.arr.toList ++ [Value.int .i64 x.depth, Value.slice x.out.a x.out.n x.out.c, Value.map x.met] : List Value) = ([Value.pointer x.x, Value.pointer x.b]) ++ (x.k.arr.toList ++ ([Value.int .i64 x.depth, Value.slice x.out.a x.out.n x.out.c, Value.map x.met])) := by simp only [List.append_assoc, List.append_nil, List.nil_append, List.cons_append]
  unfold WalkV.arr; rw [h]; exact ext_mid _ _ _ _ 3 _ (by simp) (by simp) rfl
@[simp] theorem WalkV.arr_2 (x : WalkV) : x.arr[2]? = some (Value.int .i64 x.k.wallet) := arr_of_ext (k := 0) (WalkV.ext_2 x) _ rfl (by decide) (Keys.arr_0 _)
@[simp] theorem WalkV.get_2 (x : WalkV) (h) : x.arr[2]'h = Value.int .i64 x.k.wallet := Option.some.inj (by rw [← Array.getElem?_eq_getElem]; exact WalkV.arr_2 x)
@[simp] theorem WalkV.arr_3 (x : WalkV) : x.arr[3]? = some (Value.int .i64 x.k.own) := arr_of_ext (k := 1) (WalkV.ext_2 x) _ rfl (by decide) (Keys.arr_1 _)
@[simp] theorem WalkV.get_3 (x : WalkV) (h) : x.arr[3]'h = Value.int .i64 x.k.own := Option.some.inj (by rw [← Array.getElem?_eq_getElem]; exact WalkV.arr_3 x)
@[simp] theorem WalkV.arr_4 (x : WalkV) : x.arr[4]? = some (Value.int .i64 x.k.rev) := arr_of_ext (k := 2) (WalkV.ext_2 x) _ rfl (by decide) (Keys.arr_2 _)
@[simp] theorem WalkV.get_4 (x : WalkV) (h) : x.arr[4]'h = Value.int .i64 x.k.rev := Option.some.inj (by rw [← Array.getElem?_eq_getElem]; exact WalkV.arr_4 x)
@[simp] theorem WalkV.arr_5 (x : WalkV) : x.arr[5]? = some (Value.int .i64 x.depth) := by simp [WalkV.arr, List.getElem?_append, List.getElem?_cons]
@[simp] theorem WalkV.get_5 (x : WalkV) (h) : x.arr[5]'h = Value.int .i64 x.depth := Option.some.inj (by rw [← Array.getElem?_eq_getElem]; exact WalkV.arr_5 x)
@[simp] theorem WalkV.arr_6 (x : WalkV) : x.arr[6]? = some (Value.slice x.out.a x.out.n x.out.c) := by simp [WalkV.arr, List.getElem?_append, List.getElem?_cons]
@[simp] theorem WalkV.get_6 (x : WalkV) (h) : x.arr[6]'h = Value.slice x.out.a x.out.n x.out.c := Option.some.inj (by rw [← Array.getElem?_eq_getElem]; exact WalkV.arr_6 x)
@[simp] theorem WalkV.arr_7 (x : WalkV) : x.arr[7]? = some (Value.map x.met) := by simp [WalkV.arr, List.getElem?_append, List.getElem?_cons]
@[simp] theorem WalkV.get_7 (x : WalkV) (h) : x.arr[7]'h = Value.map x.met := Option.some.inj (by rw [← Array.getElem?_eq_getElem]; exact WalkV.arr_7 x)

structure BookV where
  m : Option Nat
  deriving DecidableEq
def BookV.arr (x : BookV) : Array Value := ([Value.map x.m]).toArray
def BookV.zero : BookV := { m := none }
@[simp] theorem BookV.ext_all (x : BookV) : x.arr.extract 0 1 = x.arr := by rw [show 1 = x.arr.size by simp [BookV.arr]]; exact Array.extract_size
theorem one_BookV (x : BookV) : ∀ v ∈ x.arr.toList, v.oneCell' = true := by
  show ∀ v ∈ ([Value.map x.m] : List Value), v.oneCell' = true
  intro v hv
  have h0 := hv
  · simp only [List.mem_cons, List.not_mem_nil, or_false] at h0
    rcases h0 with rfl <;> rfl
def BookV.wf (x : BookV) : Prop := True
@[simp] theorem BookV.size_arr (x : BookV) : x.arr.size = 1 := by simp [BookV.arr]
@[simp] theorem BookV.length_arr (x : BookV) : x.arr.toList.length = 1 := by simp [BookV.arr]
@[simp] theorem BookV.set_0 (x : BookV) (v : Option Nat) : x.arr.setIfInBounds 0 (Value.map v) = ({ x with m := v } : BookV).arr := by
  apply Array.ext'; simp [BookV.arr, List.set_append]
@[simp] theorem BookV.arr_0 (x : BookV) : x.arr[0]? = some (Value.map x.m) := by simp [BookV.arr, List.getElem?_append, List.getElem?_cons]
@[simp] theorem BookV.get_0 (x : BookV) (h) : x.arr[0]'h = Value.map x.m := Option.some.inj (by rw [← Array.getElem?_eq_getElem]; exact BookV.arr_0 x)

end Go.Proofs.Ytkiindgcbpkddaa
