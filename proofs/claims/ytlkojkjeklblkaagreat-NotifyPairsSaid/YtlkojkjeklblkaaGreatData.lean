/- The program's plain structs as Lean structures; their cells in memory, part by part. No program in sight. Written by gen_data.py. -/
import Derived.Test.YtlkojkjeklblkaaGreatMem
set_option linter.unusedSimpArgs false
set_option linter.unusedVariables false
namespace Go.Proofs.YtlkojkjeklblkaaGreat
open Go.RowKit

def i64 (n : Int) : Prop := -9223372036854775808 ≤ n ∧ n ≤ 9223372036854775807
def byteV (b : UInt8) : Value := .int .u8 (b.toNat : Int)
structure Hash where
  l : List UInt8
  len : l.length = 32
  deriving DecidableEq
def Hash.arr (h : Hash) : Array Value := (h.l.map byteV).toArray
@[simp] theorem Hash.size_arr (h : Hash) : h.arr.size = 32 := by simp [Hash.arr, h.len]
@[simp] theorem Hash.length_arr (h : Hash) : h.arr.toList.length = 32 := by simp [Hash.arr, h.len]
theorem Hash.arr_get (h : Hash) (i : Nat) (hi : i < 32) : h.arr[i]? = some (byteV (h.l[i]'(by rw [h.len]; exact hi))) := by
  simp [Hash.arr, List.getElem?_eq_getElem (show i < h.l.length by rw [h.len]; exact hi)]
structure Sl where
  a : Option Addr
  n : Nat
  c : Nat
  deriving DecidableEq
theorem one_Hash (h : Hash) : ∀ v ∈ h.arr.toList, v.oneCell' = true := by
  intro v hv; simp [Hash.arr] at hv; obtain ⟨b, _, rfl⟩ := hv; rfl
def Hash.zero : Hash := ⟨List.replicate 32 0, by simp⟩
theorem ext_mid (A C : List Value) (b : Array Value) (o n e : Nat) (hA : A.length = o) (hb : b.size = n) (he : e = o + n) : (A ++ (b.toList ++ C)).toArray.extract o e = b := by
  subst hA hb he
  apply Array.ext'
  simp [List.extract_eq_take_drop, List.take_append]
theorem arr_of_ext {a b : Array Value} {o n k : Nat} {v : Value} (h : a.extract o n = b) (i : Nat) (hi : i = o + k) (hk : k + o < n) (hv : b[k]? = some v) : a[i]? = some v := by
  subst h hi
  rw [Array.getElem?_extract] at hv
  split at hv
  · exact hv
  · simp at hv
theorem Hash.ext' {a b : Hash} (h : a.l = b.l) : a = b := by cases a; cases b; simp_all

structure Outpoint where
  tx : Hash
  n : Int
  deriving DecidableEq
def Outpoint.arr (x : Outpoint) : Array Value := (x.tx.arr.toList ++ [Value.int .i64 x.n]).toArray
def Outpoint.zero : Outpoint := { tx := Hash.zero, n := 0 }
@[simp] theorem Outpoint.ext_all (x : Outpoint) : x.arr.extract 0 33 = x.arr := by rw [show 33 = x.arr.size by simp [Outpoint.arr]]; exact Array.extract_size
theorem one_Outpoint (x : Outpoint) : ∀ v ∈ x.arr.toList, v.oneCell' = true := by
  show ∀ v ∈ (x.tx.arr.toList ++ [Value.int .i64 x.n] : List Value), v.oneCell' = true
  intro v hv
  simp only [List.mem_append] at hv
  rcases hv with h0 | h1
  · exact one_Hash _ v h0
  · simp only [List.mem_cons, List.not_mem_nil, or_false] at h1
    rcases h1 with rfl <;> rfl
def Outpoint.wf (x : Outpoint) : Prop := i64 x.n
@[simp] theorem Outpoint.size_arr (x : Outpoint) : x.arr.size = 33 := by simp [Outpoint.arr]
@[simp] theorem Outpoint.length_arr (x : Outpoint) : x.arr.toList.length = 33 := by simp [Outpoint.arr]
@[simp] theorem Outpoint.set_32 (x : Outpoint) (v : Int) : x.arr.setIfInBounds 32 (Value.int .i64 v) = ({ x with n := v } : Outpoint).arr := by
  apply Array.ext'; simp [Outpoint.arr, List.set_append]
@[simp] theorem Outpoint.ext_0 (x : Outpoint) : x.arr.extract 0 32 = x.tx.arr := by
  have h : (x.tx.arr.toList ++ [Value.int .i64 x.n] : List Value) = ([]) ++ (x.tx.arr.toList ++ ([Value.int .i64 x.n])) := by simp only [List.append_assoc, List.append_nil, List.nil_append, List.cons_append]
  unfold Outpoint.arr; rw [h]; exact ext_mid _ _ _ _ 32 _ (by simp) (by simp) rfl
@[simp] theorem Outpoint.arr_32 (x : Outpoint) : x.arr[32]? = some (Value.int .i64 x.n) := by simp [Outpoint.arr, List.getElem?_append, List.getElem?_cons]
@[simp] theorem Outpoint.get_32 (x : Outpoint) (h) : x.arr[32]'h = Value.int .i64 x.n := Option.some.inj (by rw [← Array.getElem?_eq_getElem]; exact Outpoint.arr_32 x)

structure Script where
  kind : Int
  key : Int
  other : Int
  rev : Int
  delay : Int
  expiry : Int
  hash : Hash
  deriving DecidableEq
def Script.arr (x : Script) : Array Value := ([Value.int .i64 x.kind, Value.int .i64 x.key, Value.int .i64 x.other, Value.int .i64 x.rev, Value.int .i64 x.delay, Value.int .i64 x.expiry] ++ x.hash.arr.toList).toArray
def Script.zero : Script := { kind := 0, key := 0, other := 0, rev := 0, delay := 0, expiry := 0, hash := Hash.zero }
@[simp] theorem Script.ext_all (x : Script) : x.arr.extract 0 38 = x.arr := by rw [show 38 = x.arr.size by simp [Script.arr]]; exact Array.extract_size
theorem one_Script (x : Script) : ∀ v ∈ x.arr.toList, v.oneCell' = true := by
  show ∀ v ∈ ([Value.int .i64 x.kind, Value.int .i64 x.key, Value.int .i64 x.other, Value.int .i64 x.rev, Value.int .i64 x.delay, Value.int .i64 x.expiry] ++ x.hash.arr.toList : List Value), v.oneCell' = true
  intro v hv
  simp only [List.mem_append] at hv
  rcases hv with h0 | h1
  · simp only [List.mem_cons, List.not_mem_nil, or_false] at h0
    rcases h0 with rfl | rfl | rfl | rfl | rfl | rfl <;> rfl
  · exact one_Hash _ v h1
def Script.wf (x : Script) : Prop := i64 x.kind ∧ i64 x.key ∧ i64 x.other ∧ i64 x.rev ∧ i64 x.delay ∧ i64 x.expiry
@[simp] theorem Script.size_arr (x : Script) : x.arr.size = 38 := by simp [Script.arr]
@[simp] theorem Script.length_arr (x : Script) : x.arr.toList.length = 38 := by simp [Script.arr]
@[simp] theorem Script.set_0 (x : Script) (v : Int) : x.arr.setIfInBounds 0 (Value.int .i64 v) = ({ x with kind := v } : Script).arr := by
  apply Array.ext'; simp [Script.arr, List.set_append]
@[simp] theorem Script.set_1 (x : Script) (v : Int) : x.arr.setIfInBounds 1 (Value.int .i64 v) = ({ x with key := v } : Script).arr := by
  apply Array.ext'; simp [Script.arr, List.set_append]
@[simp] theorem Script.set_2 (x : Script) (v : Int) : x.arr.setIfInBounds 2 (Value.int .i64 v) = ({ x with other := v } : Script).arr := by
  apply Array.ext'; simp [Script.arr, List.set_append]
@[simp] theorem Script.set_3 (x : Script) (v : Int) : x.arr.setIfInBounds 3 (Value.int .i64 v) = ({ x with rev := v } : Script).arr := by
  apply Array.ext'; simp [Script.arr, List.set_append]
@[simp] theorem Script.set_4 (x : Script) (v : Int) : x.arr.setIfInBounds 4 (Value.int .i64 v) = ({ x with delay := v } : Script).arr := by
  apply Array.ext'; simp [Script.arr, List.set_append]
@[simp] theorem Script.set_5 (x : Script) (v : Int) : x.arr.setIfInBounds 5 (Value.int .i64 v) = ({ x with expiry := v } : Script).arr := by
  apply Array.ext'; simp [Script.arr, List.set_append]
@[simp] theorem Script.arr_0 (x : Script) : x.arr[0]? = some (Value.int .i64 x.kind) := by simp [Script.arr, List.getElem?_append, List.getElem?_cons]
@[simp] theorem Script.get_0 (x : Script) (h) : x.arr[0]'h = Value.int .i64 x.kind := Option.some.inj (by rw [← Array.getElem?_eq_getElem]; exact Script.arr_0 x)
@[simp] theorem Script.arr_1 (x : Script) : x.arr[1]? = some (Value.int .i64 x.key) := by simp [Script.arr, List.getElem?_append, List.getElem?_cons]
@[simp] theorem Script.get_1 (x : Script) (h) : x.arr[1]'h = Value.int .i64 x.key := Option.some.inj (by rw [← Array.getElem?_eq_getElem]; exact Script.arr_1 x)
@[simp] theorem Script.arr_2 (x : Script) : x.arr[2]? = some (Value.int .i64 x.other) := by simp [Script.arr, List.getElem?_append, List.getElem?_cons]
@[simp] theorem Script.get_2 (x : Script) (h) : x.arr[2]'h = Value.int .i64 x.other := Option.some.inj (by rw [← Array.getElem?_eq_getElem]; exact Script.arr_2 x)
@[simp] theorem Script.arr_3 (x : Script) : x.arr[3]? = some (Value.int .i64 x.rev) := by simp [Script.arr, List.getElem?_append, List.getElem?_cons]
@[simp] theorem Script.get_3 (x : Script) (h) : x.arr[3]'h = Value.int .i64 x.rev := Option.some.inj (by rw [← Array.getElem?_eq_getElem]; exact Script.arr_3 x)
@[simp] theorem Script.arr_4 (x : Script) : x.arr[4]? = some (Value.int .i64 x.delay) := by simp [Script.arr, List.getElem?_append, List.getElem?_cons]
@[simp] theorem Script.get_4 (x : Script) (h) : x.arr[4]'h = Value.int .i64 x.delay := Option.some.inj (by rw [← Array.getElem?_eq_getElem]; exact Script.arr_4 x)
@[simp] theorem Script.arr_5 (x : Script) : x.arr[5]? = some (Value.int .i64 x.expiry) := by simp [Script.arr, List.getElem?_append, List.getElem?_cons]
@[simp] theorem Script.get_5 (x : Script) (h) : x.arr[5]'h = Value.int .i64 x.expiry := Option.some.inj (by rw [← Array.getElem?_eq_getElem]; exact Script.arr_5 x)
@[simp] theorem Script.ext_6 (x : Script) : x.arr.extract 6 38 = x.hash.arr := by
  have h : ([Value.int .i64 x.kind, Value.int .i64 x.key, Value.int .i64 x.other, Value.int .i64 x.rev, Value.int .i64 x.delay, Value.int .i64 x.expiry] ++ x.hash.arr.toList : List Value) = ([Value.int .i64 x.kind, Value.int .i64 x.key, Value.int .i64 x.other, Value.int .i64 x.rev, Value.int .i64 x.delay, Value.int .i64 x.expiry]) ++ (x.hash.arr.toList ++ ([])) := by simp only [List.append_assoc, List.append_nil, List.nil_append, List.cons_append]
  unfold Script.arr; rw [h]; exact ext_mid _ _ _ _ 32 _ (by simp) (by simp) rfl

structure Witness where
  kind : Int
  key : Int
  pre : ByteArray
  deriving DecidableEq
def Witness.arr (x : Witness) : Array Value := ([Value.int .i64 x.kind, Value.int .i64 x.key, Value.string x.pre]).toArray
def Witness.zero : Witness := { kind := 0, key := 0, pre := ByteArray.empty }
@[simp] theorem Witness.ext_all (x : Witness) : x.arr.extract 0 3 = x.arr := by rw [show 3 = x.arr.size by simp [Witness.arr]]; exact Array.extract_size
theorem one_Witness (x : Witness) : ∀ v ∈ x.arr.toList, v.oneCell' = true := by
  show ∀ v ∈ ([Value.int .i64 x.kind, Value.int .i64 x.key, Value.string x.pre] : List Value), v.oneCell' = true
  intro v hv
  have h0 := hv
  · simp only [List.mem_cons, List.not_mem_nil, or_false] at h0
    rcases h0 with rfl | rfl | rfl <;> rfl
def Witness.wf (x : Witness) : Prop := i64 x.kind ∧ i64 x.key ∧ x.pre.size ≤ maxLen
@[simp] theorem Witness.size_arr (x : Witness) : x.arr.size = 3 := by simp [Witness.arr]
@[simp] theorem Witness.length_arr (x : Witness) : x.arr.toList.length = 3 := by simp [Witness.arr]
@[simp] theorem Witness.set_0 (x : Witness) (v : Int) : x.arr.setIfInBounds 0 (Value.int .i64 v) = ({ x with kind := v } : Witness).arr := by
  apply Array.ext'; simp [Witness.arr, List.set_append]
@[simp] theorem Witness.set_1 (x : Witness) (v : Int) : x.arr.setIfInBounds 1 (Value.int .i64 v) = ({ x with key := v } : Witness).arr := by
  apply Array.ext'; simp [Witness.arr, List.set_append]
@[simp] theorem Witness.set_2 (x : Witness) (v : ByteArray) : x.arr.setIfInBounds 2 (Value.string v) = ({ x with pre := v } : Witness).arr := by
  apply Array.ext'; simp [Witness.arr, List.set_append]
@[simp] theorem Witness.arr_0 (x : Witness) : x.arr[0]? = some (Value.int .i64 x.kind) := by simp [Witness.arr, List.getElem?_append, List.getElem?_cons]
@[simp] theorem Witness.get_0 (x : Witness) (h) : x.arr[0]'h = Value.int .i64 x.kind := Option.some.inj (by rw [← Array.getElem?_eq_getElem]; exact Witness.arr_0 x)
@[simp] theorem Witness.arr_1 (x : Witness) : x.arr[1]? = some (Value.int .i64 x.key) := by simp [Witness.arr, List.getElem?_append, List.getElem?_cons]
@[simp] theorem Witness.get_1 (x : Witness) (h) : x.arr[1]'h = Value.int .i64 x.key := Option.some.inj (by rw [← Array.getElem?_eq_getElem]; exact Witness.arr_1 x)
@[simp] theorem Witness.arr_2 (x : Witness) : x.arr[2]? = some (Value.string x.pre) := by simp [Witness.arr, List.getElem?_append, List.getElem?_cons]
@[simp] theorem Witness.get_2 (x : Witness) (h) : x.arr[2]'h = Value.string x.pre := Option.some.inj (by rw [← Array.getElem?_eq_getElem]; exact Witness.arr_2 x)

structure In where
  prev : Outpoint
  seq : Int
  wit : Witness
  deriving DecidableEq
def In.arr (x : In) : Array Value := (x.prev.arr.toList ++ [Value.int .i64 x.seq] ++ x.wit.arr.toList).toArray
def In.zero : In := { prev := Outpoint.zero, seq := 0, wit := Witness.zero }
@[simp] theorem In.ext_all (x : In) : x.arr.extract 0 37 = x.arr := by rw [show 37 = x.arr.size by simp [In.arr]]; exact Array.extract_size
theorem one_In (x : In) : ∀ v ∈ x.arr.toList, v.oneCell' = true := by
  show ∀ v ∈ (x.prev.arr.toList ++ [Value.int .i64 x.seq] ++ x.wit.arr.toList : List Value), v.oneCell' = true
  intro v hv
  simp only [List.mem_append] at hv
  rcases hv with (h0 | h1) | h2
  · exact one_Outpoint _ v h0
  · simp only [List.mem_cons, List.not_mem_nil, or_false] at h1
    rcases h1 with rfl <;> rfl
  · exact one_Witness _ v h2
def In.wf (x : In) : Prop := x.prev.wf ∧ i64 x.seq ∧ x.wit.wf
@[simp] theorem In.size_arr (x : In) : x.arr.size = 37 := by simp [In.arr]
@[simp] theorem In.length_arr (x : In) : x.arr.toList.length = 37 := by simp [In.arr]
@[simp] theorem In.set_33 (x : In) (v : Int) : x.arr.setIfInBounds 33 (Value.int .i64 v) = ({ x with seq := v } : In).arr := by
  apply Array.ext'; simp [In.arr, List.set_append]
@[simp] theorem In.ext_0 (x : In) : x.arr.extract 0 33 = x.prev.arr := by
  have h : (x.prev.arr.toList ++ [Value.int .i64 x.seq] ++ x.wit.arr.toList : List Value) = ([]) ++ (x.prev.arr.toList ++ ([Value.int .i64 x.seq] ++ x.wit.arr.toList)) := by simp only [List.append_assoc, List.append_nil, List.nil_append, List.cons_append]
  unfold In.arr; rw [h]; exact ext_mid _ _ _ _ 33 _ (by simp) (by simp) rfl
@[simp] theorem In.arr_32 (x : In) : x.arr[32]? = some (Value.int .i64 x.prev.n) := arr_of_ext (k := 32) (In.ext_0 x) _ rfl (by decide) (Outpoint.arr_32 _)
@[simp] theorem In.get_32 (x : In) (h) : x.arr[32]'h = Value.int .i64 x.prev.n := Option.some.inj (by rw [← Array.getElem?_eq_getElem]; exact In.arr_32 x)
@[simp] theorem In.arr_33 (x : In) : x.arr[33]? = some (Value.int .i64 x.seq) := by simp [In.arr, List.getElem?_append, List.getElem?_cons]
@[simp] theorem In.get_33 (x : In) (h) : x.arr[33]'h = Value.int .i64 x.seq := Option.some.inj (by rw [← Array.getElem?_eq_getElem]; exact In.arr_33 x)
@[simp] theorem In.ext_34 (x : In) : x.arr.extract 34 37 = x.wit.arr := by
  have h : (x.prev.arr.toList ++ [Value.int .i64 x.seq] ++ x.wit.arr.toList : List Value) = (x.prev.arr.toList ++ [Value.int .i64 x.seq]) ++ (x.wit.arr.toList ++ ([])) := by simp only [List.append_assoc, List.append_nil, List.nil_append, List.cons_append]
  unfold In.arr; rw [h]; exact ext_mid _ _ _ _ 3 _ (by simp) (by simp) rfl
@[simp] theorem In.arr_34 (x : In) : x.arr[34]? = some (Value.int .i64 x.wit.kind) := arr_of_ext (k := 0) (In.ext_34 x) _ rfl (by decide) (Witness.arr_0 _)
@[simp] theorem In.get_34 (x : In) (h) : x.arr[34]'h = Value.int .i64 x.wit.kind := Option.some.inj (by rw [← Array.getElem?_eq_getElem]; exact In.arr_34 x)
@[simp] theorem In.arr_35 (x : In) : x.arr[35]? = some (Value.int .i64 x.wit.key) := arr_of_ext (k := 1) (In.ext_34 x) _ rfl (by decide) (Witness.arr_1 _)
@[simp] theorem In.get_35 (x : In) (h) : x.arr[35]'h = Value.int .i64 x.wit.key := Option.some.inj (by rw [← Array.getElem?_eq_getElem]; exact In.arr_35 x)
@[simp] theorem In.arr_36 (x : In) : x.arr[36]? = some (Value.string x.wit.pre) := arr_of_ext (k := 2) (In.ext_34 x) _ rfl (by decide) (Witness.arr_2 _)
@[simp] theorem In.get_36 (x : In) (h) : x.arr[36]'h = Value.string x.wit.pre := Option.some.inj (by rw [← Array.getElem?_eq_getElem]; exact In.arr_36 x)

structure Out where
  value : Int
  script : Script
  deriving DecidableEq
def Out.arr (x : Out) : Array Value := ([Value.int .i64 x.value] ++ x.script.arr.toList).toArray
def Out.zero : Out := { value := 0, script := Script.zero }
@[simp] theorem Out.ext_all (x : Out) : x.arr.extract 0 39 = x.arr := by rw [show 39 = x.arr.size by simp [Out.arr]]; exact Array.extract_size
theorem one_Out (x : Out) : ∀ v ∈ x.arr.toList, v.oneCell' = true := by
  show ∀ v ∈ ([Value.int .i64 x.value] ++ x.script.arr.toList : List Value), v.oneCell' = true
  intro v hv
  simp only [List.mem_append] at hv
  rcases hv with h0 | h1
  · simp only [List.mem_cons, List.not_mem_nil, or_false] at h0
    rcases h0 with rfl <;> rfl
  · exact one_Script _ v h1
def Out.wf (x : Out) : Prop := i64 x.value ∧ x.script.wf
@[simp] theorem Out.size_arr (x : Out) : x.arr.size = 39 := by simp [Out.arr]
@[simp] theorem Out.length_arr (x : Out) : x.arr.toList.length = 39 := by simp [Out.arr]
@[simp] theorem Out.set_0 (x : Out) (v : Int) : x.arr.setIfInBounds 0 (Value.int .i64 v) = ({ x with value := v } : Out).arr := by
  apply Array.ext'; simp [Out.arr, List.set_append]
@[simp] theorem Out.arr_0 (x : Out) : x.arr[0]? = some (Value.int .i64 x.value) := by simp [Out.arr, List.getElem?_append, List.getElem?_cons]
@[simp] theorem Out.get_0 (x : Out) (h) : x.arr[0]'h = Value.int .i64 x.value := Option.some.inj (by rw [← Array.getElem?_eq_getElem]; exact Out.arr_0 x)
@[simp] theorem Out.ext_1 (x : Out) : x.arr.extract 1 39 = x.script.arr := by
  have h : ([Value.int .i64 x.value] ++ x.script.arr.toList : List Value) = ([Value.int .i64 x.value]) ++ (x.script.arr.toList ++ ([])) := by simp only [List.append_assoc, List.append_nil, List.nil_append, List.cons_append]
  unfold Out.arr; rw [h]; exact ext_mid _ _ _ _ 38 _ (by simp) (by simp) rfl
@[simp] theorem Out.arr_1 (x : Out) : x.arr[1]? = some (Value.int .i64 x.script.kind) := arr_of_ext (k := 0) (Out.ext_1 x) _ rfl (by decide) (Script.arr_0 _)
@[simp] theorem Out.get_1 (x : Out) (h) : x.arr[1]'h = Value.int .i64 x.script.kind := Option.some.inj (by rw [← Array.getElem?_eq_getElem]; exact Out.arr_1 x)
@[simp] theorem Out.arr_2 (x : Out) : x.arr[2]? = some (Value.int .i64 x.script.key) := arr_of_ext (k := 1) (Out.ext_1 x) _ rfl (by decide) (Script.arr_1 _)
@[simp] theorem Out.get_2 (x : Out) (h) : x.arr[2]'h = Value.int .i64 x.script.key := Option.some.inj (by rw [← Array.getElem?_eq_getElem]; exact Out.arr_2 x)
@[simp] theorem Out.arr_3 (x : Out) : x.arr[3]? = some (Value.int .i64 x.script.other) := arr_of_ext (k := 2) (Out.ext_1 x) _ rfl (by decide) (Script.arr_2 _)
@[simp] theorem Out.get_3 (x : Out) (h) : x.arr[3]'h = Value.int .i64 x.script.other := Option.some.inj (by rw [← Array.getElem?_eq_getElem]; exact Out.arr_3 x)
@[simp] theorem Out.arr_4 (x : Out) : x.arr[4]? = some (Value.int .i64 x.script.rev) := arr_of_ext (k := 3) (Out.ext_1 x) _ rfl (by decide) (Script.arr_3 _)
@[simp] theorem Out.get_4 (x : Out) (h) : x.arr[4]'h = Value.int .i64 x.script.rev := Option.some.inj (by rw [← Array.getElem?_eq_getElem]; exact Out.arr_4 x)
@[simp] theorem Out.arr_5 (x : Out) : x.arr[5]? = some (Value.int .i64 x.script.delay) := arr_of_ext (k := 4) (Out.ext_1 x) _ rfl (by decide) (Script.arr_4 _)
@[simp] theorem Out.get_5 (x : Out) (h) : x.arr[5]'h = Value.int .i64 x.script.delay := Option.some.inj (by rw [← Array.getElem?_eq_getElem]; exact Out.arr_5 x)
@[simp] theorem Out.arr_6 (x : Out) : x.arr[6]? = some (Value.int .i64 x.script.expiry) := arr_of_ext (k := 5) (Out.ext_1 x) _ rfl (by decide) (Script.arr_5 _)
@[simp] theorem Out.get_6 (x : Out) (h) : x.arr[6]'h = Value.int .i64 x.script.expiry := Option.some.inj (by rw [← Array.getElem?_eq_getElem]; exact Out.arr_6 x)

structure Keys where
  wallet : Int
  own : Int
  rev : Int
  deriving DecidableEq
def Keys.arr (x : Keys) : Array Value := ([Value.int .i64 x.wallet, Value.int .i64 x.own, Value.int .i64 x.rev]).toArray
def Keys.zero : Keys := { wallet := 0, own := 0, rev := 0 }
@[simp] theorem Keys.ext_all (x : Keys) : x.arr.extract 0 3 = x.arr := by rw [show 3 = x.arr.size by simp [Keys.arr]]; exact Array.extract_size
theorem one_Keys (x : Keys) : ∀ v ∈ x.arr.toList, v.oneCell' = true := by
  show ∀ v ∈ ([Value.int .i64 x.wallet, Value.int .i64 x.own, Value.int .i64 x.rev] : List Value), v.oneCell' = true
  intro v hv
  have h0 := hv
  · simp only [List.mem_cons, List.not_mem_nil, or_false] at h0
    rcases h0 with rfl | rfl | rfl <;> rfl
def Keys.wf (x : Keys) : Prop := i64 x.wallet ∧ i64 x.own ∧ i64 x.rev
@[simp] theorem Keys.size_arr (x : Keys) : x.arr.size = 3 := by simp [Keys.arr]
@[simp] theorem Keys.length_arr (x : Keys) : x.arr.toList.length = 3 := by simp [Keys.arr]
@[simp] theorem Keys.set_0 (x : Keys) (v : Int) : x.arr.setIfInBounds 0 (Value.int .i64 v) = ({ x with wallet := v } : Keys).arr := by
  apply Array.ext'; simp [Keys.arr, List.set_append]
@[simp] theorem Keys.set_1 (x : Keys) (v : Int) : x.arr.setIfInBounds 1 (Value.int .i64 v) = ({ x with own := v } : Keys).arr := by
  apply Array.ext'; simp [Keys.arr, List.set_append]
@[simp] theorem Keys.set_2 (x : Keys) (v : Int) : x.arr.setIfInBounds 2 (Value.int .i64 v) = ({ x with rev := v } : Keys).arr := by
  apply Array.ext'; simp [Keys.arr, List.set_append]
@[simp] theorem Keys.arr_0 (x : Keys) : x.arr[0]? = some (Value.int .i64 x.wallet) := by simp [Keys.arr, List.getElem?_append, List.getElem?_cons]
@[simp] theorem Keys.get_0 (x : Keys) (h) : x.arr[0]'h = Value.int .i64 x.wallet := Option.some.inj (by rw [← Array.getElem?_eq_getElem]; exact Keys.arr_0 x)
@[simp] theorem Keys.arr_1 (x : Keys) : x.arr[1]? = some (Value.int .i64 x.own) := by simp [Keys.arr, List.getElem?_append, List.getElem?_cons]
@[simp] theorem Keys.get_1 (x : Keys) (h) : x.arr[1]'h = Value.int .i64 x.own := Option.some.inj (by rw [← Array.getElem?_eq_getElem]; exact Keys.arr_1 x)
@[simp] theorem Keys.arr_2 (x : Keys) : x.arr[2]? = some (Value.int .i64 x.rev) := by simp [Keys.arr, List.getElem?_append, List.getElem?_cons]
@[simp] theorem Keys.get_2 (x : Keys) (h) : x.arr[2]'h = Value.int .i64 x.rev := Option.some.inj (by rw [← Array.getElem?_eq_getElem]; exact Keys.arr_2 x)

structure Commit where
  id : Hash
  mine : Bool
  revoked : Bool
  deriving DecidableEq
def Commit.arr (x : Commit) : Array Value := (x.id.arr.toList ++ [Value.bool x.mine, Value.bool x.revoked]).toArray
def Commit.zero : Commit := { id := Hash.zero, mine := false, revoked := false }
@[simp] theorem Commit.ext_all (x : Commit) : x.arr.extract 0 34 = x.arr := by rw [show 34 = x.arr.size by simp [Commit.arr]]; exact Array.extract_size
theorem one_Commit (x : Commit) : ∀ v ∈ x.arr.toList, v.oneCell' = true := by
  show ∀ v ∈ (x.id.arr.toList ++ [Value.bool x.mine, Value.bool x.revoked] : List Value), v.oneCell' = true
  intro v hv
  simp only [List.mem_append] at hv
  rcases hv with h0 | h1
  · exact one_Hash _ v h0
  · simp only [List.mem_cons, List.not_mem_nil, or_false] at h1
    rcases h1 with rfl | rfl <;> rfl
def Commit.wf (x : Commit) : Prop := True
@[simp] theorem Commit.size_arr (x : Commit) : x.arr.size = 34 := by simp [Commit.arr]
@[simp] theorem Commit.length_arr (x : Commit) : x.arr.toList.length = 34 := by simp [Commit.arr]
@[simp] theorem Commit.set_32 (x : Commit) (v : Bool) : x.arr.setIfInBounds 32 (Value.bool v) = ({ x with mine := v } : Commit).arr := by
  apply Array.ext'; simp [Commit.arr, List.set_append]
@[simp] theorem Commit.set_33 (x : Commit) (v : Bool) : x.arr.setIfInBounds 33 (Value.bool v) = ({ x with revoked := v } : Commit).arr := by
  apply Array.ext'; simp [Commit.arr, List.set_append]
@[simp] theorem Commit.ext_0 (x : Commit) : x.arr.extract 0 32 = x.id.arr := by
  have h : (x.id.arr.toList ++ [Value.bool x.mine, Value.bool x.revoked] : List Value) = ([]) ++ (x.id.arr.toList ++ ([Value.bool x.mine, Value.bool x.revoked])) := by simp only [List.append_assoc, List.append_nil, List.nil_append, List.cons_append]
  unfold Commit.arr; rw [h]; exact ext_mid _ _ _ _ 32 _ (by simp) (by simp) rfl
@[simp] theorem Commit.arr_32 (x : Commit) : x.arr[32]? = some (Value.bool x.mine) := by simp [Commit.arr, List.getElem?_append, List.getElem?_cons]
@[simp] theorem Commit.get_32 (x : Commit) (h) : x.arr[32]'h = Value.bool x.mine := Option.some.inj (by rw [← Array.getElem?_eq_getElem]; exact Commit.arr_32 x)
@[simp] theorem Commit.arr_33 (x : Commit) : x.arr[33]? = some (Value.bool x.revoked) := by simp [Commit.arr, List.getElem?_append, List.getElem?_cons]
@[simp] theorem Commit.get_33 (x : Commit) (h) : x.arr[33]'h = Value.bool x.revoked := Option.some.inj (by rw [← Array.getElem?_eq_getElem]; exact Commit.arr_33 x)

structure Claim where
  wit : Witness
  seq : Int
  lock : Int
  wait : Int
  deriving DecidableEq
def Claim.arr (x : Claim) : Array Value := (x.wit.arr.toList ++ [Value.int .i64 x.seq, Value.int .i64 x.lock, Value.int .i64 x.wait]).toArray
def Claim.zero : Claim := { wit := Witness.zero, seq := 0, lock := 0, wait := 0 }
@[simp] theorem Claim.ext_all (x : Claim) : x.arr.extract 0 6 = x.arr := by rw [show 6 = x.arr.size by simp [Claim.arr]]; exact Array.extract_size
theorem one_Claim (x : Claim) : ∀ v ∈ x.arr.toList, v.oneCell' = true := by
  show ∀ v ∈ (x.wit.arr.toList ++ [Value.int .i64 x.seq, Value.int .i64 x.lock, Value.int .i64 x.wait] : List Value), v.oneCell' = true
  intro v hv
  simp only [List.mem_append] at hv
  rcases hv with h0 | h1
  · exact one_Witness _ v h0
  · simp only [List.mem_cons, List.not_mem_nil, or_false] at h1
    rcases h1 with rfl | rfl | rfl <;> rfl
def Claim.wf (x : Claim) : Prop := x.wit.wf ∧ i64 x.seq ∧ i64 x.lock ∧ i64 x.wait
@[simp] theorem Claim.size_arr (x : Claim) : x.arr.size = 6 := by simp [Claim.arr]
@[simp] theorem Claim.length_arr (x : Claim) : x.arr.toList.length = 6 := by simp [Claim.arr]
@[simp] theorem Claim.set_3 (x : Claim) (v : Int) : x.arr.setIfInBounds 3 (Value.int .i64 v) = ({ x with seq := v } : Claim).arr := by
  apply Array.ext'; simp [Claim.arr, List.set_append]
@[simp] theorem Claim.set_4 (x : Claim) (v : Int) : x.arr.setIfInBounds 4 (Value.int .i64 v) = ({ x with lock := v } : Claim).arr := by
  apply Array.ext'; simp [Claim.arr, List.set_append]
@[simp] theorem Claim.set_5 (x : Claim) (v : Int) : x.arr.setIfInBounds 5 (Value.int .i64 v) = ({ x with wait := v } : Claim).arr := by
  apply Array.ext'; simp [Claim.arr, List.set_append]
@[simp] theorem Claim.ext_0 (x : Claim) : x.arr.extract 0 3 = x.wit.arr := by
  have h : (x.wit.arr.toList ++ [Value.int .i64 x.seq, Value.int .i64 x.lock, Value.int .i64 x.wait] : List Value) = ([]) ++ (x.wit.arr.toList ++ ([Value.int .i64 x.seq, Value.int .i64 x.lock, Value.int .i64 x.wait])) := by simp only [List.append_assoc, List.append_nil, List.nil_append, List.cons_append]
  unfold Claim.arr; rw [h]; exact ext_mid _ _ _ _ 3 _ (by simp) (by simp) rfl
@[simp] theorem Claim.arr_0 (x : Claim) : x.arr[0]? = some (Value.int .i64 x.wit.kind) := arr_of_ext (k := 0) (Claim.ext_0 x) _ rfl (by decide) (Witness.arr_0 _)
@[simp] theorem Claim.get_0 (x : Claim) (h) : x.arr[0]'h = Value.int .i64 x.wit.kind := Option.some.inj (by rw [← Array.getElem?_eq_getElem]; exact Claim.arr_0 x)
@[simp] theorem Claim.arr_1 (x : Claim) : x.arr[1]? = some (Value.int .i64 x.wit.key) := arr_of_ext (k := 1) (Claim.ext_0 x) _ rfl (by decide) (Witness.arr_1 _)
@[simp] theorem Claim.get_1 (x : Claim) (h) : x.arr[1]'h = Value.int .i64 x.wit.key := Option.some.inj (by rw [← Array.getElem?_eq_getElem]; exact Claim.arr_1 x)
@[simp] theorem Claim.arr_2 (x : Claim) : x.arr[2]? = some (Value.string x.wit.pre) := arr_of_ext (k := 2) (Claim.ext_0 x) _ rfl (by decide) (Witness.arr_2 _)
@[simp] theorem Claim.get_2 (x : Claim) (h) : x.arr[2]'h = Value.string x.wit.pre := Option.some.inj (by rw [← Array.getElem?_eq_getElem]; exact Claim.arr_2 x)
@[simp] theorem Claim.arr_3 (x : Claim) : x.arr[3]? = some (Value.int .i64 x.seq) := by simp [Claim.arr, List.getElem?_append, List.getElem?_cons]
@[simp] theorem Claim.get_3 (x : Claim) (h) : x.arr[3]'h = Value.int .i64 x.seq := Option.some.inj (by rw [← Array.getElem?_eq_getElem]; exact Claim.arr_3 x)
@[simp] theorem Claim.arr_4 (x : Claim) : x.arr[4]? = some (Value.int .i64 x.lock) := by simp [Claim.arr, List.getElem?_append, List.getElem?_cons]
@[simp] theorem Claim.get_4 (x : Claim) (h) : x.arr[4]'h = Value.int .i64 x.lock := Option.some.inj (by rw [← Array.getElem?_eq_getElem]; exact Claim.arr_4 x)
@[simp] theorem Claim.arr_5 (x : Claim) : x.arr[5]? = some (Value.int .i64 x.wait) := by simp [Claim.arr, List.getElem?_append, List.getElem?_cons]
@[simp] theorem Claim.get_5 (x : Claim) (h) : x.arr[5]'h = Value.int .i64 x.wait := Option.some.inj (by rw [← Array.getElem?_eq_getElem]; exact Claim.arr_5 x)

structure Item where
  channel : Int
  point : Outpoint
  value : Int
  script : Script
  role : Int
  conf : Int
  state : Int
  by_ : Hash
  at_ : Int
  deriving DecidableEq
def Item.arr (x : Item) : Array Value := ([Value.int .i64 x.channel] ++ x.point.arr.toList ++ [Value.int .i64 x.value] ++ x.script.arr.toList ++ [Value.int .i64 x.role, Value.int .i64 x.conf, Value.int .i64 x.state] ++ x.by_.arr.toList ++ [Value.int .i64 x.at_]).toArray
def Item.zero : Item := { channel := 0, point := Outpoint.zero, value := 0, script := Script.zero, role := 0, conf := 0, state := 0, by_ := Hash.zero, at_ := 0 }
@[simp] theorem Item.ext_all (x : Item) : x.arr.extract 0 109 = x.arr := by rw [show 109 = x.arr.size by simp [Item.arr]]; exact Array.extract_size
theorem one_Item (x : Item) : ∀ v ∈ x.arr.toList, v.oneCell' = true := by
  show ∀ v ∈ ([Value.int .i64 x.channel] ++ x.point.arr.toList ++ [Value.int .i64 x.value] ++ x.script.arr.toList ++ [Value.int .i64 x.role, Value.int .i64 x.conf, Value.int .i64 x.state] ++ x.by_.arr.toList ++ [Value.int .i64 x.at_] : List Value), v.oneCell' = true
  intro v hv
  simp only [List.mem_append] at hv
  rcases hv with (((((h0 | h1) | h2) | h3) | h4) | h5) | h6
  · simp only [List.mem_cons, List.not_mem_nil, or_false] at h0
    rcases h0 with rfl <;> rfl
  · exact one_Outpoint _ v h1
  · simp only [List.mem_cons, List.not_mem_nil, or_false] at h2
    rcases h2 with rfl <;> rfl
  · exact one_Script _ v h3
  · simp only [List.mem_cons, List.not_mem_nil, or_false] at h4
    rcases h4 with rfl | rfl | rfl <;> rfl
  · exact one_Hash _ v h5
  · simp only [List.mem_cons, List.not_mem_nil, or_false] at h6
    rcases h6 with rfl <;> rfl
def Item.wf (x : Item) : Prop := i64 x.channel ∧ x.point.wf ∧ i64 x.value ∧ x.script.wf ∧ i64 x.role ∧ i64 x.conf ∧ i64 x.state ∧ i64 x.at_
@[simp] theorem Item.size_arr (x : Item) : x.arr.size = 109 := by simp [Item.arr]
@[simp] theorem Item.length_arr (x : Item) : x.arr.toList.length = 109 := by simp [Item.arr]
@[simp] theorem Item.set_0 (x : Item) (v : Int) : x.arr.setIfInBounds 0 (Value.int .i64 v) = ({ x with channel := v } : Item).arr := by
  apply Array.ext'; simp [Item.arr, List.set_append]
@[simp] theorem Item.set_34 (x : Item) (v : Int) : x.arr.setIfInBounds 34 (Value.int .i64 v) = ({ x with value := v } : Item).arr := by
  apply Array.ext'; simp [Item.arr, List.set_append]
@[simp] theorem Item.set_73 (x : Item) (v : Int) : x.arr.setIfInBounds 73 (Value.int .i64 v) = ({ x with role := v } : Item).arr := by
  apply Array.ext'; simp [Item.arr, List.set_append]
@[simp] theorem Item.set_74 (x : Item) (v : Int) : x.arr.setIfInBounds 74 (Value.int .i64 v) = ({ x with conf := v } : Item).arr := by
  apply Array.ext'; simp [Item.arr, List.set_append]
@[simp] theorem Item.set_75 (x : Item) (v : Int) : x.arr.setIfInBounds 75 (Value.int .i64 v) = ({ x with state := v } : Item).arr := by
  apply Array.ext'; simp [Item.arr, List.set_append]
@[simp] theorem Item.set_108 (x : Item) (v : Int) : x.arr.setIfInBounds 108 (Value.int .i64 v) = ({ x with at_ := v } : Item).arr := by
  apply Array.ext'; simp [Item.arr, List.set_append]
@[simp] theorem Item.arr_0 (x : Item) : x.arr[0]? = some (Value.int .i64 x.channel) := by simp [Item.arr, List.getElem?_append, List.getElem?_cons]
@[simp] theorem Item.get_0 (x : Item) (h) : x.arr[0]'h = Value.int .i64 x.channel := Option.some.inj (by rw [← Array.getElem?_eq_getElem]; exact Item.arr_0 x)
@[simp] theorem Item.ext_1 (x : Item) : x.arr.extract 1 34 = x.point.arr := by
  have h : ([Value.int .i64 x.channel] ++ x.point.arr.toList ++ [Value.int .i64 x.value] ++ x.script.arr.toList ++ [Value.int .i64 x.role, Value.int .i64 x.conf, Value.int .i64 x.state] ++ x.by_.arr.toList ++ [Value.int .i64 x.at_] : List Value) = ([Value.int .i64 x.channel]) ++ (x.point.arr.toList ++ ([Value.int .i64 x.value] ++ x.script.arr.toList ++ [Value.int .i64 x.role, Value.int .i64 x.conf, Value.int .i64 x.state] ++ x.by_.arr.toList ++ [Value.int .i64 x.at_])) := by simp only [List.append_assoc, List.append_nil, List.nil_append, List.cons_append]
  unfold Item.arr; rw [h]; exact ext_mid _ _ _ _ 33 _ (by simp) (by simp) rfl
@[simp] theorem Item.arr_33 (x : Item) : x.arr[33]? = some (Value.int .i64 x.point.n) := arr_of_ext (k := 32) (Item.ext_1 x) _ rfl (by decide) (Outpoint.arr_32 _)
@[simp] theorem Item.get_33 (x : Item) (h) : x.arr[33]'h = Value.int .i64 x.point.n := Option.some.inj (by rw [← Array.getElem?_eq_getElem]; exact Item.arr_33 x)
@[simp] theorem Item.arr_34 (x : Item) : x.arr[34]? = some (Value.int .i64 x.value) := by simp [Item.arr, List.getElem?_append, List.getElem?_cons]
@[simp] theorem Item.get_34 (x : Item) (h) : x.arr[34]'h = Value.int .i64 x.value := Option.some.inj (by rw [← Array.getElem?_eq_getElem]; exact Item.arr_34 x)
@[simp] theorem Item.ext_35 (x : Item) : x.arr.extract 35 73 = x.script.arr := by
  have h : ([Value.int .i64 x.channel] ++ x.point.arr.toList ++ [Value.int .i64 x.value] ++ x.script.arr.toList ++ [Value.int .i64 x.role, Value.int .i64 x.conf, Value.int .i64 x.state] ++ x.by_.arr.toList ++ [Value.int .i64 x.at_] : List Value) = ([Value.int .i64 x.channel] ++ x.point.arr.toList ++ [Value.int .i64 x.value]) ++ (x.script.arr.toList ++ ([Value.int .i64 x.role, Value.int .i64 x.conf, Value.int .i64 x.state] ++ x.by_.arr.toList ++ [Value.int .i64 x.at_])) := by simp only [List.append_assoc, List.append_nil, List.nil_append, List.cons_append]
  unfold Item.arr; rw [h]; exact ext_mid _ _ _ _ 38 _ (by simp) (by simp) rfl
@[simp] theorem Item.arr_35 (x : Item) : x.arr[35]? = some (Value.int .i64 x.script.kind) := arr_of_ext (k := 0) (Item.ext_35 x) _ rfl (by decide) (Script.arr_0 _)
@[simp] theorem Item.get_35 (x : Item) (h) : x.arr[35]'h = Value.int .i64 x.script.kind := Option.some.inj (by rw [← Array.getElem?_eq_getElem]; exact Item.arr_35 x)
@[simp] theorem Item.arr_36 (x : Item) : x.arr[36]? = some (Value.int .i64 x.script.key) := arr_of_ext (k := 1) (Item.ext_35 x) _ rfl (by decide) (Script.arr_1 _)
@[simp] theorem Item.get_36 (x : Item) (h) : x.arr[36]'h = Value.int .i64 x.script.key := Option.some.inj (by rw [← Array.getElem?_eq_getElem]; exact Item.arr_36 x)
@[simp] theorem Item.arr_37 (x : Item) : x.arr[37]? = some (Value.int .i64 x.script.other) := arr_of_ext (k := 2) (Item.ext_35 x) _ rfl (by decide) (Script.arr_2 _)
@[simp] theorem Item.get_37 (x : Item) (h) : x.arr[37]'h = Value.int .i64 x.script.other := Option.some.inj (by rw [← Array.getElem?_eq_getElem]; exact Item.arr_37 x)
@[simp] theorem Item.arr_38 (x : Item) : x.arr[38]? = some (Value.int .i64 x.script.rev) := arr_of_ext (k := 3) (Item.ext_35 x) _ rfl (by decide) (Script.arr_3 _)
@[simp] theorem Item.get_38 (x : Item) (h) : x.arr[38]'h = Value.int .i64 x.script.rev := Option.some.inj (by rw [← Array.getElem?_eq_getElem]; exact Item.arr_38 x)
@[simp] theorem Item.arr_39 (x : Item) : x.arr[39]? = some (Value.int .i64 x.script.delay) := arr_of_ext (k := 4) (Item.ext_35 x) _ rfl (by decide) (Script.arr_4 _)
@[simp] theorem Item.get_39 (x : Item) (h) : x.arr[39]'h = Value.int .i64 x.script.delay := Option.some.inj (by rw [← Array.getElem?_eq_getElem]; exact Item.arr_39 x)
@[simp] theorem Item.arr_40 (x : Item) : x.arr[40]? = some (Value.int .i64 x.script.expiry) := arr_of_ext (k := 5) (Item.ext_35 x) _ rfl (by decide) (Script.arr_5 _)
@[simp] theorem Item.get_40 (x : Item) (h) : x.arr[40]'h = Value.int .i64 x.script.expiry := Option.some.inj (by rw [← Array.getElem?_eq_getElem]; exact Item.arr_40 x)
@[simp] theorem Item.arr_73 (x : Item) : x.arr[73]? = some (Value.int .i64 x.role) := by simp [Item.arr, List.getElem?_append, List.getElem?_cons]
@[simp] theorem Item.get_73 (x : Item) (h) : x.arr[73]'h = Value.int .i64 x.role := Option.some.inj (by rw [← Array.getElem?_eq_getElem]; exact Item.arr_73 x)
@[simp] theorem Item.arr_74 (x : Item) : x.arr[74]? = some (Value.int .i64 x.conf) := by simp [Item.arr, List.getElem?_append, List.getElem?_cons]
@[simp] theorem Item.get_74 (x : Item) (h) : x.arr[74]'h = Value.int .i64 x.conf := Option.some.inj (by rw [← Array.getElem?_eq_getElem]; exact Item.arr_74 x)
@[simp] theorem Item.arr_75 (x : Item) : x.arr[75]? = some (Value.int .i64 x.state) := by simp [Item.arr, List.getElem?_append, List.getElem?_cons]
@[simp] theorem Item.get_75 (x : Item) (h) : x.arr[75]'h = Value.int .i64 x.state := Option.some.inj (by rw [← Array.getElem?_eq_getElem]; exact Item.arr_75 x)
@[simp] theorem Item.ext_76 (x : Item) : x.arr.extract 76 108 = x.by_.arr := by
  have h : ([Value.int .i64 x.channel] ++ x.point.arr.toList ++ [Value.int .i64 x.value] ++ x.script.arr.toList ++ [Value.int .i64 x.role, Value.int .i64 x.conf, Value.int .i64 x.state] ++ x.by_.arr.toList ++ [Value.int .i64 x.at_] : List Value) = ([Value.int .i64 x.channel] ++ x.point.arr.toList ++ [Value.int .i64 x.value] ++ x.script.arr.toList ++ [Value.int .i64 x.role, Value.int .i64 x.conf, Value.int .i64 x.state]) ++ (x.by_.arr.toList ++ ([Value.int .i64 x.at_])) := by simp only [List.append_assoc, List.append_nil, List.nil_append, List.cons_append]
  unfold Item.arr; rw [h]; exact ext_mid _ _ _ _ 32 _ (by simp) (by simp) rfl
@[simp] theorem Item.arr_108 (x : Item) : x.arr[108]? = some (Value.int .i64 x.at_) := by simp [Item.arr, List.getElem?_append, List.getElem?_cons]
@[simp] theorem Item.get_108 (x : Item) (h) : x.arr[108]'h = Value.int .i64 x.at_ := Option.some.inj (by rw [← Array.getElem?_eq_getElem]; exact Item.arr_108 x)

structure Input where
  point : Outpoint
  value : Int
  claim : Claim
  conf : Int
  since : Int
  deadline : Int
  budget : Int
  deriving DecidableEq
def Input.arr (x : Input) : Array Value := (x.point.arr.toList ++ [Value.int .i64 x.value] ++ x.claim.arr.toList ++ [Value.int .i64 x.conf, Value.int .i64 x.since, Value.int .i64 x.deadline, Value.int .i64 x.budget]).toArray
def Input.zero : Input := { point := Outpoint.zero, value := 0, claim := Claim.zero, conf := 0, since := 0, deadline := 0, budget := 0 }
@[simp] theorem Input.ext_all (x : Input) : x.arr.extract 0 44 = x.arr := by rw [show 44 = x.arr.size by simp [Input.arr]]; exact Array.extract_size
theorem one_Input (x : Input) : ∀ v ∈ x.arr.toList, v.oneCell' = true := by
  show ∀ v ∈ (x.point.arr.toList ++ [Value.int .i64 x.value] ++ x.claim.arr.toList ++ [Value.int .i64 x.conf, Value.int .i64 x.since, Value.int .i64 x.deadline, Value.int .i64 x.budget] : List Value), v.oneCell' = true
  intro v hv
  simp only [List.mem_append] at hv
  rcases hv with ((h0 | h1) | h2) | h3
  · exact one_Outpoint _ v h0
  · simp only [List.mem_cons, List.not_mem_nil, or_false] at h1
    rcases h1 with rfl <;> rfl
  · exact one_Claim _ v h2
  · simp only [List.mem_cons, List.not_mem_nil, or_false] at h3
    rcases h3 with rfl | rfl | rfl | rfl <;> rfl
def Input.wf (x : Input) : Prop := x.point.wf ∧ i64 x.value ∧ x.claim.wf ∧ i64 x.conf ∧ i64 x.since ∧ i64 x.deadline ∧ i64 x.budget
@[simp] theorem Input.size_arr (x : Input) : x.arr.size = 44 := by simp [Input.arr]
@[simp] theorem Input.length_arr (x : Input) : x.arr.toList.length = 44 := by simp [Input.arr]
@[simp] theorem Input.set_33 (x : Input) (v : Int) : x.arr.setIfInBounds 33 (Value.int .i64 v) = ({ x with value := v } : Input).arr := by
  apply Array.ext'; simp [Input.arr, List.set_append]
@[simp] theorem Input.set_40 (x : Input) (v : Int) : x.arr.setIfInBounds 40 (Value.int .i64 v) = ({ x with conf := v } : Input).arr := by
  apply Array.ext'; simp [Input.arr, List.set_append]
@[simp] theorem Input.set_41 (x : Input) (v : Int) : x.arr.setIfInBounds 41 (Value.int .i64 v) = ({ x with since := v } : Input).arr := by
  apply Array.ext'; simp [Input.arr, List.set_append]
@[simp] theorem Input.set_42 (x : Input) (v : Int) : x.arr.setIfInBounds 42 (Value.int .i64 v) = ({ x with deadline := v } : Input).arr := by
  apply Array.ext'; simp [Input.arr, List.set_append]
@[simp] theorem Input.set_43 (x : Input) (v : Int) : x.arr.setIfInBounds 43 (Value.int .i64 v) = ({ x with budget := v } : Input).arr := by
  apply Array.ext'; simp [Input.arr, List.set_append]
@[simp] theorem Input.ext_0 (x : Input) : x.arr.extract 0 33 = x.point.arr := by
  have h : (x.point.arr.toList ++ [Value.int .i64 x.value] ++ x.claim.arr.toList ++ [Value.int .i64 x.conf, Value.int .i64 x.since, Value.int .i64 x.deadline, Value.int .i64 x.budget] : List Value) = ([]) ++ (x.point.arr.toList ++ ([Value.int .i64 x.value] ++ x.claim.arr.toList ++ [Value.int .i64 x.conf, Value.int .i64 x.since, Value.int .i64 x.deadline, Value.int .i64 x.budget])) := by simp only [List.append_assoc, List.append_nil, List.nil_append, List.cons_append]
  unfold Input.arr; rw [h]; exact ext_mid _ _ _ _ 33 _ (by simp) (by simp) rfl
@[simp] theorem Input.arr_32 (x : Input) : x.arr[32]? = some (Value.int .i64 x.point.n) := arr_of_ext (k := 32) (Input.ext_0 x) _ rfl (by decide) (Outpoint.arr_32 _)
@[simp] theorem Input.get_32 (x : Input) (h) : x.arr[32]'h = Value.int .i64 x.point.n := Option.some.inj (by rw [← Array.getElem?_eq_getElem]; exact Input.arr_32 x)
@[simp] theorem Input.arr_33 (x : Input) : x.arr[33]? = some (Value.int .i64 x.value) := by simp [Input.arr, List.getElem?_append, List.getElem?_cons]
@[simp] theorem Input.get_33 (x : Input) (h) : x.arr[33]'h = Value.int .i64 x.value := Option.some.inj (by rw [← Array.getElem?_eq_getElem]; exact Input.arr_33 x)
@[simp] theorem Input.ext_34 (x : Input) : x.arr.extract 34 40 = x.claim.arr := by
  have h : (x.point.arr.toList ++ [Value.int .i64 x.value] ++ x.claim.arr.toList ++ [Value.int .i64 x.conf, Value.int .i64 x.since, Value.int .i64 x.deadline, Value.int .i64 x.budget] : List Value) = (x.point.arr.toList ++ [Value.int .i64 x.value]) ++ (x.claim.arr.toList ++ ([Value.int .i64 x.conf, Value.int .i64 x.since, Value.int .i64 x.deadline, Value.int .i64 x.budget])) := by simp only [List.append_assoc, List.append_nil, List.nil_append, List.cons_append]
  unfold Input.arr; rw [h]; exact ext_mid _ _ _ _ 6 _ (by simp) (by simp) rfl
@[simp] theorem Input.arr_34 (x : Input) : x.arr[34]? = some (Value.int .i64 x.claim.wit.kind) := arr_of_ext (k := 0) (Input.ext_34 x) _ rfl (by decide) (Claim.arr_0 _)
@[simp] theorem Input.get_34 (x : Input) (h) : x.arr[34]'h = Value.int .i64 x.claim.wit.kind := Option.some.inj (by rw [← Array.getElem?_eq_getElem]; exact Input.arr_34 x)
@[simp] theorem Input.arr_35 (x : Input) : x.arr[35]? = some (Value.int .i64 x.claim.wit.key) := arr_of_ext (k := 1) (Input.ext_34 x) _ rfl (by decide) (Claim.arr_1 _)
@[simp] theorem Input.get_35 (x : Input) (h) : x.arr[35]'h = Value.int .i64 x.claim.wit.key := Option.some.inj (by rw [← Array.getElem?_eq_getElem]; exact Input.arr_35 x)
@[simp] theorem Input.arr_36 (x : Input) : x.arr[36]? = some (Value.string x.claim.wit.pre) := arr_of_ext (k := 2) (Input.ext_34 x) _ rfl (by decide) (Claim.arr_2 _)
@[simp] theorem Input.get_36 (x : Input) (h) : x.arr[36]'h = Value.string x.claim.wit.pre := Option.some.inj (by rw [← Array.getElem?_eq_getElem]; exact Input.arr_36 x)
@[simp] theorem Input.arr_37 (x : Input) : x.arr[37]? = some (Value.int .i64 x.claim.seq) := arr_of_ext (k := 3) (Input.ext_34 x) _ rfl (by decide) (Claim.arr_3 _)
@[simp] theorem Input.get_37 (x : Input) (h) : x.arr[37]'h = Value.int .i64 x.claim.seq := Option.some.inj (by rw [← Array.getElem?_eq_getElem]; exact Input.arr_37 x)
@[simp] theorem Input.arr_38 (x : Input) : x.arr[38]? = some (Value.int .i64 x.claim.lock) := arr_of_ext (k := 4) (Input.ext_34 x) _ rfl (by decide) (Claim.arr_4 _)
@[simp] theorem Input.get_38 (x : Input) (h) : x.arr[38]'h = Value.int .i64 x.claim.lock := Option.some.inj (by rw [← Array.getElem?_eq_getElem]; exact Input.arr_38 x)
@[simp] theorem Input.arr_39 (x : Input) : x.arr[39]? = some (Value.int .i64 x.claim.wait) := arr_of_ext (k := 5) (Input.ext_34 x) _ rfl (by decide) (Claim.arr_5 _)
@[simp] theorem Input.get_39 (x : Input) (h) : x.arr[39]'h = Value.int .i64 x.claim.wait := Option.some.inj (by rw [← Array.getElem?_eq_getElem]; exact Input.arr_39 x)
@[simp] theorem Input.arr_40 (x : Input) : x.arr[40]? = some (Value.int .i64 x.conf) := by simp [Input.arr, List.getElem?_append, List.getElem?_cons]
@[simp] theorem Input.get_40 (x : Input) (h) : x.arr[40]'h = Value.int .i64 x.conf := Option.some.inj (by rw [← Array.getElem?_eq_getElem]; exact Input.arr_40 x)
@[simp] theorem Input.arr_41 (x : Input) : x.arr[41]? = some (Value.int .i64 x.since) := by simp [Input.arr, List.getElem?_append, List.getElem?_cons]
@[simp] theorem Input.get_41 (x : Input) (h) : x.arr[41]'h = Value.int .i64 x.since := Option.some.inj (by rw [← Array.getElem?_eq_getElem]; exact Input.arr_41 x)
@[simp] theorem Input.arr_42 (x : Input) : x.arr[42]? = some (Value.int .i64 x.deadline) := by simp [Input.arr, List.getElem?_append, List.getElem?_cons]
@[simp] theorem Input.get_42 (x : Input) (h) : x.arr[42]'h = Value.int .i64 x.deadline := Option.some.inj (by rw [← Array.getElem?_eq_getElem]; exact Input.arr_42 x)
@[simp] theorem Input.arr_43 (x : Input) : x.arr[43]? = some (Value.int .i64 x.budget) := by simp [Input.arr, List.getElem?_append, List.getElem?_cons]
@[simp] theorem Input.get_43 (x : Input) (h) : x.arr[43]'h = Value.int .i64 x.budget := Option.some.inj (by rw [← Array.getElem?_eq_getElem]; exact Input.arr_43 x)

structure Output where
  point : Outpoint
  value : Int
  script : Script
  role : Int
  deriving DecidableEq
def Output.arr (x : Output) : Array Value := (x.point.arr.toList ++ [Value.int .i64 x.value] ++ x.script.arr.toList ++ [Value.int .i64 x.role]).toArray
def Output.zero : Output := { point := Outpoint.zero, value := 0, script := Script.zero, role := 0 }
@[simp] theorem Output.ext_all (x : Output) : x.arr.extract 0 73 = x.arr := by rw [show 73 = x.arr.size by simp [Output.arr]]; exact Array.extract_size
theorem one_Output (x : Output) : ∀ v ∈ x.arr.toList, v.oneCell' = true := by
  show ∀ v ∈ (x.point.arr.toList ++ [Value.int .i64 x.value] ++ x.script.arr.toList ++ [Value.int .i64 x.role] : List Value), v.oneCell' = true
  intro v hv
  simp only [List.mem_append] at hv
  rcases hv with ((h0 | h1) | h2) | h3
  · exact one_Outpoint _ v h0
  · simp only [List.mem_cons, List.not_mem_nil, or_false] at h1
    rcases h1 with rfl <;> rfl
  · exact one_Script _ v h2
  · simp only [List.mem_cons, List.not_mem_nil, or_false] at h3
    rcases h3 with rfl <;> rfl
def Output.wf (x : Output) : Prop := x.point.wf ∧ i64 x.value ∧ x.script.wf ∧ i64 x.role
@[simp] theorem Output.size_arr (x : Output) : x.arr.size = 73 := by simp [Output.arr]
@[simp] theorem Output.length_arr (x : Output) : x.arr.toList.length = 73 := by simp [Output.arr]
@[simp] theorem Output.set_33 (x : Output) (v : Int) : x.arr.setIfInBounds 33 (Value.int .i64 v) = ({ x with value := v } : Output).arr := by
  apply Array.ext'; simp [Output.arr, List.set_append]
@[simp] theorem Output.set_72 (x : Output) (v : Int) : x.arr.setIfInBounds 72 (Value.int .i64 v) = ({ x with role := v } : Output).arr := by
  apply Array.ext'; simp [Output.arr, List.set_append]
@[simp] theorem Output.ext_0 (x : Output) : x.arr.extract 0 33 = x.point.arr := by
  have h : (x.point.arr.toList ++ [Value.int .i64 x.value] ++ x.script.arr.toList ++ [Value.int .i64 x.role] : List Value) = ([]) ++ (x.point.arr.toList ++ ([Value.int .i64 x.value] ++ x.script.arr.toList ++ [Value.int .i64 x.role])) := by simp only [List.append_assoc, List.append_nil, List.nil_append, List.cons_append]
  unfold Output.arr; rw [h]; exact ext_mid _ _ _ _ 33 _ (by simp) (by simp) rfl
@[simp] theorem Output.arr_32 (x : Output) : x.arr[32]? = some (Value.int .i64 x.point.n) := arr_of_ext (k := 32) (Output.ext_0 x) _ rfl (by decide) (Outpoint.arr_32 _)
@[simp] theorem Output.get_32 (x : Output) (h) : x.arr[32]'h = Value.int .i64 x.point.n := Option.some.inj (by rw [← Array.getElem?_eq_getElem]; exact Output.arr_32 x)
@[simp] theorem Output.arr_33 (x : Output) : x.arr[33]? = some (Value.int .i64 x.value) := by simp [Output.arr, List.getElem?_append, List.getElem?_cons]
@[simp] theorem Output.get_33 (x : Output) (h) : x.arr[33]'h = Value.int .i64 x.value := Option.some.inj (by rw [← Array.getElem?_eq_getElem]; exact Output.arr_33 x)
@[simp] theorem Output.ext_34 (x : Output) : x.arr.extract 34 72 = x.script.arr := by
  have h : (x.point.arr.toList ++ [Value.int .i64 x.value] ++ x.script.arr.toList ++ [Value.int .i64 x.role] : List Value) = (x.point.arr.toList ++ [Value.int .i64 x.value]) ++ (x.script.arr.toList ++ ([Value.int .i64 x.role])) := by simp only [List.append_assoc, List.append_nil, List.nil_append, List.cons_append]
  unfold Output.arr; rw [h]; exact ext_mid _ _ _ _ 38 _ (by simp) (by simp) rfl
@[simp] theorem Output.arr_34 (x : Output) : x.arr[34]? = some (Value.int .i64 x.script.kind) := arr_of_ext (k := 0) (Output.ext_34 x) _ rfl (by decide) (Script.arr_0 _)
@[simp] theorem Output.get_34 (x : Output) (h) : x.arr[34]'h = Value.int .i64 x.script.kind := Option.some.inj (by rw [← Array.getElem?_eq_getElem]; exact Output.arr_34 x)
@[simp] theorem Output.arr_35 (x : Output) : x.arr[35]? = some (Value.int .i64 x.script.key) := arr_of_ext (k := 1) (Output.ext_34 x) _ rfl (by decide) (Script.arr_1 _)
@[simp] theorem Output.get_35 (x : Output) (h) : x.arr[35]'h = Value.int .i64 x.script.key := Option.some.inj (by rw [← Array.getElem?_eq_getElem]; exact Output.arr_35 x)
@[simp] theorem Output.arr_36 (x : Output) : x.arr[36]? = some (Value.int .i64 x.script.other) := arr_of_ext (k := 2) (Output.ext_34 x) _ rfl (by decide) (Script.arr_2 _)
@[simp] theorem Output.get_36 (x : Output) (h) : x.arr[36]'h = Value.int .i64 x.script.other := Option.some.inj (by rw [← Array.getElem?_eq_getElem]; exact Output.arr_36 x)
@[simp] theorem Output.arr_37 (x : Output) : x.arr[37]? = some (Value.int .i64 x.script.rev) := arr_of_ext (k := 3) (Output.ext_34 x) _ rfl (by decide) (Script.arr_3 _)
@[simp] theorem Output.get_37 (x : Output) (h) : x.arr[37]'h = Value.int .i64 x.script.rev := Option.some.inj (by rw [← Array.getElem?_eq_getElem]; exact Output.arr_37 x)
@[simp] theorem Output.arr_38 (x : Output) : x.arr[38]? = some (Value.int .i64 x.script.delay) := arr_of_ext (k := 4) (Output.ext_34 x) _ rfl (by decide) (Script.arr_4 _)
@[simp] theorem Output.get_38 (x : Output) (h) : x.arr[38]'h = Value.int .i64 x.script.delay := Option.some.inj (by rw [← Array.getElem?_eq_getElem]; exact Output.arr_38 x)
@[simp] theorem Output.arr_39 (x : Output) : x.arr[39]? = some (Value.int .i64 x.script.expiry) := arr_of_ext (k := 5) (Output.ext_34 x) _ rfl (by decide) (Script.arr_5 _)
@[simp] theorem Output.get_39 (x : Output) (h) : x.arr[39]'h = Value.int .i64 x.script.expiry := Option.some.inj (by rw [← Array.getElem?_eq_getElem]; exact Output.arr_39 x)
@[simp] theorem Output.arr_72 (x : Output) : x.arr[72]? = some (Value.int .i64 x.role) := by simp [Output.arr, List.getElem?_append, List.getElem?_cons]
@[simp] theorem Output.get_72 (x : Output) (h) : x.arr[72]'h = Value.int .i64 x.role := Option.some.inj (by rw [← Array.getElem?_eq_getElem]; exact Output.arr_72 x)

structure Header where
  prev : Hash
  root : Hash
  work : Int
  nonce : Int
  deriving DecidableEq
def Header.arr (x : Header) : Array Value := (x.prev.arr.toList ++ x.root.arr.toList ++ [Value.int .i64 x.work, Value.int .i64 x.nonce]).toArray
def Header.zero : Header := { prev := Hash.zero, root := Hash.zero, work := 0, nonce := 0 }
@[simp] theorem Header.ext_all (x : Header) : x.arr.extract 0 66 = x.arr := by rw [show 66 = x.arr.size by simp [Header.arr]]; exact Array.extract_size
theorem one_Header (x : Header) : ∀ v ∈ x.arr.toList, v.oneCell' = true := by
  show ∀ v ∈ (x.prev.arr.toList ++ x.root.arr.toList ++ [Value.int .i64 x.work, Value.int .i64 x.nonce] : List Value), v.oneCell' = true
  intro v hv
  simp only [List.mem_append] at hv
  rcases hv with (h0 | h1) | h2
  · exact one_Hash _ v h0
  · exact one_Hash _ v h1
  · simp only [List.mem_cons, List.not_mem_nil, or_false] at h2
    rcases h2 with rfl | rfl <;> rfl
def Header.wf (x : Header) : Prop := i64 x.work ∧ i64 x.nonce
@[simp] theorem Header.size_arr (x : Header) : x.arr.size = 66 := by simp [Header.arr]
@[simp] theorem Header.length_arr (x : Header) : x.arr.toList.length = 66 := by simp [Header.arr]
@[simp] theorem Header.set_64 (x : Header) (v : Int) : x.arr.setIfInBounds 64 (Value.int .i64 v) = ({ x with work := v } : Header).arr := by
  apply Array.ext'; simp [Header.arr, List.set_append]
@[simp] theorem Header.set_65 (x : Header) (v : Int) : x.arr.setIfInBounds 65 (Value.int .i64 v) = ({ x with nonce := v } : Header).arr := by
  apply Array.ext'; simp [Header.arr, List.set_append]
@[simp] theorem Header.ext_0 (x : Header) : x.arr.extract 0 32 = x.prev.arr := by
  have h : (x.prev.arr.toList ++ x.root.arr.toList ++ [Value.int .i64 x.work, Value.int .i64 x.nonce] : List Value) = ([]) ++ (x.prev.arr.toList ++ (x.root.arr.toList ++ [Value.int .i64 x.work, Value.int .i64 x.nonce])) := by simp only [List.append_assoc, List.append_nil, List.nil_append, List.cons_append]
  unfold Header.arr; rw [h]; exact ext_mid _ _ _ _ 32 _ (by simp) (by simp) rfl
@[simp] theorem Header.ext_32 (x : Header) : x.arr.extract 32 64 = x.root.arr := by
  have h : (x.prev.arr.toList ++ x.root.arr.toList ++ [Value.int .i64 x.work, Value.int .i64 x.nonce] : List Value) = (x.prev.arr.toList) ++ (x.root.arr.toList ++ ([Value.int .i64 x.work, Value.int .i64 x.nonce])) := by simp only [List.append_assoc, List.append_nil, List.nil_append, List.cons_append]
  unfold Header.arr; rw [h]; exact ext_mid _ _ _ _ 32 _ (by simp) (by simp) rfl
@[simp] theorem Header.arr_64 (x : Header) : x.arr[64]? = some (Value.int .i64 x.work) := by simp [Header.arr, List.getElem?_append, List.getElem?_cons]
@[simp] theorem Header.get_64 (x : Header) (h) : x.arr[64]'h = Value.int .i64 x.work := Option.some.inj (by rw [← Array.getElem?_eq_getElem]; exact Header.arr_64 x)
@[simp] theorem Header.arr_65 (x : Header) : x.arr[65]? = some (Value.int .i64 x.nonce) := by simp [Header.arr, List.getElem?_append, List.getElem?_cons]
@[simp] theorem Header.get_65 (x : Header) (h) : x.arr[65]'h = Value.int .i64 x.nonce := Option.some.inj (by rw [← Array.getElem?_eq_getElem]; exact Header.arr_65 x)

structure Deed where
  kind : Int
  a : ByteArray
  b : ByteArray
  n : Int
  deriving DecidableEq
def Deed.arr (x : Deed) : Array Value := ([Value.int .i64 x.kind, Value.string x.a, Value.string x.b, Value.int .i64 x.n]).toArray
def Deed.zero : Deed := { kind := 0, a := ByteArray.empty, b := ByteArray.empty, n := 0 }
@[simp] theorem Deed.ext_all (x : Deed) : x.arr.extract 0 4 = x.arr := by rw [show 4 = x.arr.size by simp [Deed.arr]]; exact Array.extract_size
theorem one_Deed (x : Deed) : ∀ v ∈ x.arr.toList, v.oneCell' = true := by
  show ∀ v ∈ ([Value.int .i64 x.kind, Value.string x.a, Value.string x.b, Value.int .i64 x.n] : List Value), v.oneCell' = true
  intro v hv
  have h0 := hv
  · simp only [List.mem_cons, List.not_mem_nil, or_false] at h0
    rcases h0 with rfl | rfl | rfl | rfl <;> rfl
def Deed.wf (x : Deed) : Prop := i64 x.kind ∧ x.a.size ≤ maxLen ∧ x.b.size ≤ maxLen ∧ i64 x.n
@[simp] theorem Deed.size_arr (x : Deed) : x.arr.size = 4 := by simp [Deed.arr]
@[simp] theorem Deed.length_arr (x : Deed) : x.arr.toList.length = 4 := by simp [Deed.arr]
@[simp] theorem Deed.set_0 (x : Deed) (v : Int) : x.arr.setIfInBounds 0 (Value.int .i64 v) = ({ x with kind := v } : Deed).arr := by
  apply Array.ext'; simp [Deed.arr, List.set_append]
@[simp] theorem Deed.set_1 (x : Deed) (v : ByteArray) : x.arr.setIfInBounds 1 (Value.string v) = ({ x with a := v } : Deed).arr := by
  apply Array.ext'; simp [Deed.arr, List.set_append]
@[simp] theorem Deed.set_2 (x : Deed) (v : ByteArray) : x.arr.setIfInBounds 2 (Value.string v) = ({ x with b := v } : Deed).arr := by
  apply Array.ext'; simp [Deed.arr, List.set_append]
@[simp] theorem Deed.set_3 (x : Deed) (v : Int) : x.arr.setIfInBounds 3 (Value.int .i64 v) = ({ x with n := v } : Deed).arr := by
  apply Array.ext'; simp [Deed.arr, List.set_append]
@[simp] theorem Deed.arr_0 (x : Deed) : x.arr[0]? = some (Value.int .i64 x.kind) := by simp [Deed.arr, List.getElem?_append, List.getElem?_cons]
@[simp] theorem Deed.get_0 (x : Deed) (h) : x.arr[0]'h = Value.int .i64 x.kind := Option.some.inj (by rw [← Array.getElem?_eq_getElem]; exact Deed.arr_0 x)
@[simp] theorem Deed.arr_1 (x : Deed) : x.arr[1]? = some (Value.string x.a) := by simp [Deed.arr, List.getElem?_append, List.getElem?_cons]
@[simp] theorem Deed.get_1 (x : Deed) (h) : x.arr[1]'h = Value.string x.a := Option.some.inj (by rw [← Array.getElem?_eq_getElem]; exact Deed.arr_1 x)
@[simp] theorem Deed.arr_2 (x : Deed) : x.arr[2]? = some (Value.string x.b) := by simp [Deed.arr, List.getElem?_append, List.getElem?_cons]
@[simp] theorem Deed.get_2 (x : Deed) (h) : x.arr[2]'h = Value.string x.b := Option.some.inj (by rw [← Array.getElem?_eq_getElem]; exact Deed.arr_2 x)
@[simp] theorem Deed.arr_3 (x : Deed) : x.arr[3]? = some (Value.int .i64 x.n) := by simp [Deed.arr, List.getElem?_append, List.getElem?_cons]
@[simp] theorem Deed.get_3 (x : Deed) (h) : x.arr[3]'h = Value.int .i64 x.n := Option.some.inj (by rw [← Array.getElem?_eq_getElem]; exact Deed.arr_3 x)

structure Turn where
  kind : Int
  n : Int
  m : Int
  deriving DecidableEq
def Turn.arr (x : Turn) : Array Value := ([Value.int .i64 x.kind, Value.int .i64 x.n, Value.int .i64 x.m]).toArray
def Turn.zero : Turn := { kind := 0, n := 0, m := 0 }
@[simp] theorem Turn.ext_all (x : Turn) : x.arr.extract 0 3 = x.arr := by rw [show 3 = x.arr.size by simp [Turn.arr]]; exact Array.extract_size
theorem one_Turn (x : Turn) : ∀ v ∈ x.arr.toList, v.oneCell' = true := by
  show ∀ v ∈ ([Value.int .i64 x.kind, Value.int .i64 x.n, Value.int .i64 x.m] : List Value), v.oneCell' = true
  intro v hv
  have h0 := hv
  · simp only [List.mem_cons, List.not_mem_nil, or_false] at h0
    rcases h0 with rfl | rfl | rfl <;> rfl
def Turn.wf (x : Turn) : Prop := i64 x.kind ∧ i64 x.n ∧ i64 x.m
@[simp] theorem Turn.size_arr (x : Turn) : x.arr.size = 3 := by simp [Turn.arr]
@[simp] theorem Turn.length_arr (x : Turn) : x.arr.toList.length = 3 := by simp [Turn.arr]
@[simp] theorem Turn.set_0 (x : Turn) (v : Int) : x.arr.setIfInBounds 0 (Value.int .i64 v) = ({ x with kind := v } : Turn).arr := by
  apply Array.ext'; simp [Turn.arr, List.set_append]
@[simp] theorem Turn.set_1 (x : Turn) (v : Int) : x.arr.setIfInBounds 1 (Value.int .i64 v) = ({ x with n := v } : Turn).arr := by
  apply Array.ext'; simp [Turn.arr, List.set_append]
@[simp] theorem Turn.set_2 (x : Turn) (v : Int) : x.arr.setIfInBounds 2 (Value.int .i64 v) = ({ x with m := v } : Turn).arr := by
  apply Array.ext'; simp [Turn.arr, List.set_append]
@[simp] theorem Turn.arr_0 (x : Turn) : x.arr[0]? = some (Value.int .i64 x.kind) := by simp [Turn.arr, List.getElem?_append, List.getElem?_cons]
@[simp] theorem Turn.get_0 (x : Turn) (h) : x.arr[0]'h = Value.int .i64 x.kind := Option.some.inj (by rw [← Array.getElem?_eq_getElem]; exact Turn.arr_0 x)
@[simp] theorem Turn.arr_1 (x : Turn) : x.arr[1]? = some (Value.int .i64 x.n) := by simp [Turn.arr, List.getElem?_append, List.getElem?_cons]
@[simp] theorem Turn.get_1 (x : Turn) (h) : x.arr[1]'h = Value.int .i64 x.n := Option.some.inj (by rw [← Array.getElem?_eq_getElem]; exact Turn.arr_1 x)
@[simp] theorem Turn.arr_2 (x : Turn) : x.arr[2]? = some (Value.int .i64 x.m) := by simp [Turn.arr, List.getElem?_append, List.getElem?_cons]
@[simp] theorem Turn.get_2 (x : Turn) (h) : x.arr[2]'h = Value.int .i64 x.m := Option.some.inj (by rw [← Array.getElem?_eq_getElem]; exact Turn.arr_2 x)

structure TxV where
  ins : Sl
  outs : Sl
  lock : Int
  deriving DecidableEq
def TxV.arr (x : TxV) : Array Value := ([Value.slice x.ins.a x.ins.n x.ins.c, Value.slice x.outs.a x.outs.n x.outs.c, Value.int .i64 x.lock]).toArray
def TxV.zero : TxV := { ins := ⟨none, 0, 0⟩, outs := ⟨none, 0, 0⟩, lock := 0 }
@[simp] theorem TxV.ext_all (x : TxV) : x.arr.extract 0 3 = x.arr := by rw [show 3 = x.arr.size by simp [TxV.arr]]; exact Array.extract_size
theorem one_TxV (x : TxV) : ∀ v ∈ x.arr.toList, v.oneCell' = true := by
  show ∀ v ∈ ([Value.slice x.ins.a x.ins.n x.ins.c, Value.slice x.outs.a x.outs.n x.outs.c, Value.int .i64 x.lock] : List Value), v.oneCell' = true
  intro v hv
  have h0 := hv
  · simp only [List.mem_cons, List.not_mem_nil, or_false] at h0
    rcases h0 with rfl | rfl | rfl <;> rfl
def TxV.wf (x : TxV) : Prop := i64 x.lock
@[simp] theorem TxV.size_arr (x : TxV) : x.arr.size = 3 := by simp [TxV.arr]
@[simp] theorem TxV.length_arr (x : TxV) : x.arr.toList.length = 3 := by simp [TxV.arr]
@[simp] theorem TxV.set_0 (x : TxV) (a : Option Addr) (m c : Nat) : x.arr.setIfInBounds 0 (Value.slice a m c) = ({ x with ins := ⟨a, m, c⟩ } : TxV).arr := by
  apply Array.ext'; simp [TxV.arr, List.set_append]
@[simp] theorem TxV.set_1 (x : TxV) (a : Option Addr) (m c : Nat) : x.arr.setIfInBounds 1 (Value.slice a m c) = ({ x with outs := ⟨a, m, c⟩ } : TxV).arr := by
  apply Array.ext'; simp [TxV.arr, List.set_append]
@[simp] theorem TxV.set_2 (x : TxV) (v : Int) : x.arr.setIfInBounds 2 (Value.int .i64 v) = ({ x with lock := v } : TxV).arr := by
  apply Array.ext'; simp [TxV.arr, List.set_append]
@[simp] theorem TxV.arr_0 (x : TxV) : x.arr[0]? = some (Value.slice x.ins.a x.ins.n x.ins.c) := by simp [TxV.arr, List.getElem?_append, List.getElem?_cons]
@[simp] theorem TxV.get_0 (x : TxV) (h) : x.arr[0]'h = Value.slice x.ins.a x.ins.n x.ins.c := Option.some.inj (by rw [← Array.getElem?_eq_getElem]; exact TxV.arr_0 x)
@[simp] theorem TxV.arr_1 (x : TxV) : x.arr[1]? = some (Value.slice x.outs.a x.outs.n x.outs.c) := by simp [TxV.arr, List.getElem?_append, List.getElem?_cons]
@[simp] theorem TxV.get_1 (x : TxV) (h) : x.arr[1]'h = Value.slice x.outs.a x.outs.n x.outs.c := Option.some.inj (by rw [← Array.getElem?_eq_getElem]; exact TxV.arr_1 x)
@[simp] theorem TxV.arr_2 (x : TxV) : x.arr[2]? = some (Value.int .i64 x.lock) := by simp [TxV.arr, List.getElem?_append, List.getElem?_cons]
@[simp] theorem TxV.get_2 (x : TxV) (h) : x.arr[2]'h = Value.int .i64 x.lock := Option.some.inj (by rw [← Array.getElem?_eq_getElem]; exact TxV.arr_2 x)

structure ChannelV where
  funding : Outpoint
  commits : Sl
  deriving DecidableEq
def ChannelV.arr (x : ChannelV) : Array Value := (x.funding.arr.toList ++ [Value.slice x.commits.a x.commits.n x.commits.c]).toArray
def ChannelV.zero : ChannelV := { funding := Outpoint.zero, commits := ⟨none, 0, 0⟩ }
@[simp] theorem ChannelV.ext_all (x : ChannelV) : x.arr.extract 0 34 = x.arr := by rw [show 34 = x.arr.size by simp [ChannelV.arr]]; exact Array.extract_size
theorem one_ChannelV (x : ChannelV) : ∀ v ∈ x.arr.toList, v.oneCell' = true := by
  show ∀ v ∈ (x.funding.arr.toList ++ [Value.slice x.commits.a x.commits.n x.commits.c] : List Value), v.oneCell' = true
  intro v hv
  simp only [List.mem_append] at hv
  rcases hv with h0 | h1
  · exact one_Outpoint _ v h0
  · simp only [List.mem_cons, List.not_mem_nil, or_false] at h1
    rcases h1 with rfl <;> rfl
def ChannelV.wf (x : ChannelV) : Prop := x.funding.wf
@[simp] theorem ChannelV.size_arr (x : ChannelV) : x.arr.size = 34 := by simp [ChannelV.arr]
@[simp] theorem ChannelV.length_arr (x : ChannelV) : x.arr.toList.length = 34 := by simp [ChannelV.arr]
@[simp] theorem ChannelV.set_33 (x : ChannelV) (a : Option Addr) (m c : Nat) : x.arr.setIfInBounds 33 (Value.slice a m c) = ({ x with commits := ⟨a, m, c⟩ } : ChannelV).arr := by
  apply Array.ext'; simp [ChannelV.arr, List.set_append]
@[simp] theorem ChannelV.ext_0 (x : ChannelV) : x.arr.extract 0 33 = x.funding.arr := by
  have h : (x.funding.arr.toList ++ [Value.slice x.commits.a x.commits.n x.commits.c] : List Value) = ([]) ++ (x.funding.arr.toList ++ ([Value.slice x.commits.a x.commits.n x.commits.c])) := by simp only [List.append_assoc, List.append_nil, List.nil_append, List.cons_append]
  unfold ChannelV.arr; rw [h]; exact ext_mid _ _ _ _ 33 _ (by simp) (by simp) rfl
@[simp] theorem ChannelV.arr_32 (x : ChannelV) : x.arr[32]? = some (Value.int .i64 x.funding.n) := arr_of_ext (k := 32) (ChannelV.ext_0 x) _ rfl (by decide) (Outpoint.arr_32 _)
@[simp] theorem ChannelV.get_32 (x : ChannelV) (h) : x.arr[32]'h = Value.int .i64 x.funding.n := Option.some.inj (by rw [← Array.getElem?_eq_getElem]; exact ChannelV.arr_32 x)
@[simp] theorem ChannelV.arr_33 (x : ChannelV) : x.arr[33]? = some (Value.slice x.commits.a x.commits.n x.commits.c) := by simp [ChannelV.arr, List.getElem?_append, List.getElem?_cons]
@[simp] theorem ChannelV.get_33 (x : ChannelV) (h) : x.arr[33]'h = Value.slice x.commits.a x.commits.n x.commits.c := Option.some.inj (by rw [← Array.getElem?_eq_getElem]; exact ChannelV.arr_33 x)

structure BlockV where
  head : Header
  txs : Sl
  deriving DecidableEq
def BlockV.arr (x : BlockV) : Array Value := (x.head.arr.toList ++ [Value.slice x.txs.a x.txs.n x.txs.c]).toArray
def BlockV.zero : BlockV := { head := Header.zero, txs := ⟨none, 0, 0⟩ }
@[simp] theorem BlockV.ext_all (x : BlockV) : x.arr.extract 0 67 = x.arr := by rw [show 67 = x.arr.size by simp [BlockV.arr]]; exact Array.extract_size
theorem one_BlockV (x : BlockV) : ∀ v ∈ x.arr.toList, v.oneCell' = true := by
  show ∀ v ∈ (x.head.arr.toList ++ [Value.slice x.txs.a x.txs.n x.txs.c] : List Value), v.oneCell' = true
  intro v hv
  simp only [List.mem_append] at hv
  rcases hv with h0 | h1
  · exact one_Header _ v h0
  · simp only [List.mem_cons, List.not_mem_nil, or_false] at h1
    rcases h1 with rfl <;> rfl
def BlockV.wf (x : BlockV) : Prop := x.head.wf
@[simp] theorem BlockV.size_arr (x : BlockV) : x.arr.size = 67 := by simp [BlockV.arr]
@[simp] theorem BlockV.length_arr (x : BlockV) : x.arr.toList.length = 67 := by simp [BlockV.arr]
@[simp] theorem BlockV.set_66 (x : BlockV) (a : Option Addr) (m c : Nat) : x.arr.setIfInBounds 66 (Value.slice a m c) = ({ x with txs := ⟨a, m, c⟩ } : BlockV).arr := by
  apply Array.ext'; simp [BlockV.arr, List.set_append]
@[simp] theorem BlockV.ext_0 (x : BlockV) : x.arr.extract 0 66 = x.head.arr := by
  have h : (x.head.arr.toList ++ [Value.slice x.txs.a x.txs.n x.txs.c] : List Value) = ([]) ++ (x.head.arr.toList ++ ([Value.slice x.txs.a x.txs.n x.txs.c])) := by simp only [List.append_assoc, List.append_nil, List.nil_append, List.cons_append]
  unfold BlockV.arr; rw [h]; exact ext_mid _ _ _ _ 66 _ (by simp) (by simp) rfl
@[simp] theorem BlockV.arr_64 (x : BlockV) : x.arr[64]? = some (Value.int .i64 x.head.work) := arr_of_ext (k := 64) (BlockV.ext_0 x) _ rfl (by decide) (Header.arr_64 _)
@[simp] theorem BlockV.get_64 (x : BlockV) (h) : x.arr[64]'h = Value.int .i64 x.head.work := Option.some.inj (by rw [← Array.getElem?_eq_getElem]; exact BlockV.arr_64 x)
@[simp] theorem BlockV.arr_65 (x : BlockV) : x.arr[65]? = some (Value.int .i64 x.head.nonce) := arr_of_ext (k := 65) (BlockV.ext_0 x) _ rfl (by decide) (Header.arr_65 _)
@[simp] theorem BlockV.get_65 (x : BlockV) (h) : x.arr[65]'h = Value.int .i64 x.head.nonce := Option.some.inj (by rw [← Array.getElem?_eq_getElem]; exact BlockV.arr_65 x)
@[simp] theorem BlockV.arr_66 (x : BlockV) : x.arr[66]? = some (Value.slice x.txs.a x.txs.n x.txs.c) := by simp [BlockV.arr, List.getElem?_append, List.getElem?_cons]
@[simp] theorem BlockV.get_66 (x : BlockV) (h) : x.arr[66]'h = Value.slice x.txs.a x.txs.n x.txs.c := Option.some.inj (by rw [← Array.getElem?_eq_getElem]; exact BlockV.arr_66 x)

structure EntryV where
  t : TxV
  height : Int
  deriving DecidableEq
def EntryV.arr (x : EntryV) : Array Value := (x.t.arr.toList ++ [Value.int .i64 x.height]).toArray
def EntryV.zero : EntryV := { t := TxV.zero, height := 0 }
@[simp] theorem EntryV.ext_all (x : EntryV) : x.arr.extract 0 4 = x.arr := by rw [show 4 = x.arr.size by simp [EntryV.arr]]; exact Array.extract_size
theorem one_EntryV (x : EntryV) : ∀ v ∈ x.arr.toList, v.oneCell' = true := by
  show ∀ v ∈ (x.t.arr.toList ++ [Value.int .i64 x.height] : List Value), v.oneCell' = true
  intro v hv
  simp only [List.mem_append] at hv
  rcases hv with h0 | h1
  · exact one_TxV _ v h0
  · simp only [List.mem_cons, List.not_mem_nil, or_false] at h1
    rcases h1 with rfl <;> rfl
def EntryV.wf (x : EntryV) : Prop := x.t.wf ∧ i64 x.height
@[simp] theorem EntryV.size_arr (x : EntryV) : x.arr.size = 4 := by simp [EntryV.arr]
@[simp] theorem EntryV.length_arr (x : EntryV) : x.arr.toList.length = 4 := by simp [EntryV.arr]
@[simp] theorem EntryV.set_3 (x : EntryV) (v : Int) : x.arr.setIfInBounds 3 (Value.int .i64 v) = ({ x with height := v } : EntryV).arr := by
  apply Array.ext'; simp [EntryV.arr, List.set_append]
@[simp] theorem EntryV.ext_0 (x : EntryV) : x.arr.extract 0 3 = x.t.arr := by
  have h : (x.t.arr.toList ++ [Value.int .i64 x.height] : List Value) = ([]) ++ (x.t.arr.toList ++ ([Value.int .i64 x.height])) := by simp only [List.append_assoc, List.append_nil, List.nil_append, List.cons_append]
  unfold EntryV.arr; rw [h]; exact ext_mid _ _ _ _ 3 _ (by simp) (by simp) rfl
@[simp] theorem EntryV.arr_0 (x : EntryV) : x.arr[0]? = some (Value.slice x.t.ins.a x.t.ins.n x.t.ins.c) := arr_of_ext (k := 0) (EntryV.ext_0 x) _ rfl (by decide) (TxV.arr_0 _)
@[simp] theorem EntryV.get_0 (x : EntryV) (h) : x.arr[0]'h = Value.slice x.t.ins.a x.t.ins.n x.t.ins.c := Option.some.inj (by rw [← Array.getElem?_eq_getElem]; exact EntryV.arr_0 x)
@[simp] theorem EntryV.arr_1 (x : EntryV) : x.arr[1]? = some (Value.slice x.t.outs.a x.t.outs.n x.t.outs.c) := arr_of_ext (k := 1) (EntryV.ext_0 x) _ rfl (by decide) (TxV.arr_1 _)
@[simp] theorem EntryV.get_1 (x : EntryV) (h) : x.arr[1]'h = Value.slice x.t.outs.a x.t.outs.n x.t.outs.c := Option.some.inj (by rw [← Array.getElem?_eq_getElem]; exact EntryV.arr_1 x)
@[simp] theorem EntryV.arr_2 (x : EntryV) : x.arr[2]? = some (Value.int .i64 x.t.lock) := arr_of_ext (k := 2) (EntryV.ext_0 x) _ rfl (by decide) (TxV.arr_2 _)
@[simp] theorem EntryV.get_2 (x : EntryV) (h) : x.arr[2]'h = Value.int .i64 x.t.lock := Option.some.inj (by rw [← Array.getElem?_eq_getElem]; exact EntryV.arr_2 x)
@[simp] theorem EntryV.arr_3 (x : EntryV) : x.arr[3]? = some (Value.int .i64 x.height) := by simp [EntryV.arr, List.getElem?_append, List.getElem?_cons]
@[simp] theorem EntryV.get_3 (x : EntryV) (h) : x.arr[3]'h = Value.int .i64 x.height := Option.some.inj (by rw [← Array.getElem?_eq_getElem]; exact EntryV.arr_3 x)

structure IndexV where
  blocks : Sl
  txs : Option Nat
  spender : Option Nat
  deriving DecidableEq
def IndexV.arr (x : IndexV) : Array Value := ([Value.slice x.blocks.a x.blocks.n x.blocks.c, Value.map x.txs, Value.map x.spender]).toArray
def IndexV.zero : IndexV := { blocks := ⟨none, 0, 0⟩, txs := none, spender := none }
@[simp] theorem IndexV.ext_all (x : IndexV) : x.arr.extract 0 3 = x.arr := by rw [show 3 = x.arr.size by simp [IndexV.arr]]; exact Array.extract_size
theorem one_IndexV (x : IndexV) : ∀ v ∈ x.arr.toList, v.oneCell' = true := by
  show ∀ v ∈ ([Value.slice x.blocks.a x.blocks.n x.blocks.c, Value.map x.txs, Value.map x.spender] : List Value), v.oneCell' = true
  intro v hv
  have h0 := hv
  · simp only [List.mem_cons, List.not_mem_nil, or_false] at h0
    rcases h0 with rfl | rfl | rfl <;> rfl
def IndexV.wf (x : IndexV) : Prop := True
@[simp] theorem IndexV.size_arr (x : IndexV) : x.arr.size = 3 := by simp [IndexV.arr]
@[simp] theorem IndexV.length_arr (x : IndexV) : x.arr.toList.length = 3 := by simp [IndexV.arr]
@[simp] theorem IndexV.set_0 (x : IndexV) (a : Option Addr) (m c : Nat) : x.arr.setIfInBounds 0 (Value.slice a m c) = ({ x with blocks := ⟨a, m, c⟩ } : IndexV).arr := by
  apply Array.ext'; simp [IndexV.arr, List.set_append]
@[simp] theorem IndexV.set_1 (x : IndexV) (v : Option Nat) : x.arr.setIfInBounds 1 (Value.map v) = ({ x with txs := v } : IndexV).arr := by
  apply Array.ext'; simp [IndexV.arr, List.set_append]
@[simp] theorem IndexV.set_2 (x : IndexV) (v : Option Nat) : x.arr.setIfInBounds 2 (Value.map v) = ({ x with spender := v } : IndexV).arr := by
  apply Array.ext'; simp [IndexV.arr, List.set_append]
@[simp] theorem IndexV.arr_0 (x : IndexV) : x.arr[0]? = some (Value.slice x.blocks.a x.blocks.n x.blocks.c) := by simp [IndexV.arr, List.getElem?_append, List.getElem?_cons]
@[simp] theorem IndexV.get_0 (x : IndexV) (h) : x.arr[0]'h = Value.slice x.blocks.a x.blocks.n x.blocks.c := Option.some.inj (by rw [← Array.getElem?_eq_getElem]; exact IndexV.arr_0 x)
@[simp] theorem IndexV.arr_1 (x : IndexV) : x.arr[1]? = some (Value.map x.txs) := by simp [IndexV.arr, List.getElem?_append, List.getElem?_cons]
@[simp] theorem IndexV.get_1 (x : IndexV) (h) : x.arr[1]'h = Value.map x.txs := Option.some.inj (by rw [← Array.getElem?_eq_getElem]; exact IndexV.arr_1 x)
@[simp] theorem IndexV.arr_2 (x : IndexV) : x.arr[2]? = some (Value.map x.spender) := by simp [IndexV.arr, List.getElem?_append, List.getElem?_cons]
@[simp] theorem IndexV.get_2 (x : IndexV) (h) : x.arr[2]'h = Value.map x.spender := Option.some.inj (by rw [← Array.getElem?_eq_getElem]; exact IndexV.arr_2 x)

structure RIndexV where
  l : Sl
  deriving DecidableEq
def RIndexV.arr (x : RIndexV) : Array Value := ([Value.slice x.l.a x.l.n x.l.c]).toArray
def RIndexV.zero : RIndexV := { l := ⟨none, 0, 0⟩ }
@[simp] theorem RIndexV.ext_all (x : RIndexV) : x.arr.extract 0 1 = x.arr := by rw [show 1 = x.arr.size by simp [RIndexV.arr]]; exact Array.extract_size
theorem one_RIndexV (x : RIndexV) : ∀ v ∈ x.arr.toList, v.oneCell' = true := by
  show ∀ v ∈ ([Value.slice x.l.a x.l.n x.l.c] : List Value), v.oneCell' = true
  intro v hv
  have h0 := hv
  · simp only [List.mem_cons, List.not_mem_nil, or_false] at h0
    rcases h0 with rfl <;> rfl
def RIndexV.wf (x : RIndexV) : Prop := True
@[simp] theorem RIndexV.size_arr (x : RIndexV) : x.arr.size = 1 := by simp [RIndexV.arr]
@[simp] theorem RIndexV.length_arr (x : RIndexV) : x.arr.toList.length = 1 := by simp [RIndexV.arr]
@[simp] theorem RIndexV.set_0 (x : RIndexV) (a : Option Addr) (m c : Nat) : x.arr.setIfInBounds 0 (Value.slice a m c) = ({ x with l := ⟨a, m, c⟩ } : RIndexV).arr := by
  apply Array.ext'; simp [RIndexV.arr, List.set_append]
@[simp] theorem RIndexV.arr_0 (x : RIndexV) : x.arr[0]? = some (Value.slice x.l.a x.l.n x.l.c) := by simp [RIndexV.arr, List.getElem?_append, List.getElem?_cons]
@[simp] theorem RIndexV.get_0 (x : RIndexV) (h) : x.arr[0]'h = Value.slice x.l.a x.l.n x.l.c := Option.some.inj (by rw [← Array.getElem?_eq_getElem]; exact RIndexV.arr_0 x)

structure InkV where
  b : Sl
  blot : Bool
  deriving DecidableEq
def InkV.arr (x : InkV) : Array Value := ([Value.slice x.b.a x.b.n x.b.c, Value.bool x.blot]).toArray
def InkV.zero : InkV := { b := ⟨none, 0, 0⟩, blot := false }
@[simp] theorem InkV.ext_all (x : InkV) : x.arr.extract 0 2 = x.arr := by rw [show 2 = x.arr.size by simp [InkV.arr]]; exact Array.extract_size
theorem one_InkV (x : InkV) : ∀ v ∈ x.arr.toList, v.oneCell' = true := by
  show ∀ v ∈ ([Value.slice x.b.a x.b.n x.b.c, Value.bool x.blot] : List Value), v.oneCell' = true
  intro v hv
  have h0 := hv
  · simp only [List.mem_cons, List.not_mem_nil, or_false] at h0
    rcases h0 with rfl | rfl <;> rfl
def InkV.wf (x : InkV) : Prop := True
@[simp] theorem InkV.size_arr (x : InkV) : x.arr.size = 2 := by simp [InkV.arr]
@[simp] theorem InkV.length_arr (x : InkV) : x.arr.toList.length = 2 := by simp [InkV.arr]
@[simp] theorem InkV.set_0 (x : InkV) (a : Option Addr) (m c : Nat) : x.arr.setIfInBounds 0 (Value.slice a m c) = ({ x with b := ⟨a, m, c⟩ } : InkV).arr := by
  apply Array.ext'; simp [InkV.arr, List.set_append]
@[simp] theorem InkV.set_1 (x : InkV) (v : Bool) : x.arr.setIfInBounds 1 (Value.bool v) = ({ x with blot := v } : InkV).arr := by
  apply Array.ext'; simp [InkV.arr, List.set_append]
@[simp] theorem InkV.arr_0 (x : InkV) : x.arr[0]? = some (Value.slice x.b.a x.b.n x.b.c) := by simp [InkV.arr, List.getElem?_append, List.getElem?_cons]
@[simp] theorem InkV.get_0 (x : InkV) (h) : x.arr[0]'h = Value.slice x.b.a x.b.n x.b.c := Option.some.inj (by rw [← Array.getElem?_eq_getElem]; exact InkV.arr_0 x)
@[simp] theorem InkV.arr_1 (x : InkV) : x.arr[1]? = some (Value.bool x.blot) := by simp [InkV.arr, List.getElem?_append, List.getElem?_cons]
@[simp] theorem InkV.get_1 (x : InkV) (h) : x.arr[1]'h = Value.bool x.blot := Option.some.inj (by rw [← Array.getElem?_eq_getElem]; exact InkV.arr_1 x)

structure FileV where
  b : Sl
  safe : Int
  deriving DecidableEq
def FileV.arr (x : FileV) : Array Value := ([Value.slice x.b.a x.b.n x.b.c, Value.int .i64 x.safe]).toArray
def FileV.zero : FileV := { b := ⟨none, 0, 0⟩, safe := 0 }
@[simp] theorem FileV.ext_all (x : FileV) : x.arr.extract 0 2 = x.arr := by rw [show 2 = x.arr.size by simp [FileV.arr]]; exact Array.extract_size
theorem one_FileV (x : FileV) : ∀ v ∈ x.arr.toList, v.oneCell' = true := by
  show ∀ v ∈ ([Value.slice x.b.a x.b.n x.b.c, Value.int .i64 x.safe] : List Value), v.oneCell' = true
  intro v hv
  have h0 := hv
  · simp only [List.mem_cons, List.not_mem_nil, or_false] at h0
    rcases h0 with rfl | rfl <;> rfl
def FileV.wf (x : FileV) : Prop := i64 x.safe
@[simp] theorem FileV.size_arr (x : FileV) : x.arr.size = 2 := by simp [FileV.arr]
@[simp] theorem FileV.length_arr (x : FileV) : x.arr.toList.length = 2 := by simp [FileV.arr]
@[simp] theorem FileV.set_0 (x : FileV) (a : Option Addr) (m c : Nat) : x.arr.setIfInBounds 0 (Value.slice a m c) = ({ x with b := ⟨a, m, c⟩ } : FileV).arr := by
  apply Array.ext'; simp [FileV.arr, List.set_append]
@[simp] theorem FileV.set_1 (x : FileV) (v : Int) : x.arr.setIfInBounds 1 (Value.int .i64 v) = ({ x with safe := v } : FileV).arr := by
  apply Array.ext'; simp [FileV.arr, List.set_append]
@[simp] theorem FileV.arr_0 (x : FileV) : x.arr[0]? = some (Value.slice x.b.a x.b.n x.b.c) := by simp [FileV.arr, List.getElem?_append, List.getElem?_cons]
@[simp] theorem FileV.get_0 (x : FileV) (h) : x.arr[0]'h = Value.slice x.b.a x.b.n x.b.c := Option.some.inj (by rw [← Array.getElem?_eq_getElem]; exact FileV.arr_0 x)
@[simp] theorem FileV.arr_1 (x : FileV) : x.arr[1]? = some (Value.int .i64 x.safe) := by simp [FileV.arr, List.getElem?_append, List.getElem?_cons]
@[simp] theorem FileV.get_1 (x : FileV) (h) : x.arr[1]'h = Value.int .i64 x.safe := Option.some.inj (by rw [← Array.getElem?_eq_getElem]; exact FileV.arr_1 x)

structure FSV where
  m : Option Nat
  cut : Bool
  off : Bool
  left : Int
  ops : Int
  deriving DecidableEq
def FSV.arr (x : FSV) : Array Value := ([Value.map x.m, Value.bool x.cut, Value.bool x.off, Value.int .i64 x.left, Value.int .i64 x.ops]).toArray
def FSV.zero : FSV := { m := none, cut := false, off := false, left := 0, ops := 0 }
@[simp] theorem FSV.ext_all (x : FSV) : x.arr.extract 0 5 = x.arr := by rw [show 5 = x.arr.size by simp [FSV.arr]]; exact Array.extract_size
theorem one_FSV (x : FSV) : ∀ v ∈ x.arr.toList, v.oneCell' = true := by
  show ∀ v ∈ ([Value.map x.m, Value.bool x.cut, Value.bool x.off, Value.int .i64 x.left, Value.int .i64 x.ops] : List Value), v.oneCell' = true
  intro v hv
  have h0 := hv
  · simp only [List.mem_cons, List.not_mem_nil, or_false] at h0
    rcases h0 with rfl | rfl | rfl | rfl | rfl <;> rfl
def FSV.wf (x : FSV) : Prop := i64 x.left ∧ i64 x.ops
@[simp] theorem FSV.size_arr (x : FSV) : x.arr.size = 5 := by simp [FSV.arr]
@[simp] theorem FSV.length_arr (x : FSV) : x.arr.toList.length = 5 := by simp [FSV.arr]
@[simp] theorem FSV.set_0 (x : FSV) (v : Option Nat) : x.arr.setIfInBounds 0 (Value.map v) = ({ x with m := v } : FSV).arr := by
  apply Array.ext'; simp [FSV.arr, List.set_append]
@[simp] theorem FSV.set_1 (x : FSV) (v : Bool) : x.arr.setIfInBounds 1 (Value.bool v) = ({ x with cut := v } : FSV).arr := by
  apply Array.ext'; simp [FSV.arr, List.set_append]
@[simp] theorem FSV.set_2 (x : FSV) (v : Bool) : x.arr.setIfInBounds 2 (Value.bool v) = ({ x with off := v } : FSV).arr := by
  apply Array.ext'; simp [FSV.arr, List.set_append]
@[simp] theorem FSV.set_3 (x : FSV) (v : Int) : x.arr.setIfInBounds 3 (Value.int .i64 v) = ({ x with left := v } : FSV).arr := by
  apply Array.ext'; simp [FSV.arr, List.set_append]
@[simp] theorem FSV.set_4 (x : FSV) (v : Int) : x.arr.setIfInBounds 4 (Value.int .i64 v) = ({ x with ops := v } : FSV).arr := by
  apply Array.ext'; simp [FSV.arr, List.set_append]
@[simp] theorem FSV.arr_0 (x : FSV) : x.arr[0]? = some (Value.map x.m) := by simp [FSV.arr, List.getElem?_append, List.getElem?_cons]
@[simp] theorem FSV.get_0 (x : FSV) (h) : x.arr[0]'h = Value.map x.m := Option.some.inj (by rw [← Array.getElem?_eq_getElem]; exact FSV.arr_0 x)
@[simp] theorem FSV.arr_1 (x : FSV) : x.arr[1]? = some (Value.bool x.cut) := by simp [FSV.arr, List.getElem?_append, List.getElem?_cons]
@[simp] theorem FSV.get_1 (x : FSV) (h) : x.arr[1]'h = Value.bool x.cut := Option.some.inj (by rw [← Array.getElem?_eq_getElem]; exact FSV.arr_1 x)
@[simp] theorem FSV.arr_2 (x : FSV) : x.arr[2]? = some (Value.bool x.off) := by simp [FSV.arr, List.getElem?_append, List.getElem?_cons]
@[simp] theorem FSV.get_2 (x : FSV) (h) : x.arr[2]'h = Value.bool x.off := Option.some.inj (by rw [← Array.getElem?_eq_getElem]; exact FSV.arr_2 x)
@[simp] theorem FSV.arr_3 (x : FSV) : x.arr[3]? = some (Value.int .i64 x.left) := by simp [FSV.arr, List.getElem?_append, List.getElem?_cons]
@[simp] theorem FSV.get_3 (x : FSV) (h) : x.arr[3]'h = Value.int .i64 x.left := Option.some.inj (by rw [← Array.getElem?_eq_getElem]; exact FSV.arr_3 x)
@[simp] theorem FSV.arr_4 (x : FSV) : x.arr[4]? = some (Value.int .i64 x.ops) := by simp [FSV.arr, List.getElem?_append, List.getElem?_cons]
@[simp] theorem FSV.get_4 (x : FSV) (h) : x.arr[4]'h = Value.int .i64 x.ops := Option.some.inj (by rw [← Array.getElem?_eq_getElem]; exact FSV.arr_4 x)

structure LogV where
  f : Option Addr
  name : ByteArray
  records : Sl
  size : Int
  dead : Bool
  deriving DecidableEq
def LogV.arr (x : LogV) : Array Value := ([Value.pointer x.f, Value.string x.name, Value.slice x.records.a x.records.n x.records.c, Value.int .i64 x.size, Value.bool x.dead]).toArray
def LogV.zero : LogV := { f := none, name := ByteArray.empty, records := ⟨none, 0, 0⟩, size := 0, dead := false }
@[simp] theorem LogV.ext_all (x : LogV) : x.arr.extract 0 5 = x.arr := by rw [show 5 = x.arr.size by simp [LogV.arr]]; exact Array.extract_size
theorem one_LogV (x : LogV) : ∀ v ∈ x.arr.toList, v.oneCell' = true := by
  show ∀ v ∈ ([Value.pointer x.f, Value.string x.name, Value.slice x.records.a x.records.n x.records.c, Value.int .i64 x.size, Value.bool x.dead] : List Value), v.oneCell' = true
  intro v hv
  have h0 := hv
  · simp only [List.mem_cons, List.not_mem_nil, or_false] at h0
    rcases h0 with rfl | rfl | rfl | rfl | rfl <;> rfl
def LogV.wf (x : LogV) : Prop := x.name.size ≤ maxLen ∧ i64 x.size
@[simp] theorem LogV.size_arr (x : LogV) : x.arr.size = 5 := by simp [LogV.arr]
@[simp] theorem LogV.length_arr (x : LogV) : x.arr.toList.length = 5 := by simp [LogV.arr]
@[simp] theorem LogV.set_0 (x : LogV) (v : Option Addr) : x.arr.setIfInBounds 0 (Value.pointer v) = ({ x with f := v } : LogV).arr := by
  apply Array.ext'; simp [LogV.arr, List.set_append]
@[simp] theorem LogV.set_1 (x : LogV) (v : ByteArray) : x.arr.setIfInBounds 1 (Value.string v) = ({ x with name := v } : LogV).arr := by
  apply Array.ext'; simp [LogV.arr, List.set_append]
@[simp] theorem LogV.set_2 (x : LogV) (a : Option Addr) (m c : Nat) : x.arr.setIfInBounds 2 (Value.slice a m c) = ({ x with records := ⟨a, m, c⟩ } : LogV).arr := by
  apply Array.ext'; simp [LogV.arr, List.set_append]
@[simp] theorem LogV.set_3 (x : LogV) (v : Int) : x.arr.setIfInBounds 3 (Value.int .i64 v) = ({ x with size := v } : LogV).arr := by
  apply Array.ext'; simp [LogV.arr, List.set_append]
@[simp] theorem LogV.set_4 (x : LogV) (v : Bool) : x.arr.setIfInBounds 4 (Value.bool v) = ({ x with dead := v } : LogV).arr := by
  apply Array.ext'; simp [LogV.arr, List.set_append]
@[simp] theorem LogV.arr_0 (x : LogV) : x.arr[0]? = some (Value.pointer x.f) := by simp [LogV.arr, List.getElem?_append, List.getElem?_cons]
@[simp] theorem LogV.get_0 (x : LogV) (h) : x.arr[0]'h = Value.pointer x.f := Option.some.inj (by rw [← Array.getElem?_eq_getElem]; exact LogV.arr_0 x)
@[simp] theorem LogV.arr_1 (x : LogV) : x.arr[1]? = some (Value.string x.name) := by simp [LogV.arr, List.getElem?_append, List.getElem?_cons]
@[simp] theorem LogV.get_1 (x : LogV) (h) : x.arr[1]'h = Value.string x.name := Option.some.inj (by rw [← Array.getElem?_eq_getElem]; exact LogV.arr_1 x)
@[simp] theorem LogV.arr_2 (x : LogV) : x.arr[2]? = some (Value.slice x.records.a x.records.n x.records.c) := by simp [LogV.arr, List.getElem?_append, List.getElem?_cons]
@[simp] theorem LogV.get_2 (x : LogV) (h) : x.arr[2]'h = Value.slice x.records.a x.records.n x.records.c := Option.some.inj (by rw [← Array.getElem?_eq_getElem]; exact LogV.arr_2 x)
@[simp] theorem LogV.arr_3 (x : LogV) : x.arr[3]? = some (Value.int .i64 x.size) := by simp [LogV.arr, List.getElem?_append, List.getElem?_cons]
@[simp] theorem LogV.get_3 (x : LogV) (h) : x.arr[3]'h = Value.int .i64 x.size := Option.some.inj (by rw [← Array.getElem?_eq_getElem]; exact LogV.arr_3 x)
@[simp] theorem LogV.arr_4 (x : LogV) : x.arr[4]? = some (Value.bool x.dead) := by simp [LogV.arr, List.getElem?_append, List.getElem?_cons]
@[simp] theorem LogV.get_4 (x : LogV) (h) : x.arr[4]'h = Value.bool x.dead := Option.some.inj (by rw [← Array.getElem?_eq_getElem]; exact LogV.arr_4 x)

structure WalkV where
  x : Option Addr
  b : Option Addr
  k : Keys
  depth : Int
  out : Sl
  met : Option Nat
  deriving DecidableEq
def WalkV.arr (x : WalkV) : Array Value := ([Value.pointer x.x, Value.pointer x.b] ++ x.k.arr.toList ++ [Value.int .i64 x.depth, Value.slice x.out.a x.out.n x.out.c, Value.map x.met]).toArray
def WalkV.zero : WalkV := { x := none, b := none, k := Keys.zero, depth := 0, out := ⟨none, 0, 0⟩, met := none }
@[simp] theorem WalkV.ext_all (x : WalkV) : x.arr.extract 0 8 = x.arr := by rw [show 8 = x.arr.size by simp [WalkV.arr]]; exact Array.extract_size
theorem one_WalkV (x : WalkV) : ∀ v ∈ x.arr.toList, v.oneCell' = true := by
  show ∀ v ∈ ([Value.pointer x.x, Value.pointer x.b] ++ x.k.arr.toList ++ [Value.int .i64 x.depth, Value.slice x.out.a x.out.n x.out.c, Value.map x.met] : List Value), v.oneCell' = true
  intro v hv
  simp only [List.mem_append] at hv
  rcases hv with (h0 | h1) | h2
  · simp only [List.mem_cons, List.not_mem_nil, or_false] at h0
    rcases h0 with rfl | rfl <;> rfl
  · exact one_Keys _ v h1
  · simp only [List.mem_cons, List.not_mem_nil, or_false] at h2
    rcases h2 with rfl | rfl | rfl <;> rfl
def WalkV.wf (x : WalkV) : Prop := x.k.wf ∧ i64 x.depth
@[simp] theorem WalkV.size_arr (x : WalkV) : x.arr.size = 8 := by simp [WalkV.arr]
@[simp] theorem WalkV.length_arr (x : WalkV) : x.arr.toList.length = 8 := by simp [WalkV.arr]
@[simp] theorem WalkV.set_0 (x : WalkV) (v : Option Addr) : x.arr.setIfInBounds 0 (Value.pointer v) = ({ x with x := v } : WalkV).arr := by
  apply Array.ext'; simp [WalkV.arr, List.set_append]
@[simp] theorem WalkV.set_1 (x : WalkV) (v : Option Addr) : x.arr.setIfInBounds 1 (Value.pointer v) = ({ x with b := v } : WalkV).arr := by
  apply Array.ext'; simp [WalkV.arr, List.set_append]
@[simp] theorem WalkV.set_5 (x : WalkV) (v : Int) : x.arr.setIfInBounds 5 (Value.int .i64 v) = ({ x with depth := v } : WalkV).arr := by
  apply Array.ext'; simp [WalkV.arr, List.set_append]
@[simp] theorem WalkV.set_6 (x : WalkV) (a : Option Addr) (m c : Nat) : x.arr.setIfInBounds 6 (Value.slice a m c) = ({ x with out := ⟨a, m, c⟩ } : WalkV).arr := by
  apply Array.ext'; simp [WalkV.arr, List.set_append]
@[simp] theorem WalkV.set_7 (x : WalkV) (v : Option Nat) : x.arr.setIfInBounds 7 (Value.map v) = ({ x with met := v } : WalkV).arr := by
  apply Array.ext'; simp [WalkV.arr, List.set_append]
@[simp] theorem WalkV.arr_0 (x : WalkV) : x.arr[0]? = some (Value.pointer x.x) := by simp [WalkV.arr, List.getElem?_append, List.getElem?_cons]
@[simp] theorem WalkV.get_0 (x : WalkV) (h) : x.arr[0]'h = Value.pointer x.x := Option.some.inj (by rw [← Array.getElem?_eq_getElem]; exact WalkV.arr_0 x)
@[simp] theorem WalkV.arr_1 (x : WalkV) : x.arr[1]? = some (Value.pointer x.b) := by simp [WalkV.arr, List.getElem?_append, List.getElem?_cons]
@[simp] theorem WalkV.get_1 (x : WalkV) (h) : x.arr[1]'h = Value.pointer x.b := Option.some.inj (by rw [← Array.getElem?_eq_getElem]; exact WalkV.arr_1 x)
@[simp] theorem WalkV.ext_2 (x : WalkV) : x.arr.extract 2 5 = x.k.arr := by
  have h : ([Value.pointer x.x, Value.pointer x.b] ++ x.k.arr.toList ++ [Value.int .i64 x.depth, Value.slice x.out.a x.out.n x.out.c, Value.map x.met] : List Value) = ([Value.pointer x.x, Value.pointer x.b]) ++ (x.k.arr.toList ++ ([Value.int .i64 x.depth, Value.slice x.out.a x.out.n x.out.c, Value.map x.met])) := by simp only [List.append_assoc, List.append_nil, List.nil_append, List.cons_append]
  unfold WalkV.arr; rw [h]; exact ext_mid _ _ _ _ 3 _ (by simp) (by simp) rfl
@[simp] theorem WalkV.arr_2 (x : WalkV) : x.arr[2]? = some (Value.int .i64 x.k.wallet) := arr_of_ext (k := 0) (WalkV.ext_2 x) _ rfl (by decide) (Keys.arr_0 _)
@[simp] theorem WalkV.get_2 (x : WalkV) (h) : x.arr[2]'h = Value.int .i64 x.k.wallet := Option.some.inj (by rw [← Array.getElem?_eq_getElem]; exact WalkV.arr_2 x)
@[simp] theorem WalkV.arr_3 (x : WalkV) : x.arr[3]? = some (Value.int .i64 x.k.own) := arr_of_ext (k := 1) (WalkV.ext_2 x) _ rfl (by decide) (Keys.arr_1 _)
@[simp] theorem WalkV.get_3 (x : WalkV) (h) : x.arr[3]'h = Value.int .i64 x.k.own := Option.some.inj (by rw [← Array.getElem?_eq_getElem]; exact WalkV.arr_3 x)
@[simp] theorem WalkV.arr_4 (x : WalkV) : x.arr[4]? = some (Value.int .i64 x.k.rev) := arr_of_ext (k := 2) (WalkV.ext_2 x) _ rfl (by decide) (Keys.arr_2 _)
@[simp] theorem WalkV.get_4 (x : WalkV) (h) : x.arr[4]'h = Value.int .i64 x.k.rev := Option.some.inj (by rw [← Array.getElem?_eq_getElem]; exact WalkV.arr_4 x)
@[simp] theorem WalkV.arr_5 (x : WalkV) : x.arr[5]? = some (Value.int .i64 x.depth) := by simp [WalkV.arr, List.getElem?_append, List.getElem?_cons]
@[simp] theorem WalkV.get_5 (x : WalkV) (h) : x.arr[5]'h = Value.int .i64 x.depth := Option.some.inj (by rw [← Array.getElem?_eq_getElem]; exact WalkV.arr_5 x)
@[simp] theorem WalkV.arr_6 (x : WalkV) : x.arr[6]? = some (Value.slice x.out.a x.out.n x.out.c) := by simp [WalkV.arr, List.getElem?_append, List.getElem?_cons]
@[simp] theorem WalkV.get_6 (x : WalkV) (h) : x.arr[6]'h = Value.slice x.out.a x.out.n x.out.c := Option.some.inj (by rw [← Array.getElem?_eq_getElem]; exact WalkV.arr_6 x)
@[simp] theorem WalkV.arr_7 (x : WalkV) : x.arr[7]? = some (Value.map x.met) := by simp [WalkV.arr, List.getElem?_append, List.getElem?_cons]
@[simp] theorem WalkV.get_7 (x : WalkV) (h) : x.arr[7]'h = Value.map x.met := Option.some.inj (by rw [← Array.getElem?_eq_getElem]; exact WalkV.arr_7 x)

structure BookV where
  m : Option Nat
  deriving DecidableEq
def BookV.arr (x : BookV) : Array Value := ([Value.map x.m]).toArray
def BookV.zero : BookV := { m := none }
@[simp] theorem BookV.ext_all (x : BookV) : x.arr.extract 0 1 = x.arr := by rw [show 1 = x.arr.size by simp [BookV.arr]]; exact Array.extract_size
theorem one_BookV (x : BookV) : ∀ v ∈ x.arr.toList, v.oneCell' = true := by
  show ∀ v ∈ ([Value.map x.m] : List Value), v.oneCell' = true
  intro v hv
  have h0 := hv
  · simp only [List.mem_cons, List.not_mem_nil, or_false] at h0
    rcases h0 with rfl <;> rfl
def BookV.wf (x : BookV) : Prop := True
@[simp] theorem BookV.size_arr (x : BookV) : x.arr.size = 1 := by simp [BookV.arr]
@[simp] theorem BookV.length_arr (x : BookV) : x.arr.toList.length = 1 := by simp [BookV.arr]
@[simp] theorem BookV.set_0 (x : BookV) (v : Option Nat) : x.arr.setIfInBounds 0 (Value.map v) = ({ x with m := v } : BookV).arr := by
  apply Array.ext'; simp [BookV.arr, List.set_append]
@[simp] theorem BookV.arr_0 (x : BookV) : x.arr[0]? = some (Value.map x.m) := by simp [BookV.arr, List.getElem?_append, List.getElem?_cons]
@[simp] theorem BookV.get_0 (x : BookV) (h) : x.arr[0]'h = Value.map x.m := Option.some.inj (by rw [← Array.getElem?_eq_getElem]; exact BookV.arr_0 x)

structure Reg where
  kind : Int
  tx : Hash
  depth : Int
  point : Outpoint
  height : Int
  deriving DecidableEq
def Reg.arr (x : Reg) : Array Value := ([Value.int .i64 x.kind] ++ x.tx.arr.toList ++ [Value.int .i64 x.depth] ++ x.point.arr.toList ++ [Value.int .i64 x.height]).toArray
def Reg.zero : Reg := { kind := 0, tx := Hash.zero, depth := 0, point := Outpoint.zero, height := 0 }
@[simp] theorem Reg.ext_all (x : Reg) : x.arr.extract 0 68 = x.arr := by rw [show 68 = x.arr.size by simp [Reg.arr]]; exact Array.extract_size
theorem one_Reg (x : Reg) : ∀ v ∈ x.arr.toList, v.oneCell' = true := by
  show ∀ v ∈ ([Value.int .i64 x.kind] ++ x.tx.arr.toList ++ [Value.int .i64 x.depth] ++ x.point.arr.toList ++ [Value.int .i64 x.height] : List Value), v.oneCell' = true
  intro v hv
  simp only [List.mem_append] at hv
  rcases hv with (((h0 | h1) | h2) | h3) | h4
  · simp only [List.mem_cons, List.not_mem_nil, or_false] at h0
    rcases h0 with rfl <;> rfl
  · exact one_Hash _ v h1
  · simp only [List.mem_cons, List.not_mem_nil, or_false] at h2
    rcases h2 with rfl <;> rfl
  · exact one_Outpoint _ v h3
  · simp only [List.mem_cons, List.not_mem_nil, or_false] at h4
    rcases h4 with rfl <;> rfl
def Reg.wf (x : Reg) : Prop := i64 x.kind ∧ i64 x.depth ∧ x.point.wf ∧ i64 x.height
@[simp] theorem Reg.size_arr (x : Reg) : x.arr.size = 68 := by simp [Reg.arr]
@[simp] theorem Reg.length_arr (x : Reg) : x.arr.toList.length = 68 := by simp [Reg.arr]
@[simp] theorem Reg.set_0 (x : Reg) (v : Int) : x.arr.setIfInBounds 0 (Value.int .i64 v) = ({ x with kind := v } : Reg).arr := by
  apply Array.ext'; simp [Reg.arr, List.set_append]
@[simp] theorem Reg.set_33 (x : Reg) (v : Int) : x.arr.setIfInBounds 33 (Value.int .i64 v) = ({ x with depth := v } : Reg).arr := by
  apply Array.ext'; simp [Reg.arr, List.set_append]
@[simp] theorem Reg.set_67 (x : Reg) (v : Int) : x.arr.setIfInBounds 67 (Value.int .i64 v) = ({ x with height := v } : Reg).arr := by
  apply Array.ext'; simp [Reg.arr, List.set_append]
@[simp] theorem Reg.arr_0 (x : Reg) : x.arr[0]? = some (Value.int .i64 x.kind) := by simp [Reg.arr, List.getElem?_append, List.getElem?_cons]
@[simp] theorem Reg.get_0 (x : Reg) (h) : x.arr[0]'h = Value.int .i64 x.kind := Option.some.inj (by rw [← Array.getElem?_eq_getElem]; exact Reg.arr_0 x)
@[simp] theorem Reg.ext_1 (x : Reg) : x.arr.extract 1 33 = x.tx.arr := by
  have h : ([Value.int .i64 x.kind] ++ x.tx.arr.toList ++ [Value.int .i64 x.depth] ++ x.point.arr.toList ++ [Value.int .i64 x.height] : List Value) = ([Value.int .i64 x.kind]) ++ (x.tx.arr.toList ++ ([Value.int .i64 x.depth] ++ x.point.arr.toList ++ [Value.int .i64 x.height])) := by simp only [List.append_assoc, List.append_nil, List.nil_append, List.cons_append]
  unfold Reg.arr; rw [h]; exact ext_mid _ _ _ _ 32 _ (by simp) (by simp) rfl
@[simp] theorem Reg.arr_33 (x : Reg) : x.arr[33]? = some (Value.int .i64 x.depth) := by simp [Reg.arr, List.getElem?_append, List.getElem?_cons]
@[simp] theorem Reg.get_33 (x : Reg) (h) : x.arr[33]'h = Value.int .i64 x.depth := Option.some.inj (by rw [← Array.getElem?_eq_getElem]; exact Reg.arr_33 x)
@[simp] theorem Reg.ext_34 (x : Reg) : x.arr.extract 34 67 = x.point.arr := by
  have h : ([Value.int .i64 x.kind] ++ x.tx.arr.toList ++ [Value.int .i64 x.depth] ++ x.point.arr.toList ++ [Value.int .i64 x.height] : List Value) = ([Value.int .i64 x.kind] ++ x.tx.arr.toList ++ [Value.int .i64 x.depth]) ++ (x.point.arr.toList ++ ([Value.int .i64 x.height])) := by simp only [List.append_assoc, List.append_nil, List.nil_append, List.cons_append]
  unfold Reg.arr; rw [h]; exact ext_mid _ _ _ _ 33 _ (by simp) (by simp) rfl
@[simp] theorem Reg.arr_66 (x : Reg) : x.arr[66]? = some (Value.int .i64 x.point.n) := arr_of_ext (k := 32) (Reg.ext_34 x) _ rfl (by decide) (Outpoint.arr_32 _)
@[simp] theorem Reg.get_66 (x : Reg) (h) : x.arr[66]'h = Value.int .i64 x.point.n := Option.some.inj (by rw [← Array.getElem?_eq_getElem]; exact Reg.arr_66 x)
@[simp] theorem Reg.arr_67 (x : Reg) : x.arr[67]? = some (Value.int .i64 x.height) := by simp [Reg.arr, List.getElem?_append, List.getElem?_cons]
@[simp] theorem Reg.get_67 (x : Reg) (h) : x.arr[67]'h = Value.int .i64 x.height := Option.some.inj (by rw [← Array.getElem?_eq_getElem]; exact Reg.arr_67 x)

structure Note where
  id : Int
  back : Bool
  kind : Int
  height : Int
  tx : Hash
  deriving DecidableEq
def Note.arr (x : Note) : Array Value := ([Value.int .i64 x.id, Value.bool x.back, Value.int .i64 x.kind, Value.int .i64 x.height] ++ x.tx.arr.toList).toArray
def Note.zero : Note := { id := 0, back := false, kind := 0, height := 0, tx := Hash.zero }
@[simp] theorem Note.ext_all (x : Note) : x.arr.extract 0 36 = x.arr := by rw [show 36 = x.arr.size by simp [Note.arr]]; exact Array.extract_size
theorem one_Note (x : Note) : ∀ v ∈ x.arr.toList, v.oneCell' = true := by
  show ∀ v ∈ ([Value.int .i64 x.id, Value.bool x.back, Value.int .i64 x.kind, Value.int .i64 x.height] ++ x.tx.arr.toList : List Value), v.oneCell' = true
  intro v hv
  simp only [List.mem_append] at hv
  rcases hv with h0 | h1
  · simp only [List.mem_cons, List.not_mem_nil, or_false] at h0
    rcases h0 with rfl | rfl | rfl | rfl <;> rfl
  · exact one_Hash _ v h1
def Note.wf (x : Note) : Prop := i64 x.id ∧ i64 x.kind ∧ i64 x.height
@[simp] theorem Note.size_arr (x : Note) : x.arr.size = 36 := by simp [Note.arr]
@[simp] theorem Note.length_arr (x : Note) : x.arr.toList.length = 36 := by simp [Note.arr]
@[simp] theorem Note.set_0 (x : Note) (v : Int) : x.arr.setIfInBounds 0 (Value.int .i64 v) = ({ x with id := v } : Note).arr := by
  apply Array.ext'; simp [Note.arr, List.set_append]
@[simp] theorem Note.set_1 (x : Note) (v : Bool) : x.arr.setIfInBounds 1 (Value.bool v) = ({ x with back := v } : Note).arr := by
  apply Array.ext'; simp [Note.arr, List.set_append]
@[simp] theorem Note.set_2 (x : Note) (v : Int) : x.arr.setIfInBounds 2 (Value.int .i64 v) = ({ x with kind := v } : Note).arr := by
  apply Array.ext'; simp [Note.arr, List.set_append]
@[simp] theorem Note.set_3 (x : Note) (v : Int) : x.arr.setIfInBounds 3 (Value.int .i64 v) = ({ x with height := v } : Note).arr := by
  apply Array.ext'; simp [Note.arr, List.set_append]
@[simp] theorem Note.arr_0 (x : Note) : x.arr[0]? = some (Value.int .i64 x.id) := by simp [Note.arr, List.getElem?_append, List.getElem?_cons]
@[simp] theorem Note.get_0 (x : Note) (h) : x.arr[0]'h = Value.int .i64 x.id := Option.some.inj (by rw [← Array.getElem?_eq_getElem]; exact Note.arr_0 x)
@[simp] theorem Note.arr_1 (x : Note) : x.arr[1]? = some (Value.bool x.back) := by simp [Note.arr, List.getElem?_append, List.getElem?_cons]
@[simp] theorem Note.get_1 (x : Note) (h) : x.arr[1]'h = Value.bool x.back := Option.some.inj (by rw [← Array.getElem?_eq_getElem]; exact Note.arr_1 x)
@[simp] theorem Note.arr_2 (x : Note) : x.arr[2]? = some (Value.int .i64 x.kind) := by simp [Note.arr, List.getElem?_append, List.getElem?_cons]
@[simp] theorem Note.get_2 (x : Note) (h) : x.arr[2]'h = Value.int .i64 x.kind := Option.some.inj (by rw [← Array.getElem?_eq_getElem]; exact Note.arr_2 x)
@[simp] theorem Note.arr_3 (x : Note) : x.arr[3]? = some (Value.int .i64 x.height) := by simp [Note.arr, List.getElem?_append, List.getElem?_cons]
@[simp] theorem Note.get_3 (x : Note) (h) : x.arr[3]'h = Value.int .i64 x.height := Option.some.inj (by rw [← Array.getElem?_eq_getElem]; exact Note.arr_3 x)
@[simp] theorem Note.ext_4 (x : Note) : x.arr.extract 4 36 = x.tx.arr := by
  have h : ([Value.int .i64 x.id, Value.bool x.back, Value.int .i64 x.kind, Value.int .i64 x.height] ++ x.tx.arr.toList : List Value) = ([Value.int .i64 x.id, Value.bool x.back, Value.int .i64 x.kind, Value.int .i64 x.height]) ++ (x.tx.arr.toList ++ ([])) := by simp only [List.append_assoc, List.append_nil, List.nil_append, List.cons_append]
  unfold Note.arr; rw [h]; exact ext_mid _ _ _ _ 32 _ (by simp) (by simp) rfl

structure HubV where
  most : Int
  last : Int
  regs : Option Nat
  standing : Option Nat
  x : Option Addr
  deriving DecidableEq
def HubV.arr (x : HubV) : Array Value := ([Value.int .i64 x.most, Value.int .i64 x.last, Value.map x.regs, Value.map x.standing, Value.pointer x.x]).toArray
def HubV.zero : HubV := { most := 0, last := 0, regs := none, standing := none, x := none }
@[simp] theorem HubV.ext_all (x : HubV) : x.arr.extract 0 5 = x.arr := by rw [show 5 = x.arr.size by simp [HubV.arr]]; exact Array.extract_size
theorem one_HubV (x : HubV) : ∀ v ∈ x.arr.toList, v.oneCell' = true := by
  show ∀ v ∈ ([Value.int .i64 x.most, Value.int .i64 x.last, Value.map x.regs, Value.map x.standing, Value.pointer x.x] : List Value), v.oneCell' = true
  intro v hv
  have h0 := hv
  · simp only [List.mem_cons, List.not_mem_nil, or_false] at h0
    rcases h0 with rfl | rfl | rfl | rfl | rfl <;> rfl
def HubV.wf (x : HubV) : Prop := i64 x.most ∧ i64 x.last
@[simp] theorem HubV.size_arr (x : HubV) : x.arr.size = 5 := by simp [HubV.arr]
@[simp] theorem HubV.length_arr (x : HubV) : x.arr.toList.length = 5 := by simp [HubV.arr]
@[simp] theorem HubV.set_0 (x : HubV) (v : Int) : x.arr.setIfInBounds 0 (Value.int .i64 v) = ({ x with most := v } : HubV).arr := by
  apply Array.ext'; simp [HubV.arr, List.set_append]
@[simp] theorem HubV.set_1 (x : HubV) (v : Int) : x.arr.setIfInBounds 1 (Value.int .i64 v) = ({ x with last := v } : HubV).arr := by
  apply Array.ext'; simp [HubV.arr, List.set_append]
@[simp] theorem HubV.set_2 (x : HubV) (v : Option Nat) : x.arr.setIfInBounds 2 (Value.map v) = ({ x with regs := v } : HubV).arr := by
  apply Array.ext'; simp [HubV.arr, List.set_append]
@[simp] theorem HubV.set_3 (x : HubV) (v : Option Nat) : x.arr.setIfInBounds 3 (Value.map v) = ({ x with standing := v } : HubV).arr := by
  apply Array.ext'; simp [HubV.arr, List.set_append]
@[simp] theorem HubV.set_4 (x : HubV) (v : Option Addr) : x.arr.setIfInBounds 4 (Value.pointer v) = ({ x with x := v } : HubV).arr := by
  apply Array.ext'; simp [HubV.arr, List.set_append]
@[simp] theorem HubV.arr_0 (x : HubV) : x.arr[0]? = some (Value.int .i64 x.most) := by simp [HubV.arr, List.getElem?_append, List.getElem?_cons]
@[simp] theorem HubV.get_0 (x : HubV) (h) : x.arr[0]'h = Value.int .i64 x.most := Option.some.inj (by rw [← Array.getElem?_eq_getElem]; exact HubV.arr_0 x)
@[simp] theorem HubV.arr_1 (x : HubV) : x.arr[1]? = some (Value.int .i64 x.last) := by simp [HubV.arr, List.getElem?_append, List.getElem?_cons]
@[simp] theorem HubV.get_1 (x : HubV) (h) : x.arr[1]'h = Value.int .i64 x.last := Option.some.inj (by rw [← Array.getElem?_eq_getElem]; exact HubV.arr_1 x)
@[simp] theorem HubV.arr_2 (x : HubV) : x.arr[2]? = some (Value.map x.regs) := by simp [HubV.arr, List.getElem?_append, List.getElem?_cons]
@[simp] theorem HubV.get_2 (x : HubV) (h) : x.arr[2]'h = Value.map x.regs := Option.some.inj (by rw [← Array.getElem?_eq_getElem]; exact HubV.arr_2 x)
@[simp] theorem HubV.arr_3 (x : HubV) : x.arr[3]? = some (Value.map x.standing) := by simp [HubV.arr, List.getElem?_append, List.getElem?_cons]
@[simp] theorem HubV.get_3 (x : HubV) (h) : x.arr[3]'h = Value.map x.standing := Option.some.inj (by rw [← Array.getElem?_eq_getElem]; exact HubV.arr_3 x)
@[simp] theorem HubV.arr_4 (x : HubV) : x.arr[4]? = some (Value.pointer x.x) := by simp [HubV.arr, List.getElem?_append, List.getElem?_cons]
@[simp] theorem HubV.get_4 (x : HubV) (h) : x.arr[4]'h = Value.pointer x.x := Option.some.inj (by rw [← Array.getElem?_eq_getElem]; exact HubV.arr_4 x)

structure DReg where
  kind : Int
  tx : Hash
  depth : Int
  point : Outpoint
  height : Int
  deriving DecidableEq
def DReg.arr (x : DReg) : Array Value := ([Value.int .i64 x.kind] ++ x.tx.arr.toList ++ [Value.int .i64 x.depth] ++ x.point.arr.toList ++ [Value.int .i64 x.height]).toArray
def DReg.zero : DReg := { kind := 0, tx := Hash.zero, depth := 0, point := Outpoint.zero, height := 0 }
@[simp] theorem DReg.ext_all (x : DReg) : x.arr.extract 0 68 = x.arr := by rw [show 68 = x.arr.size by simp [DReg.arr]]; exact Array.extract_size
theorem one_DReg (x : DReg) : ∀ v ∈ x.arr.toList, v.oneCell' = true := by
  show ∀ v ∈ ([Value.int .i64 x.kind] ++ x.tx.arr.toList ++ [Value.int .i64 x.depth] ++ x.point.arr.toList ++ [Value.int .i64 x.height] : List Value), v.oneCell' = true
  intro v hv
  simp only [List.mem_append] at hv
  rcases hv with (((h0 | h1) | h2) | h3) | h4
  · simp only [List.mem_cons, List.not_mem_nil, or_false] at h0
    rcases h0 with rfl <;> rfl
  · exact one_Hash _ v h1
  · simp only [List.mem_cons, List.not_mem_nil, or_false] at h2
    rcases h2 with rfl <;> rfl
  · exact one_Outpoint _ v h3
  · simp only [List.mem_cons, List.not_mem_nil, or_false] at h4
    rcases h4 with rfl <;> rfl
def DReg.wf (x : DReg) : Prop := i64 x.kind ∧ i64 x.depth ∧ x.point.wf ∧ i64 x.height
@[simp] theorem DReg.size_arr (x : DReg) : x.arr.size = 68 := by simp [DReg.arr]
@[simp] theorem DReg.length_arr (x : DReg) : x.arr.toList.length = 68 := by simp [DReg.arr]
@[simp] theorem DReg.set_0 (x : DReg) (v : Int) : x.arr.setIfInBounds 0 (Value.int .i64 v) = ({ x with kind := v } : DReg).arr := by
  apply Array.ext'; simp [DReg.arr, List.set_append]
@[simp] theorem DReg.set_33 (x : DReg) (v : Int) : x.arr.setIfInBounds 33 (Value.int .i64 v) = ({ x with depth := v } : DReg).arr := by
  apply Array.ext'; simp [DReg.arr, List.set_append]
@[simp] theorem DReg.set_67 (x : DReg) (v : Int) : x.arr.setIfInBounds 67 (Value.int .i64 v) = ({ x with height := v } : DReg).arr := by
  apply Array.ext'; simp [DReg.arr, List.set_append]
@[simp] theorem DReg.arr_0 (x : DReg) : x.arr[0]? = some (Value.int .i64 x.kind) := by simp [DReg.arr, List.getElem?_append, List.getElem?_cons]
@[simp] theorem DReg.get_0 (x : DReg) (h) : x.arr[0]'h = Value.int .i64 x.kind := Option.some.inj (by rw [← Array.getElem?_eq_getElem]; exact DReg.arr_0 x)
@[simp] theorem DReg.ext_1 (x : DReg) : x.arr.extract 1 33 = x.tx.arr := by
  have h : ([Value.int .i64 x.kind] ++ x.tx.arr.toList ++ [Value.int .i64 x.depth] ++ x.point.arr.toList ++ [Value.int .i64 x.height] : List Value) = ([Value.int .i64 x.kind]) ++ (x.tx.arr.toList ++ ([Value.int .i64 x.depth] ++ x.point.arr.toList ++ [Value.int .i64 x.height])) := by simp only [List.append_assoc, List.append_nil, List.nil_append, List.cons_append]
  unfold DReg.arr; rw [h]; exact ext_mid _ _ _ _ 32 _ (by simp) (by simp) rfl
@[simp] theorem DReg.arr_33 (x : DReg) : x.arr[33]? = some (Value.int .i64 x.depth) := by simp [DReg.arr, List.getElem?_append, List.getElem?_cons]
@[simp] theorem DReg.get_33 (x : DReg) (h) : x.arr[33]'h = Value.int .i64 x.depth := Option.some.inj (by rw [← Array.getElem?_eq_getElem]; exact DReg.arr_33 x)
@[simp] theorem DReg.ext_34 (x : DReg) : x.arr.extract 34 67 = x.point.arr := by
  have h : ([Value.int .i64 x.kind] ++ x.tx.arr.toList ++ [Value.int .i64 x.depth] ++ x.point.arr.toList ++ [Value.int .i64 x.height] : List Value) = ([Value.int .i64 x.kind] ++ x.tx.arr.toList ++ [Value.int .i64 x.depth]) ++ (x.point.arr.toList ++ ([Value.int .i64 x.height])) := by simp only [List.append_assoc, List.append_nil, List.nil_append, List.cons_append]
  unfold DReg.arr; rw [h]; exact ext_mid _ _ _ _ 33 _ (by simp) (by simp) rfl
@[simp] theorem DReg.arr_66 (x : DReg) : x.arr[66]? = some (Value.int .i64 x.point.n) := arr_of_ext (k := 32) (DReg.ext_34 x) _ rfl (by decide) (Outpoint.arr_32 _)
@[simp] theorem DReg.get_66 (x : DReg) (h) : x.arr[66]'h = Value.int .i64 x.point.n := Option.some.inj (by rw [← Array.getElem?_eq_getElem]; exact DReg.arr_66 x)
@[simp] theorem DReg.arr_67 (x : DReg) : x.arr[67]? = some (Value.int .i64 x.height) := by simp [DReg.arr, List.getElem?_append, List.getElem?_cons]
@[simp] theorem DReg.get_67 (x : DReg) (h) : x.arr[67]'h = Value.int .i64 x.height := Option.some.inj (by rw [← Array.getElem?_eq_getElem]; exact DReg.arr_67 x)

structure DNote where
  id : Int
  back : Bool
  kind : Int
  height : Int
  tx : Hash
  deriving DecidableEq
def DNote.arr (x : DNote) : Array Value := ([Value.int .i64 x.id, Value.bool x.back, Value.int .i64 x.kind, Value.int .i64 x.height] ++ x.tx.arr.toList).toArray
def DNote.zero : DNote := { id := 0, back := false, kind := 0, height := 0, tx := Hash.zero }
@[simp] theorem DNote.ext_all (x : DNote) : x.arr.extract 0 36 = x.arr := by rw [show 36 = x.arr.size by simp [DNote.arr]]; exact Array.extract_size
theorem one_DNote (x : DNote) : ∀ v ∈ x.arr.toList, v.oneCell' = true := by
  show ∀ v ∈ ([Value.int .i64 x.id, Value.bool x.back, Value.int .i64 x.kind, Value.int .i64 x.height] ++ x.tx.arr.toList : List Value), v.oneCell' = true
  intro v hv
  simp only [List.mem_append] at hv
  rcases hv with h0 | h1
  · simp only [List.mem_cons, List.not_mem_nil, or_false] at h0
    rcases h0 with rfl | rfl | rfl | rfl <;> rfl
  · exact one_Hash _ v h1
def DNote.wf (x : DNote) : Prop := i64 x.id ∧ i64 x.kind ∧ i64 x.height
@[simp] theorem DNote.size_arr (x : DNote) : x.arr.size = 36 := by simp [DNote.arr]
@[simp] theorem DNote.length_arr (x : DNote) : x.arr.toList.length = 36 := by simp [DNote.arr]
@[simp] theorem DNote.set_0 (x : DNote) (v : Int) : x.arr.setIfInBounds 0 (Value.int .i64 v) = ({ x with id := v } : DNote).arr := by
  apply Array.ext'; simp [DNote.arr, List.set_append]
@[simp] theorem DNote.set_1 (x : DNote) (v : Bool) : x.arr.setIfInBounds 1 (Value.bool v) = ({ x with back := v } : DNote).arr := by
  apply Array.ext'; simp [DNote.arr, List.set_append]
@[simp] theorem DNote.set_2 (x : DNote) (v : Int) : x.arr.setIfInBounds 2 (Value.int .i64 v) = ({ x with kind := v } : DNote).arr := by
  apply Array.ext'; simp [DNote.arr, List.set_append]
@[simp] theorem DNote.set_3 (x : DNote) (v : Int) : x.arr.setIfInBounds 3 (Value.int .i64 v) = ({ x with height := v } : DNote).arr := by
  apply Array.ext'; simp [DNote.arr, List.set_append]
@[simp] theorem DNote.arr_0 (x : DNote) : x.arr[0]? = some (Value.int .i64 x.id) := by simp [DNote.arr, List.getElem?_append, List.getElem?_cons]
@[simp] theorem DNote.get_0 (x : DNote) (h) : x.arr[0]'h = Value.int .i64 x.id := Option.some.inj (by rw [← Array.getElem?_eq_getElem]; exact DNote.arr_0 x)
@[simp] theorem DNote.arr_1 (x : DNote) : x.arr[1]? = some (Value.bool x.back) := by simp [DNote.arr, List.getElem?_append, List.getElem?_cons]
@[simp] theorem DNote.get_1 (x : DNote) (h) : x.arr[1]'h = Value.bool x.back := Option.some.inj (by rw [← Array.getElem?_eq_getElem]; exact DNote.arr_1 x)
@[simp] theorem DNote.arr_2 (x : DNote) : x.arr[2]? = some (Value.int .i64 x.kind) := by simp [DNote.arr, List.getElem?_append, List.getElem?_cons]
@[simp] theorem DNote.get_2 (x : DNote) (h) : x.arr[2]'h = Value.int .i64 x.kind := Option.some.inj (by rw [← Array.getElem?_eq_getElem]; exact DNote.arr_2 x)
@[simp] theorem DNote.arr_3 (x : DNote) : x.arr[3]? = some (Value.int .i64 x.height) := by simp [DNote.arr, List.getElem?_append, List.getElem?_cons]
@[simp] theorem DNote.get_3 (x : DNote) (h) : x.arr[3]'h = Value.int .i64 x.height := Option.some.inj (by rw [← Array.getElem?_eq_getElem]; exact DNote.arr_3 x)
@[simp] theorem DNote.ext_4 (x : DNote) : x.arr.extract 4 36 = x.tx.arr := by
  have h : ([Value.int .i64 x.id, Value.bool x.back, Value.int .i64 x.kind, Value.int .i64 x.height] ++ x.tx.arr.toList : List Value) = ([Value.int .i64 x.id, Value.bool x.back, Value.int .i64 x.kind, Value.int .i64 x.height]) ++ (x.tx.arr.toList ++ ([])) := by simp only [List.append_assoc, List.append_nil, List.nil_append, List.cons_append]
  unfold DNote.arr; rw [h]; exact ext_mid _ _ _ _ 32 _ (by simp) (by simp) rfl

structure DRow where
  id : Int
  r : DReg
  stand : DNote
  deriving DecidableEq
def DRow.arr (x : DRow) : Array Value := ([Value.int .i64 x.id] ++ x.r.arr.toList ++ x.stand.arr.toList).toArray
def DRow.zero : DRow := { id := 0, r := DReg.zero, stand := DNote.zero }
@[simp] theorem DRow.ext_all (x : DRow) : x.arr.extract 0 105 = x.arr := by rw [show 105 = x.arr.size by simp [DRow.arr]]; exact Array.extract_size
theorem one_DRow (x : DRow) : ∀ v ∈ x.arr.toList, v.oneCell' = true := by
  show ∀ v ∈ ([Value.int .i64 x.id] ++ x.r.arr.toList ++ x.stand.arr.toList : List Value), v.oneCell' = true
  intro v hv
  simp only [List.mem_append] at hv
  rcases hv with (h0 | h1) | h2
  · simp only [List.mem_cons, List.not_mem_nil, or_false] at h0
    rcases h0 with rfl <;> rfl
  · exact one_DReg _ v h1
  · exact one_DNote _ v h2
def DRow.wf (x : DRow) : Prop := i64 x.id ∧ x.r.wf ∧ x.stand.wf
@[simp] theorem DRow.size_arr (x : DRow) : x.arr.size = 105 := by simp [DRow.arr]
@[simp] theorem DRow.length_arr (x : DRow) : x.arr.toList.length = 105 := by simp [DRow.arr]
@[simp] theorem DRow.set_0 (x : DRow) (v : Int) : x.arr.setIfInBounds 0 (Value.int .i64 v) = ({ x with id := v } : DRow).arr := by
  apply Array.ext'; simp [DRow.arr, List.set_append]
@[simp] theorem DRow.arr_0 (x : DRow) : x.arr[0]? = some (Value.int .i64 x.id) := by simp [DRow.arr, List.getElem?_append, List.getElem?_cons]
@[simp] theorem DRow.get_0 (x : DRow) (h) : x.arr[0]'h = Value.int .i64 x.id := Option.some.inj (by rw [← Array.getElem?_eq_getElem]; exact DRow.arr_0 x)
@[simp] theorem DRow.ext_1 (x : DRow) : x.arr.extract 1 69 = x.r.arr := by
  have h : ([Value.int .i64 x.id] ++ x.r.arr.toList ++ x.stand.arr.toList : List Value) = ([Value.int .i64 x.id]) ++ (x.r.arr.toList ++ (x.stand.arr.toList)) := by simp only [List.append_assoc, List.append_nil, List.nil_append, List.cons_append]
  unfold DRow.arr; rw [h]; exact ext_mid _ _ _ _ 68 _ (by simp) (by simp) rfl
@[simp] theorem DRow.arr_1 (x : DRow) : x.arr[1]? = some (Value.int .i64 x.r.kind) := arr_of_ext (k := 0) (DRow.ext_1 x) _ rfl (by decide) (DReg.arr_0 _)
@[simp] theorem DRow.get_1 (x : DRow) (h) : x.arr[1]'h = Value.int .i64 x.r.kind := Option.some.inj (by rw [← Array.getElem?_eq_getElem]; exact DRow.arr_1 x)
@[simp] theorem DRow.arr_34 (x : DRow) : x.arr[34]? = some (Value.int .i64 x.r.depth) := arr_of_ext (k := 33) (DRow.ext_1 x) _ rfl (by decide) (DReg.arr_33 _)
@[simp] theorem DRow.get_34 (x : DRow) (h) : x.arr[34]'h = Value.int .i64 x.r.depth := Option.some.inj (by rw [← Array.getElem?_eq_getElem]; exact DRow.arr_34 x)
@[simp] theorem DRow.arr_67 (x : DRow) : x.arr[67]? = some (Value.int .i64 x.r.point.n) := arr_of_ext (k := 66) (DRow.ext_1 x) _ rfl (by decide) (DReg.arr_66 _)
@[simp] theorem DRow.get_67 (x : DRow) (h) : x.arr[67]'h = Value.int .i64 x.r.point.n := Option.some.inj (by rw [← Array.getElem?_eq_getElem]; exact DRow.arr_67 x)
@[simp] theorem DRow.arr_68 (x : DRow) : x.arr[68]? = some (Value.int .i64 x.r.height) := arr_of_ext (k := 67) (DRow.ext_1 x) _ rfl (by decide) (DReg.arr_67 _)
@[simp] theorem DRow.get_68 (x : DRow) (h) : x.arr[68]'h = Value.int .i64 x.r.height := Option.some.inj (by rw [← Array.getElem?_eq_getElem]; exact DRow.arr_68 x)
@[simp] theorem DRow.ext_69 (x : DRow) : x.arr.extract 69 105 = x.stand.arr := by
  have h : ([Value.int .i64 x.id] ++ x.r.arr.toList ++ x.stand.arr.toList : List Value) = ([Value.int .i64 x.id] ++ x.r.arr.toList) ++ (x.stand.arr.toList ++ ([])) := by simp only [List.append_assoc, List.append_nil, List.nil_append, List.cons_append]
  unfold DRow.arr; rw [h]; exact ext_mid _ _ _ _ 36 _ (by simp) (by simp) rfl
@[simp] theorem DRow.arr_69 (x : DRow) : x.arr[69]? = some (Value.int .i64 x.stand.id) := arr_of_ext (k := 0) (DRow.ext_69 x) _ rfl (by decide) (DNote.arr_0 _)
@[simp] theorem DRow.get_69 (x : DRow) (h) : x.arr[69]'h = Value.int .i64 x.stand.id := Option.some.inj (by rw [← Array.getElem?_eq_getElem]; exact DRow.arr_69 x)
@[simp] theorem DRow.arr_70 (x : DRow) : x.arr[70]? = some (Value.bool x.stand.back) := arr_of_ext (k := 1) (DRow.ext_69 x) _ rfl (by decide) (DNote.arr_1 _)
@[simp] theorem DRow.get_70 (x : DRow) (h) : x.arr[70]'h = Value.bool x.stand.back := Option.some.inj (by rw [← Array.getElem?_eq_getElem]; exact DRow.arr_70 x)
@[simp] theorem DRow.arr_71 (x : DRow) : x.arr[71]? = some (Value.int .i64 x.stand.kind) := arr_of_ext (k := 2) (DRow.ext_69 x) _ rfl (by decide) (DNote.arr_2 _)
@[simp] theorem DRow.get_71 (x : DRow) (h) : x.arr[71]'h = Value.int .i64 x.stand.kind := Option.some.inj (by rw [← Array.getElem?_eq_getElem]; exact DRow.arr_71 x)
@[simp] theorem DRow.arr_72 (x : DRow) : x.arr[72]? = some (Value.int .i64 x.stand.height) := arr_of_ext (k := 3) (DRow.ext_69 x) _ rfl (by decide) (DNote.arr_3 _)
@[simp] theorem DRow.get_72 (x : DRow) (h) : x.arr[72]'h = Value.int .i64 x.stand.height := Option.some.inj (by rw [← Array.getElem?_eq_getElem]; exact DRow.arr_72 x)

structure DHub where
  most : Int
  last : Int
  x : RIndexV
  l : Sl
  deriving DecidableEq
def DHub.arr (x : DHub) : Array Value := ([Value.int .i64 x.most, Value.int .i64 x.last] ++ x.x.arr.toList ++ [Value.slice x.l.a x.l.n x.l.c]).toArray
def DHub.zero : DHub := { most := 0, last := 0, x := RIndexV.zero, l := ⟨none, 0, 0⟩ }
@[simp] theorem DHub.ext_all (x : DHub) : x.arr.extract 0 4 = x.arr := by rw [show 4 = x.arr.size by simp [DHub.arr]]; exact Array.extract_size
theorem one_DHub (x : DHub) : ∀ v ∈ x.arr.toList, v.oneCell' = true := by
  show ∀ v ∈ ([Value.int .i64 x.most, Value.int .i64 x.last] ++ x.x.arr.toList ++ [Value.slice x.l.a x.l.n x.l.c] : List Value), v.oneCell' = true
  intro v hv
  simp only [List.mem_append] at hv
  rcases hv with (h0 | h1) | h2
  · simp only [List.mem_cons, List.not_mem_nil, or_false] at h0
    rcases h0 with rfl | rfl <;> rfl
  · exact one_RIndexV _ v h1
  · simp only [List.mem_cons, List.not_mem_nil, or_false] at h2
    rcases h2 with rfl <;> rfl
def DHub.wf (x : DHub) : Prop := i64 x.most ∧ i64 x.last ∧ x.x.wf
@[simp] theorem DHub.size_arr (x : DHub) : x.arr.size = 4 := by simp [DHub.arr]
@[simp] theorem DHub.length_arr (x : DHub) : x.arr.toList.length = 4 := by simp [DHub.arr]
@[simp] theorem DHub.set_0 (x : DHub) (v : Int) : x.arr.setIfInBounds 0 (Value.int .i64 v) = ({ x with most := v } : DHub).arr := by
  apply Array.ext'; simp [DHub.arr, List.set_append]
@[simp] theorem DHub.set_1 (x : DHub) (v : Int) : x.arr.setIfInBounds 1 (Value.int .i64 v) = ({ x with last := v } : DHub).arr := by
  apply Array.ext'; simp [DHub.arr, List.set_append]
@[simp] theorem DHub.set_3 (x : DHub) (a : Option Addr) (m c : Nat) : x.arr.setIfInBounds 3 (Value.slice a m c) = ({ x with l := ⟨a, m, c⟩ } : DHub).arr := by
  apply Array.ext'; simp [DHub.arr, List.set_append]
@[simp] theorem DHub.arr_0 (x : DHub) : x.arr[0]? = some (Value.int .i64 x.most) := by simp [DHub.arr, List.getElem?_append, List.getElem?_cons]
@[simp] theorem DHub.get_0 (x : DHub) (h) : x.arr[0]'h = Value.int .i64 x.most := Option.some.inj (by rw [← Array.getElem?_eq_getElem]; exact DHub.arr_0 x)
@[simp] theorem DHub.arr_1 (x : DHub) : x.arr[1]? = some (Value.int .i64 x.last) := by simp [DHub.arr, List.getElem?_append, List.getElem?_cons]
@[simp] theorem DHub.get_1 (x : DHub) (h) : x.arr[1]'h = Value.int .i64 x.last := Option.some.inj (by rw [← Array.getElem?_eq_getElem]; exact DHub.arr_1 x)
@[simp] theorem DHub.ext_2 (x : DHub) : x.arr.extract 2 3 = x.x.arr := by
  have h : ([Value.int .i64 x.most, Value.int .i64 x.last] ++ x.x.arr.toList ++ [Value.slice x.l.a x.l.n x.l.c] : List Value) = ([Value.int .i64 x.most, Value.int .i64 x.last]) ++ (x.x.arr.toList ++ ([Value.slice x.l.a x.l.n x.l.c])) := by simp only [List.append_assoc, List.append_nil, List.nil_append, List.cons_append]
  unfold DHub.arr; rw [h]; exact ext_mid _ _ _ _ 1 _ (by simp) (by simp) rfl
@[simp] theorem DHub.arr_2 (x : DHub) : x.arr[2]? = some (Value.slice x.x.l.a x.x.l.n x.x.l.c) := arr_of_ext (k := 0) (DHub.ext_2 x) _ rfl (by decide) (RIndexV.arr_0 _)
@[simp] theorem DHub.get_2 (x : DHub) (h) : x.arr[2]'h = Value.slice x.x.l.a x.x.l.n x.x.l.c := Option.some.inj (by rw [← Array.getElem?_eq_getElem]; exact DHub.arr_2 x)
@[simp] theorem DHub.arr_3 (x : DHub) : x.arr[3]? = some (Value.slice x.l.a x.l.n x.l.c) := by simp [DHub.arr, List.getElem?_append, List.getElem?_cons]
@[simp] theorem DHub.get_3 (x : DHub) (h) : x.arr[3]'h = Value.slice x.l.a x.l.n x.l.c := Option.some.inj (by rw [← Array.getElem?_eq_getElem]; exact DHub.arr_3 x)

structure Ask where
  kind : Int
  r : DReg
  n : Int
  txs : Sl
  deriving DecidableEq
def Ask.arr (x : Ask) : Array Value := ([Value.int .i64 x.kind] ++ x.r.arr.toList ++ [Value.int .i64 x.n, Value.slice x.txs.a x.txs.n x.txs.c]).toArray
def Ask.zero : Ask := { kind := 0, r := DReg.zero, n := 0, txs := ⟨none, 0, 0⟩ }
@[simp] theorem Ask.ext_all (x : Ask) : x.arr.extract 0 71 = x.arr := by rw [show 71 = x.arr.size by simp [Ask.arr]]; exact Array.extract_size
theorem one_Ask (x : Ask) : ∀ v ∈ x.arr.toList, v.oneCell' = true := by
  show ∀ v ∈ ([Value.int .i64 x.kind] ++ x.r.arr.toList ++ [Value.int .i64 x.n, Value.slice x.txs.a x.txs.n x.txs.c] : List Value), v.oneCell' = true
  intro v hv
  simp only [List.mem_append] at hv
  rcases hv with (h0 | h1) | h2
  · simp only [List.mem_cons, List.not_mem_nil, or_false] at h0
    rcases h0 with rfl <;> rfl
  · exact one_DReg _ v h1
  · simp only [List.mem_cons, List.not_mem_nil, or_false] at h2
    rcases h2 with rfl | rfl <;> rfl
def Ask.wf (x : Ask) : Prop := i64 x.kind ∧ x.r.wf ∧ i64 x.n
@[simp] theorem Ask.size_arr (x : Ask) : x.arr.size = 71 := by simp [Ask.arr]
@[simp] theorem Ask.length_arr (x : Ask) : x.arr.toList.length = 71 := by simp [Ask.arr]
@[simp] theorem Ask.set_0 (x : Ask) (v : Int) : x.arr.setIfInBounds 0 (Value.int .i64 v) = ({ x with kind := v } : Ask).arr := by
  apply Array.ext'; simp [Ask.arr, List.set_append]
@[simp] theorem Ask.set_69 (x : Ask) (v : Int) : x.arr.setIfInBounds 69 (Value.int .i64 v) = ({ x with n := v } : Ask).arr := by
  apply Array.ext'; simp [Ask.arr, List.set_append]
@[simp] theorem Ask.set_70 (x : Ask) (a : Option Addr) (m c : Nat) : x.arr.setIfInBounds 70 (Value.slice a m c) = ({ x with txs := ⟨a, m, c⟩ } : Ask).arr := by
  apply Array.ext'; simp [Ask.arr, List.set_append]
@[simp] theorem Ask.arr_0 (x : Ask) : x.arr[0]? = some (Value.int .i64 x.kind) := by simp [Ask.arr, List.getElem?_append, List.getElem?_cons]
@[simp] theorem Ask.get_0 (x : Ask) (h) : x.arr[0]'h = Value.int .i64 x.kind := Option.some.inj (by rw [← Array.getElem?_eq_getElem]; exact Ask.arr_0 x)
@[simp] theorem Ask.ext_1 (x : Ask) : x.arr.extract 1 69 = x.r.arr := by
  have h : ([Value.int .i64 x.kind] ++ x.r.arr.toList ++ [Value.int .i64 x.n, Value.slice x.txs.a x.txs.n x.txs.c] : List Value) = ([Value.int .i64 x.kind]) ++ (x.r.arr.toList ++ ([Value.int .i64 x.n, Value.slice x.txs.a x.txs.n x.txs.c])) := by simp only [List.append_assoc, List.append_nil, List.nil_append, List.cons_append]
  unfold Ask.arr; rw [h]; exact ext_mid _ _ _ _ 68 _ (by simp) (by simp) rfl
@[simp] theorem Ask.arr_1 (x : Ask) : x.arr[1]? = some (Value.int .i64 x.r.kind) := arr_of_ext (k := 0) (Ask.ext_1 x) _ rfl (by decide) (DReg.arr_0 _)
@[simp] theorem Ask.get_1 (x : Ask) (h) : x.arr[1]'h = Value.int .i64 x.r.kind := Option.some.inj (by rw [← Array.getElem?_eq_getElem]; exact Ask.arr_1 x)
@[simp] theorem Ask.arr_34 (x : Ask) : x.arr[34]? = some (Value.int .i64 x.r.depth) := arr_of_ext (k := 33) (Ask.ext_1 x) _ rfl (by decide) (DReg.arr_33 _)
@[simp] theorem Ask.get_34 (x : Ask) (h) : x.arr[34]'h = Value.int .i64 x.r.depth := Option.some.inj (by rw [← Array.getElem?_eq_getElem]; exact Ask.arr_34 x)
@[simp] theorem Ask.arr_67 (x : Ask) : x.arr[67]? = some (Value.int .i64 x.r.point.n) := arr_of_ext (k := 66) (Ask.ext_1 x) _ rfl (by decide) (DReg.arr_66 _)
@[simp] theorem Ask.get_67 (x : Ask) (h) : x.arr[67]'h = Value.int .i64 x.r.point.n := Option.some.inj (by rw [← Array.getElem?_eq_getElem]; exact Ask.arr_67 x)
@[simp] theorem Ask.arr_68 (x : Ask) : x.arr[68]? = some (Value.int .i64 x.r.height) := arr_of_ext (k := 67) (Ask.ext_1 x) _ rfl (by decide) (DReg.arr_67 _)
@[simp] theorem Ask.get_68 (x : Ask) (h) : x.arr[68]'h = Value.int .i64 x.r.height := Option.some.inj (by rw [← Array.getElem?_eq_getElem]; exact Ask.arr_68 x)
@[simp] theorem Ask.arr_69 (x : Ask) : x.arr[69]? = some (Value.int .i64 x.n) := by simp [Ask.arr, List.getElem?_append, List.getElem?_cons]
@[simp] theorem Ask.get_69 (x : Ask) (h) : x.arr[69]'h = Value.int .i64 x.n := Option.some.inj (by rw [← Array.getElem?_eq_getElem]; exact Ask.arr_69 x)
@[simp] theorem Ask.arr_70 (x : Ask) : x.arr[70]? = some (Value.slice x.txs.a x.txs.n x.txs.c) := by simp [Ask.arr, List.getElem?_append, List.getElem?_cons]
@[simp] theorem Ask.get_70 (x : Ask) (h) : x.arr[70]'h = Value.slice x.txs.a x.txs.n x.txs.c := Option.some.inj (by rw [← Array.getElem?_eq_getElem]; exact Ask.arr_70 x)

structure PairV where
  key : ByteArray
  value : ByteArray
  gone : Bool
  deriving DecidableEq
def PairV.arr (x : PairV) : Array Value := ([Value.string x.key, Value.string x.value, Value.bool x.gone]).toArray
def PairV.zero : PairV := { key := ByteArray.empty, value := ByteArray.empty, gone := false }
@[simp] theorem PairV.ext_all (x : PairV) : x.arr.extract 0 3 = x.arr := by rw [show 3 = x.arr.size by simp [PairV.arr]]; exact Array.extract_size
theorem one_PairV (x : PairV) : ∀ v ∈ x.arr.toList, v.oneCell' = true := by
  show ∀ v ∈ ([Value.string x.key, Value.string x.value, Value.bool x.gone] : List Value), v.oneCell' = true
  intro v hv
  have h0 := hv
  · simp only [List.mem_cons, List.not_mem_nil, or_false] at h0
    rcases h0 with rfl | rfl | rfl <;> rfl
def PairV.wf (x : PairV) : Prop := x.key.size ≤ maxLen ∧ x.value.size ≤ maxLen
@[simp] theorem PairV.size_arr (x : PairV) : x.arr.size = 3 := by simp [PairV.arr]
@[simp] theorem PairV.length_arr (x : PairV) : x.arr.toList.length = 3 := by simp [PairV.arr]
@[simp] theorem PairV.set_0 (x : PairV) (v : ByteArray) : x.arr.setIfInBounds 0 (Value.string v) = ({ x with key := v } : PairV).arr := by
  apply Array.ext'; simp [PairV.arr, List.set_append]
@[simp] theorem PairV.set_1 (x : PairV) (v : ByteArray) : x.arr.setIfInBounds 1 (Value.string v) = ({ x with value := v } : PairV).arr := by
  apply Array.ext'; simp [PairV.arr, List.set_append]
@[simp] theorem PairV.set_2 (x : PairV) (v : Bool) : x.arr.setIfInBounds 2 (Value.bool v) = ({ x with gone := v } : PairV).arr := by
  apply Array.ext'; simp [PairV.arr, List.set_append]
@[simp] theorem PairV.arr_0 (x : PairV) : x.arr[0]? = some (Value.string x.key) := by simp [PairV.arr, List.getElem?_append, List.getElem?_cons]
@[simp] theorem PairV.get_0 (x : PairV) (h) : x.arr[0]'h = Value.string x.key := Option.some.inj (by rw [← Array.getElem?_eq_getElem]; exact PairV.arr_0 x)
@[simp] theorem PairV.arr_1 (x : PairV) : x.arr[1]? = some (Value.string x.value) := by simp [PairV.arr, List.getElem?_append, List.getElem?_cons]
@[simp] theorem PairV.get_1 (x : PairV) (h) : x.arr[1]'h = Value.string x.value := Option.some.inj (by rw [← Array.getElem?_eq_getElem]; exact PairV.arr_1 x)
@[simp] theorem PairV.arr_2 (x : PairV) : x.arr[2]? = some (Value.bool x.gone) := by simp [PairV.arr, List.getElem?_append, List.getElem?_cons]
@[simp] theorem PairV.get_2 (x : PairV) (h) : x.arr[2]'h = Value.bool x.gone := Option.some.inj (by rw [← Array.getElem?_eq_getElem]; exact PairV.arr_2 x)

structure StoreV where
  log : Option Addr
  m : Option Nat
  batches : Int
  deriving DecidableEq
def StoreV.arr (x : StoreV) : Array Value := ([Value.pointer x.log, Value.map x.m, Value.int .i64 x.batches]).toArray
def StoreV.zero : StoreV := { log := none, m := none, batches := 0 }
@[simp] theorem StoreV.ext_all (x : StoreV) : x.arr.extract 0 3 = x.arr := by rw [show 3 = x.arr.size by simp [StoreV.arr]]; exact Array.extract_size
theorem one_StoreV (x : StoreV) : ∀ v ∈ x.arr.toList, v.oneCell' = true := by
  show ∀ v ∈ ([Value.pointer x.log, Value.map x.m, Value.int .i64 x.batches] : List Value), v.oneCell' = true
  intro v hv
  have h0 := hv
  · simp only [List.mem_cons, List.not_mem_nil, or_false] at h0
    rcases h0 with rfl | rfl | rfl <;> rfl
def StoreV.wf (x : StoreV) : Prop := i64 x.batches
@[simp] theorem StoreV.size_arr (x : StoreV) : x.arr.size = 3 := by simp [StoreV.arr]
@[simp] theorem StoreV.length_arr (x : StoreV) : x.arr.toList.length = 3 := by simp [StoreV.arr]
@[simp] theorem StoreV.set_0 (x : StoreV) (v : Option Addr) : x.arr.setIfInBounds 0 (Value.pointer v) = ({ x with log := v } : StoreV).arr := by
  apply Array.ext'; simp [StoreV.arr, List.set_append]
@[simp] theorem StoreV.set_1 (x : StoreV) (v : Option Nat) : x.arr.setIfInBounds 1 (Value.map v) = ({ x with m := v } : StoreV).arr := by
  apply Array.ext'; simp [StoreV.arr, List.set_append]
@[simp] theorem StoreV.set_2 (x : StoreV) (v : Int) : x.arr.setIfInBounds 2 (Value.int .i64 v) = ({ x with batches := v } : StoreV).arr := by
  apply Array.ext'; simp [StoreV.arr, List.set_append]
@[simp] theorem StoreV.arr_0 (x : StoreV) : x.arr[0]? = some (Value.pointer x.log) := by simp [StoreV.arr, List.getElem?_append, List.getElem?_cons]
@[simp] theorem StoreV.get_0 (x : StoreV) (h) : x.arr[0]'h = Value.pointer x.log := Option.some.inj (by rw [← Array.getElem?_eq_getElem]; exact StoreV.arr_0 x)
@[simp] theorem StoreV.arr_1 (x : StoreV) : x.arr[1]? = some (Value.map x.m) := by simp [StoreV.arr, List.getElem?_append, List.getElem?_cons]
@[simp] theorem StoreV.get_1 (x : StoreV) (h) : x.arr[1]'h = Value.map x.m := Option.some.inj (by rw [← Array.getElem?_eq_getElem]; exact StoreV.arr_1 x)
@[simp] theorem StoreV.arr_2 (x : StoreV) : x.arr[2]? = some (Value.int .i64 x.batches) := by simp [StoreV.arr, List.getElem?_append, List.getElem?_cons]
@[simp] theorem StoreV.get_2 (x : StoreV) (h) : x.arr[2]'h = Value.int .i64 x.batches := Option.some.inj (by rw [← Array.getElem?_eq_getElem]; exact StoreV.arr_2 x)

end Go.Proofs.YtlkojkjeklblkaaGreat
