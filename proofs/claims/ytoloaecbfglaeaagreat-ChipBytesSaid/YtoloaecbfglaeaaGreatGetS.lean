/- Walks of what Get calls: a string's beginning, the next bytes. -/
import Derived.Test.YtoloaecbfglaeaaGreatGetP
import Derived.Laws.BytesArg
import Derived.Lib.Strings
namespace Go.Proofs.YtoloaecbfglaeaaGreat
open Go.RowKit Go.Shelf
set_option linter.unusedVariables false
set_option linter.unusedSimpArgs false

/-- bytes as a string -/
def strB (l : List Nat) : ByteArray := ⟨(l.map UInt8.ofNat).toArray⟩
theorem strB_size (l : List Nat) : (strB l).size = l.length := by simp [strB, ByteArray.size]
theorem strB_inj {l m : List Nat} (hl : ∀ x ∈ l, x < 256) (hm : ∀ x ∈ m, x < 256) (h : strB l = strB m) : l = m := by
  have h1 : (strB l).data.toList = (strB m).data.toList := by rw [h]
  simp only [strB] at h1
  have h2 := congrArg (List.map UInt8.toNat) h1
  simp only [List.map_map] at h2
  have key : ∀ k : List Nat, (∀ x ∈ k, x < 256) → k.map (UInt8.toNat ∘ UInt8.ofNat) = k := by
    intro k hk
    conv => rhs; rw [← List.map_id k]
    apply List.map_congr_left
    intro x hx
    have := hk x hx
    simp; omega
  rwa [key l hl, key m hm] at h2
theorem conv_bytes {w : World} {A : Option Addr} {n c : Nat} {l : List Nat} (hr : Rd w 1 A n c (bys l)) :
    (convert 48 9 (.slice A n c)).run Tryz.prog w = .ok (.string (strB l)) w := by
  have hln : l.length = n := by have := hr.len; rw [bys_length] at this; omega
  cases A with
  | none =>
    have hc : c = 0 := hr.nil rfl
    have hn : n = 0 := by have := hr.cap; omega
    subst hc hn
    obtain rfl := List.eq_nil_of_length_eq_zero hln
    rw [run_convert_bytes_nil w 48 5 Tryz.underlying48 Tryz.underlying5 0 0 9 Tryz.underlying9]
    rfl
  | some a =>
    have hl : (loadCells a n).run Tryz.prog w = .ok ((l.map fun (x : Nat) => (x : Int)).map (Value.int .u8)).toArray w := by
      have := run_loadCells_list (P := Tryz.prog) w a (bys l) (fun j v hj => by
        obtain ⟨a', e, -, hc⟩ := hr.read j v hj
        obtain rfl := Option.some.inj e
        exact hc)
      rw [bys_length, hln] at this
      rw [List.map_map]
      exact this
    rw [run_convert_bytes_string w 48 9 5 _ n c Tryz.underlying48 Tryz.underlying5 Tryz.underlying9, run_bytesToString w _ n c _ hl, foldl_push_bytes]
    simp [strB, ByteArray.empty, ByteArray.emptyWithCapacity, List.map_map]
    rfl
theorem strB_take {l : List Nat} (hl : ∀ x ∈ l, x < 256) (k : Nat) (m : List Nat) (hm : ∀ x ∈ m, x < 256) : (((strB l).extract 0 k).toList == m.map UInt8.ofNat) = decide (l.take k = m) := by
  rw [Lib.toList_data, Lib.extract_data]
  rw [Bool.eq_iff_iff]
  simp only [List.drop_zero, Nat.sub_zero, beq_iff_eq, decide_eq_true_eq]
  simp only [strB]
  constructor
  · intro h
    refine strB_inj (fun x hx => hl x (List.mem_of_mem_take hx)) hm ?_
    unfold strB
    rw [List.map_take, h]
  · rintro rfl
    rw [List.map_take]
set_option maxRecDepth 100000 in
theorem lite_any (s : ByteArray) (w : World) (h4 : 4 ≤ s.size) (hs : s.size ≤ 100000000) (r : Bool) (hr : ((s.extract 0 4).toList == [70, 71, 66, 49]) = r) :
    Calls Tryz.prog 78 #[.string s, .string ⟨#[70, 71, 66, 49]⟩] w fun e w' => e = .returned (.bool r) ∧ w' = w := by
  have h4' : (4 : Int) ≤ (s.size : Int) := by omega
  have HR := Lib.hid hr
  clear hr
  go_enter Tryz.func78, Tryz.ntmps78
  go_wp2_with fail
  rw [HR.out]
  go_ret
  exact ⟨rfl, rfl⟩
theorem prefix_any (l : List Nat) (hl : ∀ x ∈ l, x < 256) (w : World) (h4 : 4 ≤ l.length) (hs : l.length ≤ 100000000) (r : Bool) (hr : decide (l.take 4 = magicB) = r) :
    Calls Tryz.prog 52 #[.string (strB l), .string ⟨#[70, 71, 66, 49]⟩] w fun e w' => e = .returned (.bool r) ∧ w' = w := by
  have hp := lite_any (strB l) w (by rw [strB_size]; exact h4) (by rw [strB_size]; exact hs) r (by
    rw [← hr]; exact strB_take hl 4 magicB (by decide))
  have HP := Lib.hid hp
  generalize strB l = s at HP
  clear hp hr
  go_enter Tryz.func52, Tryz.ntmps52
  go_wp2_with fail
  refine HP.out.mono ?_
  rintro e w1 ⟨rfl, rfl⟩
  go_wp2_with fail
  go_ret
  exact ⟨rfl, rfl⟩
/-- the next m bytes -/
theorem next_any (b : Nat) (a : Addr) (k e c m : Nat) (hm : k + m ≤ e) (hc : e < c) (he : c ≤ maxLen) (w : World) (hB : Boxed w b 48 (.slice (some (a.add k)) (e - k) (c - k))) :
    Calls Tryz.prog 56 #[.int .i64 (m : Int), .pointer (some ⟨b, 0, none⟩)] w fun r w' => r = .returned (.slice (some (a.add k)) m (c - k)) ∧ w' = w.setCell ⟨b, 0, none⟩ (.slice (some (a.add (k + m))) (e - (k + m)) (c - (k + m))) := by
  have c0 := hB.cell
  have f0 := hB.frozen
  unfold maxLen at he
  go_enter Tryz.func56, Tryz.ntmps56
  go_wp2_with fail
  rw [add_add, Nat.sub_sub, Nat.sub_sub]
  go_ret
  exact ⟨rfl, rfl⟩
theorem next3 (b : Nat) (a : Addr) (k e c : Nat) (hm : k + 3 ≤ e) (hc : e < c) (he : c ≤ maxLen) (w : World) (hB : Boxed w b 48 (.slice (some (a.add k)) (e - k) (c - k))) :
    Calls Tryz.prog 56 #[.int .i64 3, .pointer (some ⟨b, 0, none⟩)] w fun r w' => r = .returned (.slice (some (a.add k)) 3 (c - k)) ∧ w' = w.setCell ⟨b, 0, none⟩ (.slice (some (a.add (k + 3))) (e - (k + 3)) (c - (k + 3))) := next_any b a k e c 3 hm hc he w hB
theorem next2 (b : Nat) (a : Addr) (k e c : Nat) (hm : k + 2 ≤ e) (hc : e < c) (he : c ≤ maxLen) (w : World) (hB : Boxed w b 48 (.slice (some (a.add k)) (e - k) (c - k))) :
    Calls Tryz.prog 56 #[.int .i64 2, .pointer (some ⟨b, 0, none⟩)] w fun r w' => r = .returned (.slice (some (a.add k)) 2 (c - k)) ∧ w' = w.setCell ⟨b, 0, none⟩ (.slice (some (a.add (k + 2))) (e - (k + 2)) (c - (k + 2))) := next_any b a k e c 2 hm hc he w hB
theorem rd_bool1 (w : World) (t : TypeId) (b : Bool) : Rd (w.alloc (.cells #[.bool b] t)) 1 (some ⟨w.heap.size, 0, none⟩) 1 1 (bools [b]) := rd_new w t [.bool b]
end Go.Proofs.YtoloaecbfglaeaaGreat
