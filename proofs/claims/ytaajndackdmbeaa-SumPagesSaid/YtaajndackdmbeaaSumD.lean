/- The walks of the law's long and awake, and of the reference's Joined. -/
import Derived.Test.YtaajndackdmbeaaSumC
namespace Go.Proofs.Ytaajndackdmbeaa
open Go.RowKit
set_option linter.unusedSimpArgs false

theorem bseq {w a b : World} (h : Below w.heap.size w a) (k : Below a.heap.size a b) : Below w.heap.size w b := h.trans (k.mono h.size)
theorem balloc {w a : World} {o : Obj} (h : Below (w.alloc o).heap.size (w.alloc o) a) : Below w.heap.size w a := bseq ((Below.refl _ _).alloc (Nat.le_refl _) o) h

def cat (ss : List ByteArray) : ByteArray := ⟨(flat ss).toArray⟩
theorem cat_size (ss : List ByteArray) : (cat ss).size = (flat ss).length := by simp [cat, ByteArray.size]
theorem cat_list (ss : List ByteArray) : (cat ss).data.toList = flat ss := by simp [cat]
theorem cat_snoc (ss : List ByteArray) (s : ByteArray) : cat ss ++ s = cat (ss ++ [s]) := by
  apply ByteArray.ext
  simp [cat, flat]
theorem cat_nil : cat [] = ⟨#[]⟩ := rfl
theorem flat_take_le (ss : List ByteArray) (k : Nat) : (flat (ss.take k)).length ≤ (flat ss).length := by
  have : flat ss = flat (ss.take k) ++ flat (ss.drop k) := by rw [← flat_append, List.take_append_drop]
  rw [this, List.length_append]
  omega
def isLong (ss : List ByteArray) : Bool := decide (60 < ss.length ∨ 3000 < (flat ss).length)

theorem strSl_of {w : World} {g : Nat} {C : Array Value} {T : TypeId} {fr : Nat × Nat} (hg : w.heap[g]? = some (.cells C T fr)) (ss : List ByteArray) (h : C.toList = ss.map .string) : StrSl w (some ⟨g, 0, none⟩) ss := by
  intro j hj
  refine ⟨_, rfl, ?_⟩
  rw [Addr.add_mid, cell_of_row _ _ _ _ _ _ hg, Nat.zero_add, ← Array.getElem?_toList, h]
  simp [hj]
theorem strSl_nil (w : World) (a : Option Addr) : StrSl w a [] := fun j hj => by simp at hj

set_option maxRecDepth 100000 in
set_option maxHeartbeats 800000 in
theorem joined_any (a : Option Addr) (ss : List ByteArray) (cap : Nat) (w : World) (hl : StrSl w a ss) (hs : ss.length ≤ 60) (hz : (flat ss).length ≤ 3000) :
    Calls Try.prog 10 #[.slice a ss.length cap] w fun e w' => e = .returned (.string (cat ss)) ∧ Below w.heap.size w w' := by
  go_enter Try.func10, Try.ntmps10
  go_wp2
  go_loop [3, 4] (fun t i => ∃ k : Nat, k ≤ ss.length ∧ i = .int .i64 k ∧ t = .string (cat (ss.take k))) (fun _ i => ss.length - (intOf i).toNat)
  case atStart => exact ⟨0, Nat.zero_le _, rfl, rfl⟩
  case round =>
    obtain ⟨k, hk, rfl, rfl⟩ := hrel
    by_cases hlt : k < ss.length
    · obtain ⟨x, rfl, hc⟩ := hl k hlt
      have hsz : ¬ 9223372036854775807 < (cat (ss.take k)).size + ss[k].size := by
        have h1 := flat_take_le ss (k + 1)
        rw [take_snocL _ _ hlt, flat_snoc, List.length_append] at h1
        rw [cat_size]
        have : ss[k].data.toList.length = ss[k].size := by rw [Array.length_toList]; rfl
        omega
      go_wp2
      go_round
      case rel => exact ⟨k + 1, by omega, by go_num, by rw [cat_snoc, take_snocL _ _ hlt]⟩
      case measure => simp [intOf]; omega
    · go_wp2
      go_ret
      obtain rfl : k = ss.length := by omega
      rw [List.take_length]
      exact ⟨rfl, Below.refl _ _⟩

set_option maxRecDepth 100000 in
set_option maxHeartbeats 800000 in
theorem long_any (a : Option Addr) (ss : List ByteArray) (cap : Nat) (w : World) (hl : StrSl w a ss) (hs : ss.length ≤ 9223372036854775807) (hz : ∀ s ∈ ss, s.size ≤ 281474976710656) :
    Calls Try.prog 9 #[.slice a ss.length cap] w fun e w' => e = .returned (.bool (isLong ss)) ∧ Below w.heap.size w w' := by
  go_enter Try.func9, Try.ntmps9
  by_cases h60 : 60 < ss.length
  · go_wp2
    go_ret
    exact ⟨by simp [isLong, h60], Below.refl _ _⟩
  · go_wp2
    go_loop [3, 11] (fun t i => ∃ k : Nat, k ≤ ss.length ∧ i = .int .i64 k ∧ t = .int .i64 (flat (ss.take k)).length ∧ (flat (ss.take k)).length ≤ 3000) (fun _ i => ss.length - (intOf i).toNat)
    case atStart => exact ⟨0, Nat.zero_le _, rfl, rfl, by simp [flat]⟩
    case round =>
      obtain ⟨k, hk, rfl, rfl, hn⟩ := hrel
      by_cases hlt : k < ss.length
      · obtain ⟨x, rfl, hc⟩ := hl k hlt
        have hzk := hz _ (List.getElem_mem hlt)
        have hlen : (flat (ss.take (k + 1))).length = (flat (ss.take k)).length + ss[k].size := by
          rw [take_snocL _ _ hlt, flat_snoc, List.length_append, Array.length_toList]
          rfl
        have hle := flat_take_le ss (k + 1)
        generalize hm : (flat (ss.take k)).length = m at hn hlen ⊢
        by_cases hbig : 3000 < m + ss[k].size
        · have hbi : (3000 : Int) < (m : Int) + (ss[k].size : Int) := by omega
          go_wp2
          go_ret
          exact ⟨by have : 3000 < (flat ss).length := by omega
                    simp [isLong, this], Below.refl _ _⟩
        · have hbi : ¬ (3000 : Int) < (m : Int) + (ss[k].size : Int) := by omega
          go_wp2
          go_round
          case rel => exact ⟨k + 1, by omega, by go_num, by rw [hlen]; go_num, by omega⟩
          case measure => simp [intOf]; omega
      · go_wp2
        go_ret
        obtain rfl : k = ss.length := by omega
        rw [List.take_length] at hn
        exact ⟨by simp [isLong]; omega, Below.refl _ _⟩

def abc1 : List ByteArray := [⟨#[97, 98, 99]⟩]
def abc3 : List ByteArray := [⟨#[97]⟩, ⟨#[]⟩, ⟨#[98, 99]⟩]
theorem len_le {ss : List ByteArray} (h : ss.length ≤ 3) : ss.length ≤ 9223372036854775807 := by omega
theorem sizes_le {ss : List ByteArray} (h : ∀ s ∈ ss, s.size ≤ 3) : ∀ s ∈ ss, s.size ≤ 9223372036854775807 := fun s hs => by have := h s hs; omega
theorem calls_sum (ss : List ByteArray) (n : Nat) {g : Nat} {C : Array Value} {T : TypeId} {fr : Nat × Nat} {w : World} (hg : w.heap[g]? = some (.cells C T fr)) (hn : ss.length = n) (h : C.toList = ss.map .string) (h3 : ss.length ≤ 3) (hz : ∀ s ∈ ss, s.size ≤ 3) (cap : Nat) :
    Calls Try.prog 11 #[.slice (some ⟨g, 0, none⟩) n cap] w fun e w' => e = .returned (.int .u32 (toS (sm (0, 0) (flat ss)))) ∧ Below w.heap.size w w' := by
  subst hn
  exact sumSum_any _ ss cap w (strSl_of hg ss h) (len_le h3) (sizes_le hz)
theorem abc1_ok : ∀ s ∈ abc1, s.size ≤ 3 := by decide
theorem abc3_ok : ∀ s ∈ abc3, s.size ≤ 3 := by decide
theorem sum_abc1 : toS (sm (0, 0) (flat abc1)) = 38404390 := by kernel_rfl
theorem sum_abc3 : toS (sm (0, 0) (flat abc3)) = 38404390 := by kernel_rfl
theorem sum_abc0 : toS (sm (0, 0) (flat [])) = 0 := by kernel_rfl

theorem calls_abc1 {g : Nat} {T : TypeId} {fr : Nat × Nat} {w : World} (hg : w.heap[g]? = some (.cells #[.string ⟨#[97, 98, 99]⟩] T fr)) :
    Calls Try.prog 11 #[.slice (some ⟨g, 0, none⟩) 1 1] w fun e w' => e = .returned (.int .u32 38404390) ∧ Below w.heap.size w w' := by
  have := calls_sum abc1 1 hg rfl rfl (by decide) abc1_ok 1
  rwa [sum_abc1] at this
theorem calls_abc3 {g : Nat} {T : TypeId} {fr : Nat × Nat} {w : World} (hg : w.heap[g]? = some (.cells #[.string ⟨#[97]⟩, .string ⟨#[]⟩, .string ⟨#[98, 99]⟩] T fr)) :
    Calls Try.prog 11 #[.slice (some ⟨g, 0, none⟩) 3 3] w fun e w' => e = .returned (.int .u32 38404390) ∧ Below w.heap.size w w' := by
  have := calls_sum abc3 3 hg rfl rfl (by decide) abc3_ok 3
  rwa [sum_abc3] at this
theorem calls_abc0 (w : World) : Calls Try.prog 11 #[.slice none 0 0] w fun e w' => e = .returned (.int .u32 0) ∧ Below w.heap.size w w' := by
  have := sumSum_any none [] 0 w (strSl_nil _ _) (by simp) (by simp)
  rwa [sum_abc0] at this

set_option maxRecDepth 100000 in
set_option maxHeartbeats 800000 in
theorem awake01 (w : World) : Calls Try.prog 8 #[] w fun e w' => e = .returned (.bool true) ∧ Below w.heap.size w w' := by
  go_enter Try.func8, Try.ntmps8
  go_wp2_with (first
    | (go_at_call 11; with_reducible refine (calls_abc1 (heap_alloc_last _ _)).mono ?_; rintro e w1 ⟨rfl, hb1⟩)
    | (go_at_call 11; with_reducible refine (calls_abc3 (heap_alloc_last _ _)).mono ?_; rintro e w2 ⟨rfl, hb2⟩)
    | (go_at_call 11; with_reducible refine (calls_abc0 _).mono ?_; rintro e w3 ⟨rfl, hb3⟩))
  go_ret
  exact ⟨rfl, bseq (bseq (balloc hb1) (balloc hb2)) hb3⟩
end Go.Proofs.Ytaajndackdmbeaa
