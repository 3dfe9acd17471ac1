/- The sum's parts: (pair).of, sum, and the reference's More. -/
import Derived.Test.YtaajndackdmbeaaProg
import Derived.Test.YtaajndackdmbeaaRel
import Derived.Laws.BytesArg
import Derived.IntWalk
import Derived.Deep.MidRow
import Derived.Deep.WholeRow
namespace Go.Proofs.Ytaajndackdmbeaa
open Go.RowKit
set_option linter.unusedSimpArgs false

theorem Try.mixed : Try.prog.follows .mixedOrders = true := by kernel_rfl

/-- One byte more. -/
def s1 (p : Int × Int) (c : UInt8) : Int × Int := ((p.1 + (c.toNat : Int)) % 65535, (p.2 + (p.1 + (c.toNat : Int)) % 65535) % 65535)
/-- Bytes more. -/
def sm (p : Int × Int) (l : List UInt8) : Int × Int := l.foldl s1 p
def ofS (x : Int) : Int × Int := (x % 65536 % 65535, x / 65536 % 65535)
def toS (p : Int × Int) : Int := p.2 * 65536 + p.1
def okP (p : Int × Int) : Prop := 0 ≤ p.1 ∧ p.1 < 65535 ∧ 0 ≤ p.2 ∧ p.2 < 65535

theorem okP_s1 (p : Int × Int) (c : UInt8) : okP (s1 p c) := by
  unfold okP s1
  simp only
  omega
theorem okP_sm (l : List UInt8) : ∀ p, okP p → okP (sm p l) := by
  induction l with
  | nil => intro p h; exact h
  | cons c l ih => intro p _; exact ih _ (okP_s1 p c)
theorem okP_ofS (x : Int) : okP (ofS x) := by
  unfold okP ofS
  simp only
  omega
theorem byte_lt (b : UInt8) : (0 : Int) ≤ (b.toNat : Int) ∧ (b.toNat : Int) < 256 := by
  have := b.toNat_lt; omega
theorem sm_snoc (p : Int × Int) (l : List UInt8) (c : UInt8) : sm p (l ++ [c]) = s1 (sm p l) c := by simp [sm]
theorem sm_append (p : Int × Int) (l k : List UInt8) : sm p (l ++ k) = sm (sm p l) k := by simp [sm]

theorem take_snoc (s : ByteArray) (k : Nat) (h : k < s.size) : s.data.toList.take (k + 1) = s.data.toList.take k ++ [s[k]] := by
  rw [List.take_succ_eq_append_getElem (by simpa using h)]; rfl

/-- A pair's cells. -/
def pc (p : Int × Int) : Array Value := #[.int .u32 p.1, .int .u32 p.2]

set_option maxRecDepth 100000 in
theorem of_any (x : Int) (w : World) (h0 : 0 ≤ x) (h1 : x < 4294967296) :
    Calls Try.prog 15 #[.int .u32 x] w fun e w' => e = .returned (.agg (pc (ofS x))) ∧ Below w.heap.size w w' := by
  have e1 : bits .and .u32 x 65535 = x % 65536 := bits_mask .u32 32 (by decide) (fun n h0 h1 => by rw [IntKind.wrap_u32]; have : n < 4294967296 := h1; omega) 16 (by decide) x h0 h1
  go_enter Try.func15, Try.ntmps15
  go_wp2
  refine bodyPost_ret (results_cell_row rfl _ _ _ _ _ _ _ rfl (heap_alloc_last _ _) Try.underlying41 rfl (by kernel_rfl)) rfl ?_
  exact ⟨rfl, (Below.refl _ _).alloc (Nat.le_refl _) _⟩

theorem wraps_u32 (j : Nat) (hj : j ≤ 32) (n : Int) (h0 : 0 ≤ n) (h1 : n < 2 ^ j) : IntKind.u32.wrap n = n := by
  rw [IntKind.wrap_u32]
  have : (2 : Int) ^ j ≤ 2 ^ 32 := by
    have := Nat.pow_le_pow_right (n := 2) (by omega) hj
    exact_mod_cast this
  have : n < 4294967296 := by omega
  omega

set_option maxRecDepth 100000 in
theorem sum_any (p : Int × Int) (w : World) (h : okP p) :
    Calls Try.prog 17 #[.agg (pc p)] w fun e w' => e = .returned (.int .u32 (toS p)) ∧ Below w.heap.size w w' := by
  obtain ⟨h1, h2, h3, h4⟩ := h
  have e1 : bits .or .u32 (p.2 * 65536) p.1 = p.2 * 65536 + p.1 := bits_join .u32 32 (by decide) (wraps_u32 32 (by omega)) 16 _ _ (by omega) (by omega) (by omega) h1 (by omega) (by omega)
  unfold pc
  go_enter Try.func17, Try.ntmps17
  go_wp2
  go_ret
  exact ⟨rfl, (Below.refl _ _).alloc (Nat.le_refl _) _⟩

set_option maxRecDepth 100000 in
theorem rMore_any (x : Int) (s : ByteArray) (w : World) (h0 : 0 ≤ x) (h1 : x < 4294967296) (hs : s.size ≤ 9223372036854775807) :
    Calls Try.prog 12 #[.int .u32 x, .string s] w fun e w' => e = .returned (.int .u32 (toS (sm (ofS x) s.data.toList))) ∧ w = w' := by
  go_enter Try.func12, Try.ntmps12
  go_wp2
  go_loop [5, 6, 7] (fun a b i => ∃ k : Nat, k ≤ s.size ∧ i = .int .i64 k ∧ a = .int .i64 (sm (ofS x) (s.data.toList.take k)).1 ∧ b = .int .i64 (sm (ofS x) (s.data.toList.take k)).2) (fun _ _ i => s.size - (intOf i).toNat)
  case atStart => exact ⟨0, Nat.zero_le _, rfl, rfl, rfl⟩
  case round =>
    obtain ⟨k, hk, rfl, rfl, rfl⟩ := hrel
    have hp := okP_sm (s.data.toList.take k) _ (okP_ofS x)
    generalize hq : sm (ofS x) (s.data.toList.take k) = q at hp ⊢
    obtain ⟨p1, p2, p3, p4⟩ := hp
    by_cases hlt : k < s.size
    · have hb := byte_lt s[k]
      go_wp2
      go_round
      case rel =>
        have e : sm (ofS x) (s.data.toList.take (k + 1)) = s1 q s[k] := by rw [take_snoc s k hlt, sm_snoc, hq]
        refine ⟨k + 1, by omega, by go_num, ?_, ?_⟩ <;> rw [e] <;> simp only [s1] <;> simp only [wrap64, Value.int.injEq, true_and] <;> (have t1 : ∀ a : Int, 0 ≤ a → a.tmod 65535 = a % 65535 := fun a h => Int.tmod_eq_emod_of_nonneg h) <;> go_num
      case measure => simp [intOf]; omega
    · go_wp2
      go_ret
      obtain rfl : k = s.size := by omega
      rw [List.take_of_length_le (by rw [Array.length_toList]; exact Nat.le_refl _)] at hq
      exact ⟨by rw [hq]; rfl, rfl⟩
end Go.Proofs.Ytaajndackdmbeaa
