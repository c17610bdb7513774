/-
  THE CONTRACT OF ferrymanlaw13.Name.
-/
import Derived.Test.YtidkamnciomnmaaDen
import Derived.Test.YtidkamnciomnmaaChk
namespace Go.Proofs.Ytidkamnciomnmaa
open Go.RowKit Go.Maps Go.Lib

/-- a slice of bytes, as it is read -/
def BytesIn (w : World) (a : Option Addr) (len : Nat) : Prop := ∀ i, i < len → ∃ x : Addr, a = some x ∧ x.block < w.heap.size ∧ ∃ z : Nat, z ≤ 255 ∧ w.cell? (x.add i) = some (.int .u8 z)

theorem byte_of (n : Int) (h0 : 0 ≤ n) (h : n ≤ 255) : ∃ b : UInt8, n = b.toNat := ⟨UInt8.ofNat n.toNat, by simp [UInt8.toNat_ofNat']; omega⟩
theorem add_block (x : Addr) (i : Nat) : (x.add i).block = x.block := by unfold Addr.add; split <;> rfl
theorem size1 (b : UInt8) : (⟨#[b]⟩ : ByteArray).size = 1 := rfl
theorem size2 (a b : UInt8) : (⟨#[a, b]⟩ : ByteArray).size = 2 := rfl

set_option maxRecDepth 100000 in
set_option maxHeartbeats 1000000 in
theorem name13_any (a : Option Addr) (len cap : Nat) (w : World) (h : BytesIn w a len) (hl : len ≤ maxLen) :
    Calls Try.prog 7 #[.slice a len cap] w fun e w' => (∃ s : ByteArray, e = .returned (.string s) ∧ s.size ≤ 200) ∧ Below w.heap.size w w' := by
  unfold maxLen at hl
  have Hh := Lib.hid h
  clear h
  go_enter Try.func7, Try.ntmps7
  go_wp2
  go_loopw [3, 8] (fun sv iv wr => ∃ (i : Nat) (s : ByteArray), iv = .int .i64 i ∧ sv = .string s ∧ s.size ≤ 4 * i ∧ i ≤ len ∧ i ≤ 46 ∧ Below w.heap.size w wr) (fun _ iv _ => left len iv)
  case atStart => exact ⟨0, _, rfl, rfl, by decide, Nat.zero_le _, Nat.zero_le _, Below.refl _ _⟩
  case round =>
    obtain ⟨i, s, rfl, rfl, hs, hi, h46, hb⟩ := hrel
    by_cases hil : i < len
    · obtain ⟨x, rfl, hx, z, hz, hc⟩ := Hh.out i hil
      have hc' := (hb.cell (p := x.add i) (by rw [add_block]; exact hx)).trans hc
      clear hc
      obtain ⟨b1, hb1⟩ := byte_of (48 + (z : Int) / 8 % 4) (by omega) (by omega)
      obtain ⟨b2, hb2⟩ := byte_of (48 + (z : Int) / 8 % 10) (by omega) (by omega)
      obtain ⟨b3, hb3⟩ := byte_of (97 + (z : Int) / 8 % 26) (by omega) (by omega)
      have hcv1 := one_byte _ _ hb1 wr
      have hcv2 := one_byte _ _ hb2 wr
      have hcv3 := one_byte _ _ hb3 wr
      clear hb1 hb2 hb3
      go_wp2
      · go_ret
        exact ⟨⟨s, rfl, by omega⟩, hb⟩
      all_goals
        refine ⟨⟨i + 1, _, rfl, rfl, ?_, hil, by omega, ?_⟩, ?_⟩
        · simp only [ByteArray.size_append, size1, size2]
          omega
        · first | exact hb | exact hb.alloc hb.size _
        · show len - ((i : Int) + 1).toNat < len - (i : Int).toNat
          omega
    · go_wp2
      go_ret
      exact ⟨⟨s, rfl, by omega⟩, hb⟩
end Go.Proofs.Ytidkamnciomnmaa
