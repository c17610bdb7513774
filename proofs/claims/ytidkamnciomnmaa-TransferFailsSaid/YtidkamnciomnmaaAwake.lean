/-
  THE CONTRACT OF ferrymanlaw14.Awake.
-/
import Derived.Test.YtidkamnciomnmaaSend
import Derived.Deep.RegionWith
namespace Go.Proofs.Ytidkamnciomnmaa
open Go.RowKit Go.Maps Go.Lib

/-- another bank lies as it lay -/
theorem BankAt.other {W W' : World} {b mb n : Nat} {m : Bk.M} {mb' : Nat} (h : BankAt W b mb n m) (hg : W.grownBy W' (some mb')) (h1 : b ≠ mb') (h2 : mb ≠ mb') : BankAt W' b mb n m :=
  h.grown hg (fun e => h1 (Option.some.inj e)) (fun e => h2 (Option.some.inj e))
theorem Blk.other {W W' : World} {g : Nat} {t : TypeId} {cs : Array Value} {mb' : Nat} (h : Blk W g t cs) (hg : W.grownBy W' (some mb')) (h1 : g ≠ mb') : Blk W' g t cs := h.grown hg (fun e => h1 (Option.some.inj e))
theorem below_of_grown {w W W' : World} {mb : Nat} (hb : Below w.heap.size w W) (hg : W.grownBy W' (some mb)) (h : w.heap.size ≤ mb) : Below w.heap.size w W' :=
  hb.grown hg hb.size (fun j e => by cases e; exact h)

def pk0 : Pk7 := ⟨0, 0, 0, ⟨#[97, 116, 111, 109]⟩, 5, ⟨#[97]⟩, ⟨#[98]⟩⟩
theorem pk0_ok : pk0.ok := ⟨by decide, by decide, by decide, by decide⟩

def mx14 : Bk.M := [(([97], [97, 116, 111, 109]), 4), (([101, 115, 99, 114, 111, 119, 45, 48], [97, 116, 111, 109]), 5)]
def my14 : Bk.M := [(([98], [99, 104, 48, 47, 97, 116, 111, 109]), 5)]
set_option maxRecDepth 100000 in
theorem pk0_send : Bk.sendM [(([97], [97, 116, 111, 109]), 9)] pk0.chan pk0.den.data.toList pk0.amt pk0.src.data.toList pk0.dst.data.toList = (0, mx14) := by decide
set_option maxRecDepth 100000 in
theorem pk0_recv : Bk.recvM [] pk0.chan pk0.den.data.toList pk0.amt pk0.src.data.toList pk0.dst.data.toList = (0, my14) := by decide

set_option maxRecDepth 100000 in
theorem pk0_x : Bk.get mx14 ((⟨#[101, 115, 99, 114, 111, 119, 45, 48]⟩ : ByteArray).data.toList, (⟨#[97, 116, 111, 109]⟩ : ByteArray).data.toList) = 5 := by decide
set_option maxRecDepth 100000 in
theorem pk0_y : Bk.get my14 ((⟨#[98]⟩ : ByteArray).data.toList, (⟨#[99, 104, 48, 47, 97, 116, 111, 109]⟩ : ByteArray).data.toList) = 5 := by decide

set_option maxRecDepth 100000 in
set_option maxHeartbeats 1000000 in
theorem awake14_any (w : World) : Calls Try.prog 6 #[] w fun e w' => e = .returned (.bool true) ∧ Below w.heap.size w w' := by
  go_enter Try.func6, Try.ntmps6
  go_wp2_with fail
  refine (new_any _).mono ?_
  rintro e W1 ⟨rfl, hx, hb1, hs1⟩
  go_wp2_with fail
  refine (new_any _).mono ?_
  rintro e W2 ⟨rfl, hy, hb2, hs2⟩
  have hb02 := hb1.trans (hb2.mono hb1.size)
  have hx2 := hx.below hb2
  clear hx hb1 hb2
  rw [hs1] at hy hs2
  rw [hs1]
  go_wp2_with fail
  refine (give_any hx2 (by decide) ⟨#[97]⟩ ⟨#[97, 116, 111, 109]⟩ 9 (by decide) (by decide) (by decide)).mono ?_
  rintro e W3 ⟨v, rfl, _, hx3, hg3⟩
  rw [show Bk.give [] (⟨#[97]⟩ : ByteArray).data.toList (⟨#[97, 116, 111, 109]⟩ : ByteArray).data.toList 9 = (0, [(([97], [97, 116, 111, 109]), 9)]) by decide] at hx3
  have hy3 := hy.other hg3 (by omega) (by omega)
  have hb03 := below_of_grown hb02 hg3 (Nat.le_refl _)
  have hs3 := hg3.size
  clear hg3 hx2 hy hb02
  have hP4 : Blk (W3.alloc (.cells #[.int .i64 0, .int .u64 0, .int .u64 0, .string ⟨#[97, 116, 111, 109]⟩, .int .u64 5, .string ⟨#[97]⟩, .string ⟨#[98]⟩] 37)) W3.heap.size 37 #[.int .i64 0, .int .u64 0, .int .u64 0, .string ⟨#[97, 116, 111, 109]⟩, .int .u64 5, .string ⟨#[97]⟩, .string ⟨#[98]⟩] := Blk.new _ _ _
  have hx4 := hx3.alloc (.cells #[.int .i64 0, .int .u64 0, .int .u64 0, .string ⟨#[97, 116, 111, 109]⟩, .int .u64 5, .string ⟨#[97]⟩, .string ⟨#[98]⟩] 37)
  have hy4 := hy3.alloc (.cells #[.int .i64 0, .int .u64 0, .int .u64 0, .string ⟨#[97, 116, 111, 109]⟩, .int .u64 5, .string ⟨#[97]⟩, .string ⟨#[98]⟩] 37)
  have hb04 := hb03.alloc hb03.size (.cells #[.int .i64 0, .int .u64 0, .int .u64 0, .string ⟨#[97, 116, 111, 109]⟩, .int .u64 5, .string ⟨#[97]⟩, .string ⟨#[98]⟩] 37)
  go_wp2
  generalize W3.alloc (.cells #[.int .i64 0, .int .u64 0, .int .u64 0, .string ⟨#[97, 116, 111, 109]⟩, .int .u64 5, .string ⟨#[97]⟩, .string ⟨#[98]⟩] 37) = W4 at *
  obtain ⟨P, hP⟩ : ∃ P, P = W3.heap.size := ⟨_, rfl⟩
  rw [← hP] at hP4 ⊢
  have hPlt : w.heap.size + 4 ≤ P := by omega
  clear hP hx3 hy3 hb03 hs3 hs2 hs1
  have c := fun i => hP4.cell i
  have c0 := c 0
  have c1 := c 1
  have c2 := c 2
  have c3 := c 3
  have c4 := c 4
  have c5 := c 5
  have c6 := c 6
  clear c
  simp only [List.getElem?_toArray, List.getElem?_cons_zero, List.getElem?_cons_succ] at c0 c1 c2 c3 c4 c5 c6
  have Hs := Lib.hid (fun W (h : BankAt W (w.heap.size + 1) w.heap.size 1 [(([97], [97, 116, 111, 109]), 9)]) => send_any h (by decide) pk0 pk0_ok)
  have Hr := Lib.hid (fun W (h : BankAt W (w.heap.size + 2 + 1) (w.heap.size + 2) 0 []) => recv_any h (by decide) pk0 pk0_ok)
  simp only [pk0_send, pk0_recv] at Hs Hr
  go_region_with (first
    | (go_at_call 12; refine (Hs.out _ hx4.drew).mono ?_; rintro e W5 ⟨v5, rfl, he5, hx5, hg5⟩; obtain rfl := he5.zero; have hy5 := hy4.drew.other hg5 (by omega) (by omega); have hP5 := hP4.drew.other hg5 (by omega); have hb05 := below_of_grown (w := w) (W := W4.drew) (below_drewN' hb04 1) hg5 (Nat.le_refl _); have d0 := hP5.cell 0; have d1 := hP5.cell 1; have d2 := hP5.cell 2; have d3 := hP5.cell 3; have d4 := hP5.cell 4; have d5 := hP5.cell 5; have d6 := hP5.cell 6; simp only [List.getElem?_toArray, List.getElem?_cons_zero, List.getElem?_cons_succ] at d0 d1 d2 d3 d4 d5 d6)
    | (go_at_call 13; refine (Hr.out _ hy5).mono ?_; rintro e W6 ⟨v6, rfl, he6, hy6, hg6⟩; obtain rfl := he6.zero))
  all_goals
    have hx6 := hx5.other hg6 (by omega) (by omega)
    have hb06 := below_of_grown hb05 hg6 (by omega)
    have Hh1 := Lib.hid (has_any hx6 ⟨#[101, 115, 99, 114, 111, 119, 45, 48]⟩ ⟨#[97, 116, 111, 109]⟩ (by decide) (by decide))
    have Hh2 := Lib.hid (has_any hy6 ⟨#[98]⟩ ⟨#[99, 104, 48, 47, 97, 116, 111, 109]⟩ (by decide) (by decide))
    rw [pk0_x] at Hh1
    rw [pk0_y] at Hh2
    clear hx6 hy6
    clear c0 c1 c2 c3 c4 c5 c6 d0 d1 d2 d3 d4 d5 d6 Hs Hr hx4 hy4 hb04 hx5 hy5 hP4 hP5 hg5 hg6 hb05
    change Exit.then _ _ Exit.normal { tmps := #[.bool false, .pointer (some ⟨w.heap.size + 1, 0, none⟩), .pointer (some ⟨w.heap.size + 2 + 1, 0, none⟩), .pointer (some ⟨P, 0, none⟩), .nilIface, .nilIface, .pointer (some ⟨w.heap.size + 1, 0, none⟩), .pointer (some ⟨w.heap.size + 2 + 1, 0, none⟩), .pointer (some ⟨w.heap.size + 1, 0, none⟩), v, .agg #[.int .i64 0, .int .u64 0, .int .u64 0, .string ⟨#[97, 116, 111, 109]⟩, .int .u64 5, .string ⟨#[97]⟩, .string ⟨#[98]⟩], .pointer (some ⟨w.heap.size + 1, 0, none⟩), .agg #[.int .i64 0, .int .u64 0, .int .u64 0, .string ⟨#[97, 116, 111, 109]⟩, .int .u64 5, .string ⟨#[97]⟩, .string ⟨#[98]⟩], .nilIface, .pointer (some ⟨w.heap.size + 2 + 1, 0, none⟩), .agg #[.int .i64 0, .int .u64 0, .int .u64 0, .string ⟨#[97, 116, 111, 109]⟩, .int .u64 5, .string ⟨#[97]⟩, .string ⟨#[98]⟩], .nilIface, undef, undef, undef, undef, undef, undef, undef, undef, undef, undef, undef, undef, undef, undef, undef, undef], defers := [] } W6
    go_wp2_with fail
    refine Hh1.out.mono ?_
    rintro e W7 ⟨rfl, hW7⟩
    subst hW7
    go_wp2_with fail
    refine Hh2.out.mono ?_
    rintro e W7 ⟨rfl, hW7⟩
    subst hW7
    go_wp2
    go_ret
    exact ⟨rfl, hb06⟩
end Go.Proofs.Ytidkamnciomnmaa
