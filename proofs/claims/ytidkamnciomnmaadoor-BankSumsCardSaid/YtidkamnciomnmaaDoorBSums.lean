/-
  THE WALK OF ferrymanlaw12.BankSums.
-/
import Derived.Test.YtidkamnciomnmaaDoorBBack
import Derived.Test.YtidkamnciomnmaaDoorBkSum
import Derived.Test.YtidkamnciomnmaaDoorGrg
import Derived.StillTailTactics
namespace Go.Proofs.YtidkamnciomnmaaDoor
open Go.RowKit Go.Maps Go.Lib

def cap40 : Nat := 1099511627776
theorem cap40_eq : cap40 = 1099511627776 := rfl
theorem cap40_50 {nn t q : Nat} (hn : nn ≤ 50) (ht : t ≤ nn * cap40) (hq : q ≤ cap40) : t + q ≤ 18446744073709551615 := by
  have h1 : nn * cap40 ≤ 50 * cap40 := Nat.mul_le_mul_right _ hn
  have h2 : 50 * cap40 + cap40 ≤ 18446744073709551615 := by decide
  omega
theorem mod40 (n : Nat) : ∃ q : Nat, (n : Int) % 1099511627776 = (q : Int) ∧ q ≤ cap40 := ⟨n % 1099511627776, by omega, by rw [cap40_eq]; omega⟩
def sums3 (m : Bk.M) : Array Value := #[.int .u64 (Bk.tot (Bk.dk 0) m), .int .u64 (Bk.tot (Bk.dk 1) m), .int .u64 (Bk.tot (Bk.dk 2) m)]
theorem sums3_cell {w : World} {S : Nat} {m : Bk.M} (h : Blk w S 47 (sums3 m)) {k : Nat} (hk : k < 3) : w.cell? ⟨S, k, none⟩ = some (.int .u64 (Bk.tot (Bk.dk k) m)) := by
  have e : k = 0 ∨ k = 1 ∨ k = 2 := by omega
  rcases e with rfl | rfl | rfl <;> exact h.cell _
theorem sums3_set {m m' : Bk.M} {k : Nat} (hk : k < 3) {q : Nat} (h : ∀ j, j < 3 → Bk.tot (Bk.dk j) m' = Bk.tot (Bk.dk j) m + if Bk.dk k = Bk.dk j then q else 0) : (sums3 m).setIfInBounds k (.int .u64 ((Bk.tot (Bk.dk k) m : Int) + q)) = sums3 m' := by
  have h0 := h 0 (by decide)
  have h1 := h 1 (by decide)
  have h2 := h 2 (by decide)
  have e : k = 0 ∨ k = 1 ∨ k = 2 := by omega
  unfold sums3
  rcases e with rfl | rfl | rfl
  · rw [if_pos rfl] at h0
    rw [if_neg (by decide)] at h1 h2
    simp [h0, h1, h2]
  · rw [if_pos rfl] at h1
    rw [if_neg (by decide)] at h0 h2
    simp [h0, h1, h2]
  · rw [if_pos rfl] at h2
    rw [if_neg (by decide)] at h0 h1
    simp [h0, h1, h2]
def dkb (k : Nat) : UInt8 := UInt8.ofNat (120 + k)
theorem dkb_val {k : Nat} (hk : k < 3) : ((dkb k).toNat : Int) = 120 + (k : Int) := by
  have e : k = 0 ∨ k = 1 ∨ k = 2 := by omega
  rcases e with rfl | rfl | rfl <;> rfl
theorem dkb_sub {k : Nat} (hk : k < 3) : IntKind.u8.wrap (((dkb k).toNat : Int) - 120) = (k : Int) := by
  have e : k = 0 ∨ k = 1 ∨ k = 2 := by omega
  rcases e with rfl | rfl | rfl <;> rfl
theorem wadd64 {a b : Nat} (h : a + b ≤ 18446744073709551615) : IntKind.u64.wrap ((a : Int) + b) = (a : Int) + b := by
  simp [IntKind.wrap, IntKind.bits, IntKind.signed]
  omega
theorem eql3 (a b c : Nat) (w : World) : (binOp .eql 47 (.agg #[.int .u64 a, .int .u64 b, .int .u64 c]) (.agg #[.int .u64 a, .int .u64 b, .int .u64 c])).run Tryd.prog w = .ok (.bool true) w := by
  have u3 := Tryd.underlying30
  have a3 := Tryd.isAgg30
  have z3 := Tryd.sizeOf30
  rw [run_eql_struct, show (10000 : Nat) = 9999 + 1 from rfl, Op.equalIn]
  simp only [Sem.run_bind, run_underlying Tryd.underlying47, Result.andThen_ok]
  simp only [Std.Legacy.Range.forIn_eq_forIn_range', Std.Legacy.Range.size, Nat.sub_zero, Nat.add_sub_cancel, Nat.div_one, List.range'_succ, List.range'_zero, List.forIn_cons, List.forIn_nil]
  go_simp
theorem CoinsAt.cells {w : World} {base : Nat} {p : Option Addr} {n cap : Nat} {l : Bk.M} (h : CoinsAt w base (.slice p n cap) l) {i : Nat} (hi : i < l.length) :
    ∃ g, p = some ⟨g, 0, none⟩ ∧ base ≤ g ∧ w.cell? ⟨g, i * 3, none⟩ = some (.string ⟨l[i].1.1.toArray⟩) ∧ w.cell? ⟨g, i * 3 + 1, none⟩ = some (.string ⟨l[i].1.2.toArray⟩) ∧ w.cell? ⟨g, i * 3 + 2, none⟩ = some (.int .u64 l[i].2) := by
  rcases h with ⟨rfl, _⟩ | ⟨g, cap', h1, h2, h3, h4, h5⟩
  · exact absurd hi (Nat.not_lt_zero _)
  · injection h4 with e1 e2 e3
    exact ⟨g, e1, h2, h5 i hi 0 (by decide), h5 i hi 1 (by decide), h5 i hi 2 (by decide)⟩
theorem dn_dk (d : Nat) : (dn d).data.toList = Bk.dk (d % 3) := rfl
theorem n3 (d : Nat) : ((d : Int) % 3).toNat = d % 3 := by omega
theorem i3 (d : Nat) : (d : Int) % 3 < 3 := Int.emod_lt_of_pos (d : Int) (by decide)

def PhiS9 (b g : Nat) (x : Act12) (q i : Nat) (t : Nat) (W : World) (v : Value) : Prop :=
  match t with
  | 29 => v = .int .i64 i
  | 30 => v = .bool true
  | 31 => v = .bool true
  | 32 => v = .pointer (some ⟨b, 0, none⟩)
  | 33 => v = .pointer (some ⟨g, 1, none⟩)
  | 34 => v = .int .u8 x.a
  | 35 => v = .int .u8 ((x.a : Int) % 15)
  | 36 => v = .string (nameS (x.a % 15) ⟨#[]⟩)
  | 37 => v = .pointer (some ⟨g, 3, none⟩)
  | 38 => v = .int .u8 x.d
  | 39 => v = .int .u8 ((x.d : Int) % 3)
  | 40 => v = .int .u8 (120 + (x.d : Int) % 3)
  | 41 => ∃ h, v = .slice (some ⟨h, 0, none⟩) 1 1 ∧ Blk W h 5 #[.int .u8 (120 + (x.d : Int) % 3)]
  | 42 => v = .string (dn x.d)
  | 43 => v = .int .u64 q
  | _ => True
theorem PhiS9_stable (b g : Nat) (x : Act12) (q i : Nat) (t : Nat) (W W' : World) (v : Value) (h : PhiS9 b g x q i t W v) (hb : Below W.heap.size W W') : PhiS9 b g x q i t W' v := by
  unfold PhiS9 at h ⊢
  split at h
  all_goals first
    | exact h
    | (obtain ⟨k, e, hk⟩ := h
       exact ⟨k, e, hk.below hb hk.lt⟩)
def PhiS19 (b g : Nat) (x : Act12) (z : Nat) (t : Nat) (W : World) (v : Value) : Prop :=
  match t with
  | 73 => v = .pointer (some ⟨b, 0, none⟩)
  | 74 => v = .pointer (some ⟨g, 1, none⟩)
  | 75 => v = .int .u8 x.a
  | 76 => v = .int .u8 ((x.a : Int) % 15)
  | 77 => v = .string (nameS (x.a % 15) ⟨#[]⟩)
  | 78 => v = .pointer (some ⟨g, 2, none⟩)
  | 79 => v = .int .u8 x.b
  | 80 => v = .int .u8 ((x.b : Int) % 15)
  | 81 => v = .string (nameS (x.b % 15) ⟨#[]⟩)
  | 82 => v = .pointer (some ⟨g, 3, none⟩)
  | 83 => v = .int .u8 x.d
  | 84 => v = .int .u8 ((x.d : Int) % 3)
  | 85 => v = .int .u8 (120 + (x.d : Int) % 3)
  | 86 => ∃ h, v = .slice (some ⟨h, 0, none⟩) 1 1 ∧ Blk W h 5 #[.int .u8 (120 + (x.d : Int) % 3)]
  | 87 => v = .string (dn x.d)
  | 88 => v = .int .u64 z
  | _ => True
theorem PhiS19_stable (b g : Nat) (x : Act12) (z : Nat) (t : Nat) (W W' : World) (v : Value) (h : PhiS19 b g x z t W v) (hb : Below W.heap.size W W') : PhiS19 b g x z t W' v := by
  unfold PhiS19 at h ⊢
  split at h
  all_goals first
    | exact h
    | (obtain ⟨k, e, hk⟩ := h
       exact ⟨k, e, hk.below hb hk.lt⟩)
def PhiS27 (g N kd x tt : Nat) (dd : Bk.S) (t : Nat) (W : World) (v : Value) : Prop :=
  match t with
  | 107 => v = .pointer (some ⟨g, 1, none⟩)
  | 108 => v = .string ⟨#[dkb kd]⟩
  | 109 => v = .int .u8 ((dkb kd).toNat : Int)
  | 110 => v = .int .u8 kd
  | 111 => v = .pointer (some ⟨N, kd, none⟩)
  | 112 => v = .int .u64 tt
  | 113 => v = .pointer (some ⟨g, 2, none⟩)
  | 114 => v = .int .u64 x
  | 115 => v = .int .u64 ((tt : Int) + x)
  | 116 => v = .pointer (some ⟨N, kd, none⟩)
  | _ => True
theorem PhiS27_stable (g N kd x tt : Nat) (dd : Bk.S) (t : Nat) (W W' : World) (v : Value) (h : PhiS27 g N kd x tt dd t W v) (hb : Below W.heap.size W W') : PhiS27 g N kd x tt dd t W' v := by
  unfold PhiS27 at h ⊢
  split at h
  all_goals first
    | exact h
    | (obtain ⟨k, e, hk⟩ := h
       exact ⟨k, e, hk.below hb hk.lt⟩)

theorem grown_cell' (W : World) (g i : Nat) (v : Value) : W.grownBy (W.setCell ⟨g, i, none⟩ v) (some g) :=
  ⟨rfl, rfl, rfl, by simp [World.setCell], fun k _ hk => Below.heap_setCell _ _ _ k (fun e => hk (by rw [e]))⟩

set_option maxRecDepth 100000 in
set_option maxHeartbeats 4000000 in
theorem bsums_walk (aa : Option Addr) (len cap : Nat) (bb : Option Addr) (len2 cap2 : Nat) (w : World) (h : ActsIn w aa len) (hl : len ≤ maxLen) (h2 : ActsIn w bb len2) (hl2 : len2 ≤ maxLen) (hh : Handle w) :
    Calls Tryd.prog 4 #[.slice aa len cap, .slice bb len2 cap2] w fun e w' => e = .returned (.bool true) ∧ Below w.heap.size w w' := by
  have Hh := Lib.hid h
  have Hh2 := Lib.hid h2
  have haw := awake12_any w hh
  unfold maxLen at hl hl2
  clear h h2 hh
  go_enter Tryd.func4, Tryd.ntmps4
  go_wp2_with fail
  refine haw.mono ?_
  rintro e W1 ⟨rfl, hb1⟩
  clear haw
  go_wp2_with fail
  refine (new_any _).mono ?_
  rintro e W2 ⟨rfl, hB2, hb2, hs2⟩
  obtain ⟨mx, hmx⟩ : ∃ mx, mx = W1.heap.size := ⟨_, rfl⟩
  have hwm : w.heap.size ≤ mx := hmx ▸ hb1.size
  have hb02 := hb1.trans (hb2.mono hb1.size)
  rw [← hmx] at hB2 hs2 ⊢
  clear hb1 hb2 hmx
  have hS2 : Blk (W2.alloc (.cells #[.int .u64 0, .int .u64 0, .int .u64 0] 47)) W2.heap.size 47 (sums3 []) := Blk.new _ _ _
  have hB3 := hB2.alloc (.cells #[.int .u64 0, .int .u64 0, .int .u64 0] 47)
  have hb03 := hb02.alloc hb02.size (.cells #[.int .u64 0, .int .u64 0, .int .u64 0] 47)
  rw [hs2] at hS2
  clear hB2 hb02
  go_wp2
  obtain ⟨S, hS⟩ : ∃ S, S = mx + 2 := ⟨_, rfl⟩
  rw [← hS] at hS2 ⊢
  have hSm : mx < S ∧ mx + 1 < S ∧ w.heap.size ≤ S := by omega
  obtain ⟨hSm1, hSm2, hSm3⟩ := hSm
  clear hS hs2
  go_loopw [21] (fun v wr => ∃ (i nn : Nat) (m : Bk.M), v = .int .i64 i ∧ i ≤ len ∧ nn ≤ i ∧ nn ≤ 50 ∧ BankAt wr (mx + 1) mx nn m ∧ Below w.heap.size w wr ∧ Blk wr S 47 (sums3 m) ∧ Bk.AllD m ∧ ∀ k, Bk.tot (Bk.dk k) m ≤ nn * cap40) (fun v _ => len - (intOf v).toNat)
  case atStart => exact ⟨0, 0, [], rfl, Nat.zero_le _, Nat.le_refl _, by decide, hB3, hb03, hS2, Bk.AllD.nil, fun k => Nat.zero_le _⟩
  case round =>
    obtain ⟨i, nn, m, rfl, hi, hni, hn50, hBr, hbr, hSr, had, hT⟩ := hrel
    by_cases hil : i < len
    · obtain ⟨ad, rfl, hadl, y, hy, c0, c1, c2, c3, c4, c5⟩ := (Hh.out.below hbr) i hil
      have Hy := Lib.hid hy
      have hA1 : Blk (wr.alloc (.cells (enc12 y) 32)) wr.heap.size 32 (enc12 y) := Blk.new _ _ _
      have hB1 := hBr.alloc (.cells (enc12 y) 32)
      have hb1 := hbr.alloc hbr.size (.cells (enc12 y) 32)
      have hS1 := hSr.alloc (.cells (enc12 y) 32)
      have hSg : S < wr.heap.size := hSr.lt
      simp only [enc12] at hA1 hB1 hb1 hS1
      clear hBr hbr hSr hB3 hb03 hS2
      obtain ⟨q, hq, hq40⟩ := mod40 y.n
      by_cases h50 : (i : Int) < 50
      · go_wp2_with fail
        simp only [hq]
        clear hq
        have hsz1 := hA1.lt
        generalize wr.alloc (.cells #[.int .u8 y.kind, .int .u8 y.a, .int .u8 y.b, .int .u8 y.d, .string y.raw, .int .u64 y.n] 32) = W0 at *
        generalize wr.heap.size = g at *
        refine wp_region_growG 15 (PhiS9 (mx + 1) g y q i) (by kernel_rfl) (PhiS9_stable (mx + 1) g y q i) (by kernel_rfl) (by kernel_rfl) ?hstep ?hQ
        case hstep =>
          have hA0 := hA1
          simp only [List.take_succ_cons, List.take_zero]
          refine List.forall_mem_cons.2 ⟨?_, List.forall_mem_cons.2 ⟨?_, List.forall_mem_cons.2 ⟨?_, List.forall_mem_cons.2 ⟨?_, List.forall_mem_cons.2 ⟨?_, List.forall_mem_cons.2 ⟨?_, List.forall_mem_cons.2 ⟨?_, List.forall_mem_cons.2 ⟨?_, List.forall_mem_cons.2 ⟨?_, List.forall_mem_cons.2 ⟨?_, List.forall_mem_cons.2 ⟨?_, List.forall_mem_cons.2 ⟨?_, List.forall_mem_cons.2 ⟨?_, List.forall_mem_cons.2 ⟨?_, List.forall_mem_cons.2 ⟨?_, fun _ h => absurd h List.not_mem_nil⟩⟩⟩⟩⟩⟩⟩⟩⟩⟩⟩⟩⟩⟩⟩
          · intro a' W hb hL
            obtain ⟨ρ, hρ⟩ : ∃ ρ, a'.eval = ρ := ⟨_, rfl⟩
            have hcst : ∀ v, ρ (.const v) = v := fun v => by rw [← hρ]; rfl
            have hfnc : ∀ f, ρ (.func f) = .func (.func f) #[] #[] := fun f => by rw [← hρ]; rfl
            have hsz := hb.size
            have h7 : a'.eval (.tmp 7) = .int .i64 i := hL.free 7 (free_of (by kernel_rfl))
            rw [hρ] at h7
            refine StepG.plain rfl ?_
            exact .val ⟨.int .i64 i, W, by rw [hρ]; simp [go_sem, hcst, h7], Below.refl _ _, fun t ht => by cases ht; rfl⟩
          · intro a' W hb hL
            obtain ⟨ρ, hρ⟩ : ∃ ρ, a'.eval = ρ := ⟨_, rfl⟩
            have hcst : ∀ v, ρ (.const v) = v := fun v => by rw [← hρ]; rfl
            have hfnc : ∀ f, ρ (.func f) = .func (.func f) #[] #[] := fun f => by rw [← hρ]; rfl
            have hsz := hb.size
            have h29 := hL.get 29 (by simp [Op.operands, Call.operands]) (by kernel_rfl)
            rw [hρ] at h29
            simp only [PhiS9] at h29
            refine StepG.plain rfl ?_
            have h50' : decide ((i : Int) < 50) = true := decide_eq_true h50
            exact .val ⟨.bool true, W, by rw [hρ]; simp [go_sem, hcst, h29, h50'], Below.refl _ _, fun t ht => by cases ht; rfl⟩
          · intro a' W hb hL
            obtain ⟨ρ, hρ⟩ : ∃ ρ, a'.eval = ρ := ⟨_, rfl⟩
            have hcst : ∀ v, ρ (.const v) = v := fun v => by rw [← hρ]; rfl
            have hfnc : ∀ f, ρ (.func f) = .func (.func f) #[] #[] := fun f => by rw [← hρ]; rfl
            have hsz := hb.size
            have h30 := hL.get 30 (by simp [Op.operands, Call.operands]) (by kernel_rfl)
            rw [hρ] at h30
            simp only [PhiS9] at h30
            refine StepG.plain rfl ?_
            exact .val ⟨.bool true, W, by rw [hρ]; simp [go_sem, hcst, h30], Below.refl _ _, fun t ht => by cases ht; rfl⟩
          · intro a' W hb hL
            obtain ⟨ρ, hρ⟩ : ∃ ρ, a'.eval = ρ := ⟨_, rfl⟩
            have hcst : ∀ v, ρ (.const v) = v := fun v => by rw [← hρ]; rfl
            have hfnc : ∀ f, ρ (.func f) = .func (.func f) #[] #[] := fun f => by rw [← hρ]; rfl
            have hsz := hb.size
            have h5 : a'.eval (.tmp 5) = .pointer (some ⟨mx + 1, 0, none⟩) := hL.free 5 (free_of (by kernel_rfl))
            rw [hρ] at h5
            refine StepG.on hL (j := 2) (s := 31) (b := true) rfl (by kernel_rfl) (Nat.le_of_ble_eq_true (by kernel_rfl)) (by kernel_rfl) (fun _ h => h) ?_
            exact .val ⟨.pointer (some ⟨mx + 1, 0, none⟩), W, by rw [hρ]; simp [go_sem, hcst, h5], Below.refl _ _, fun t ht => by cases ht; rfl⟩
          · intro a' W hb hL
            obtain ⟨ρ, hρ⟩ : ∃ ρ, a'.eval = ρ := ⟨_, rfl⟩
            have hcst : ∀ v, ρ (.const v) = v := fun v => by rw [← hρ]; rfl
            have hfnc : ∀ f, ρ (.func f) = .func (.func f) #[] #[] := fun f => by rw [← hρ]; rfl
            have hsz := hb.size
            have h8 : a'.eval (.tmp 8) = .pointer (some ⟨g, 0, none⟩) := hL.free 8 (free_of (by kernel_rfl))
            rw [hρ] at h8
            refine StepG.on hL (j := 2) (s := 31) (b := true) rfl (by kernel_rfl) (Nat.le_of_ble_eq_true (by kernel_rfl)) (by kernel_rfl) (fun _ h => h) ?_
            exact .val ⟨.pointer (some ⟨g, 1, none⟩), W, by rw [hρ]; simp [go_sem, hcst, h8], Below.refl _ _, fun t ht => by cases ht; rfl⟩
          · intro a' W hb hL
            obtain ⟨ρ, hρ⟩ : ∃ ρ, a'.eval = ρ := ⟨_, rfl⟩
            have hcst : ∀ v, ρ (.const v) = v := fun v => by rw [← hρ]; rfl
            have hfnc : ∀ f, ρ (.func f) = .func (.func f) #[] #[] := fun f => by rw [← hρ]; rfl
            have hsz := hb.size
            have h33 := hL.get 33 (by simp [Op.operands, Call.operands]) (by kernel_rfl)
            rw [hρ] at h33
            simp only [PhiS9] at h33
            refine StepG.on hL (j := 2) (s := 31) (b := true) rfl (by kernel_rfl) (Nat.le_of_ble_eq_true (by kernel_rfl)) (by kernel_rfl) (fun _ h => h) ?_
            have hA := hA0.below hb hA0.lt
            have c := hA.cell 1
            simp only [List.getElem?_toArray, List.getElem?_cons_zero, List.getElem?_cons_succ] at c
            exact .val ⟨.int .u8 y.a, W, by rw [hρ]; simp [go_sem, hcst, h33, c], Below.refl _ _, fun t ht => by cases ht; rfl⟩
          · intro a' W hb hL
            obtain ⟨ρ, hρ⟩ : ∃ ρ, a'.eval = ρ := ⟨_, rfl⟩
            have hcst : ∀ v, ρ (.const v) = v := fun v => by rw [← hρ]; rfl
            have hfnc : ∀ f, ρ (.func f) = .func (.func f) #[] #[] := fun f => by rw [← hρ]; rfl
            have hsz := hb.size
            have h34 := hL.get 34 (by simp [Op.operands, Call.operands]) (by kernel_rfl)
            rw [hρ] at h34
            simp only [PhiS9] at h34
            refine StepG.on hL (j := 2) (s := 31) (b := true) rfl (by kernel_rfl) (Nat.le_of_ble_eq_true (by kernel_rfl)) (by kernel_rfl) (fun _ h => h) ?_
            exact .val ⟨.int .u8 ((y.a : Int) % 15), W, by rw [hρ]; simp [go_sem, hcst, h34, tm15 y.a], Below.refl _ _, fun t ht => by cases ht; rfl⟩
          · intro a' W hb hL
            obtain ⟨ρ, hρ⟩ : ∃ ρ, a'.eval = ρ := ⟨_, rfl⟩
            have hcst : ∀ v, ρ (.const v) = v := fun v => by rw [← hρ]; rfl
            have hfnc : ∀ f, ρ (.func f) = .func (.func f) #[] #[] := fun f => by rw [← hρ]; rfl
            have hsz := hb.size
            have h35 := hL.get 35 (by simp [Op.operands, Call.operands]) (by kernel_rfl)
            rw [hρ] at h35
            simp only [PhiS9] at h35
            refine StepG.on hL (j := 2) (s := 31) (b := true) rfl (by kernel_rfl) (Nat.le_of_ble_eq_true (by kernel_rfl)) (by kernel_rfl) (fun _ h => h) ?_
            refine .call ⟨10, #[.int .u8 ((y.a : Int) % 15), .string ⟨#[]⟩], W, by rw [hρ]; simp [go_sem, hcst, hfnc, h35], ?_⟩
            rw [show ((y.a : Int) % 15) = ((y.a % 15 : Nat) : Int) by omega]
            exact (name12_any (y.a % 15) (by omega) _ W).mono fun e W' ⟨he, hb'⟩ => ⟨_, he, hb', fun t ht => by cases ht; rfl⟩
          · intro a' W hb hL
            obtain ⟨ρ, hρ⟩ : ∃ ρ, a'.eval = ρ := ⟨_, rfl⟩
            have hcst : ∀ v, ρ (.const v) = v := fun v => by rw [← hρ]; rfl
            have hfnc : ∀ f, ρ (.func f) = .func (.func f) #[] #[] := fun f => by rw [← hρ]; rfl
            have hsz := hb.size
            have h8 : a'.eval (.tmp 8) = .pointer (some ⟨g, 0, none⟩) := hL.free 8 (free_of (by kernel_rfl))
            rw [hρ] at h8
            refine StepG.on hL (j := 2) (s := 31) (b := true) rfl (by kernel_rfl) (Nat.le_of_ble_eq_true (by kernel_rfl)) (by kernel_rfl) (fun _ h => h) ?_
            exact .val ⟨.pointer (some ⟨g, 3, none⟩), W, by rw [hρ]; simp [go_sem, hcst, h8], Below.refl _ _, fun t ht => by cases ht; rfl⟩
          · intro a' W hb hL
            obtain ⟨ρ, hρ⟩ : ∃ ρ, a'.eval = ρ := ⟨_, rfl⟩
            have hcst : ∀ v, ρ (.const v) = v := fun v => by rw [← hρ]; rfl
            have hfnc : ∀ f, ρ (.func f) = .func (.func f) #[] #[] := fun f => by rw [← hρ]; rfl
            have hsz := hb.size
            have h37 := hL.get 37 (by simp [Op.operands, Call.operands]) (by kernel_rfl)
            rw [hρ] at h37
            simp only [PhiS9] at h37
            refine StepG.on hL (j := 2) (s := 31) (b := true) rfl (by kernel_rfl) (Nat.le_of_ble_eq_true (by kernel_rfl)) (by kernel_rfl) (fun _ h => h) ?_
            have hA := hA0.below hb hA0.lt
            have c := hA.cell 3
            simp only [List.getElem?_toArray, List.getElem?_cons_zero, List.getElem?_cons_succ] at c
            exact .val ⟨.int .u8 y.d, W, by rw [hρ]; simp [go_sem, hcst, h37, c], Below.refl _ _, fun t ht => by cases ht; rfl⟩
          · intro a' W hb hL
            obtain ⟨ρ, hρ⟩ : ∃ ρ, a'.eval = ρ := ⟨_, rfl⟩
            have hcst : ∀ v, ρ (.const v) = v := fun v => by rw [← hρ]; rfl
            have hfnc : ∀ f, ρ (.func f) = .func (.func f) #[] #[] := fun f => by rw [← hρ]; rfl
            have hsz := hb.size
            have h38 := hL.get 38 (by simp [Op.operands, Call.operands]) (by kernel_rfl)
            rw [hρ] at h38
            simp only [PhiS9] at h38
            refine StepG.on hL (j := 2) (s := 31) (b := true) rfl (by kernel_rfl) (Nat.le_of_ble_eq_true (by kernel_rfl)) (by kernel_rfl) (fun _ h => h) ?_
            exact .val ⟨.int .u8 ((y.d : Int) % 3), W, by rw [hρ]; simp [go_sem, hcst, h38, tm3 y.d], Below.refl _ _, fun t ht => by cases ht; rfl⟩
          · intro a' W hb hL
            obtain ⟨ρ, hρ⟩ : ∃ ρ, a'.eval = ρ := ⟨_, rfl⟩
            have hcst : ∀ v, ρ (.const v) = v := fun v => by rw [← hρ]; rfl
            have hfnc : ∀ f, ρ (.func f) = .func (.func f) #[] #[] := fun f => by rw [← hρ]; rfl
            have hsz := hb.size
            have h39 := hL.get 39 (by simp [Op.operands, Call.operands]) (by kernel_rfl)
            rw [hρ] at h39
            simp only [PhiS9] at h39
            refine StepG.on hL (j := 2) (s := 31) (b := true) rfl (by kernel_rfl) (Nat.le_of_ble_eq_true (by kernel_rfl)) (by kernel_rfl) (fun _ h => h) ?_
            exact .val ⟨.int .u8 (120 + (y.d : Int) % 3), W, by rw [hρ]; simp [go_sem, hcst, h39, wr120 y.d], Below.refl _ _, fun t ht => by cases ht; rfl⟩
          · intro a' W hb hL
            obtain ⟨ρ, hρ⟩ : ∃ ρ, a'.eval = ρ := ⟨_, rfl⟩
            have hcst : ∀ v, ρ (.const v) = v := fun v => by rw [← hρ]; rfl
            have hfnc : ∀ f, ρ (.func f) = .func (.func f) #[] #[] := fun f => by rw [← hρ]; rfl
            have hsz := hb.size
            have h40 := hL.get 40 (by simp [Op.operands, Call.operands]) (by kernel_rfl)
            rw [hρ] at h40
            simp only [PhiS9] at h40
            refine StepG.on hL (j := 2) (s := 31) (b := true) rfl (by kernel_rfl) (Nat.le_of_ble_eq_true (by kernel_rfl)) (by kernel_rfl) (fun _ h => h) ?_
            exact .val ⟨.slice (some ⟨W.heap.size, 0, none⟩) 1 1, W.alloc (.cells #[.int .u8 (120 + (y.d : Int) % 3)] 5), by rw [hρ]; simp [go_sem, hcst, h40], (Below.refl _ _).alloc (Nat.le_refl _) _, fun t ht => by cases ht; exact ⟨_, rfl, Blk.new _ _ _⟩⟩
          · intro a' W hb hL
            obtain ⟨ρ, hρ⟩ : ∃ ρ, a'.eval = ρ := ⟨_, rfl⟩
            have hcst : ∀ v, ρ (.const v) = v := fun v => by rw [← hρ]; rfl
            have hfnc : ∀ f, ρ (.func f) = .func (.func f) #[] #[] := fun f => by rw [← hρ]; rfl
            have hsz := hb.size
            have h41 := hL.get 41 (by simp [Op.operands, Call.operands]) (by kernel_rfl)
            rw [hρ] at h41
            simp only [PhiS9] at h41
            refine StepG.on hL (j := 2) (s := 31) (b := true) rfl (by kernel_rfl) (Nat.le_of_ble_eq_true (by kernel_rfl)) (by kernel_rfl) (fun _ h => h) ?_
            obtain ⟨h, h41, hk⟩ := h41
            have hcv := conv_dn y.d hk
            exact .val ⟨.string (dn y.d), W, by rw [hρ]; simp [go_sem, hcst, h41, hcv], Below.refl _ _, fun t ht => by cases ht; rfl⟩
          · intro a' W hb hL
            obtain ⟨ρ, hρ⟩ : ∃ ρ, a'.eval = ρ := ⟨_, rfl⟩
            have hcst : ∀ v, ρ (.const v) = v := fun v => by rw [← hρ]; rfl
            have hfnc : ∀ f, ρ (.func f) = .func (.func f) #[] #[] := fun f => by rw [← hρ]; rfl
            have hsz := hb.size
            have h9 : a'.eval (.tmp 9) = .int .u64 q := hL.free 9 (free_of (by kernel_rfl))
            rw [hρ] at h9
            refine StepG.on hL (j := 2) (s := 31) (b := true) rfl (by kernel_rfl) (Nat.le_of_ble_eq_true (by kernel_rfl)) (by kernel_rfl) (fun _ h => h) ?_
            exact .val ⟨.int .u64 q, W, by rw [hρ]; simp [go_sem, hcst, h9], Below.refl _ _, fun t ht => by cases ht; rfl⟩
        case hQ =>
          intro ys W hlen hb hY
          obtain ⟨y0, ys0, rfl, hl0⟩ := cons_of' hlen
          obtain ⟨y1, ys1, rfl, hl1⟩ := cons_of' hl0
          obtain ⟨y2, ys2, rfl, hl2⟩ := cons_of' hl1
          obtain ⟨y3, ys3, rfl, hl3⟩ := cons_of' hl2
          obtain ⟨y4, ys4, rfl, hl4⟩ := cons_of' hl3
          obtain ⟨y5, ys5, rfl, hl5⟩ := cons_of' hl4
          obtain ⟨y6, ys6, rfl, hl6⟩ := cons_of' hl5
          obtain ⟨y7, ys7, rfl, hl7⟩ := cons_of' hl6
          obtain ⟨y8, ys8, rfl, hl8⟩ := cons_of' hl7
          obtain ⟨y9, ys9, rfl, hl9⟩ := cons_of' hl8
          obtain ⟨y10, ys10, rfl, hl10⟩ := cons_of' hl9
          obtain ⟨y11, ys11, rfl, hl11⟩ := cons_of' hl10
          obtain ⟨y12, ys12, rfl, hl12⟩ := cons_of' hl11
          obtain ⟨y13, ys13, rfl, hl13⟩ := cons_of' hl12
          obtain ⟨y14, ys14, rfl, hl14⟩ := cons_of' hl13
          obtain rfl := List.length_eq_zero_iff.1 hl14
          simp only [List.take_succ_cons, List.take_zero, List.drop_succ_cons, List.drop_zero, List.zip_cons_cons, List.zip_nil_left, List.zip_nil_right, List.foldl_cons, List.foldl_nil, Act.put, HoldsY, PhiS9] at hY ⊢
          clear hlen hl0 hl1 hl2 hl3 hl4 hl5 hl6 hl7 hl8 hl9 hl10 hl11 hl12 hl13 hl14
          simp only [List.setIfInBounds_toArray, List.set_cons_succ, List.set_cons_zero]
          obtain ⟨rfl, rfl, rfl, rfl, rfl, rfl, rfl, rfl, rfl, rfl, rfl, rfl, ⟨hh, rfl, _⟩, rfl, rfl, _⟩ := hY

          have Hg := Lib.hid (give_any (hB1.below hb) (by simp only [maxLen]; omega) (nameS (y.a % 15) ⟨#[]⟩) (dn y.d) q (nameS_size _ (by decide) (by decide)) (by rw [dn_size]; decide) (Nat.le_trans hq40 (by decide)))
          have Hgf := Lib.hid (fun h => Bk.give_fails (m := m) (a := (nameS (y.a % 15) ⟨#[]⟩).data.toList) (d := (dn y.d).data.toList) (n := q) h)
          have Htg := Lib.hid (fun h => Bk.tot_give (a := (nameS (y.a % 15) ⟨#[]⟩).data.toList) (d := (dn y.d).data.toList) (n := q) hB1.fine h)
          have HaD := Lib.hid (had.give (nameS (y.a % 15) ⟨#[]⟩).data.toList (k := y.d % 3) (by omega) q)
          rw [← dn_dk] at HaD
          have hb01 := hb1.trans (hb.mono hb1.size)
          have hS1 := hS1.below hb hS1.lt
          have hA1 := hA1.below hb hA1.lt
          have hfin := hB1.fine
          clear hB1 hb1 hb
          generalize Bk.give m (nameS (y.a % 15) ⟨#[]⟩).data.toList (dn y.d).data.toList q = r at *
          go_wp2_with fail
          refine Hg.out.mono ?_
          rintro e W3 ⟨v, rfl, he3, hB3, hg3⟩
          have hb3 := below_of_grown hb01 hg3 (by omega)
          have hS3 := hS1.other hg3 (by omega)
          have hA3 := hA1.other hg3 (by omega)
          clear Hg hb01 hg3 hS1 hA1
          by_cases hr : r.1 = 0
          · rw [hr] at he3
            obtain rfl := he3.zero
            have htg := Htg.out hr
            have c3 := hA3.cell 3
            simp only [List.getElem?_toArray, List.getElem?_cons_zero, List.getElem?_cons_succ] at c3
            have hd3 : y.d % 3 < 3 := by omega
            have cS := sums3_cell hS3 hd3
            have fS := hS3.frozen (y.d % 3)
            have hn3 := n3 y.d
            have hi3 := i3 y.d
            have hto := cap40_50 hn50 (hT (y.d % 3)) hq40
            have Hset := Lib.hid (sums3_set (m := m) (m' := r.2) hd3 (q := q) (fun j _ => htg (Bk.dk j)))
            have HS := Lib.hid (hS3.set_ (y.d % 3) (.int .u64 ((Bk.tot (Bk.dk (y.d % 3)) m : Int) + q)))
            have HT := Lib.hid (fun j => htg (Bk.dk j))
            have HB := Lib.hid (hB3.grown (grown_cell' W3 S (y.d % 3) (.int .u64 ((Bk.tot (Bk.dk (y.d % 3)) m : Int) + q))) (fun e => by cases e; omega) (fun e => by cases e; omega))
            have hb4 := hb3.setCell (p := ⟨S, y.d % 3, none⟩) (by show w.heap.size ≤ S; omega) (.int .u64 ((Bk.tot (Bk.dk (y.d % 3)) m : Int) + q))
            clear he3 htg hr hS3 hA3 hB3 hb3 Hgf Htg
            go_wp2
            rw [Hset.out] at HS
            refine ⟨⟨i + 1, nn + 1, r.2, rfl, hil, by omega, by omega, HB.out, hb4, HS.out, HaD.out, fun j => ?_⟩, ?_⟩
            · have h1 := hT j
              have h2 : (nn + 1) * cap40 = nn * cap40 + cap40 := Nat.succ_mul _ _
              rw [HT.out j, h2]
              split
              · exact Nat.add_le_add h1 hq40
              · exact Nat.le_trans h1 (Nat.le_add_right _ _)
            · show len - ((i : Int) + 1).toNat < len - (i : Int).toNat
              omega
          · obtain ⟨t4, x4, rfl⟩ := he3.some hr
            have hm : r.2 = m := Hgf.out hr
            rw [hm] at hB3
            clear he3 hr hm hA3 Hgf Htg HaD
            go_wp2
            refine ⟨⟨i + 1, nn + 1, m, rfl, hil, by omega, by omega, hB3, hb3, hS3, had, fun j => ?_⟩, ?_⟩
            · have h1 := hT j
              have h2 : (nn + 1) * cap40 = nn * cap40 + cap40 := Nat.succ_mul _ _
              rw [h2]
              exact Nat.le_trans h1 (Nat.le_add_right _ _)
            · show len - ((i : Int) + 1).toNat < len - (i : Int).toNat
              omega

      · have hd : decide ((i : Int) < 50) = false := decide_eq_false h50
        clear h50
        go_wp2_with fail
        go_quiet (fail)
        go_wp2_with fail
        refine ⟨⟨i + 1, nn, m, rfl, hil, by omega, hn50, hB1.drewN _, below_drewN' hb1 _, hS1.drewN _, had, hT⟩, ?_⟩
        show len - ((i : Int) + 1).toNat < len - (i : Int).toNat
        omega
    · clear hB3 hb03 hS2
      go_wp2
      go_loopw [58] (fun v wr => ∃ (i nn : Nat) (m1 : Bk.M), v = .int .i64 i ∧ i ≤ len2 ∧ i ≤ 51 ∧ nn ≤ 50 + 3 * i ∧ BankAt wr (mx + 1) mx nn m1 ∧ Below w.heap.size w wr ∧ Blk wr S 47 (sums3 m) ∧ Bk.AllD m1 ∧ ∀ d, Bk.tot d m1 = Bk.tot d m) (fun v _ => len2 - (intOf v).toNat)
      case atStart => exact ⟨0, nn, m, rfl, Nat.zero_le _, by decide, by omega, hBr, hbr, hSr, had, fun _ => rfl⟩
      case round =>
        clear hBr hbr hSr had
        obtain ⟨i, nn, m1, rfl, hi, hi51, hni, hBr, hbr, hSr, had1, ht1⟩ := hrel
        by_cases hil : i < len2
        · obtain ⟨ad, rfl, hadl, y, hy, c0, c1, c2, c3, c4, c5⟩ := (Hh2.out.below hbr) i hil
          have hA1 : Blk (wr.alloc (.cells (enc12 y) 32)) wr.heap.size 32 (enc12 y) := Blk.new _ _ _
          have hB1 := hBr.alloc (.cells (enc12 y) 32)
          have hb1 := hbr.alloc hbr.size (.cells (enc12 y) 32)
          have hS1 := hSr.alloc (.cells (enc12 y) 32)
          have hSg : S < wr.heap.size := hSr.lt
          have hyn := hy.n
          simp only [enc12] at hA1 hB1 hb1 hS1
          clear hBr hbr hSr hy
          by_cases h50 : (50 : Int) < (i : Int)
          · have hBr := hB1
            have hbr := hb1
            have hSr := hS1
            clear hB1 hb1 hS1 hA1
            have hfine := hBr.fine
            have hN1 : Blk ((wr.alloc (.cells #[.int .u8 y.kind, .int .u8 y.a, .int .u8 y.b, .int .u8 y.d, .string y.raw, .int .u64 y.n] 32)).alloc (.cells #[.int .u64 0, .int .u64 0, .int .u64 0] 47)) (wr.alloc (.cells #[.int .u8 y.kind, .int .u8 y.a, .int .u8 y.b, .int .u8 y.d, .string y.raw, .int .u64 y.n] 32)).heap.size 47 (sums3 []) := Blk.new _ _ _
            have hB1 := hBr.alloc (.cells #[.int .u64 0, .int .u64 0, .int .u64 0] 47)
            have hb1 := hbr.alloc hbr.size (.cells #[.int .u64 0, .int .u64 0, .int .u64 0] 47)
            have hS1 := hSr.alloc (.cells #[.int .u64 0, .int .u64 0, .int .u64 0] 47)
            have Hall := Lib.hid (all_any hB1 (by omega))
            have hSN := hSr.lt
            have hNw := hbr.size
            try simp only [World.size_alloc] at hSN
            try simp only [World.size_alloc] at hNw
            have hN0 := hN1.lt
            clear hBr hbr hSr hB1
            go_wp2_with fail
            refine Hall.out.mono ?_
            rintro e W5 ⟨now, rfl, hc5, hb5, hln⟩
            simp only [World.size_alloc] at hc5 hN1 hN0
            obtain ⟨p, cap5, hrow⟩ := hc5.row
            obtain rfl := hrow.val
            have hN5 := hN1.below hb5 hN1.lt
            have hS5 := hS1.below hb5 hS1.lt
            have hb05 := hb1.trans (hb5.mono hb1.size)
            clear Hall hrow hN1 hS1 hb1 hb5
            clear hN0
            generalize wr.heap.size + 1 = N at *
            have hml : m1.length ≤ 9223372036854775807 := by omega
            go_wp2
            go_loopw [94] (fun v wr => ∃ i : Nat, v = .int .i64 i ∧ i ≤ m1.length ∧ CoinsAt wr (N + 1) (.slice p m1.length cap5) m1 ∧ Blk wr N 47 (sums3 (m1.take i)) ∧ Blk wr S 47 (sums3 m) ∧ Below w.heap.size w wr) (fun v _ => m1.length - (intOf v).toNat)
            case atStart => exact ⟨0, rfl, Nat.zero_le _, hc5, hN5, hS5, hb05⟩
            case round =>
              obtain ⟨i, rfl, hi, hcr, hNr, hSr, hbr⟩ := hrel
              by_cases hil : i < m1.length
              · obtain ⟨g, rfl, hgN, q0, q1, q2⟩ := hcr.cells hil
                obtain ⟨kd, hkd, hke⟩ := had1 _ (List.getElem_mem hil)
                have hx0 := hfine.pos _ (List.getElem_mem hil)
                have htk := fun j => Bk.tot_take_succ (Bk.dk j) m1 i hil
                have htl := Bk.tot_take_le (Bk.dk kd) m1 (i + 1)
                have htm := ht1 (Bk.dk kd)
                have hTk := hT kd
                rw [hke] at q1
                simp only [hke] at htk
                generalize m1[i].1.1.toArray = ac at *
                generalize m1[i].2 = x at *
                have hbd : Bk.tot (Bk.dk kd) (m1.take i) + x ≤ 18446744073709551615 := by
                  have h1 := htk kd
                  rw [if_pos rfl] at h1
                  exact Nat.le_trans (by omega) (cap40_50 hn50 hTk (Nat.zero_le _))
                have hb1 : ((dkb kd).toNat : Int) = 120 + (kd : Int) := dkb_val hkd
                have q1' : wr.cell? ⟨g, i * 3 + 1, none⟩ = some (.string ⟨#[dkb kd]⟩) := q1
                have ht0 : ((x : Int) == 0) = false := by simp; omega
                have cN := sums3_cell hNr hkd
                have fN := hNr.frozen kd
                have Hset := Lib.hid (sums3_set (m := m1.take i) (m' := m1.take (i + 1)) hkd (q := x) (fun j _ => htk j))
                have hbx := hbr.alloc hbr.size (.cells #[.string ⟨ac⟩, .string ⟨#[dkb kd]⟩, .int .u64 x] 49)
                have Hcx := Lib.hid (hcr.grown (below_grown ((Below.refl _ _).alloc (Nat.le_refl _) (.cells #[.string ⟨ac⟩, .string ⟨#[dkb kd]⟩, .int .u64 x] 49)) none) (fun j e => by cases e))
                have HNx := Lib.hid (hNr.alloc (.cells #[.string ⟨ac⟩, .string ⟨#[dkb kd]⟩, .int .u64 x] 49))
                have HSx := Lib.hid (hSr.alloc (.cells #[.string ⟨ac⟩, .string ⟨#[dkb kd]⟩, .int .u64 x] 49))
                have Hbx := Lib.hid hbx
                clear htk htl htm hTk q1 hke hcr hbr hbx
                have HAx := Lib.hid (Blk.new wr 49 #[.string ⟨ac⟩, .string ⟨#[dkb kd]⟩, .int .u64 x])
                go_wp2_with fail
                clear hNr hSr q0 q1' q2 cN fN
                have hA1 := HAx.out
                have hgl := hA1.lt
                have hN1 := HNx.out
                have hb1' := Hbx.out
                generalize wr.alloc (.cells #[.string ⟨ac⟩, .string ⟨#[dkb kd]⟩, .int .u64 x] 49) = W0 at *
                generalize wr.heap.size = gc at *
                refine wp_region_growF 10 (PhiS27 gc N kd x (Bk.tot (Bk.dk kd) (m1.take i)) (Bk.dk kd)) (by kernel_rfl) (PhiS27_stable gc N kd x (Bk.tot (Bk.dk kd) (m1.take i)) (Bk.dk kd)) (by kernel_rfl) (by kernel_rfl) ?hstep ?hQ
                case hstep =>
                  have hA0 := hA1
                  simp only [List.take_succ_cons, List.take_zero]
                  refine List.forall_mem_cons.2 ⟨?_, List.forall_mem_cons.2 ⟨?_, List.forall_mem_cons.2 ⟨?_, List.forall_mem_cons.2 ⟨?_, List.forall_mem_cons.2 ⟨?_, List.forall_mem_cons.2 ⟨?_, List.forall_mem_cons.2 ⟨?_, List.forall_mem_cons.2 ⟨?_, List.forall_mem_cons.2 ⟨?_, List.forall_mem_cons.2 ⟨?_, fun _ h => absurd h List.not_mem_nil⟩⟩⟩⟩⟩⟩⟩⟩⟩⟩
                  · intro a' W hb hL
                    obtain ⟨ρ, hρ⟩ : ∃ ρ, a'.eval = ρ := ⟨_, rfl⟩
                    have hcst : ∀ v, ρ (.const v) = v := fun v => by rw [← hρ]; rfl
                    have hfnc : ∀ f, ρ (.func f) = .func (.func f) #[] #[] := fun f => by rw [← hρ]; rfl
                    have hsz := hb.size
                    have h15 : a'.eval (.tmp 15) = .pointer (some ⟨gc, 0, none⟩) := hL.free 15 (free_of (by kernel_rfl))
                    rw [hρ] at h15
                    exact .val ⟨.pointer (some ⟨gc, 1, none⟩), W, by rw [hρ]; simp [go_sem, hcst, h15], Below.refl _ _, fun t ht => by cases ht; rfl⟩
                  · intro a' W hb hL
                    obtain ⟨ρ, hρ⟩ : ∃ ρ, a'.eval = ρ := ⟨_, rfl⟩
                    have hcst : ∀ v, ρ (.const v) = v := fun v => by rw [← hρ]; rfl
                    have hfnc : ∀ f, ρ (.func f) = .func (.func f) #[] #[] := fun f => by rw [← hρ]; rfl
                    have hsz := hb.size
                    have h107 := hL.get 107 (by simp [Op.operands, Call.operands]) (by kernel_rfl)
                    rw [hρ] at h107
                    simp only [PhiS27] at h107
                    have hA := hA0.below hb hA0.lt
                    have c1 := hA.cell 1
                    have c2 := hA.cell 2
                    simp only [List.getElem?_toArray, List.getElem?_cons_zero, List.getElem?_cons_succ] at c1 c2
                    exact .val ⟨.string ⟨#[dkb kd]⟩, W, by rw [hρ]; simp [go_sem, hcst, h107, c1], Below.refl _ _, fun t ht => by cases ht; rfl⟩
                  · intro a' W hb hL
                    obtain ⟨ρ, hρ⟩ : ∃ ρ, a'.eval = ρ := ⟨_, rfl⟩
                    have hcst : ∀ v, ρ (.const v) = v := fun v => by rw [← hρ]; rfl
                    have hfnc : ∀ f, ρ (.func f) = .func (.func f) #[] #[] := fun f => by rw [← hρ]; rfl
                    have hsz := hb.size
                    have h108 := hL.get 108 (by simp [Op.operands, Call.operands]) (by kernel_rfl)
                    rw [hρ] at h108
                    simp only [PhiS27] at h108
                    exact .val ⟨.int .u8 ((dkb kd).toNat : Int), W, by rw [hρ]; simp [go_sem, hcst, h108]; rfl, Below.refl _ _, fun t ht => by cases ht; rfl⟩
                  · intro a' W hb hL
                    obtain ⟨ρ, hρ⟩ : ∃ ρ, a'.eval = ρ := ⟨_, rfl⟩
                    have hcst : ∀ v, ρ (.const v) = v := fun v => by rw [← hρ]; rfl
                    have hfnc : ∀ f, ρ (.func f) = .func (.func f) #[] #[] := fun f => by rw [← hρ]; rfl
                    have hsz := hb.size
                    have h109 := hL.get 109 (by simp [Op.operands, Call.operands]) (by kernel_rfl)
                    rw [hρ] at h109
                    simp only [PhiS27] at h109
                    have hws := dkb_sub hkd
                    exact .val ⟨.int .u8 kd, W, by rw [hρ]; simp [go_sem, hcst, h109, hws], Below.refl _ _, fun t ht => by cases ht; rfl⟩
                  · intro a' W hb hL
                    obtain ⟨ρ, hρ⟩ : ∃ ρ, a'.eval = ρ := ⟨_, rfl⟩
                    have hcst : ∀ v, ρ (.const v) = v := fun v => by rw [← hρ]; rfl
                    have hfnc : ∀ f, ρ (.func f) = .func (.func f) #[] #[] := fun f => by rw [← hρ]; rfl
                    have hsz := hb.size
                    have h13 : a'.eval (.tmp 13) = .pointer (some ⟨N, 0, none⟩) := hL.free 13 (free_of (by kernel_rfl))
                    rw [hρ] at h13
                    have h110 := hL.get 110 (by simp [Op.operands, Call.operands]) (by kernel_rfl)
                    rw [hρ] at h110
                    simp only [PhiS27] at h110
                    have hk3 : (kd : Int) < 3 := by omega
                    exact .val ⟨.pointer (some ⟨N, kd, none⟩), W, by rw [hρ]; simp [go_sem, hcst, h13, h110, hk3], Below.refl _ _, fun t ht => by cases ht; rfl⟩
                  · intro a' W hb hL
                    obtain ⟨ρ, hρ⟩ : ∃ ρ, a'.eval = ρ := ⟨_, rfl⟩
                    have hcst : ∀ v, ρ (.const v) = v := fun v => by rw [← hρ]; rfl
                    have hfnc : ∀ f, ρ (.func f) = .func (.func f) #[] #[] := fun f => by rw [← hρ]; rfl
                    have hsz := hb.size
                    have h111 := hL.get 111 (by simp [Op.operands, Call.operands]) (by kernel_rfl)
                    rw [hρ] at h111
                    simp only [PhiS27] at h111
                    have cN := sums3_cell (hN1.below hb hN1.lt) hkd
                    exact .val ⟨.int .u64 (Bk.tot (Bk.dk kd) (m1.take i)), W, by rw [hρ]; simp [go_sem, hcst, h111, cN], Below.refl _ _, fun t ht => by cases ht; rfl⟩
                  · intro a' W hb hL
                    obtain ⟨ρ, hρ⟩ : ∃ ρ, a'.eval = ρ := ⟨_, rfl⟩
                    have hcst : ∀ v, ρ (.const v) = v := fun v => by rw [← hρ]; rfl
                    have hfnc : ∀ f, ρ (.func f) = .func (.func f) #[] #[] := fun f => by rw [← hρ]; rfl
                    have hsz := hb.size
                    have h15 : a'.eval (.tmp 15) = .pointer (some ⟨gc, 0, none⟩) := hL.free 15 (free_of (by kernel_rfl))
                    rw [hρ] at h15
                    exact .val ⟨.pointer (some ⟨gc, 2, none⟩), W, by rw [hρ]; simp [go_sem, hcst, h15], Below.refl _ _, fun t ht => by cases ht; rfl⟩
                  · intro a' W hb hL
                    obtain ⟨ρ, hρ⟩ : ∃ ρ, a'.eval = ρ := ⟨_, rfl⟩
                    have hcst : ∀ v, ρ (.const v) = v := fun v => by rw [← hρ]; rfl
                    have hfnc : ∀ f, ρ (.func f) = .func (.func f) #[] #[] := fun f => by rw [← hρ]; rfl
                    have hsz := hb.size
                    have h113 := hL.get 113 (by simp [Op.operands, Call.operands]) (by kernel_rfl)
                    rw [hρ] at h113
                    simp only [PhiS27] at h113
                    have hA := hA0.below hb hA0.lt
                    have c1 := hA.cell 1
                    have c2 := hA.cell 2
                    simp only [List.getElem?_toArray, List.getElem?_cons_zero, List.getElem?_cons_succ] at c1 c2
                    exact .val ⟨.int .u64 x, W, by rw [hρ]; simp [go_sem, hcst, h113, c2], Below.refl _ _, fun t ht => by cases ht; rfl⟩
                  · intro a' W hb hL
                    obtain ⟨ρ, hρ⟩ : ∃ ρ, a'.eval = ρ := ⟨_, rfl⟩
                    have hcst : ∀ v, ρ (.const v) = v := fun v => by rw [← hρ]; rfl
                    have hfnc : ∀ f, ρ (.func f) = .func (.func f) #[] #[] := fun f => by rw [← hρ]; rfl
                    have hsz := hb.size
                    have h112 := hL.get 112 (by simp [Op.operands, Call.operands]) (by kernel_rfl)
                    rw [hρ] at h112
                    simp only [PhiS27] at h112
                    have h114 := hL.get 114 (by simp [Op.operands, Call.operands]) (by kernel_rfl)
                    rw [hρ] at h114
                    simp only [PhiS27] at h114
                    have hwa := wadd64 hbd
                    exact .val ⟨.int .u64 (((Bk.tot (Bk.dk kd) (m1.take i)) : Int) + x), W, by rw [hρ]; simp [go_sem, hcst, h112, h114, hwa], Below.refl _ _, fun t ht => by cases ht; rfl⟩
                  · intro a' W hb hL
                    obtain ⟨ρ, hρ⟩ : ∃ ρ, a'.eval = ρ := ⟨_, rfl⟩
                    have hcst : ∀ v, ρ (.const v) = v := fun v => by rw [← hρ]; rfl
                    have hfnc : ∀ f, ρ (.func f) = .func (.func f) #[] #[] := fun f => by rw [← hρ]; rfl
                    have hsz := hb.size
                    have h13 : a'.eval (.tmp 13) = .pointer (some ⟨N, 0, none⟩) := hL.free 13 (free_of (by kernel_rfl))
                    rw [hρ] at h13
                    have h110 := hL.get 110 (by simp [Op.operands, Call.operands]) (by kernel_rfl)
                    rw [hρ] at h110
                    simp only [PhiS27] at h110
                    have hk3 : (kd : Int) < 3 := by omega
                    exact .val ⟨.pointer (some ⟨N, kd, none⟩), W, by rw [hρ]; simp [go_sem, hcst, h13, h110, hk3], Below.refl _ _, fun t ht => by cases ht; rfl⟩
                case hQ =>
                  intro ys W hlen hb hY
                  obtain ⟨y0, ys0, rfl, hl0⟩ := cons_of' hlen
                  obtain ⟨y1, ys1, rfl, hl1⟩ := cons_of' hl0
                  obtain ⟨y2, ys2, rfl, hl2⟩ := cons_of' hl1
                  obtain ⟨y3, ys3, rfl, hl3⟩ := cons_of' hl2
                  obtain ⟨y4, ys4, rfl, hl4⟩ := cons_of' hl3
                  obtain ⟨y5, ys5, rfl, hl5⟩ := cons_of' hl4
                  obtain ⟨y6, ys6, rfl, hl6⟩ := cons_of' hl5
                  obtain ⟨y7, ys7, rfl, hl7⟩ := cons_of' hl6
                  obtain ⟨y8, ys8, rfl, hl8⟩ := cons_of' hl7
                  obtain ⟨y9, ys9, rfl, hl9⟩ := cons_of' hl8
                  obtain rfl := List.length_eq_zero_iff.1 hl9
                  simp only [List.take_succ_cons, List.take_zero, List.drop_succ_cons, List.drop_zero, List.zip_cons_cons, List.zip_nil_left, List.zip_nil_right, List.foldl_cons, List.foldl_nil, Act.put, HoldsY, PhiS27] at hY ⊢
                  clear hlen hl0 hl1 hl2 hl3 hl4 hl5 hl6 hl7 hl8 hl9
                  simp only [List.setIfInBounds_toArray, List.set_cons_succ, List.set_cons_zero]
                  obtain ⟨rfl, rfl, rfl, rfl, rfl, rfl, rfl, rfl, rfl, rfl, _⟩ := hY

                  have cN := sums3_cell (hN1.below hb hN1.lt) hkd
                  have fN := (hN1.below hb hN1.lt).frozen kd
                  have HSt := Lib.hid ((hN1.below hb hN1.lt).set_ kd (.int .u64 ((Bk.tot (Bk.dk kd) (m1.take i) : Int) + x)))
                  rw [Hset.out] at HSt
                  have HS2 := Lib.hid ((HSx.out.below hb HSx.out.lt).far (p := ⟨N, kd, none⟩) (show S ≠ N by omega) (.int .u64 ((Bk.tot (Bk.dk kd) (m1.take i) : Int) + x)))
                  have HC2 := Lib.hid ((Hcx.out.grown (below_grown hb none) (fun j e => by cases e)).grown (grown_cell' W N kd (.int .u64 ((Bk.tot (Bk.dk kd) (m1.take i) : Int) + x))) (fun j e => by cases e; simp [Value.ownBlock]; omega))
                  have HB2 := Lib.hid ((hb1'.trans (hb.mono hb1'.size)).setCell (p := ⟨N, kd, none⟩) (by show w.heap.size ≤ N; omega) (.int .u64 ((Bk.tot (Bk.dk kd) (m1.take i) : Int) + x)))
                  clear hA1 hN1 hb1' hb HAx HNx HSx Hcx Hbx Hset
                  go_wp2
                  refine ⟨⟨i + 1, rfl, hil, HC2.out, HSt.out, HS2.out, HB2.out⟩, ?_⟩
                  show m1.length - ((i : Int) + 1).toNat < m1.length - (i : Int).toNat
                  omega

              · have e3 : sums3 (m1.take i) = sums3 m := by
                  rw [List.take_of_length_le (by omega)]
                  simp only [sums3, ht1]
                rw [e3] at hNr
                have n0 := hNr.cell 0
                have n1 := hNr.cell 1
                have n2 := hNr.cell 2
                have s0 := hSr.cell 0
                have s1 := hSr.cell 1
                have s2 := hSr.cell 2
                simp only [sums3, List.getElem?_toArray, List.getElem?_cons_zero, List.getElem?_cons_succ] at n0 n1 n2 s0 s1 s2
                have he := eql3 (Bk.tot (Bk.dk 0) m) (Bk.tot (Bk.dk 1) m) (Bk.tot (Bk.dk 2) m)
                clear e3 hNr hSr hcr hT ht1
                go_wp2
                go_ret
                exact ⟨rfl, hbr⟩
          · by_cases hk2 : y.kind % 2 = 0
            · have t2 : ((y.kind : Int) % 2 == 0) = true := by simp; omega
              obtain ⟨z, hq, hz⟩ : ∃ z : Nat, (y.n : Int) % 1048576 = (z : Int) ∧ z ≤ Bk.maxU := ⟨y.n % 1048576, by omega, by unfold Bk.maxU; omega⟩
              clear hk2
              go_wp2_with fail
              try simp only [hq]
              clear hq
              generalize wr.alloc (.cells #[.int .u8 y.kind, .int .u8 y.a, .int .u8 y.b, .int .u8 y.d, .string y.raw, .int .u64 y.n] 32) = W0 at *
              generalize wr.heap.size = g at *
              refine wp_region_growF 16 (PhiS19 (mx + 1) g y z) (by kernel_rfl) (PhiS19_stable (mx + 1) g y z) (by kernel_rfl) (by kernel_rfl) ?hstep ?hQ
              case hstep =>
                have hA0 := hA1
                simp only [List.take_succ_cons, List.take_zero]
                refine List.forall_mem_cons.2 ⟨?_, List.forall_mem_cons.2 ⟨?_, List.forall_mem_cons.2 ⟨?_, List.forall_mem_cons.2 ⟨?_, List.forall_mem_cons.2 ⟨?_, List.forall_mem_cons.2 ⟨?_, List.forall_mem_cons.2 ⟨?_, List.forall_mem_cons.2 ⟨?_, List.forall_mem_cons.2 ⟨?_, List.forall_mem_cons.2 ⟨?_, List.forall_mem_cons.2 ⟨?_, List.forall_mem_cons.2 ⟨?_, List.forall_mem_cons.2 ⟨?_, List.forall_mem_cons.2 ⟨?_, List.forall_mem_cons.2 ⟨?_, List.forall_mem_cons.2 ⟨?_, fun _ h => absurd h List.not_mem_nil⟩⟩⟩⟩⟩⟩⟩⟩⟩⟩⟩⟩⟩⟩⟩⟩
                · intro a' W hb hL
                  obtain ⟨ρ, hρ⟩ : ∃ ρ, a'.eval = ρ := ⟨_, rfl⟩
                  have hcst : ∀ v, ρ (.const v) = v := fun v => by rw [← hρ]; rfl
                  have hfnc : ∀ f, ρ (.func f) = .func (.func f) #[] #[] := fun f => by rw [← hρ]; rfl
                  have hsz := hb.size
                  have h5 : a'.eval (.tmp 5) = .pointer (some ⟨mx + 1, 0, none⟩) := hL.free 5 (free_of (by kernel_rfl))
                  rw [hρ] at h5
                  exact .val ⟨.pointer (some ⟨mx + 1, 0, none⟩), W, by rw [hρ]; simp [go_sem, hcst, h5], Below.refl _ _, fun t ht => by cases ht; rfl⟩
                · intro a' W hb hL
                  obtain ⟨ρ, hρ⟩ : ∃ ρ, a'.eval = ρ := ⟨_, rfl⟩
                  have hcst : ∀ v, ρ (.const v) = v := fun v => by rw [← hρ]; rfl
                  have hfnc : ∀ f, ρ (.func f) = .func (.func f) #[] #[] := fun f => by rw [← hρ]; rfl
                  have hsz := hb.size
                  have h11 : a'.eval (.tmp 11) = .pointer (some ⟨g, 0, none⟩) := hL.free 11 (free_of (by kernel_rfl))
                  rw [hρ] at h11
                  exact .val ⟨.pointer (some ⟨g, 1, none⟩), W, by rw [hρ]; simp [go_sem, hcst, h11], Below.refl _ _, fun t ht => by cases ht; rfl⟩
                · intro a' W hb hL
                  obtain ⟨ρ, hρ⟩ : ∃ ρ, a'.eval = ρ := ⟨_, rfl⟩
                  have hcst : ∀ v, ρ (.const v) = v := fun v => by rw [← hρ]; rfl
                  have hfnc : ∀ f, ρ (.func f) = .func (.func f) #[] #[] := fun f => by rw [← hρ]; rfl
                  have hsz := hb.size
                  have h74 := hL.get 74 (by simp [Op.operands, Call.operands]) (by kernel_rfl)
                  rw [hρ] at h74
                  simp only [PhiS19] at h74
                  have hA := hA0.below hb hA0.lt
                  have c := hA.cell 1
                  simp only [List.getElem?_toArray, List.getElem?_cons_zero, List.getElem?_cons_succ] at c
                  exact .val ⟨.int .u8 y.a, W, by rw [hρ]; simp [go_sem, hcst, h74, c], Below.refl _ _, fun t ht => by cases ht; rfl⟩
                · intro a' W hb hL
                  obtain ⟨ρ, hρ⟩ : ∃ ρ, a'.eval = ρ := ⟨_, rfl⟩
                  have hcst : ∀ v, ρ (.const v) = v := fun v => by rw [← hρ]; rfl
                  have hfnc : ∀ f, ρ (.func f) = .func (.func f) #[] #[] := fun f => by rw [← hρ]; rfl
                  have hsz := hb.size
                  have h75 := hL.get 75 (by simp [Op.operands, Call.operands]) (by kernel_rfl)
                  rw [hρ] at h75
                  simp only [PhiS19] at h75
                  exact .val ⟨.int .u8 ((y.a : Int) % 15), W, by rw [hρ]; simp [go_sem, hcst, h75, tm15 y.a], Below.refl _ _, fun t ht => by cases ht; rfl⟩
                · intro a' W hb hL
                  obtain ⟨ρ, hρ⟩ : ∃ ρ, a'.eval = ρ := ⟨_, rfl⟩
                  have hcst : ∀ v, ρ (.const v) = v := fun v => by rw [← hρ]; rfl
                  have hfnc : ∀ f, ρ (.func f) = .func (.func f) #[] #[] := fun f => by rw [← hρ]; rfl
                  have hsz := hb.size
                  have h76 := hL.get 76 (by simp [Op.operands, Call.operands]) (by kernel_rfl)
                  rw [hρ] at h76
                  simp only [PhiS19] at h76
                  refine .call ⟨10, #[.int .u8 ((y.a : Int) % 15), .string ⟨#[]⟩], W, by rw [hρ]; simp [go_sem, hcst, hfnc, h76], ?_⟩
                  rw [show ((y.a : Int) % 15) = ((y.a % 15 : Nat) : Int) by omega]
                  exact (name12_any (y.a % 15) (by omega) _ W).mono fun e W' ⟨he, hb'⟩ => ⟨_, he, hb', fun t ht => by cases ht; rfl⟩
                · intro a' W hb hL
                  obtain ⟨ρ, hρ⟩ : ∃ ρ, a'.eval = ρ := ⟨_, rfl⟩
                  have hcst : ∀ v, ρ (.const v) = v := fun v => by rw [← hρ]; rfl
                  have hfnc : ∀ f, ρ (.func f) = .func (.func f) #[] #[] := fun f => by rw [← hρ]; rfl
                  have hsz := hb.size
                  have h11 : a'.eval (.tmp 11) = .pointer (some ⟨g, 0, none⟩) := hL.free 11 (free_of (by kernel_rfl))
                  rw [hρ] at h11
                  exact .val ⟨.pointer (some ⟨g, 2, none⟩), W, by rw [hρ]; simp [go_sem, hcst, h11], Below.refl _ _, fun t ht => by cases ht; rfl⟩
                · intro a' W hb hL
                  obtain ⟨ρ, hρ⟩ : ∃ ρ, a'.eval = ρ := ⟨_, rfl⟩
                  have hcst : ∀ v, ρ (.const v) = v := fun v => by rw [← hρ]; rfl
                  have hfnc : ∀ f, ρ (.func f) = .func (.func f) #[] #[] := fun f => by rw [← hρ]; rfl
                  have hsz := hb.size
                  have h78 := hL.get 78 (by simp [Op.operands, Call.operands]) (by kernel_rfl)
                  rw [hρ] at h78
                  simp only [PhiS19] at h78
                  have hA := hA0.below hb hA0.lt
                  have c := hA.cell 2
                  simp only [List.getElem?_toArray, List.getElem?_cons_zero, List.getElem?_cons_succ] at c
                  exact .val ⟨.int .u8 y.b, W, by rw [hρ]; simp [go_sem, hcst, h78, c], Below.refl _ _, fun t ht => by cases ht; rfl⟩
                · intro a' W hb hL
                  obtain ⟨ρ, hρ⟩ : ∃ ρ, a'.eval = ρ := ⟨_, rfl⟩
                  have hcst : ∀ v, ρ (.const v) = v := fun v => by rw [← hρ]; rfl
                  have hfnc : ∀ f, ρ (.func f) = .func (.func f) #[] #[] := fun f => by rw [← hρ]; rfl
                  have hsz := hb.size
                  have h79 := hL.get 79 (by simp [Op.operands, Call.operands]) (by kernel_rfl)
                  rw [hρ] at h79
                  simp only [PhiS19] at h79
                  exact .val ⟨.int .u8 ((y.b : Int) % 15), W, by rw [hρ]; simp [go_sem, hcst, h79, tm15 y.b], Below.refl _ _, fun t ht => by cases ht; rfl⟩
                · intro a' W hb hL
                  obtain ⟨ρ, hρ⟩ : ∃ ρ, a'.eval = ρ := ⟨_, rfl⟩
                  have hcst : ∀ v, ρ (.const v) = v := fun v => by rw [← hρ]; rfl
                  have hfnc : ∀ f, ρ (.func f) = .func (.func f) #[] #[] := fun f => by rw [← hρ]; rfl
                  have hsz := hb.size
                  have h80 := hL.get 80 (by simp [Op.operands, Call.operands]) (by kernel_rfl)
                  rw [hρ] at h80
                  simp only [PhiS19] at h80
                  refine .call ⟨10, #[.int .u8 ((y.b : Int) % 15), .string ⟨#[]⟩], W, by rw [hρ]; simp [go_sem, hcst, hfnc, h80], ?_⟩
                  rw [show ((y.b : Int) % 15) = ((y.b % 15 : Nat) : Int) by omega]
                  exact (name12_any (y.b % 15) (by omega) _ W).mono fun e W' ⟨he, hb'⟩ => ⟨_, he, hb', fun t ht => by cases ht; rfl⟩
                · intro a' W hb hL
                  obtain ⟨ρ, hρ⟩ : ∃ ρ, a'.eval = ρ := ⟨_, rfl⟩
                  have hcst : ∀ v, ρ (.const v) = v := fun v => by rw [← hρ]; rfl
                  have hfnc : ∀ f, ρ (.func f) = .func (.func f) #[] #[] := fun f => by rw [← hρ]; rfl
                  have hsz := hb.size
                  have h11 : a'.eval (.tmp 11) = .pointer (some ⟨g, 0, none⟩) := hL.free 11 (free_of (by kernel_rfl))
                  rw [hρ] at h11
                  exact .val ⟨.pointer (some ⟨g, 3, none⟩), W, by rw [hρ]; simp [go_sem, hcst, h11], Below.refl _ _, fun t ht => by cases ht; rfl⟩
                · intro a' W hb hL
                  obtain ⟨ρ, hρ⟩ : ∃ ρ, a'.eval = ρ := ⟨_, rfl⟩
                  have hcst : ∀ v, ρ (.const v) = v := fun v => by rw [← hρ]; rfl
                  have hfnc : ∀ f, ρ (.func f) = .func (.func f) #[] #[] := fun f => by rw [← hρ]; rfl
                  have hsz := hb.size
                  have h82 := hL.get 82 (by simp [Op.operands, Call.operands]) (by kernel_rfl)
                  rw [hρ] at h82
                  simp only [PhiS19] at h82
                  have hA := hA0.below hb hA0.lt
                  have c := hA.cell 3
                  simp only [List.getElem?_toArray, List.getElem?_cons_zero, List.getElem?_cons_succ] at c
                  exact .val ⟨.int .u8 y.d, W, by rw [hρ]; simp [go_sem, hcst, h82, c], Below.refl _ _, fun t ht => by cases ht; rfl⟩
                · intro a' W hb hL
                  obtain ⟨ρ, hρ⟩ : ∃ ρ, a'.eval = ρ := ⟨_, rfl⟩
                  have hcst : ∀ v, ρ (.const v) = v := fun v => by rw [← hρ]; rfl
                  have hfnc : ∀ f, ρ (.func f) = .func (.func f) #[] #[] := fun f => by rw [← hρ]; rfl
                  have hsz := hb.size
                  have h83 := hL.get 83 (by simp [Op.operands, Call.operands]) (by kernel_rfl)
                  rw [hρ] at h83
                  simp only [PhiS19] at h83
                  exact .val ⟨.int .u8 ((y.d : Int) % 3), W, by rw [hρ]; simp [go_sem, hcst, h83, tm3 y.d], Below.refl _ _, fun t ht => by cases ht; rfl⟩
                · intro a' W hb hL
                  obtain ⟨ρ, hρ⟩ : ∃ ρ, a'.eval = ρ := ⟨_, rfl⟩
                  have hcst : ∀ v, ρ (.const v) = v := fun v => by rw [← hρ]; rfl
                  have hfnc : ∀ f, ρ (.func f) = .func (.func f) #[] #[] := fun f => by rw [← hρ]; rfl
                  have hsz := hb.size
                  have h84 := hL.get 84 (by simp [Op.operands, Call.operands]) (by kernel_rfl)
                  rw [hρ] at h84
                  simp only [PhiS19] at h84
                  exact .val ⟨.int .u8 (120 + (y.d : Int) % 3), W, by rw [hρ]; simp [go_sem, hcst, h84, wr120 y.d], Below.refl _ _, fun t ht => by cases ht; rfl⟩
                · intro a' W hb hL
                  obtain ⟨ρ, hρ⟩ : ∃ ρ, a'.eval = ρ := ⟨_, rfl⟩
                  have hcst : ∀ v, ρ (.const v) = v := fun v => by rw [← hρ]; rfl
                  have hfnc : ∀ f, ρ (.func f) = .func (.func f) #[] #[] := fun f => by rw [← hρ]; rfl
                  have hsz := hb.size
                  have h85 := hL.get 85 (by simp [Op.operands, Call.operands]) (by kernel_rfl)
                  rw [hρ] at h85
                  simp only [PhiS19] at h85
                  exact .val ⟨.slice (some ⟨W.heap.size, 0, none⟩) 1 1, W.alloc (.cells #[.int .u8 (120 + (y.d : Int) % 3)] 5), by rw [hρ]; simp [go_sem, hcst, h85], (Below.refl _ _).alloc (Nat.le_refl _) _, fun t ht => by cases ht; exact ⟨_, rfl, Blk.new _ _ _⟩⟩
                · intro a' W hb hL
                  obtain ⟨ρ, hρ⟩ : ∃ ρ, a'.eval = ρ := ⟨_, rfl⟩
                  have hcst : ∀ v, ρ (.const v) = v := fun v => by rw [← hρ]; rfl
                  have hfnc : ∀ f, ρ (.func f) = .func (.func f) #[] #[] := fun f => by rw [← hρ]; rfl
                  have hsz := hb.size
                  have h86 := hL.get 86 (by simp [Op.operands, Call.operands]) (by kernel_rfl)
                  rw [hρ] at h86
                  simp only [PhiS19] at h86
                  obtain ⟨h, h86, hk⟩ := h86
                  have hcv := conv_dn y.d hk
                  exact .val ⟨.string (dn y.d), W, by rw [hρ]; simp [go_sem, hcst, h86, hcv], Below.refl _ _, fun t ht => by cases ht; rfl⟩
                · intro a' W hb hL
                  obtain ⟨ρ, hρ⟩ : ∃ ρ, a'.eval = ρ := ⟨_, rfl⟩
                  have hcst : ∀ v, ρ (.const v) = v := fun v => by rw [← hρ]; rfl
                  have hfnc : ∀ f, ρ (.func f) = .func (.func f) #[] #[] := fun f => by rw [← hρ]; rfl
                  have hsz := hb.size
                  have h12 : a'.eval (.tmp 12) = .int .u64 z := hL.free 12 (free_of (by kernel_rfl))
                  rw [hρ] at h12
                  exact .val ⟨.int .u64 z, W, by rw [hρ]; simp [go_sem, hcst, h12], Below.refl _ _, fun t ht => by cases ht; rfl⟩
              case hQ =>
                intro ys W hlen hb hY
                obtain ⟨y0, ys0, rfl, hl0⟩ := cons_of' hlen
                obtain ⟨y1, ys1, rfl, hl1⟩ := cons_of' hl0
                obtain ⟨y2, ys2, rfl, hl2⟩ := cons_of' hl1
                obtain ⟨y3, ys3, rfl, hl3⟩ := cons_of' hl2
                obtain ⟨y4, ys4, rfl, hl4⟩ := cons_of' hl3
                obtain ⟨y5, ys5, rfl, hl5⟩ := cons_of' hl4
                obtain ⟨y6, ys6, rfl, hl6⟩ := cons_of' hl5
                obtain ⟨y7, ys7, rfl, hl7⟩ := cons_of' hl6
                obtain ⟨y8, ys8, rfl, hl8⟩ := cons_of' hl7
                obtain ⟨y9, ys9, rfl, hl9⟩ := cons_of' hl8
                obtain ⟨y10, ys10, rfl, hl10⟩ := cons_of' hl9
                obtain ⟨y11, ys11, rfl, hl11⟩ := cons_of' hl10
                obtain ⟨y12, ys12, rfl, hl12⟩ := cons_of' hl11
                obtain ⟨y13, ys13, rfl, hl13⟩ := cons_of' hl12
                obtain ⟨y14, ys14, rfl, hl14⟩ := cons_of' hl13
                obtain ⟨y15, ys15, rfl, hl15⟩ := cons_of' hl14
                obtain rfl := List.length_eq_zero_iff.1 hl15
                simp only [List.take_succ_cons, List.take_zero, List.drop_succ_cons, List.drop_zero, List.zip_cons_cons, List.zip_nil_left, List.zip_nil_right, List.foldl_cons, List.foldl_nil, Act.put, HoldsY, PhiS19] at hY ⊢
                clear hlen hl0 hl1 hl2 hl3 hl4 hl5 hl6 hl7 hl8 hl9 hl10 hl11 hl12 hl13 hl14 hl15
                simp only [List.setIfInBounds_toArray, List.set_cons_succ, List.set_cons_zero]
                obtain ⟨rfl, rfl, rfl, rfl, rfl, rfl, rfl, rfl, rfl, rfl, rfl, rfl, rfl, ⟨hh, rfl, _⟩, rfl, rfl, _⟩ := hY

                have Hm := Lib.hid (move_any (hB1.below hb) (by simp only [maxLen]; omega) (nameS (y.a % 15) ⟨#[]⟩) (nameS (y.b % 15) ⟨#[]⟩) (dn y.d) z (nameS_size _ (by decide) (by decide)) (nameS_size _ (by decide) (by decide)) (by rw [dn_size]; decide) hz)
                have Htm := Lib.hid (fun d => Bk.tot_move hB1.fine (nameS (y.a % 15) ⟨#[]⟩).data.toList (nameS (y.b % 15) ⟨#[]⟩).data.toList (dn y.d).data.toList z d)
                have HaD := Lib.hid (had1.move (nameS (y.a % 15) ⟨#[]⟩).data.toList (nameS (y.b % 15) ⟨#[]⟩).data.toList (k := y.d % 3) (by omega) z)
                rw [← dn_dk] at HaD
                have hb01 := hb1.trans (hb.mono hb1.size)
                have hS1 := hS1.below hb hS1.lt
                clear hB1 hb1 hb hA1
                generalize Bk.move m1 (nameS (y.a % 15) ⟨#[]⟩).data.toList (nameS (y.b % 15) ⟨#[]⟩).data.toList (dn y.d).data.toList z = r at *
                go_wp2_with fail
                refine Hm.out.mono ?_
                rintro e W3 ⟨v, rfl, _, hB3, hg3⟩
                have hb3 := below_of_grown hb01 hg3 (by omega)
                have hS3 := hS1.other hg3 (by omega)
                clear Hm hb01 hg3 hS1
                go_wp2
                refine ⟨⟨i + 1, nn + 3, r.2, rfl, hil, by omega, by omega, hB3, hb3, hS3, HaD.out, fun d => (Htm.out d).trans (ht1 d)⟩, ?_⟩
                show len2 - ((i : Int) + 1).toNat < len2 - (i : Int).toNat
                omega

            · have t2 : ((y.kind : Int) % 2 == 0) = false := by simp; omega
              have hz := hyn
              clear hk2
              go_wp2_with fail
              generalize wr.alloc (.cells #[.int .u8 y.kind, .int .u8 y.a, .int .u8 y.b, .int .u8 y.d, .string y.raw, .int .u64 y.n] 32) = W0 at *
              generalize wr.heap.size = g at *
              refine wp_region_growF 16 (PhiS19 (mx + 1) g y y.n) (by kernel_rfl) (PhiS19_stable (mx + 1) g y y.n) (by kernel_rfl) (by kernel_rfl) ?hstep ?hQ
              case hstep =>
                have hA0 := hA1
                simp only [List.take_succ_cons, List.take_zero]
                refine List.forall_mem_cons.2 ⟨?_, List.forall_mem_cons.2 ⟨?_, List.forall_mem_cons.2 ⟨?_, List.forall_mem_cons.2 ⟨?_, List.forall_mem_cons.2 ⟨?_, List.forall_mem_cons.2 ⟨?_, List.forall_mem_cons.2 ⟨?_, List.forall_mem_cons.2 ⟨?_, List.forall_mem_cons.2 ⟨?_, List.forall_mem_cons.2 ⟨?_, List.forall_mem_cons.2 ⟨?_, List.forall_mem_cons.2 ⟨?_, List.forall_mem_cons.2 ⟨?_, List.forall_mem_cons.2 ⟨?_, List.forall_mem_cons.2 ⟨?_, List.forall_mem_cons.2 ⟨?_, fun _ h => absurd h List.not_mem_nil⟩⟩⟩⟩⟩⟩⟩⟩⟩⟩⟩⟩⟩⟩⟩⟩
                · intro a' W hb hL
                  obtain ⟨ρ, hρ⟩ : ∃ ρ, a'.eval = ρ := ⟨_, rfl⟩
                  have hcst : ∀ v, ρ (.const v) = v := fun v => by rw [← hρ]; rfl
                  have hfnc : ∀ f, ρ (.func f) = .func (.func f) #[] #[] := fun f => by rw [← hρ]; rfl
                  have hsz := hb.size
                  have h5 : a'.eval (.tmp 5) = .pointer (some ⟨mx + 1, 0, none⟩) := hL.free 5 (free_of (by kernel_rfl))
                  rw [hρ] at h5
                  exact .val ⟨.pointer (some ⟨mx + 1, 0, none⟩), W, by rw [hρ]; simp [go_sem, hcst, h5], Below.refl _ _, fun t ht => by cases ht; rfl⟩
                · intro a' W hb hL
                  obtain ⟨ρ, hρ⟩ : ∃ ρ, a'.eval = ρ := ⟨_, rfl⟩
                  have hcst : ∀ v, ρ (.const v) = v := fun v => by rw [← hρ]; rfl
                  have hfnc : ∀ f, ρ (.func f) = .func (.func f) #[] #[] := fun f => by rw [← hρ]; rfl
                  have hsz := hb.size
                  have h11 : a'.eval (.tmp 11) = .pointer (some ⟨g, 0, none⟩) := hL.free 11 (free_of (by kernel_rfl))
                  rw [hρ] at h11
                  exact .val ⟨.pointer (some ⟨g, 1, none⟩), W, by rw [hρ]; simp [go_sem, hcst, h11], Below.refl _ _, fun t ht => by cases ht; rfl⟩
                · intro a' W hb hL
                  obtain ⟨ρ, hρ⟩ : ∃ ρ, a'.eval = ρ := ⟨_, rfl⟩
                  have hcst : ∀ v, ρ (.const v) = v := fun v => by rw [← hρ]; rfl
                  have hfnc : ∀ f, ρ (.func f) = .func (.func f) #[] #[] := fun f => by rw [← hρ]; rfl
                  have hsz := hb.size
                  have h74 := hL.get 74 (by simp [Op.operands, Call.operands]) (by kernel_rfl)
                  rw [hρ] at h74
                  simp only [PhiS19] at h74
                  have hA := hA0.below hb hA0.lt
                  have c := hA.cell 1
                  simp only [List.getElem?_toArray, List.getElem?_cons_zero, List.getElem?_cons_succ] at c
                  exact .val ⟨.int .u8 y.a, W, by rw [hρ]; simp [go_sem, hcst, h74, c], Below.refl _ _, fun t ht => by cases ht; rfl⟩
                · intro a' W hb hL
                  obtain ⟨ρ, hρ⟩ : ∃ ρ, a'.eval = ρ := ⟨_, rfl⟩
                  have hcst : ∀ v, ρ (.const v) = v := fun v => by rw [← hρ]; rfl
                  have hfnc : ∀ f, ρ (.func f) = .func (.func f) #[] #[] := fun f => by rw [← hρ]; rfl
                  have hsz := hb.size
                  have h75 := hL.get 75 (by simp [Op.operands, Call.operands]) (by kernel_rfl)
                  rw [hρ] at h75
                  simp only [PhiS19] at h75
                  exact .val ⟨.int .u8 ((y.a : Int) % 15), W, by rw [hρ]; simp [go_sem, hcst, h75, tm15 y.a], Below.refl _ _, fun t ht => by cases ht; rfl⟩
                · intro a' W hb hL
                  obtain ⟨ρ, hρ⟩ : ∃ ρ, a'.eval = ρ := ⟨_, rfl⟩
                  have hcst : ∀ v, ρ (.const v) = v := fun v => by rw [← hρ]; rfl
                  have hfnc : ∀ f, ρ (.func f) = .func (.func f) #[] #[] := fun f => by rw [← hρ]; rfl
                  have hsz := hb.size
                  have h76 := hL.get 76 (by simp [Op.operands, Call.operands]) (by kernel_rfl)
                  rw [hρ] at h76
                  simp only [PhiS19] at h76
                  refine .call ⟨10, #[.int .u8 ((y.a : Int) % 15), .string ⟨#[]⟩], W, by rw [hρ]; simp [go_sem, hcst, hfnc, h76], ?_⟩
                  rw [show ((y.a : Int) % 15) = ((y.a % 15 : Nat) : Int) by omega]
                  exact (name12_any (y.a % 15) (by omega) _ W).mono fun e W' ⟨he, hb'⟩ => ⟨_, he, hb', fun t ht => by cases ht; rfl⟩
                · intro a' W hb hL
                  obtain ⟨ρ, hρ⟩ : ∃ ρ, a'.eval = ρ := ⟨_, rfl⟩
                  have hcst : ∀ v, ρ (.const v) = v := fun v => by rw [← hρ]; rfl
                  have hfnc : ∀ f, ρ (.func f) = .func (.func f) #[] #[] := fun f => by rw [← hρ]; rfl
                  have hsz := hb.size
                  have h11 : a'.eval (.tmp 11) = .pointer (some ⟨g, 0, none⟩) := hL.free 11 (free_of (by kernel_rfl))
                  rw [hρ] at h11
                  exact .val ⟨.pointer (some ⟨g, 2, none⟩), W, by rw [hρ]; simp [go_sem, hcst, h11], Below.refl _ _, fun t ht => by cases ht; rfl⟩
                · intro a' W hb hL
                  obtain ⟨ρ, hρ⟩ : ∃ ρ, a'.eval = ρ := ⟨_, rfl⟩
                  have hcst : ∀ v, ρ (.const v) = v := fun v => by rw [← hρ]; rfl
                  have hfnc : ∀ f, ρ (.func f) = .func (.func f) #[] #[] := fun f => by rw [← hρ]; rfl
                  have hsz := hb.size
                  have h78 := hL.get 78 (by simp [Op.operands, Call.operands]) (by kernel_rfl)
                  rw [hρ] at h78
                  simp only [PhiS19] at h78
                  have hA := hA0.below hb hA0.lt
                  have c := hA.cell 2
                  simp only [List.getElem?_toArray, List.getElem?_cons_zero, List.getElem?_cons_succ] at c
                  exact .val ⟨.int .u8 y.b, W, by rw [hρ]; simp [go_sem, hcst, h78, c], Below.refl _ _, fun t ht => by cases ht; rfl⟩
                · intro a' W hb hL
                  obtain ⟨ρ, hρ⟩ : ∃ ρ, a'.eval = ρ := ⟨_, rfl⟩
                  have hcst : ∀ v, ρ (.const v) = v := fun v => by rw [← hρ]; rfl
                  have hfnc : ∀ f, ρ (.func f) = .func (.func f) #[] #[] := fun f => by rw [← hρ]; rfl
                  have hsz := hb.size
                  have h79 := hL.get 79 (by simp [Op.operands, Call.operands]) (by kernel_rfl)
                  rw [hρ] at h79
                  simp only [PhiS19] at h79
                  exact .val ⟨.int .u8 ((y.b : Int) % 15), W, by rw [hρ]; simp [go_sem, hcst, h79, tm15 y.b], Below.refl _ _, fun t ht => by cases ht; rfl⟩
                · intro a' W hb hL
                  obtain ⟨ρ, hρ⟩ : ∃ ρ, a'.eval = ρ := ⟨_, rfl⟩
                  have hcst : ∀ v, ρ (.const v) = v := fun v => by rw [← hρ]; rfl
                  have hfnc : ∀ f, ρ (.func f) = .func (.func f) #[] #[] := fun f => by rw [← hρ]; rfl
                  have hsz := hb.size
                  have h80 := hL.get 80 (by simp [Op.operands, Call.operands]) (by kernel_rfl)
                  rw [hρ] at h80
                  simp only [PhiS19] at h80
                  refine .call ⟨10, #[.int .u8 ((y.b : Int) % 15), .string ⟨#[]⟩], W, by rw [hρ]; simp [go_sem, hcst, hfnc, h80], ?_⟩
                  rw [show ((y.b : Int) % 15) = ((y.b % 15 : Nat) : Int) by omega]
                  exact (name12_any (y.b % 15) (by omega) _ W).mono fun e W' ⟨he, hb'⟩ => ⟨_, he, hb', fun t ht => by cases ht; rfl⟩
                · intro a' W hb hL
                  obtain ⟨ρ, hρ⟩ : ∃ ρ, a'.eval = ρ := ⟨_, rfl⟩
                  have hcst : ∀ v, ρ (.const v) = v := fun v => by rw [← hρ]; rfl
                  have hfnc : ∀ f, ρ (.func f) = .func (.func f) #[] #[] := fun f => by rw [← hρ]; rfl
                  have hsz := hb.size
                  have h11 : a'.eval (.tmp 11) = .pointer (some ⟨g, 0, none⟩) := hL.free 11 (free_of (by kernel_rfl))
                  rw [hρ] at h11
                  exact .val ⟨.pointer (some ⟨g, 3, none⟩), W, by rw [hρ]; simp [go_sem, hcst, h11], Below.refl _ _, fun t ht => by cases ht; rfl⟩
                · intro a' W hb hL
                  obtain ⟨ρ, hρ⟩ : ∃ ρ, a'.eval = ρ := ⟨_, rfl⟩
                  have hcst : ∀ v, ρ (.const v) = v := fun v => by rw [← hρ]; rfl
                  have hfnc : ∀ f, ρ (.func f) = .func (.func f) #[] #[] := fun f => by rw [← hρ]; rfl
                  have hsz := hb.size
                  have h82 := hL.get 82 (by simp [Op.operands, Call.operands]) (by kernel_rfl)
                  rw [hρ] at h82
                  simp only [PhiS19] at h82
                  have hA := hA0.below hb hA0.lt
                  have c := hA.cell 3
                  simp only [List.getElem?_toArray, List.getElem?_cons_zero, List.getElem?_cons_succ] at c
                  exact .val ⟨.int .u8 y.d, W, by rw [hρ]; simp [go_sem, hcst, h82, c], Below.refl _ _, fun t ht => by cases ht; rfl⟩
                · intro a' W hb hL
                  obtain ⟨ρ, hρ⟩ : ∃ ρ, a'.eval = ρ := ⟨_, rfl⟩
                  have hcst : ∀ v, ρ (.const v) = v := fun v => by rw [← hρ]; rfl
                  have hfnc : ∀ f, ρ (.func f) = .func (.func f) #[] #[] := fun f => by rw [← hρ]; rfl
                  have hsz := hb.size
                  have h83 := hL.get 83 (by simp [Op.operands, Call.operands]) (by kernel_rfl)
                  rw [hρ] at h83
                  simp only [PhiS19] at h83
                  exact .val ⟨.int .u8 ((y.d : Int) % 3), W, by rw [hρ]; simp [go_sem, hcst, h83, tm3 y.d], Below.refl _ _, fun t ht => by cases ht; rfl⟩
                · intro a' W hb hL
                  obtain ⟨ρ, hρ⟩ : ∃ ρ, a'.eval = ρ := ⟨_, rfl⟩
                  have hcst : ∀ v, ρ (.const v) = v := fun v => by rw [← hρ]; rfl
                  have hfnc : ∀ f, ρ (.func f) = .func (.func f) #[] #[] := fun f => by rw [← hρ]; rfl
                  have hsz := hb.size
                  have h84 := hL.get 84 (by simp [Op.operands, Call.operands]) (by kernel_rfl)
                  rw [hρ] at h84
                  simp only [PhiS19] at h84
                  exact .val ⟨.int .u8 (120 + (y.d : Int) % 3), W, by rw [hρ]; simp [go_sem, hcst, h84, wr120 y.d], Below.refl _ _, fun t ht => by cases ht; rfl⟩
                · intro a' W hb hL
                  obtain ⟨ρ, hρ⟩ : ∃ ρ, a'.eval = ρ := ⟨_, rfl⟩
                  have hcst : ∀ v, ρ (.const v) = v := fun v => by rw [← hρ]; rfl
                  have hfnc : ∀ f, ρ (.func f) = .func (.func f) #[] #[] := fun f => by rw [← hρ]; rfl
                  have hsz := hb.size
                  have h85 := hL.get 85 (by simp [Op.operands, Call.operands]) (by kernel_rfl)
                  rw [hρ] at h85
                  simp only [PhiS19] at h85
                  exact .val ⟨.slice (some ⟨W.heap.size, 0, none⟩) 1 1, W.alloc (.cells #[.int .u8 (120 + (y.d : Int) % 3)] 5), by rw [hρ]; simp [go_sem, hcst, h85], (Below.refl _ _).alloc (Nat.le_refl _) _, fun t ht => by cases ht; exact ⟨_, rfl, Blk.new _ _ _⟩⟩
                · intro a' W hb hL
                  obtain ⟨ρ, hρ⟩ : ∃ ρ, a'.eval = ρ := ⟨_, rfl⟩
                  have hcst : ∀ v, ρ (.const v) = v := fun v => by rw [← hρ]; rfl
                  have hfnc : ∀ f, ρ (.func f) = .func (.func f) #[] #[] := fun f => by rw [← hρ]; rfl
                  have hsz := hb.size
                  have h86 := hL.get 86 (by simp [Op.operands, Call.operands]) (by kernel_rfl)
                  rw [hρ] at h86
                  simp only [PhiS19] at h86
                  obtain ⟨h, h86, hk⟩ := h86
                  have hcv := conv_dn y.d hk
                  exact .val ⟨.string (dn y.d), W, by rw [hρ]; simp [go_sem, hcst, h86, hcv], Below.refl _ _, fun t ht => by cases ht; rfl⟩
                · intro a' W hb hL
                  obtain ⟨ρ, hρ⟩ : ∃ ρ, a'.eval = ρ := ⟨_, rfl⟩
                  have hcst : ∀ v, ρ (.const v) = v := fun v => by rw [← hρ]; rfl
                  have hfnc : ∀ f, ρ (.func f) = .func (.func f) #[] #[] := fun f => by rw [← hρ]; rfl
                  have hsz := hb.size
                  have h12 : a'.eval (.tmp 12) = .int .u64 y.n := hL.free 12 (free_of (by kernel_rfl))
                  rw [hρ] at h12
                  exact .val ⟨.int .u64 y.n, W, by rw [hρ]; simp [go_sem, hcst, h12], Below.refl _ _, fun t ht => by cases ht; rfl⟩
              case hQ =>
                intro ys W hlen hb hY
                obtain ⟨y0, ys0, rfl, hl0⟩ := cons_of' hlen
                obtain ⟨y1, ys1, rfl, hl1⟩ := cons_of' hl0
                obtain ⟨y2, ys2, rfl, hl2⟩ := cons_of' hl1
                obtain ⟨y3, ys3, rfl, hl3⟩ := cons_of' hl2
                obtain ⟨y4, ys4, rfl, hl4⟩ := cons_of' hl3
                obtain ⟨y5, ys5, rfl, hl5⟩ := cons_of' hl4
                obtain ⟨y6, ys6, rfl, hl6⟩ := cons_of' hl5
                obtain ⟨y7, ys7, rfl, hl7⟩ := cons_of' hl6
                obtain ⟨y8, ys8, rfl, hl8⟩ := cons_of' hl7
                obtain ⟨y9, ys9, rfl, hl9⟩ := cons_of' hl8
                obtain ⟨y10, ys10, rfl, hl10⟩ := cons_of' hl9
                obtain ⟨y11, ys11, rfl, hl11⟩ := cons_of' hl10
                obtain ⟨y12, ys12, rfl, hl12⟩ := cons_of' hl11
                obtain ⟨y13, ys13, rfl, hl13⟩ := cons_of' hl12
                obtain ⟨y14, ys14, rfl, hl14⟩ := cons_of' hl13
                obtain ⟨y15, ys15, rfl, hl15⟩ := cons_of' hl14
                obtain rfl := List.length_eq_zero_iff.1 hl15
                simp only [List.take_succ_cons, List.take_zero, List.drop_succ_cons, List.drop_zero, List.zip_cons_cons, List.zip_nil_left, List.zip_nil_right, List.foldl_cons, List.foldl_nil, Act.put, HoldsY, PhiS19] at hY ⊢
                clear hlen hl0 hl1 hl2 hl3 hl4 hl5 hl6 hl7 hl8 hl9 hl10 hl11 hl12 hl13 hl14 hl15
                simp only [List.setIfInBounds_toArray, List.set_cons_succ, List.set_cons_zero]
                obtain ⟨rfl, rfl, rfl, rfl, rfl, rfl, rfl, rfl, rfl, rfl, rfl, rfl, rfl, ⟨hh, rfl, _⟩, rfl, rfl, _⟩ := hY

                have Hm := Lib.hid (move_any (hB1.below hb) (by simp only [maxLen]; omega) (nameS (y.a % 15) ⟨#[]⟩) (nameS (y.b % 15) ⟨#[]⟩) (dn y.d) y.n (nameS_size _ (by decide) (by decide)) (nameS_size _ (by decide) (by decide)) (by rw [dn_size]; decide) hz)
                have Htm := Lib.hid (fun d => Bk.tot_move hB1.fine (nameS (y.a % 15) ⟨#[]⟩).data.toList (nameS (y.b % 15) ⟨#[]⟩).data.toList (dn y.d).data.toList y.n d)
                have HaD := Lib.hid (had1.move (nameS (y.a % 15) ⟨#[]⟩).data.toList (nameS (y.b % 15) ⟨#[]⟩).data.toList (k := y.d % 3) (by omega) y.n)
                rw [← dn_dk] at HaD
                have hb01 := hb1.trans (hb.mono hb1.size)
                have hS1 := hS1.below hb hS1.lt
                clear hB1 hb1 hb hA1
                generalize Bk.move m1 (nameS (y.a % 15) ⟨#[]⟩).data.toList (nameS (y.b % 15) ⟨#[]⟩).data.toList (dn y.d).data.toList y.n = r at *
                go_wp2_with fail
                refine Hm.out.mono ?_
                rintro e W3 ⟨v, rfl, _, hB3, hg3⟩
                have hb3 := below_of_grown hb01 hg3 (by omega)
                have hS3 := hS1.other hg3 (by omega)
                clear Hm hb01 hg3 hS1
                go_wp2
                refine ⟨⟨i + 1, nn + 3, r.2, rfl, hil, by omega, by omega, hB3, hb3, hS3, HaD.out, fun d => (Htm.out d).trans (ht1 d)⟩, ?_⟩
                show len2 - ((i : Int) + 1).toNat < len2 - (i : Int).toNat
                omega

        · clear Hh Hh2
          have hfine := hBr.fine
          have hN1 : Blk (wr.alloc (.cells #[.int .u64 0, .int .u64 0, .int .u64 0] 47)) wr.heap.size 47 (sums3 []) := Blk.new _ _ _
          have hB1 := hBr.alloc (.cells #[.int .u64 0, .int .u64 0, .int .u64 0] 47)
          have hb1 := hbr.alloc hbr.size (.cells #[.int .u64 0, .int .u64 0, .int .u64 0] 47)
          have hS1 := hSr.alloc (.cells #[.int .u64 0, .int .u64 0, .int .u64 0] 47)
          have Hall := Lib.hid (all_any hB1 (by omega))
          have hSN := hSr.lt
          have hNw := hbr.size
          try simp only [World.size_alloc] at hSN
          try simp only [World.size_alloc] at hNw
          have hN0 := hN1.lt
          clear hBr hbr hSr hB1
          go_wp2_with fail
          refine Hall.out.mono ?_
          rintro e W5 ⟨now, rfl, hc5, hb5, hln⟩
          simp only [World.size_alloc] at hc5 hN1 hN0
          obtain ⟨p, cap5, hrow⟩ := hc5.row
          obtain rfl := hrow.val
          have hN5 := hN1.below hb5 hN1.lt
          have hS5 := hS1.below hb5 hS1.lt
          have hb05 := hb1.trans (hb5.mono hb1.size)
          clear Hall hrow hN1 hS1 hb1 hb5
          clear hN0
          generalize wr.heap.size = N at *
          have hml : m1.length ≤ 9223372036854775807 := by omega
          go_wp2
          go_loopw [94] (fun v wr => ∃ i : Nat, v = .int .i64 i ∧ i ≤ m1.length ∧ CoinsAt wr (N + 1) (.slice p m1.length cap5) m1 ∧ Blk wr N 47 (sums3 (m1.take i)) ∧ Blk wr S 47 (sums3 m) ∧ Below w.heap.size w wr) (fun v _ => m1.length - (intOf v).toNat)
          case atStart => exact ⟨0, rfl, Nat.zero_le _, hc5, hN5, hS5, hb05⟩
          case round =>
            obtain ⟨i, rfl, hi, hcr, hNr, hSr, hbr⟩ := hrel
            by_cases hil : i < m1.length
            · obtain ⟨g, rfl, hgN, q0, q1, q2⟩ := hcr.cells hil
              obtain ⟨kd, hkd, hke⟩ := had1 _ (List.getElem_mem hil)
              have hx0 := hfine.pos _ (List.getElem_mem hil)
              have htk := fun j => Bk.tot_take_succ (Bk.dk j) m1 i hil
              have htl := Bk.tot_take_le (Bk.dk kd) m1 (i + 1)
              have htm := ht1 (Bk.dk kd)
              have hTk := hT kd
              rw [hke] at q1
              simp only [hke] at htk
              generalize m1[i].1.1.toArray = ac at *
              generalize m1[i].2 = x at *
              have hbd : Bk.tot (Bk.dk kd) (m1.take i) + x ≤ 18446744073709551615 := by
                have h1 := htk kd
                rw [if_pos rfl] at h1
                exact Nat.le_trans (by omega) (cap40_50 hn50 hTk (Nat.zero_le _))
              have hb1 : ((dkb kd).toNat : Int) = 120 + (kd : Int) := dkb_val hkd
              have q1' : wr.cell? ⟨g, i * 3 + 1, none⟩ = some (.string ⟨#[dkb kd]⟩) := q1
              have ht0 : ((x : Int) == 0) = false := by simp; omega
              have cN := sums3_cell hNr hkd
              have fN := hNr.frozen kd
              have Hset := Lib.hid (sums3_set (m := m1.take i) (m' := m1.take (i + 1)) hkd (q := x) (fun j _ => htk j))
              have hbx := hbr.alloc hbr.size (.cells #[.string ⟨ac⟩, .string ⟨#[dkb kd]⟩, .int .u64 x] 49)
              have Hcx := Lib.hid (hcr.grown (below_grown ((Below.refl _ _).alloc (Nat.le_refl _) (.cells #[.string ⟨ac⟩, .string ⟨#[dkb kd]⟩, .int .u64 x] 49)) none) (fun j e => by cases e))
              have HNx := Lib.hid (hNr.alloc (.cells #[.string ⟨ac⟩, .string ⟨#[dkb kd]⟩, .int .u64 x] 49))
              have HSx := Lib.hid (hSr.alloc (.cells #[.string ⟨ac⟩, .string ⟨#[dkb kd]⟩, .int .u64 x] 49))
              have Hbx := Lib.hid hbx
              clear htk htl htm hTk q1 hke hcr hbr hbx
              have HAx := Lib.hid (Blk.new wr 49 #[.string ⟨ac⟩, .string ⟨#[dkb kd]⟩, .int .u64 x])
              go_wp2_with fail
              clear hNr hSr q0 q1' q2 cN fN
              have hA1 := HAx.out
              have hgl := hA1.lt
              have hN1 := HNx.out
              have hb1' := Hbx.out
              generalize wr.alloc (.cells #[.string ⟨ac⟩, .string ⟨#[dkb kd]⟩, .int .u64 x] 49) = W0 at *
              generalize wr.heap.size = gc at *
              refine wp_region_growF 10 (PhiS27 gc N kd x (Bk.tot (Bk.dk kd) (m1.take i)) (Bk.dk kd)) (by kernel_rfl) (PhiS27_stable gc N kd x (Bk.tot (Bk.dk kd) (m1.take i)) (Bk.dk kd)) (by kernel_rfl) (by kernel_rfl) ?hstep ?hQ
              case hstep =>
                have hA0 := hA1
                simp only [List.take_succ_cons, List.take_zero]
                refine List.forall_mem_cons.2 ⟨?_, List.forall_mem_cons.2 ⟨?_, List.forall_mem_cons.2 ⟨?_, List.forall_mem_cons.2 ⟨?_, List.forall_mem_cons.2 ⟨?_, List.forall_mem_cons.2 ⟨?_, List.forall_mem_cons.2 ⟨?_, List.forall_mem_cons.2 ⟨?_, List.forall_mem_cons.2 ⟨?_, List.forall_mem_cons.2 ⟨?_, fun _ h => absurd h List.not_mem_nil⟩⟩⟩⟩⟩⟩⟩⟩⟩⟩
                · intro a' W hb hL
                  obtain ⟨ρ, hρ⟩ : ∃ ρ, a'.eval = ρ := ⟨_, rfl⟩
                  have hcst : ∀ v, ρ (.const v) = v := fun v => by rw [← hρ]; rfl
                  have hfnc : ∀ f, ρ (.func f) = .func (.func f) #[] #[] := fun f => by rw [← hρ]; rfl
                  have hsz := hb.size
                  have h15 : a'.eval (.tmp 15) = .pointer (some ⟨gc, 0, none⟩) := hL.free 15 (free_of (by kernel_rfl))
                  rw [hρ] at h15
                  exact .val ⟨.pointer (some ⟨gc, 1, none⟩), W, by rw [hρ]; simp [go_sem, hcst, h15], Below.refl _ _, fun t ht => by cases ht; rfl⟩
                · intro a' W hb hL
                  obtain ⟨ρ, hρ⟩ : ∃ ρ, a'.eval = ρ := ⟨_, rfl⟩
                  have hcst : ∀ v, ρ (.const v) = v := fun v => by rw [← hρ]; rfl
                  have hfnc : ∀ f, ρ (.func f) = .func (.func f) #[] #[] := fun f => by rw [← hρ]; rfl
                  have hsz := hb.size
                  have h107 := hL.get 107 (by simp [Op.operands, Call.operands]) (by kernel_rfl)
                  rw [hρ] at h107
                  simp only [PhiS27] at h107
                  have hA := hA0.below hb hA0.lt
                  have c1 := hA.cell 1
                  have c2 := hA.cell 2
                  simp only [List.getElem?_toArray, List.getElem?_cons_zero, List.getElem?_cons_succ] at c1 c2
                  exact .val ⟨.string ⟨#[dkb kd]⟩, W, by rw [hρ]; simp [go_sem, hcst, h107, c1], Below.refl _ _, fun t ht => by cases ht; rfl⟩
                · intro a' W hb hL
                  obtain ⟨ρ, hρ⟩ : ∃ ρ, a'.eval = ρ := ⟨_, rfl⟩
                  have hcst : ∀ v, ρ (.const v) = v := fun v => by rw [← hρ]; rfl
                  have hfnc : ∀ f, ρ (.func f) = .func (.func f) #[] #[] := fun f => by rw [← hρ]; rfl
                  have hsz := hb.size
                  have h108 := hL.get 108 (by simp [Op.operands, Call.operands]) (by kernel_rfl)
                  rw [hρ] at h108
                  simp only [PhiS27] at h108
                  exact .val ⟨.int .u8 ((dkb kd).toNat : Int), W, by rw [hρ]; simp [go_sem, hcst, h108]; rfl, Below.refl _ _, fun t ht => by cases ht; rfl⟩
                · intro a' W hb hL
                  obtain ⟨ρ, hρ⟩ : ∃ ρ, a'.eval = ρ := ⟨_, rfl⟩
                  have hcst : ∀ v, ρ (.const v) = v := fun v => by rw [← hρ]; rfl
                  have hfnc : ∀ f, ρ (.func f) = .func (.func f) #[] #[] := fun f => by rw [← hρ]; rfl
                  have hsz := hb.size
                  have h109 := hL.get 109 (by simp [Op.operands, Call.operands]) (by kernel_rfl)
                  rw [hρ] at h109
                  simp only [PhiS27] at h109
                  have hws := dkb_sub hkd
                  exact .val ⟨.int .u8 kd, W, by rw [hρ]; simp [go_sem, hcst, h109, hws], Below.refl _ _, fun t ht => by cases ht; rfl⟩
                · intro a' W hb hL
                  obtain ⟨ρ, hρ⟩ : ∃ ρ, a'.eval = ρ := ⟨_, rfl⟩
                  have hcst : ∀ v, ρ (.const v) = v := fun v => by rw [← hρ]; rfl
                  have hfnc : ∀ f, ρ (.func f) = .func (.func f) #[] #[] := fun f => by rw [← hρ]; rfl
                  have hsz := hb.size
                  have h13 : a'.eval (.tmp 13) = .pointer (some ⟨N, 0, none⟩) := hL.free 13 (free_of (by kernel_rfl))
                  rw [hρ] at h13
                  have h110 := hL.get 110 (by simp [Op.operands, Call.operands]) (by kernel_rfl)
                  rw [hρ] at h110
                  simp only [PhiS27] at h110
                  have hk3 : (kd : Int) < 3 := by omega
                  exact .val ⟨.pointer (some ⟨N, kd, none⟩), W, by rw [hρ]; simp [go_sem, hcst, h13, h110, hk3], Below.refl _ _, fun t ht => by cases ht; rfl⟩
                · intro a' W hb hL
                  obtain ⟨ρ, hρ⟩ : ∃ ρ, a'.eval = ρ := ⟨_, rfl⟩
                  have hcst : ∀ v, ρ (.const v) = v := fun v => by rw [← hρ]; rfl
                  have hfnc : ∀ f, ρ (.func f) = .func (.func f) #[] #[] := fun f => by rw [← hρ]; rfl
                  have hsz := hb.size
                  have h111 := hL.get 111 (by simp [Op.operands, Call.operands]) (by kernel_rfl)
                  rw [hρ] at h111
                  simp only [PhiS27] at h111
                  have cN := sums3_cell (hN1.below hb hN1.lt) hkd
                  exact .val ⟨.int .u64 (Bk.tot (Bk.dk kd) (m1.take i)), W, by rw [hρ]; simp [go_sem, hcst, h111, cN], Below.refl _ _, fun t ht => by cases ht; rfl⟩
                · intro a' W hb hL
                  obtain ⟨ρ, hρ⟩ : ∃ ρ, a'.eval = ρ := ⟨_, rfl⟩
                  have hcst : ∀ v, ρ (.const v) = v := fun v => by rw [← hρ]; rfl
                  have hfnc : ∀ f, ρ (.func f) = .func (.func f) #[] #[] := fun f => by rw [← hρ]; rfl
                  have hsz := hb.size
                  have h15 : a'.eval (.tmp 15) = .pointer (some ⟨gc, 0, none⟩) := hL.free 15 (free_of (by kernel_rfl))
                  rw [hρ] at h15
                  exact .val ⟨.pointer (some ⟨gc, 2, none⟩), W, by rw [hρ]; simp [go_sem, hcst, h15], Below.refl _ _, fun t ht => by cases ht; rfl⟩
                · intro a' W hb hL
                  obtain ⟨ρ, hρ⟩ : ∃ ρ, a'.eval = ρ := ⟨_, rfl⟩
                  have hcst : ∀ v, ρ (.const v) = v := fun v => by rw [← hρ]; rfl
                  have hfnc : ∀ f, ρ (.func f) = .func (.func f) #[] #[] := fun f => by rw [← hρ]; rfl
                  have hsz := hb.size
                  have h113 := hL.get 113 (by simp [Op.operands, Call.operands]) (by kernel_rfl)
                  rw [hρ] at h113
                  simp only [PhiS27] at h113
                  have hA := hA0.below hb hA0.lt
                  have c1 := hA.cell 1
                  have c2 := hA.cell 2
                  simp only [List.getElem?_toArray, List.getElem?_cons_zero, List.getElem?_cons_succ] at c1 c2
                  exact .val ⟨.int .u64 x, W, by rw [hρ]; simp [go_sem, hcst, h113, c2], Below.refl _ _, fun t ht => by cases ht; rfl⟩
                · intro a' W hb hL
                  obtain ⟨ρ, hρ⟩ : ∃ ρ, a'.eval = ρ := ⟨_, rfl⟩
                  have hcst : ∀ v, ρ (.const v) = v := fun v => by rw [← hρ]; rfl
                  have hfnc : ∀ f, ρ (.func f) = .func (.func f) #[] #[] := fun f => by rw [← hρ]; rfl
                  have hsz := hb.size
                  have h112 := hL.get 112 (by simp [Op.operands, Call.operands]) (by kernel_rfl)
                  rw [hρ] at h112
                  simp only [PhiS27] at h112
                  have h114 := hL.get 114 (by simp [Op.operands, Call.operands]) (by kernel_rfl)
                  rw [hρ] at h114
                  simp only [PhiS27] at h114
                  have hwa := wadd64 hbd
                  exact .val ⟨.int .u64 (((Bk.tot (Bk.dk kd) (m1.take i)) : Int) + x), W, by rw [hρ]; simp [go_sem, hcst, h112, h114, hwa], Below.refl _ _, fun t ht => by cases ht; rfl⟩
                · intro a' W hb hL
                  obtain ⟨ρ, hρ⟩ : ∃ ρ, a'.eval = ρ := ⟨_, rfl⟩
                  have hcst : ∀ v, ρ (.const v) = v := fun v => by rw [← hρ]; rfl
                  have hfnc : ∀ f, ρ (.func f) = .func (.func f) #[] #[] := fun f => by rw [← hρ]; rfl
                  have hsz := hb.size
                  have h13 : a'.eval (.tmp 13) = .pointer (some ⟨N, 0, none⟩) := hL.free 13 (free_of (by kernel_rfl))
                  rw [hρ] at h13
                  have h110 := hL.get 110 (by simp [Op.operands, Call.operands]) (by kernel_rfl)
                  rw [hρ] at h110
                  simp only [PhiS27] at h110
                  have hk3 : (kd : Int) < 3 := by omega
                  exact .val ⟨.pointer (some ⟨N, kd, none⟩), W, by rw [hρ]; simp [go_sem, hcst, h13, h110, hk3], Below.refl _ _, fun t ht => by cases ht; rfl⟩
              case hQ =>
                intro ys W hlen hb hY
                obtain ⟨y0, ys0, rfl, hl0⟩ := cons_of' hlen
                obtain ⟨y1, ys1, rfl, hl1⟩ := cons_of' hl0
                obtain ⟨y2, ys2, rfl, hl2⟩ := cons_of' hl1
                obtain ⟨y3, ys3, rfl, hl3⟩ := cons_of' hl2
                obtain ⟨y4, ys4, rfl, hl4⟩ := cons_of' hl3
                obtain ⟨y5, ys5, rfl, hl5⟩ := cons_of' hl4
                obtain ⟨y6, ys6, rfl, hl6⟩ := cons_of' hl5
                obtain ⟨y7, ys7, rfl, hl7⟩ := cons_of' hl6
                obtain ⟨y8, ys8, rfl, hl8⟩ := cons_of' hl7
                obtain ⟨y9, ys9, rfl, hl9⟩ := cons_of' hl8
                obtain rfl := List.length_eq_zero_iff.1 hl9
                simp only [List.take_succ_cons, List.take_zero, List.drop_succ_cons, List.drop_zero, List.zip_cons_cons, List.zip_nil_left, List.zip_nil_right, List.foldl_cons, List.foldl_nil, Act.put, HoldsY, PhiS27] at hY ⊢
                clear hlen hl0 hl1 hl2 hl3 hl4 hl5 hl6 hl7 hl8 hl9
                simp only [List.setIfInBounds_toArray, List.set_cons_succ, List.set_cons_zero]
                obtain ⟨rfl, rfl, rfl, rfl, rfl, rfl, rfl, rfl, rfl, rfl, _⟩ := hY

                have cN := sums3_cell (hN1.below hb hN1.lt) hkd
                have fN := (hN1.below hb hN1.lt).frozen kd
                have HSt := Lib.hid ((hN1.below hb hN1.lt).set_ kd (.int .u64 ((Bk.tot (Bk.dk kd) (m1.take i) : Int) + x)))
                rw [Hset.out] at HSt
                have HS2 := Lib.hid ((HSx.out.below hb HSx.out.lt).far (p := ⟨N, kd, none⟩) (show S ≠ N by omega) (.int .u64 ((Bk.tot (Bk.dk kd) (m1.take i) : Int) + x)))
                have HC2 := Lib.hid ((Hcx.out.grown (below_grown hb none) (fun j e => by cases e)).grown (grown_cell' W N kd (.int .u64 ((Bk.tot (Bk.dk kd) (m1.take i) : Int) + x))) (fun j e => by cases e; simp [Value.ownBlock]; omega))
                have HB2 := Lib.hid ((hb1'.trans (hb.mono hb1'.size)).setCell (p := ⟨N, kd, none⟩) (by show w.heap.size ≤ N; omega) (.int .u64 ((Bk.tot (Bk.dk kd) (m1.take i) : Int) + x)))
                clear hA1 hN1 hb1' hb HAx HNx HSx Hcx Hbx Hset
                go_wp2
                refine ⟨⟨i + 1, rfl, hil, HC2.out, HSt.out, HS2.out, HB2.out⟩, ?_⟩
                show m1.length - ((i : Int) + 1).toNat < m1.length - (i : Int).toNat
                omega

            · have e3 : sums3 (m1.take i) = sums3 m := by
                rw [List.take_of_length_le (by omega)]
                simp only [sums3, ht1]
              rw [e3] at hNr
              have n0 := hNr.cell 0
              have n1 := hNr.cell 1
              have n2 := hNr.cell 2
              have s0 := hSr.cell 0
              have s1 := hSr.cell 1
              have s2 := hSr.cell 2
              simp only [sums3, List.getElem?_toArray, List.getElem?_cons_zero, List.getElem?_cons_succ] at n0 n1 n2 s0 s1 s2
              have he := eql3 (Bk.tot (Bk.dk 0) m) (Bk.tot (Bk.dk 1) m) (Bk.tot (Bk.dk 2) m)
              clear e3 hNr hSr hcr hT ht1
              go_wp2
              go_ret
              exact ⟨rfl, hbr⟩
end Go.Proofs.YtidkamnciomnmaaDoor
