/-
  THE CONTRACT OF ferrymanref11.SameCoins.
-/
import Derived.Test.YtidkamnciomnmaaDoorOrd
import Derived.Laws.StructEq
import Derived.LoopN
namespace Go.Proofs.YtidkamnciomnmaaDoor
open Go.RowKit Go.Maps Go.Lib

/-- a slice of coins, as an index reads it -/
structure Row (w : World) (v : Value) (l : Bk.M) (p : Option Addr) (cap : Nat) : Prop where
  val : v = .slice p l.length cap
  at_ : ∀ (i : Nat) (h : i < l.length), ∃ g, p = some ⟨g, 0, none⟩ ∧ w.cell? ⟨g, i * 3, none⟩ = some (.string ⟨l[i].1.1.toArray⟩) ∧ w.cell? ⟨g, i * 3 + 1, none⟩ = some (.string ⟨l[i].1.2.toArray⟩) ∧ w.cell? ⟨g, i * 3 + 2, none⟩ = some (.int .u64 l[i].2)

theorem CoinsAt.row {w : World} {base : Nat} {v : Value} {l : Bk.M} (h : CoinsAt w base v l) : ∃ p cap, Row w v l p cap := by
  rcases h with ⟨rfl, rfl⟩ | ⟨g, cap, h1, h2, h3, h4, h5⟩
  · exact ⟨none, 0, rfl, fun i h => absurd h (by simp)⟩
  · refine ⟨_, cap, h4, fun i h => ⟨g, rfl, ?_, ?_, ?_⟩⟩
    · exact h5 i h 0 (by decide)
    · exact h5 i h 1 (by decide)
    · exact h5 i h 2 (by decide)
theorem fieldsCoin : Tryd.prog.underlying 49 = some (.struct (Tryd.prog.fieldsOf 49)) := by kernel_rfl
theorem eqGuardCoin : Tryd.prog.eqGuardType Tryd.prog.depth 49 = false := by kernel_rfl
theorem stoodCoin : Tryd.prog.stoodInHeld 49 = false := by kernel_rfl
theorem flist : (Tryd.prog.fieldsOf 49).toList = [{ name := "Account", type := 9, offset := 0, embedded := false, tag := "", pkgPath := "", byteOffset := 0 }, { name := "Denom", type := 9, offset := 1, embedded := false, tag := "", pkgPath := "", byteOffset := 16 }, { name := "Amount", type := 30, offset := 2, embedded := false, tag := "", pkgPath := "", byteOffset := 32 }] := by kernel_rfl
theorem neq_coin (c c' : Bk.Key × Nat) (w : World) : (binOp .neq 49 (.agg #[.string ⟨c.1.1.toArray⟩, .string ⟨c.1.2.toArray⟩, .int .u64 c.2]) (.agg #[.string ⟨c'.1.1.toArray⟩, .string ⟨c'.1.2.toArray⟩, .int .u64 c'.2])).run Tryd.prog w = .ok (.bool (!decide (c = c'))) w := by
  rw [run_neq_struct, run_equalIn_agg w 9999 49 _ _ fieldsCoin stoodCoin, flist]
  obtain ⟨⟨a, d⟩, x⟩ := c
  obtain ⟨⟨a', d'⟩, y⟩ := c'
  have e1 : ((⟨a.toArray⟩ : ByteArray).toList == (⟨a'.toArray⟩ : ByteArray).toList) = decide (a = a') := by rw [beq_toList]
  have e2 : ((⟨d.toArray⟩ : ByteArray).toList == (⟨d'.toArray⟩ : ByteArray).toList) = decide (d = d') := by rw [beq_toList]
  simp only [Op.eqFields]
  simp only [go_sem, part]
  simp [go_sem, part, run_equalIn_string w 9998 9 _ _ Tryd.underlying9, run_equalIn_int w 9998 30 _ _ _ _ Tryd.underlying30]
  by_cases h1 : a = a'
  · by_cases h2 : d = d'
    · by_cases h3 : x = y
      · simp [h1, h2, h3]
      · have h4 : ¬ (x : Int) = y := by omega
        simp [h1, h2, h3, h4]
    · simp [h1, h2]
  · simp [h1]
set_option maxRecDepth 100000 in
theorem same_any {w : World} {base base' : Nat} {v v' : Value} {l l' : Bk.M} (hv : CoinsAt w base v l) (hv' : CoinsAt w base' v' l') (hl : l.length ≤ maxLen) (hl' : l'.length ≤ maxLen) :
    Calls Tryd.prog 18 #[v, v'] w fun e w' => e = .returned (.bool (decide (l = l'))) ∧ ∃ k, w' = w.drewN k := by
  obtain ⟨p, cap, rfl, hat⟩ := hv.row
  obtain ⟨p', cap', rfl, hat'⟩ := hv'.row
  clear hv hv'
  unfold maxLen at hl hl'
  by_cases he : l.length = l'.length
  · go_enter Tryd.func18, Tryd.ntmps18
    go_wp2
    go_loopw [5] (fun v wr => ∃ i : Nat, v = .int .i64 i ∧ i ≤ l.length ∧ (∀ j, j < i → l[j]? = l'[j]?) ∧ ∃ k, wr = w.drewN k) (fun v _ => match v with | .int _ i => l.length - i.toNat | _ => 0)
    case atStart => exact ⟨0, rfl, Nat.zero_le _, fun j h => absurd h (Nat.not_lt_zero _), 0, rfl⟩
    case round =>
      obtain ⟨i, rfl, hi, hj, k, rfl⟩ := hrel
      by_cases hil : i < l.length
      · obtain ⟨g, rfl, a1, a2, a3⟩ := hat i hil
        obtain ⟨g', rfl, b1, b2, b3⟩ := hat' i (by omega)
        have hx : l[i]? = some l[i] := List.getElem?_eq_getElem hil
        have hx' : l'[i]? = some l'[i] := List.getElem?_eq_getElem (by omega)
        obtain ⟨c, hcc⟩ : ∃ c, c = l[i] := ⟨_, rfl⟩
        obtain ⟨c', hcc'⟩ : ∃ c', c' = l'[i] := ⟨_, rfl⟩
        rw [← hcc] at a1 a2 a3 hx
        rw [← hcc'] at b1 b2 b3 hx'
        have Hx := Lib.hid hx
        have Hx' := Lib.hid hx'
        have Hj := Lib.hid hj
        clear hat hat' hcc hcc' hx hx' hj
        have hne := neq_coin c c'
        have hgd := eqGuardCoin
        go_wp2
        go_quiet (fail)
        go_wp2
        · have h1 : c ≠ c' := by
            rename_i h
            simpa using h
          have Hne := Lib.hid (show decide (l = l') = false from decide_eq_false fun e => h1 (by
            have := Hx.out
            rw [e, Hx'.out] at this
            exact (Option.some.inj this).symm))
          go_ret
          exact ⟨by rw [Hne.out]; rfl, k + nq, by simp [World.drewN, Nat.add_assoc]⟩
        · have h1 : c = c' := by
            rename_i h
            simpa using h
          refine ⟨⟨i + 1, rfl, hil, fun j hj => ?_, k + nq, rfl⟩, ?_⟩
          · rcases Nat.lt_or_ge j i with h | h
            · exact Hj.out j h
            · obtain rfl : j = i := by omega
              rw [Hx.out, Hx'.out, h1]
          · show l.length - ((i : Int) + 1).toNat < l.length - (i : Int).toNat
            omega
      · have hll : l = l' := List.ext_getElem? fun j => by
          rcases Nat.lt_or_ge j i with h | h
          · exact hj j h
          · rw [List.getElem?_eq_none (by omega), List.getElem?_eq_none (by omega)]
        have Hll := Lib.hid hll
        clear hat hat' hj hll
        go_wp2
        go_ret
        exact ⟨by rw [decide_eq_true Hll.out]; rfl, k, rfl⟩
  · have hd : decide (l = l') = false := decide_eq_false fun e => he (by rw [e])
    rw [hd]
    clear hd
    go_enter Tryd.func18, Tryd.ntmps18
    go_wp2
    go_ret
    exact ⟨rfl, 0, rfl⟩
end Go.Proofs.YtidkamnciomnmaaDoor
