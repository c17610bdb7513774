/-
  errors.as OVER A CHAIN OF *fault.Step, errors.As AND fault.Code BY IT.
-/
import Derived.Test.YtidkamnciomnmaaDoorCode
namespace Go.Proofs.YtidkamnciomnmaaDoor
open Go.RowKit Go.Extern.Stop Go.Stop Go.Extern

theorem least_of {p : Nat → Prop} (n : Nat) : p n → ∃ m, p m ∧ ∀ k, p k → m ≤ k := by
  induction n using Nat.strongRecOn with
  | ind n ih =>
    intro h
    by_cases e : ∃ m, m < n ∧ p m
    · obtain ⟨m, hm, h'⟩ := e
      exact ih m hm h'
    · exact ⟨n, h, fun k hk => Nat.not_lt.1 fun hlt => e ⟨k, hlt, hk⟩⟩
/-- how many times an error of number c is wrapped -/
noncomputable def errLeft (w : World) (c : Nat) (v : Value) : Nat :=
  open Classical in if h : ∃ m, ErrD w m v c ∧ ∀ k, ErrD w k v c → m ≤ k then h.choose else 0
theorem errLeft_spec {w : World} {c k : Nat} {v : Value} (h : ErrD w k v c) : ErrD w (errLeft w c v) v c ∧ ∀ k, ErrD w k v c → errLeft w c v ≤ k := by
  have e : ∃ m, ErrD w m v c ∧ ∀ k, ErrD w k v c → m ≤ k := least_of k h
  unfold errLeft
  rw [dif_pos e]
  exact e.choose_spec
/-- an error that is there: an Errno, or a Step that wraps one less -/
theorem errD_parts {w : World} {c k : Nat} {v : Value} (h : ErrD w k v c) (hc : c ≠ 0) : v = .iface 41 (.int .i64 c) ∨
    ∃ (g : Nat) (s : ByteArray) (i : Int) (t : TypeId) (x : Value), v = .iface 72 (.pointer (some ⟨g, 0, none⟩)) ∧ Blk w g 74 #[.string s, .int .i64 i, .iface t x] ∧ (∃ j, ErrD w j (.iface t x) c) ∧ errLeft w c (.iface t x) < errLeft w c v := by
  obtain ⟨h1, h2⟩ := errLeft_spec h
  generalize hl : errLeft w c v = l at *
  cases l with
  | zero =>
    rcases h1 with h | h
    · exact absurd h.1 hc
    · exact .inl h.2
  | succ l =>
    rcases h1 with h | h | ⟨_, g, s, i, u, e, hb, hu⟩
    · exact absurd h.1 hc
    · exact .inl h.2
    · obtain ⟨t, x, rfl⟩ := hu.some hc
      exact .inr ⟨g, s, i, t, x, e, hb, ⟨_, hu⟩, Nat.lt_of_le_of_lt ((errLeft_spec hu).2 _ hu) (Nat.lt_succ_self l)⟩

theorem asNoAs (v : Value) (xT : TypeId) (w : World) : (Instr.typeAssert (.iface 72 v) xT 100 true).run Tryd.prog w = .ok (.tuple #[.nilIface, .bool false]) w := run_typeAssert_lacksB Tryd.underlying100 (by kernel_rfl) (by kernel_rfl) v xT w
theorem asUnwrap (v : Value) (xT : TypeId) (w : World) : (Instr.typeAssert (.iface 72 v) xT 103 true).run Tryd.prog w = .ok (.tuple #[.iface 72 v, .bool true]) w := run_typeAssert_hasB Tryd.underlying103 (by kernel_rfl) v xT w
theorem cell_lt {w : World} {p : Addr} {v : Value} (h : w.cell? p = some v) : p.block < w.heap.size := by
  rcases Nat.lt_or_ge p.block w.heap.size with hl | hl
  · exact hl
  · simp [World.cell?, Array.getElem?_eq_none hl] at h

set_option maxRecDepth 4000 in
set_option maxHeartbeats 4000000 in
/-- errors.as: true, and the target gets the number -/
theorem as1_any {k c : Nat} {v : Value} {w : World} (he : ErrD w k v c) (hc0 : c ≠ 0) (t b0 : Addr) (z old : Value) (ht0 : w.cell? t = some old) (hf0 : w.frozen? t = false) (hc : w.cell? b0 = some (.pointer (some t))) :
    Calls Tryd.prog 37 #[v, z, .agg #[.pointer (some ⟨2, 64, none⟩), .pointer (some b0), .int .u64 150], .iface 95 (.agg #[.pointer (some ⟨2, 41, none⟩)])] w
      fun ev w' => ev = .returned (.bool true) ∧ ((w.alloc (.cells #[.pointer (some ⟨2, 64, none⟩), .pointer (some b0), .int .u64 150] 79)).alloc (.cells #[.int .i64 c] 41)).setCell t (.int .i64 c) = w' := by
  have h11 := @run_callFunc_extern Tryd.prog 44 _ (ReflectliteValue.method (ReflectliteValue.valueError "reflectlite.Value.Elem" 0) ReflectliteValue.elem) Tryd.func44 (by kernel_rfl) (by kernel_rfl) (by kernel_rfl) (by kernel_rfl)
  have h6 := @run_callFunc_extern Tryd.prog 34 _ (fun args => ReflectliteValue.unpack (args.getD 0 (.tuple #[]))) Tryd.func34 (by kernel_rfl) (by kernel_rfl) (by kernel_rfl) (by kernel_rfl)
  have h12 := @run_callFunc_extern Tryd.prog 45 _ ReflectliteValue.set Tryd.func45 (by kernel_rfl) (by kernel_rfl) (by kernel_rfl) (by kernel_rfl)
  have h10 := @run_callFunc_extern Tryd.prog 43 _ ReflectliteType.typeOf Tryd.func43 (by kernel_rfl) (by kernel_rfl) (by kernel_rfl) (by kernel_rfl)
  have h35 := @run_callFunc_extern Tryd.prog 93 _ (ReflectliteType.relation "AssignableTo" ReflectliteType.assignableTo) Tryd.func93 (by kernel_rfl) (by kernel_rfl) (by kernel_rfl) (by kernel_rfl)
  have tO := typeOfE
  have tS := typeOfS
  have mA := methodAssignableTo
  have mU := methodUnwrap
  have aE := assignableE
  have aS := assignableS
  have vE := valueOfE
  have nA := asNoAs
  have uA := asUnwrap
  have htl := cell_lt ht0
  have hbl := cell_lt hc
  have el := elemVP b0 t (w.alloc (.cells #[.pointer (some ⟨2, 64, none⟩), .pointer (some b0), .int .u64 150] 79)) (by rw [World.cell?_alloc_lt _ _ b0 hbl]; exact hc)
  have st := setE t ⟨w.heap.size + 1, 0, none⟩ c old ((w.alloc (.cells #[.pointer (some ⟨2, 64, none⟩), .pointer (some b0), .int .u64 150] 79)).alloc (.cells #[.int .i64 c] 41))
    (by rw [World.cell?_alloc_at _ _ _ _ (by simp)]; rfl)
    (by rw [World.cell?_alloc_lt _ _ t (by simp; omega), World.cell?_alloc_lt _ _ t htl]; exact ht0)
    (by rw [World.frozen?_alloc_old _ _ t (by simp; omega), World.frozen?_alloc_old _ _ t (Nat.ne_of_lt htl)]; exact hf0)
  have he1 : ErrD (w.alloc (.cells #[.pointer (some ⟨2, 64, none⟩), .pointer (some b0), .int .u64 150] 79)) k v c := he.below ((Below.refl _ _).alloc (Nat.le_refl _) _)
  have Hc0 := Lib.hid hc0
  have He := Lib.hid (⟨k, he1⟩ : ∃ k, ErrD (w.alloc (.cells #[.pointer (some ⟨2, 64, none⟩), .pointer (some b0), .int .u64 150] 79)) k v c)
  have htS := Lib.hid ht0
  clear he he1 hc0 ht0 hf0 hc
  go_enter Tryd.func37, Tryd.ntmps37
  go_wp2
  go_loop [0] (fun v => ∃ k, ErrD (w.alloc (.cells #[.pointer (some ⟨2, 64, none⟩), .pointer (some b0), .int .u64 150] 79)) k v c) (fun v => errLeft (w.alloc (.cells #[.pointer (some ⟨2, 64, none⟩), .pointer (some b0), .int .u64 150] 79)) c v)
  case atStart => exact He.out
  case round =>
    obtain ⟨k, hk⟩ := hrel
    rcases errD_parts hk Hc0.out with rfl | ⟨g, s, i, ty, x, rfl, hb, hu, hlt⟩
    · clear hk He
      go_wp2
      go_ret
      exact ⟨rfl, rfl⟩
    · have Hu := Lib.hid hu
      have Hl := Lib.hid hlt
      have Hb := Lib.hid hb
      clear hk He hu hlt hb
      go_wp2_with (go_at_call 88; refine (unwrap_at Hb.out).mono ?_; rintro e w' ⟨rfl, rfl⟩)
      go_round
      case rel => exact Hu.out
      case measure => exact Hl.out

set_option maxRecDepth 4000 in
set_option maxHeartbeats 4000000 in
/-- errors.As at a *api.Errno -/
theorem as_any {k c : Nat} {v : Value} {w : World} (he : ErrD w k v c) (hc0 : c ≠ 0) (t : Addr) (old : Value) (hg : w.cell? ⟨0, 0, none⟩ = some (.iface 95 (.agg #[.pointer (some ⟨2, 36, none⟩)]))) (ht0 : w.cell? t = some old) (hf0 : w.frozen? t = false) :
    Calls Tryd.prog 27 #[v, .iface 64 (.pointer (some t))] w fun ev w' => ev = .returned (.bool true) ∧
      (((((w.alloc (.cells #[.pointer (some t)] 64)).alloc (.cells #[.pointer (some ⟨2, 64, none⟩), .pointer (some ⟨w.heap.size, 0, none⟩), .int .u64 150] 79)).alloc (.cells #[.pointer (some ⟨2, 64, none⟩), .pointer (some ⟨w.heap.size, 0, none⟩), .int .u64 150] 79)).alloc (.cells #[.int .i64 c] 41)).setCell t (.int .i64 c)) = w' := by
  have h6 := @run_callFunc_extern Tryd.prog 34 _ (fun args => ReflectliteValue.unpack (args.getD 0 (.tuple #[]))) Tryd.func34 (by kernel_rfl) (by kernel_rfl) (by kernel_rfl) (by kernel_rfl)
  have h7 := @run_callFunc_extern Tryd.prog 35 _ (ReflectliteValue.methodAny (ReflectliteValue.valueError "reflectlite.Value.Type" 0) (fun t _ _ _ => ReflectliteType.toType t)) Tryd.func35 (by kernel_rfl) (by kernel_rfl) (by kernel_rfl) (by kernel_rfl)
  have h8 := @run_callFunc_extern Tryd.prog 36 _ (ReflectliteValue.method (ReflectliteValue.valueError "reflectlite.Value.IsNil" 0) ReflectliteValue.isNil) Tryd.func36 (by kernel_rfl) (by kernel_rfl) (by kernel_rfl) (by kernel_rfl)
  have h27 := @run_callFunc_extern Tryd.prog 83 _ (ReflectliteType.abiMethod fun t => do pure (.int .u8 (← Rtype.kind t))) Tryd.func83 (by kernel_rfl) (by kernel_rfl) (by kernel_rfl) (by kernel_rfl)
  have h37 := @run_callFunc_extern Tryd.prog 95 _ (ReflectliteType.method ReflectliteType.elem) Tryd.func95 (by kernel_rfl) (by kernel_rfl) (by kernel_rfl) (by kernel_rfl)
  have h38 := @run_callFunc_extern Tryd.prog 96 _ (ReflectliteType.relation "Implements" ReflectliteType.implements_) Tryd.func96 (by kernel_rfl) (by kernel_rfl) (by kernel_rfl) (by kernel_rfl)
  have f6 := valueOfP
  have f7 := typeP
  have mK := methodKind
  have mE := methodElem
  have mI := methodImplements
  have k27 := kindP
  have k25 := kindE
  have e27 := elemP
  have i25 := implementsE
  have n8 := isNilP ⟨w.heap.size, 0, none⟩ t ((w.alloc (.cells #[.pointer (some t)] 64)).alloc (.cells #[.pointer (some ⟨2, 64, none⟩), .pointer (some ⟨w.heap.size, 0, none⟩), .int .u64 150] 79)) (by simp)
  have hlt := cell_lt hg
  have htl := cell_lt ht0
  have hg2 : ((w.alloc (.cells #[.pointer (some t)] 64)).alloc (.cells #[.pointer (some ⟨2, 64, none⟩), .pointer (some ⟨w.heap.size, 0, none⟩), .int .u64 150] 79)).cell? ⟨0, 0, none⟩ = some (.iface 95 (.agg #[.pointer (some ⟨2, 36, none⟩)])) := by
    rw [World.cell?_alloc_lt _ _ ⟨0, 0, none⟩ (by simp), World.cell?_alloc_lt _ _ ⟨0, 0, none⟩ hlt]; exact hg
  have ha := as1_any (w := (w.alloc (.cells #[.pointer (some t)] 64)).alloc (.cells #[.pointer (some ⟨2, 64, none⟩), .pointer (some ⟨w.heap.size, 0, none⟩), .int .u64 150] 79)) (he.below (((Below.refl _ _).alloc (Nat.le_refl _) _).alloc (by simp) _)) hc0 t ⟨w.heap.size, 0, none⟩ (.iface 64 (.pointer (some t))) old
    (by rw [World.cell?_alloc_lt _ _ t (by simp; omega), World.cell?_alloc_lt _ _ t htl]; exact ht0)
    (by rw [World.frozen?_alloc_old _ _ t (by simp; omega), World.frozen?_alloc_old _ _ t (Nat.ne_of_lt htl)]; exact hf0)
    (by simp)
  obtain ⟨ty, x, rfl⟩ := he.some hc0
  have Ha := Lib.hid ha
  clear ha he ht0 hf0 hg hc0
  go_enter Tryd.func27, Tryd.ntmps27
  go_wp2_with (go_at_call 37; refine Ha.out.mono ?_; rintro e w' ⟨rfl, rfl⟩)
  go_ret
  exact ⟨rfl, rfl⟩

/-- fault.Code: an error's number -/
theorem code_any {k c : Nat} {v : Value} {w : World} (he : ErrD w k v c) (hg : w.cell? ⟨0, 0, none⟩ = some (.iface 95 (.agg #[.pointer (some ⟨2, 36, none⟩)]))) :
    Calls Tryd.prog 17 #[v] w fun e w' => e = .returned (.int .i64 c) ∧ Below w.heap.size w w' := by
  by_cases hc0 : c = 0
  · subst hc0
    obtain rfl := he.zero
    go_enter Tryd.func17, Tryd.ntmps17
    go_wp2
    go_ret
    exact ⟨rfl, (Below.refl _ _).alloc (Nat.le_refl _) _⟩
  · have hlt := cell_lt hg
    have ha := as_any (w := w.alloc (.cells #[.int .i64 0] 41)) (he.below ((Below.refl _ _).alloc (Nat.le_refl _) _)) hc0 ⟨w.heap.size, 0, none⟩ (.int .i64 0) (by rw [World.cell?_alloc_lt _ _ ⟨0, 0, none⟩ hlt]; exact hg) (by simp) (by simp)
    obtain ⟨ty, x, rfl⟩ := he.some hc0
    have Ha := Lib.hid ha
    have Hc := Lib.hid hc0
    clear ha he hg hc0
    go_enter Tryd.func17, Tryd.ntmps17
    go_wp2_with fail
    refine Ha.out.mono ?_
    rintro e w' ⟨rfl, rfl⟩
    go_wp2
    go_ret
    exact ⟨rfl, (((((Below.refl _ _).alloc (Nat.le_refl _) _).alloc (by simp) _).alloc (by simp; omega) _).alloc (by simp; omega) _).alloc (by simp; omega) _⟩
end Go.Proofs.YtidkamnciomnmaaDoor
