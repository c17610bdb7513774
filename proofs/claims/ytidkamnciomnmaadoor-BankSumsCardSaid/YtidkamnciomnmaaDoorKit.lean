/-
  WHAT THE WALKS OF THE BANK LEAN ON: how a purse reads as a map's key; an entry of a map that is written in two steps; blocks that are known whole; what is in a bank; an error's number.
-/
import Derived.Test.YtidkamnciomnmaaDoorProg
import Derived.Test.YtidkamnciomnmaaDoorBkRef
import Derived.Maps.OwnSet
import Derived.WideKeyEntry
import Derived.DeepKeys4
import Derived.WalkKit
import Derived.Maps.RangeWalk
import Derived.Deep.Draws
import Derived.Deep.QuietTactic
import Derived.BigQuiet
import Derived.WalkLawsBesides
import Derived.WalkSpells
import Derived.Lib.Hide
import Derived.Lib.Bytealg
namespace Go.Proofs.YtidkamnciomnmaaDoor
open Go.RowKit Go.Maps Go.ChangeMaps Go.MapKept Go.WideShapes
open Go.WideElems (Fit rd rg pl rd_val elemAt entry_then_store findIdx_born findIdx_arr modify_last set_self)
open Go.WideMaps (KeyLaw)

/-! ### purses as keys -/
theorem two_of {cs : Array Value} (h : cs.size = 2) : ∃ c0 c1, cs = #[c0, c1] := by
  rcases cs with ⟨l⟩
  match l, h with
  | [c0, c1], _ => exact ⟨c0, c1, rfl⟩
theorem lo : laidOutB Tryd.prog = true := by kernel_rfl
theorem kta : Tryd.prog.keyTypeAt 5 59 = true := by kernel_rfl
theorem tsz : Tryd.prog.types.size = 161 := by kernel_rfl
theorem tsn : ∃ n, Tryd.prog.types.size = n + 1 := ⟨Tryd.prog.types.size - 1, by rw [tsz]⟩
theorem kLaw : KeyLaw Tryd.prog 59 := deep_law_laid (m := 5) (k := 59) lo (by decide) (by rw [tsz]; decide) kta (by rw [Tryd.underlying59])
theorem kt : Tryd.prog.keyType 59 = true := by kernel_rfl
def kl (a d : ByteArray) : Lit := .string (keyBytes [.string a.data.toList, .string d.data.toList])
theorem cellsPurse : Tryd.prog.cellsOf 59 = 2 := by kernel_rfl
theorem cellsStr : Tryd.prog.cellsOf 9 = 1 := by kernel_rfl
theorem kl9 (n : Nat) (s : ByteArray) (h : s.size ≤ maxLen) : Tryd.prog.keyLits (n + 1) 9 [.string s] = some [.string s.data.toList] := by
  simp [Program.keyLits, Tryd.underlying9, h]
theorem kl9_inv (n : Nat) {v : Value} {ls : List Lit} (h : Tryd.prog.keyLits (n + 1) 9 [v] = some ls) : ∃ s : ByteArray, v = .string s ∧ s.size ≤ maxLen ∧ ls = [.string s.data.toList] := by
  cases v <;> simp [Program.keyLits, Tryd.underlying9] at h
  exact ⟨_, rfl, h.1, h.2.symm⟩
theorem kl60 (n : Nat) (c0 c1 : Value) : Tryd.prog.keyLits (n + 1) 59 [c0, c1] = (Tryd.prog.keyLits n 9 [c0]).bind fun x => (Tryd.prog.keyLits n 9 [c1]).bind fun y => some (x ++ y) := by
  simp [Program.keyLits, Tryd.underlying59, cellsPurse, cellsStr]
  cases Tryd.prog.keyLits n 9 [c0] <;> cases Tryd.prog.keyLits n 9 [c1] <;> simp
theorem keyOf_mk (a d : ByteArray) (ha : a.size ≤ maxLen) (hd : d.size ≤ maxLen) : keyOf Tryd.prog 59 (.agg #[.string a, .string d]) = some (kl a d) := by
  have hf : (Value.agg #[.string a, .string d]).formed Tryd.prog 59 = true := by simp [Value.formed, Tryd.underlying59, cellsPurse]
  simp only [keyOf, Tryd.underlying59, kt, hf, Bool.and_self, if_true]
  obtain ⟨n, hn⟩ := tsn
  rw [show (Value.agg #[.string a, .string d]).cells.toList = [.string a, .string d] from rfl, hn, kl60, kl9 n a ha, kl9 n d hd]
  rfl
theorem keyOf_inv {v : Value} {l : Lit} (h : keyOf Tryd.prog 59 v = some l) : ∃ a d : ByteArray, v = .agg #[.string a, .string d] ∧ a.size ≤ maxLen ∧ d.size ≤ maxLen ∧ l = kl a d := by
  simp only [keyOf, Tryd.underlying59, kt, Bool.true_and] at h
  by_cases hf : v.formed Tryd.prog 59 = true
  · rw [if_pos hf] at h
    obtain ⟨cs, rfl⟩ : ∃ cs, v = .agg cs := by
      cases v <;> simp [Value.formed, Tryd.underlying59] at hf
      exact ⟨_, rfl⟩
    have hs : cs.size = 2 := by simpa [Value.formed, Tryd.underlying59, cellsPurse] using hf
    obtain ⟨c0, c1, rfl⟩ := two_of hs
    obtain ⟨n, hn⟩ := tsn
    rw [show (Value.agg #[c0, c1]).cells.toList = [c0, c1] from rfl, hn, kl60] at h
    cases h0 : Tryd.prog.keyLits (n + 1) 9 [c0] with
    | none => rw [h0] at h; cases h
    | some x =>
      cases h1 : Tryd.prog.keyLits (n + 1) 9 [c1] with
      | none => rw [h0, h1] at h; cases h
      | some y =>
        rw [h0, h1] at h
        have e := Option.some.inj h
        clear h
        have ⟨a, e1, ha, e2⟩ := kl9_inv n h0
        have ⟨d, e3, hd, e4⟩ := kl9_inv n h1
        clear h0 h1
        subst e1 e2 e3 e4
        exact ⟨a, d, rfl, ha, hd, e.symm⟩
  · rw [if_neg hf] at h; cases h

/-! ### an entry that is written in two steps -/
section
variable {H : Type} {P : Program} {w : World} {t k e : TypeId} {R : Value → Option (DataW H × List MemPlace)} {b n : Nat} {D : DataW H}

theorem lookup_run (K : KeyLaw P k) (ht : P.underlying t = some (.map k e)) {z : Value} (hz : (zeroValue e).run P w = .ok z w) {es : Array MapEntry} {clock : Nat} (hb : w.heap[b]? = some (.map es clock))
    (hks : ∀ x ∈ es.toList, ∃ l, keyOf P k x.key = some l) {key : Value} {kl : Lit} (hkey : keyOf P k key = some kl) :
    ((Instr.lookup t (.map (some b)) key false).run P w = .ok z w ∧ (∀ x ∈ es.toList, x.key ≠ key)) ∨
    ∃ e0 ∈ es.toList, e0.key = key ∧ (Instr.lookup t (.map (some b)) key false).run P w = .ok e0.val w := by
  rcases K.find w hkey es.toList hks with ⟨h1, h2⟩ | ⟨j, e0, h1, h2, h3⟩
  · exact .inl ⟨by simp [Instr.lookup, run_underlying ht, MapKept.run_getObj_map hb, K.check w _ hkey, h1, hz, Result.andThen], h2⟩
  · exact .inr ⟨e0, List.mem_of_getElem? h2, h3, by simp [Instr.lookup, run_underlying ht, MapKept.run_getObj_map hb, K.check w _ hkey, h1, Result.andThen]⟩

theorem setBlock_self {o : Obj} (hb : w.heap[b]? = some o) : setBlock w b o = w := by
  have e : w.heap.setIfInBounds b o = w.heap := by
    apply Array.ext_getElem?
    intro i
    by_cases hi : i = b
    · subst hi
      rw [Array.getElem?_setIfInBounds_self_of_lt (Array.getElem?_eq_some_iff.1 hb).1, hb]
    · rw [Array.getElem?_setIfInBounds_ne (Ne.symm hi)]
  unfold setBlock
  rw [e]

theorem setBlock_twice (o o' : Obj) : setBlock (setBlock w b o) b o' = setBlock w b o' := by simp [setBlock]

theorem fit_nd {es : Array MapEntry} {clock : Nat} (F : Fit P k R es clock) {x y : MapEntry} (hx : x ∈ es.toList) (hy : y ∈ es.toList) (h : x.key = y.key) : x = y := by
  have hn : es.toList.Pairwise (fun x y => x.key ≠ y.key) := ((stamped_iff es clock).1 F.stamped).2.2
  generalize es.toList = l at *
  induction l with
  | nil => cases hx
  | cons a r ih =>
    obtain ⟨h1, h2⟩ := List.pairwise_cons.1 hn
    rcases List.mem_cons.1 hx with hx | hx <;> rcases List.mem_cons.1 hy with hy | hy
    · rw [hx, hy]
    · exact absurd (hx ▸ h) (h1 y hy)
    · exact absurd (hy ▸ h).symm (h1 x hx)
    · exact ih hx hy h2

/-- 'm[k] op= v' IN TWO STEPS, the look-up ahead of either or between them: all three see one value. -/
theorem own_entry (h : w.ownsMap P k R b n D) (K : KeyLaw P k) (ht : P.underlying t = some (.map k e)) {z : Value} (hz : ∀ u : World, (zeroValue e).run P u = .ok z u) {zd : DataW H} {zp : List MemPlace} (hzd : R z = some (zd, zp))
    (hn : n < maxLen) {key : Value} {kl : Lit} (hkey : keyOf P k key = some kl) :
    ∃ (v0 : Value) (st : Nat) (W1 : World) (ps : List MemPlace), (Instr.lookup t (.map (some b)) key false).run P w = .ok v0 w ∧ R v0 = some (D.atKey kl zd, ps) ∧
      (Instr.mapEntry t (.map (some b)) key).run P w = .ok (.tuple #[v0, goInt st]) W1 ∧ (Instr.lookup t (.map (some b)) key false).run P W1 = .ok v0 W1 ∧
      ∀ (val : Value) (d : DataW H) (pv : List MemPlace), R val = some (d, pv) → ∃ W2, (Instr.entryStore t (.map (some b)) (goInt st) val).run P W1 = .ok () W2 ∧ W2.ownsMap P k R b (n + 1) (D.put kl d) ∧ w.mapTurned W2 b := by
  obtain ⟨v, ps, hl, hRv⟩ := h.lookup (Keyed.of_law K) ht (hz w) hzd hkey
  obtain ⟨es, clock, hb, F, hs, hD⟩ := id h
  obtain ⟨v0, st, es1, clock1, hme, hv0, hst⟩ := entry_then_store (R := R) K ht hz hb F hkey
  have hlt : b < w.heap.size := (Array.getElem?_eq_some_iff.1 hb).1
  have hb1 : (setBlock w b (.map es1 clock1)).heap[b]? = some (.map es1 clock1) := heap_setBlock_same hb _
  have hv : v0 = v := by
    rcases lookup_run K ht (hz w) hb F.keys hkey with ⟨h1, h2⟩ | ⟨e0, he0, h1, h2⟩
    · rw [hl] at h1
      injection h1 with h1 _
      rcases hv0 with ⟨e0, he0, h3, _⟩ | ⟨_, h3⟩
      · exact absurd h3 (h2 e0 he0)
      · rw [h3, h1]
    · rw [hl] at h2
      injection h2 with h2 _
      rcases hv0 with ⟨e1, he1, h3, h4⟩ | ⟨h3, _⟩
      · rw [h4, h2, fit_nd F he0 he1 (h1.trans h3.symm)]
      · exact absurd h1 (h3 e0 he0)
  subst hv
  have hloop : (Instr.lookup t (.map (some b)) key false).run P (setBlock w b (.map es1 clock1)) = .ok v0 (setBlock w b (.map es1 clock1)) := by
    rcases K.find w hkey es.toList F.keys with ⟨h1, h2⟩ | ⟨j, e0, h1, h2, h3⟩
    · have hm : (Instr.mapEntry t (.map (some b)) key).run P w = .ok (.tuple #[z, goInt clock]) (setBlock w b (.map (es.push ⟨key, z, clock⟩) (clock + 1))) := by
        simp [Instr.mapEntry, run_underlying ht, MapKept.run_getObj_map hb, K.check w false hkey, h1, hz, MapKept.run_setObj_map _ hb, Result.andThen, setBlock]
      have e12 := Result.ok.inj (hme.symm.trans hm)
      have e2 := e12.2
      have e3 : v0 = z := by have := Value.tuple.inj e12.1; exact congrArg (fun a : Array Value => a.getD 0 undef) this
      rw [e2]
      have hb2 : (setBlock w b (.map (es.push ⟨key, z, clock⟩) (clock + 1))).heap[b]? = some (.map (es.push ⟨key, z, clock⟩) (clock + 1)) := heap_setBlock_same hb _
      have hks : ∀ x ∈ (es.push ⟨key, z, clock⟩).toList, ∃ l, keyOf P k x.key = some l := fun x hx => by
        rw [Array.toList_push] at hx
        rcases List.mem_append.1 hx with hx | hx
        · exact F.keys x hx
        · rw [List.mem_singleton] at hx; subst hx; exact ⟨kl, hkey⟩
      rcases lookup_run K ht (hz _) hb2 hks hkey with ⟨g1, g2⟩ | ⟨e0, he0, g1, g2⟩
      · exact absurd rfl (g2 ⟨key, z, clock⟩ (by simp))
      · rw [g2, e3]
        rw [Array.toList_push] at he0
        rcases List.mem_append.1 he0 with hx | hx
        · exact absurd g1 (h2 e0 hx)
        · rw [List.mem_singleton] at hx; subst hx; rfl
    · have hj : es[j]? = some e0 := by simpa using h2
      have hsame : es.modify j (fun e => { e with key := key }) = es := by
        apply Array.ext'
        rw [Array.toList_modify, modify_eq_set _ _ _ _ h2]
        have : ({ e0 with key := key } : MapEntry) = e0 := by rw [← h3]
        rw [this]
        exact set_self _ _ _ h2
      have hm : (Instr.mapEntry t (.map (some b)) key).run P w = .ok (.tuple #[e0.val, goInt e0.born]) (setBlock w b (.map es clock)) := by
        simp [Instr.mapEntry, run_underlying ht, MapKept.run_getObj_map hb, K.check w false hkey, h1, hj, h3, K.stays w hkey, hsame, MapKept.run_setObj_map _ hb, Result.andThen, setBlock]
      have e2 := (Result.ok.inj (hme.symm.trans hm)).2
      rw [e2, setBlock_self hb]
      exact hl
  refine ⟨v0, st, _, ps, hl, hRv, hme, hloop, fun val d pv hval => ?_⟩
  obtain ⟨es2, clock2, g1, g2⟩ := hst (setBlock w b (.map es1 clock1)) val hb1
  obtain ⟨w2, hu2, hown2, htu2⟩ := h.store (Keyed.of_law K) ht hn hkey hval
  have hu2 := (Result.ok.inj (g2.symm.trans hu2)).2
  rw [setBlock_twice] at g1
  exact ⟨_, g1, hu2 ▸ hown2, hu2 ▸ htu2⟩
end

/-! ### blocks that are known whole -/
def Blk (w : World) (g : Nat) (t : TypeId) (cs : Array Value) : Prop := w.heap[g]? = some (.cells cs t (0, 0))
section
variable {w w' : World} {g : Nat} {t : TypeId} {cs : Array Value}
theorem Blk.lt (h : Blk w g t cs) : g < w.heap.size := by
  rcases Nat.lt_or_ge g w.heap.size with hlt | hge
  · exact hlt
  · unfold Blk at h; rw [Array.getElem?_eq_none hge] at h; cases h
theorem Blk.cell (h : Blk w g t cs) (i : Nat) : w.cell? ⟨g, i, none⟩ = cs[i]? := cell_of_row w g i cs t (0, 0) h
theorem Blk.frozen (h : Blk w g t cs) (i : Nat) : w.frozen? ⟨g, i, none⟩ = false := by
  unfold Blk at h
  simp [World.frozen?, h]
theorem Blk.new (w : World) (t : TypeId) (cs : Array Value) : Blk (w.alloc (.cells cs t)) w.heap.size t cs := heap_alloc_new w _
theorem Blk.drew (h : Blk w g t cs) : Blk w.drew g t cs := h
theorem Blk.drewN (h : Blk w g t cs) (n : Nat) : Blk (w.drewN n) g t cs := h
theorem Blk.alloc (h : Blk w g t cs) (o : Obj) : Blk (w.alloc o) g t cs := (Below.heap_alloc w o g h.lt).trans h
theorem Blk.set_ (h : Blk w g t cs) (i : Nat) (u : Value) : Blk (w.setCell ⟨g, i, none⟩ u) g t (cs.setIfInBounds i u) := by
  unfold Blk at h ⊢
  simp [World.setCell, Array.getElem?_modify, h]
theorem Blk.far (h : Blk w g t cs) {p : Addr} (hp : g ≠ p.block) (u : Value) : Blk (w.setCell p u) g t cs := (Below.heap_setCell w p u g hp).trans h
theorem Blk.below {B : Nat} (h : Blk w g t cs) (hb : Below B w w') (hg : g < B) : Blk w' g t cs := (hb.block g hg).trans h
theorem Blk.grown {row : Option Nat} (h : Blk w g t cs) (hb : w.grownBy w' row) (hg : some g ≠ row) : Blk w' g t cs := (hb.block g h.lt hg).trans h
theorem Blk.ne_map {mb : Nat} {es : Array MapEntry} {c : Nat} (h : Blk w g t cs) (h' : w.heap[mb]? = some (.map es c)) : g ≠ mb := by
  rintro rfl
  unfold Blk at h
  rw [h] at h'
  cases h'
end

theorem below_grown {w w' : World} (h : Below w.heap.size w w') (row : Option Nat) : w.grownBy w' row := ⟨h.os, h.tape, h.output, h.size, fun k hk _ => h.block k hk⟩
theorem grown_below {w w' : World} (h : w.grownBy w' none) : Below w.heap.size w w' := ⟨h.os, h.tape, h.output, h.size, fun k hk => h.block k hk (by simp)⟩
theorem grown_trans {a b c : World} {row : Option Nat} (h : a.grownBy b row) (k : b.grownBy c row) : a.grownBy c row :=
  ⟨k.os.trans h.os, k.tape.trans h.tape, k.output.trans h.output, Nat.le_trans h.size k.size, fun i hi hne => (k.block i (Nat.lt_of_lt_of_le hi h.size) hne).trans (h.block i hi hne)⟩
theorem grown_drew {a b : World} {row : Option Nat} (h : a.grownBy b row) : a.grownBy b.drew row := ⟨h.os, h.tape, h.output, h.size, h.block⟩
theorem grown_drewN {a b : World} {row : Option Nat} (h : a.grownBy b row) (n : Nat) : a.grownBy (b.drewN n) row := ⟨h.os, h.tape, h.output, h.size, h.block⟩
theorem below_drewN' {B : Nat} {a w : World} (h : Below B a w) (n : Nat) : Below B a (w.drewN n) := ⟨h.os, h.tape, h.output, h.size, h.block⟩
theorem grown_alloc {a b : World} {row : Option Nat} (h : a.grownBy b row) (o : Obj) : a.grownBy (b.alloc o) row :=
  grown_trans h (below_grown ((Below.refl _ _).alloc (Nat.le_refl _) o) row)
/-- a store into a block that is new since a -/
theorem grown_set {a b : World} {row : Option Nat} (h : a.grownBy b row) {p : Addr} (hp : a.heap.size ≤ p.block) (u : Value) : a.grownBy (b.setCell p u) row :=
  ⟨h.os, h.tape, h.output, by simpa [World.setCell] using h.size, fun i hi hne => (Below.heap_setCell b p u i (by omega)).trans (h.block i hi hne)⟩
/-- behind a step that turns new blocks alone, or the row -/
theorem grown_step {a b c : World} {row r2 : Option Nat} (h : a.grownBy b row) (k : b.grownBy c r2) (hr : ∀ j, r2 = some j → a.heap.size ≤ j ∨ row = some j) : a.grownBy c row :=
  h.andThen k hr

/-! ### what is in a bank -/
/-- the datum D holds what m holds -/
def Rep (D : DataW Unit) (m : Bk.M) : Prop :=
  Bk.Fine m ∧ ∀ a d : ByteArray, a.size ≤ maxLen → d.size ≤ maxLen →
    D.atKey (kl a d) (.lit (.int .u64 0)) = .lit (.int .u64 (Bk.get m (a.data.toList, d.data.toList))) ∧ Maps.has D (kl a d) = decide (Bk.get m (a.data.toList, d.data.toList) ≠ 0)

theorem kl_inj {a d a' d' : ByteArray} (ha : a.size ≤ maxLen) (hd : d.size ≤ maxLen) (ha' : a'.size ≤ maxLen) (hd' : d'.size ≤ maxLen) (h : kl a d = kl a' d') : a = a' ∧ d = d' := by
  have h1 := keyOf_mk a d ha hd
  have h2 := keyOf_mk a' d' ha' hd'
  rw [← h] at h2
  have := Value.agg.inj (kLaw.inj h1 h2)
  have e1 := congrArg (fun x : Array Value => x.getD 0 undef) this
  have e2 := congrArg (fun x : Array Value => x.getD 1 undef) this
  exact ⟨Value.string.inj e1, Value.string.inj e2⟩
theorem kl_key (a d : ByteArray) : WideAt.IsKeyLit (kl a d) := trivial
theorem data_inj {a a' : ByteArray} (h : a.data.toList = a'.data.toList) : a = a' := by
  cases a; cases a'; simp only at h; congr 1; exact Array.toList_inj.1 h

/-- a purse set to so much, not nothing -/
theorem Rep.put {D : DataW Unit} {m : Bk.M} (h : Rep D m) (hD : IsMap D) {a d : ByteArray} (ha : a.size ≤ maxLen) (hd : d.size ≤ maxLen) {x : Nat} (h0 : x ≠ 0) (hx : x ≤ Bk.maxU) (hw : Bk.wrong a.data.toList d.data.toList 1 = 0) :
    Rep (D.put (kl a d) (.lit (.int .u64 x))) (Bk.set m (a.data.toList, d.data.toList) x) := by
  refine ⟨h.1.set hx hw, fun a' d' ha' hd' => ?_⟩
  rw [Bk.get_set h.1.toOk]
  by_cases e : kl a' d' = kl a d
  · obtain ⟨rfl, rfl⟩ := kl_inj ha' hd' ha hd e
    rw [if_pos rfl, atKey_put_same hD (kl_key _ _), has_put_same hD (kl_key _ _)]
    exact ⟨rfl, by simp [h0]⟩
  · rw [atKey_put_other e, has_put_other e, if_neg (fun e2 => e (by
      have := Prod.mk.inj e2; rw [data_inj this.1, data_inj this.2]))]
    exact h.2 a' d' ha' hd'
/-- a purse emptied: nothing laid in it, then struck -/
theorem Rep.del {D : DataW Unit} {m : Bk.M} (h : Rep D m) {a d : ByteArray} (ha : a.size ≤ maxLen) (hd : d.size ≤ maxLen) (z : DataW Unit) (hw : Bk.wrong a.data.toList d.data.toList 1 = 0) :
    Rep ((D.put (kl a d) z).del (kl a d)) (Bk.set m (a.data.toList, d.data.toList) 0) := by
  refine ⟨h.1.set (Nat.zero_le _) hw, fun a' d' ha' hd' => ?_⟩
  rw [Bk.get_set h.1.toOk]
  by_cases e : kl a' d' = kl a d
  · obtain ⟨rfl, rfl⟩ := kl_inj ha' hd' ha hd e
    rw [if_pos rfl, atKey_del_same, has_del_same]
    exact ⟨rfl, by simp⟩
  · rw [atKey_del_other e, has_del_other e, atKey_put_other e, has_put_other e, if_neg (fun e2 => e (by
      have := Prod.mk.inj e2; rw [data_inj this.1, data_inj this.2]))]
    exact h.2 a' d' ha' hd'
theorem Rep.empty : Rep (.map []) [] := ⟨Bk.Fine.nil, fun _ _ _ _ => ⟨rfl, rfl⟩⟩

/-- block b is a bank whose map lies in block mb, of at most n entries; it holds m -/
structure BankAt (w : World) (b mb n : Nat) (m : Bk.M) : Prop where
  blk : Blk w b 56 #[.map (some mb)]
  own : ∃ D : DataW Unit, w.ownsMap Tryd.prog 59 (plainElem Tryd.prog 30) mb n D ∧ Rep D m

theorem BankAt.fine {w : World} {b mb n : Nat} {m : Bk.M} (h : BankAt w b mb n m) : Bk.Fine m := let ⟨_, _, r⟩ := h.own; r.1
theorem BankAt.mono {w : World} {b mb n n' : Nat} {m : Bk.M} (h : BankAt w b mb n m) (hn : n ≤ n') : BankAt w b mb n' m := ⟨h.blk, let ⟨D, o, r⟩ := h.own; ⟨D, o.mono hn, r⟩⟩
theorem BankAt.ne {w : World} {b mb n : Nat} {m : Bk.M} (h : BankAt w b mb n m) : b ≠ mb := by
  obtain ⟨D, ⟨es, c, hb, _⟩, _⟩ := h.own
  exact h.blk.ne_map hb
theorem BankAt.ltm {w : World} {b mb n : Nat} {m : Bk.M} (h : BankAt w b mb n m) : mb < w.heap.size := let ⟨_, o, _⟩ := h.own; o.lt
theorem BankAt.grown {w w' : World} {b mb n : Nat} {m : Bk.M} {row : Option Nat} (h : BankAt w b mb n m) (hg : w.grownBy w' row) (h1 : some b ≠ row) (h2 : some mb ≠ row) : BankAt w' b mb n m :=
  ⟨h.blk.grown hg h1, let ⟨D, o, r⟩ := h.own; ⟨D, o.kept hg h2, r⟩⟩
theorem BankAt.below {w w' : World} {b mb n : Nat} {m : Bk.M} (h : BankAt w b mb n m) (hb : Below w.heap.size w w') : BankAt w' b mb n m := h.grown (below_grown hb none) (by simp) (by simp)
theorem BankAt.alloc {w : World} {b mb n : Nat} {m : Bk.M} (h : BankAt w b mb n m) (o : Obj) : BankAt (w.alloc o) b mb n m := h.below ((Below.refl _ _).alloc (Nat.le_refl _) o)
theorem BankAt.drew {w : World} {b mb n : Nat} {m : Bk.M} (h : BankAt w b mb n m) : BankAt w.drew b mb n m := ⟨h.blk, h.own⟩
theorem BankAt.drewN {w : World} {b mb n : Nat} {m : Bk.M} (h : BankAt w b mb n m) (k : Nat) : BankAt (w.drewN k) b mb n m := ⟨h.blk, h.own⟩

/-! ### an error's number -/
/-- an error of number c, wrapped at most k times; 0: none -/
def ErrD (w : World) : Nat → Value → Nat → Prop
  | 0, v, c => (c = 0 ∧ v = .nilIface) ∨ (c ≠ 0 ∧ v = .iface 41 (.int .i64 c))
  | k + 1, v, c => (c = 0 ∧ v = .nilIface) ∨ (c ≠ 0 ∧ v = .iface 41 (.int .i64 c)) ∨
      (c ≠ 0 ∧ ∃ (g : Nat) (s : ByteArray) (i : Int) (u : Value), v = .iface 72 (.pointer (some ⟨g, 0, none⟩)) ∧ Blk w g 74 #[.string s, .int .i64 i, u] ∧ ErrD w k u c)

theorem ErrD.kept {w w' : World} {mb : Nat} (hg : w.grownBy w' (some mb)) (hm : ∀ g t cs, Blk w g t cs → g ≠ mb) : ∀ {k : Nat} {v : Value} {c : Nat}, ErrD w k v c → ErrD w' k v c
  | 0, _, _, h => h
  | k + 1, _, _, h => by
    rcases h with h | h | ⟨h0, g, s, i, u, e, hb, hu⟩
    · exact .inl h
    · exact .inr (.inl h)
    · exact .inr (.inr ⟨h0, g, s, i, u, e, hb.grown hg (fun e => hm g _ _ hb (Option.some.inj e)), hu.kept hg hm⟩)
theorem ErrD.below {w w' : World} (hb : Below w.heap.size w w') : ∀ {k : Nat} {v : Value} {c : Nat}, ErrD w k v c → ErrD w' k v c
  | 0, _, _, h => h
  | k + 1, _, _, h => by
    rcases h with h | h | ⟨h0, g, s, i, u, e, hg, hu⟩
    · exact .inl h
    · exact .inr (.inl h)
    · exact .inr (.inr ⟨h0, g, s, i, u, e, hg.below hb hg.lt, hu.below hb⟩)
theorem ErrD.zero {w : World} {k : Nat} {v : Value} (h : ErrD w k v 0) : v = .nilIface := by
  cases k with
  | zero => rcases h with h | h
            · exact h.2
            · exact absurd rfl h.1
  | succ k => rcases h with h | h | h
              · exact h.2
              · exact absurd rfl h.1
              · exact absurd rfl h.1
theorem ErrD.some {w : World} {k : Nat} {v : Value} {c : Nat} (h : ErrD w k v c) (hc : c ≠ 0) : ∃ t x, v = .iface t x := by
  cases k with
  | zero => rcases h with h | h
            · exact absurd h.1 hc
            · exact ⟨_, _, h.2⟩
  | succ k => rcases h with h | h | ⟨_, g, s, i, u, e, _⟩
              · exact absurd h.1 hc
              · exact ⟨_, _, h.2⟩
              · exact ⟨_, _, e⟩
theorem ErrD.nil (w : World) (k : Nat) : ErrD w k .nilIface 0 := by
  cases k with
  | zero => exact .inl ⟨rfl, rfl⟩
  | succ k => exact .inl ⟨rfl, rfl⟩
theorem ErrD.num (w : World) (k : Nat) {c : Nat} (h : c ≠ 0) : ErrD w k (.iface 41 (.int .i64 c)) c := by
  cases k with
  | zero => exact .inr ⟨h, rfl⟩
  | succ k => exact .inr (.inl ⟨h, rfl⟩)
theorem ErrD.mono {w : World} : ∀ {k : Nat} {v : Value} {c : Nat}, ErrD w k v c → ∀ j, ErrD w (k + j) v c
  | 0, _, _, h, j => by
    rcases h with ⟨rfl, rfl⟩ | ⟨h, rfl⟩
    · exact ErrD.nil _ _
    · exact ErrD.num _ _ h
  | k + 1, _, _, h, j => by
    rw [show k + 1 + j = (k + j) + 1 from by omega]
    rcases h with h | h | ⟨h0, g, s, i, u, e, hg, hu⟩
    · exact .inl h
    · exact .inr (.inl h)
    · exact .inr (.inr ⟨h0, g, s, i, u, e, hg, hu.mono j⟩)
theorem blk_ne {w : World} {b mb n : Nat} {m : Bk.M} (h : BankAt w b mb n m) : ∀ g t cs, Blk w g t cs → g ≠ mb := by
  intro g t cs hg
  obtain ⟨D, ⟨es, c, hb, _⟩, _⟩ := h.own
  exact hg.ne_map hb
end Go.Proofs.YtidkamnciomnmaaDoor
