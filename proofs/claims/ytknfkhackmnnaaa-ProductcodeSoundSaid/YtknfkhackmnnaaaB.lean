import Derived.WalkKit
import Derived.WalkLawsBesides
import Derived.WalkSpells
import Derived.Lib.Hide
import Derived.StillTailTactics
import Derived.Deep.QuietTactic
import Derived.BigQuiet
import Derived.Laws.Rows
import Derived.Deep.OwnRows
import Derived.Lib.ConvBytes
import Derived.Lib.BufferWrite
import Derived.Maps.AppendAt
import Derived.Laws.BytesArg
import Derived.Test.YtknfkhackmnnaaaProg
import Derived.Test.YtknfkhackmnnaaaDe
set_option maxRecDepth 100000
set_option linter.unusedVariables false
set_option linter.unusedSimpArgs false
namespace Go.Proofs.Ytknfkhackmnnaaa
open Go.RowKit Go.Deep

/-! bytes -/
abbrev B (b : UInt8) : Value := .int .u8 (b.toNat : Int)
theorem b_xor (a b : UInt8) : bits .xor .u8 (a.toNat : Int) (b.toNat : Int) = ((a ^^^ b).toNat : Int) := by
  rw [u8_xor_nat _ _ a.toNat_lt b.toNat_lt, UInt8.toNat_xor]
theorem b_and (a b : UInt8) : bits .and .u8 (a.toNat : Int) (b.toNat : Int) = ((a &&& b).toNat : Int) := by
  rw [u8_and_nat _ _ a.toNat_lt b.toNat_lt, UInt8.toNat_and]
theorem ret_u8 {a b : Int} (h : a = b) : Ending.returned (.int .u8 a) = .returned (.int .u8 b) := by rw [h]
theorem ret_i64 {a b : Int} (h : a = b) : Ending.returned (.int .i64 a) = .returned (.int .i64 b) := by rw [h]
theorem u8_inj {a b : UInt8} (h : (a.toNat : Int) = (b.toNat : Int)) : a = b := UInt8.toNat_inj.1 (by omega)

/-! rows of bytes in memory -/
/-- from an offset of a block on the bytes of a list can be read -/
def Rd (w : World) (b off : Nat) (l : List UInt8) : Prop := ∀ j, j < l.length → w.cell? ⟨b, off + j, none⟩ = some (B (Gf.co l j))
/-- a block that begins with the bytes of a list, and may be written -/
def Row (t : TypeId) (w : World) (b : Nat) (l : List UInt8) : Prop := ∃ (rest : List Value) (fr : Nat × Nat), w.heap[b]? = some (.cells (l.map B ++ rest).toArray t fr) ∧ (fr.2 ≤ fr.1 ∨ l.length + rest.length ≤ fr.1)
abbrev Own (w : World) (b : Nat) (l : List UInt8) : Prop := Row 5 w b l
theorem Row.lt {t : TypeId} {w : World} {b : Nat} {l : List UInt8} (h : Row t w b l) : b < w.heap.size := by
  obtain ⟨r, fr, h, _⟩ := h
  exact (Array.getElem?_eq_some_iff.1 h).1
theorem Row.cell {t : TypeId} {w : World} {b : Nat} {l : List UInt8} (h : Row t w b l) {j : Nat} (hj : j < l.length) : w.cell? ⟨b, j, none⟩ = some (B (Gf.co l j)) := by
  obtain ⟨r, fr, h, _⟩ := h
  simp [World.cell?, h, List.getElem?_append, hj, Gf.co_lt hj]
theorem Row.free {t : TypeId} {w : World} {b : Nat} {l : List UInt8} (h : Row t w b l) {j : Nat} (hj : j < l.length) : w.frozen? ⟨b, j, none⟩ = false := by
  obtain ⟨r, fr, h, hf⟩ := h
  obtain ⟨lo, hi⟩ := fr
  simp only [World.frozen?, h]
  dsimp only at hf
  simp
  omega
theorem Row.rd {t : TypeId} {w : World} {b : Nat} {l : List UInt8} (h : Row t w b l) : Rd w b 0 l := fun j hj => by rw [Nat.zero_add]; exact h.cell hj
theorem Row.set {t : TypeId} {w : World} {b : Nat} {l : List UInt8} (h : Row t w b l) {j : Nat} (hj : j < l.length) (c : UInt8) : Row t (w.setCell ⟨b, j, none⟩ (B c)) b (l.set j c) := by
  obtain ⟨r, fr, h, hf⟩ := h
  refine ⟨r, fr, ?_, by rw [List.length_set]; exact hf⟩
  simp [World.setCell, Array.getElem?_modify, h, List.map_set, hj]
theorem Row.below {t : TypeId} {n : Nat} {w w' : World} {b : Nat} {l : List UInt8} (h : Row t w b l) (hb : Below n w w') (hn : b < n) : Row t w' b l := by
  obtain ⟨r, fr, h, hf⟩ := h
  exact ⟨r, fr, by rw [hb.block b hn, h], hf⟩
theorem Row.drew {t : TypeId} {w : World} {b : Nat} {l : List UInt8} (h : Row t w b l) : Row t w.drew b l := h
theorem Row.other {t : TypeId} {w : World} {b : Nat} {l : List UInt8} (h : Row t w b l) {a : Addr} (ha : a.block ≠ b) (v : Value) : Row t (w.setCell a v) b l := by
  obtain ⟨r, fr, h, hf⟩ := h
  exact ⟨r, fr, by rw [Below.heap_setCell w a v b (fun e => ha e.symm), h], hf⟩
theorem Row.alloc {t : TypeId} {w : World} {b : Nat} {l : List UInt8} (h : Row t w b l) (o : Obj) : Row t (w.alloc o) b l := by
  have hb := h.lt
  obtain ⟨r, fr, h, hf⟩ := h
  exact ⟨r, fr, by rw [Below.heap_alloc w o b hb, h], hf⟩
theorem Row.take {t : TypeId} {w : World} {b : Nat} {l : List UInt8} (h : Row t w b l) (k : Nat) : Row t w b (l.take k) := by
  obtain ⟨r, fr, h, hf⟩ := h
  refine ⟨(l.drop k).map B ++ r, fr, ?_, ?_⟩
  · rw [h, ← List.append_assoc, ← List.map_append, List.take_append_drop]
  · simp only [List.length_append, List.length_map, List.length_take, List.length_drop]; omega
theorem Row.of_heap {t : TypeId} {w : World} {b : Nat} {l : List UInt8} (h : w.heap[b]? = some (.cells (l.map B ++ []).toArray t (0, 0))) : Row t w b l := ⟨[], (0, 0), h, .inl (Nat.le_refl 0)⟩
theorem Rd.lt {w : World} {b off : Nat} {l : List UInt8} (h : Rd w b off l) (hl : 0 < l.length) : b < w.heap.size := World.block_lt_of_cell? w _ (h 0 hl)
theorem Rd.below {n : Nat} {w w' : World} {b off : Nat} {l : List UInt8} (h : Rd w b off l) (hb : Below n w w') (hn : b < n) : Rd w' b off l := fun j hj =>
  (hb.cell (p := ⟨b, off + j, none⟩) hn).trans (h j hj)
theorem Rd.drop {w : World} {b off : Nat} {l : List UInt8} (h : Rd w b off l) (k : Nat) : Rd w b (off + k) (l.drop k) := fun j hj => by
  rw [List.length_drop] at hj
  rw [Gf.co_drop, Nat.add_assoc]
  exact h _ (by omega)
theorem Rd.take {w : World} {b off : Nat} {l : List UInt8} (h : Rd w b off l) (k : Nat) : Rd w b off (l.take k) := fun j hj => by
  rw [List.length_take] at hj
  rw [Gf.co_take (by omega)]
  exact h _ (by omega)
theorem zeros_eq (m : Nat) : madeCells #[Value.int .u8 0] m = ((List.replicate m (0 : UInt8)).map B ++ []).toArray := by
  apply Array.ext
  · simp [madeCells]
  · intro i h1 h2
    simp [madeCells, Nat.mod_one]
theorem Own.made (w : World) (m : Nat) : Own (w.alloc (.cells (madeCells #[.int .u8 0] m) 5)) w.heap.size (List.replicate m 0) := Row.of_heap (by
  rw [zeros_eq]
  show (w.heap.push _)[w.heap.size]? = _
  rw [Array.getElem?_push_size])
theorem Own.lit (w : World) (l : List UInt8) : Own (w.alloc (.cells (l.map B).toArray 5)) w.heap.size l := Row.of_heap (by
  rw [List.append_nil]
  show (w.heap.push _)[w.heap.size]? = _
  rw [Array.getElem?_push_size])
/-- a row of its own is handed back -/
def RetOwn (w : World) (l : List UInt8) (e : Ending) (w' : World) : Prop :=
  ∃ b c, e = .returned (.slice (some ⟨b, 0, none⟩) l.length c) ∧ Own w' b l ∧ w.heap.size ≤ b ∧ l.length ≤ c ∧ Below w.heap.size w w'
/-- a whole array into a block -/
theorem wpList_store_row {P : Program} {ops : Array Oper} {rest : List Oper} {o : Oper} {a : Act} {w : World} {Q : Exit → Act → World → Prop} (hgd : o.guard = none) (ty : TypeId) (x y : Operand) (ho : o.op = .store ty x y)
    (g : Nat) (hx : a.eval x = .pointer (some ⟨g, 0, none⟩)) (t : TypeId) (old cs : Array Value) (hy : a.eval y = .agg cs) (hg : w.heap[g]? = some (.cells old t (0, 0)))
    (hi : (P.info? ty).map (·.size) = some cs.size) (hs : old.size = cs.size) (h1 : cs.all (·.oneCell') = true)
    (h : wpList P ops Q rest (a.put o.dst undef) (w.setRow g cs)) : wpList P ops Q (o :: rest) a w := by
  refine wpList_plain hgd fun K hK => ?_
  unfold Oper.wp execOp
  simp only [ho, hx, hy, Instr.storeAt, Instr.sureAddr, Sem.run_bind, Sem.run_pure, Result.andThen_ok, run_storeVar_row w g t ty old cs hg hi hs h1]
  exact hK _ _ h
theorem infoU8 : (Try.prog.info? 5).map (fun i => (i.zero, i.size, i.bytes)) = some (some (.int .u8 0), 1, 1) := by kernel_rfl
theorem make_bytes (t : TypeId) (ht : Try.prog.underlying t = some (.slice 5)) (m : Nat) (hm : m ≤ 1000000) : ∀ W : World, (Instr.makeSlice t (.int .i64 (m : Int)) (.int .i64 (m : Int))).run Try.prog W =
    .ok (.slice (some ⟨W.heap.size, 0, none⟩) m m) (W.alloc (.cells (madeCells #[.int .u8 0] m) 5)) := fun W =>
  run_make_row' t 5 (.int .u8 0) 1 ht infoU8 rfl .i64 .i64 m (by omega) (by omega) W
theorem make_u8 (m : Nat) (hm : m ≤ 1000000) : ∀ W : World, (Instr.makeSlice 43 (.int .i64 (m : Int)) (.int .i64 (m : Int))).run Try.prog W =
    .ok (.slice (some ⟨W.heap.size, 0, none⟩) m m) (W.alloc (.cells (madeCells #[.int .u8 0] m) 5)) := make_bytes _ Try.underlying43 m hm
/-! rows that grow -/
/-- a slice of bytes of the call's own: nil, or the head of a row -/
def Ob (w : World) (base : Nat) (v : Value) (l : List UInt8) : Prop := w.ownsRow base 5 1 v l.length (l.map B)
theorem Ob.row {w : World} {base : Nat} {v : Value} {l : List UInt8} (h : Ob w base v l) (hl : 0 < l.length) : ∃ g c, v = .slice (some ⟨g, 0, none⟩) l.length c ∧ base ≤ g ∧ Own w g l ∧ l.length ≤ c := by
  rcases h.2 with ⟨_, h0⟩ | ⟨g, cap, cur, hv, hb, hg, hn, hm, hs, ht⟩
  · omega
  · refine ⟨g, cap, hv, hb, ⟨cur.toList.drop l.length, (0, 0), ?_, .inl (Nat.le_refl 0)⟩, hn⟩
    rw [Nat.mul_one] at ht
    rw [hg, ← ht, List.take_append_drop]
theorem Ob.of_row {w : World} {base g c : Nat} {l : List UInt8} {rest : List Value} (h : w.heap[g]? = some (.cells (l.map B ++ rest).toArray 5 (0, 0))) (hc : c = l.length + rest.length) (hm : c ≤ 1000000) (hb : base ≤ g) :
    Ob w base (.slice (some ⟨g, 0, none⟩) l.length c) l :=
  ⟨by simp, .inr ⟨g, c, _, rfl, hb, h, by omega, by unfold maxLen; omega, by simp [hc], by simp⟩⟩
theorem Ob.nil (w : World) (base : Nat) : Ob w base (.slice none 0 0) [] := World.ownsRow_nil w base _ _
theorem Ob.made {w : World} {base m : Nat} (hm : m ≤ 1000000) (hb : base ≤ w.heap.size) : Ob (w.alloc (.cells (madeCells #[.int .u8 0] m) 5)) base (.slice (some ⟨w.heap.size, 0, none⟩) m m) (List.replicate m 0) := by
  have := Ob.of_row (w := w.alloc (.cells (madeCells #[.int .u8 0] m) 5)) (base := base) (g := w.heap.size) (c := m) (l := List.replicate m 0) (rest := []) (by rw [zeros_eq]; exact heap_alloc_new w _) (by simp) hm hb
  simpa using this
theorem Ob.empty {w : World} {base : Nat} (hb : base ≤ w.heap.size) : Ob (w.alloc (.cells #[] 5)) base (.slice (some ⟨w.heap.size, 0, none⟩) 0 0) [] :=
  Ob.of_row (w := w.alloc (.cells #[] 5)) (base := base) (g := w.heap.size) (c := 0) (l := []) (rest := []) (by exact heap_alloc_new w _) rfl (by omega) hb
theorem Ob.alloc {w : World} {base : Nat} {v : Value} {l : List UInt8} (h : Ob w base v l) (o : Obj) : Ob (w.alloc o) base v l := World.ownsRow.alloc h o
theorem Ob.below {w w' : World} {base : Nat} {v : Value} {l : List UInt8} (h : Ob w base v l) (hb : Below w.heap.size w w') : Ob w' base v l :=
  World.ownsRow.kept (row := none) h ⟨hb.os, hb.tape, hb.output, hb.size, fun k hk _ => hb.block k hk⟩ (by
    rcases h' : v.ownBlock with _ | k
    · exact .inl rfl
    · exact .inr (by simp))
theorem app_bytes (t : TypeId) (ht : Try.prog.underlying t = some (.slice 5)) {ops : Array Oper} {rest : List Oper} {o : Oper} {a : Act} {w : World} {Q : Exit → Act → World → Prop} (hgd : o.guard = none) (s x : Operand)
    (ho : o.op = .call { callee := .builtin .append, args := #[s, x], argTypes := #[t, t] })
    (base : Nat) (v : Value) (l : List UInt8) (hs : a.eval s = v) (hown : Ob w base v l) (b off c m : Nat) (l2 : List UInt8) (hx : a.eval x = .slice (some ⟨b, off, none⟩) m c) (hm : m = l2.length)
    (hr : Rd w b off l2) (hlen : l.length + l2.length ≤ 1000000) (hbase : base ≤ w.heap.size)
    (h : ∀ v' w', Ob w' base v' (l ++ l2) → (∀ B w0, Below B w0 w → B ≤ base → Below B w0 w') → (v'.ownBlock = v.ownBlock ∨ v'.ownBlock = some w.heap.size) → w.grownBy w' v.ownBlock → wpList Try.prog ops Q rest (a.put o.dst v') w') :
    wpList Try.prog ops Q (o :: rest) a w := by
  obtain ⟨i0, hi, hzz⟩ := Option.map_eq_some_iff.1 infoU8
  simp only [Prod.mk.injEq] at hzz
  obtain ⟨hz0, hz1, hz2⟩ := hzz
  subst hm
  refine wpList_append_own_at w hgd s x t ho base 5 i0 (.int .u8 0) 1 1 ht hi hz0 hz1 hz2 rfl (by decide) v l.length (l.map B) hs hown ⟨b, off, none⟩ l2.length c (l2.map B) hx (by simp)
    (fun j u hu => ?_) (fun u hu => ?_) (by unfold maxLen; omega) (by omega) hbase ?_
  · have hj : j < l2.length := by
      rcases Nat.lt_or_ge j l2.length with h | h
      · exact h
      · simp [List.getElem?_eq_none h] at hu
    have hadd : (⟨b, off, none⟩ : Addr).add j = ⟨b, off + j, none⟩ := by unfold Addr.add; split <;> simp_all
    rw [hadd, hr j hj]
    simp [List.getElem?_eq_getElem hj] at hu
    rw [← hu, Gf.co_lt hj]
  · obtain ⟨c, _, rfl⟩ := List.mem_map.1 hu
    rfl
  · intro v' w' hown' hg _ hat
    refine h v' w' ?_ (fun B w0 hB hBb => hB.grown hg (Nat.le_trans hBb hbase) (fun k hk => ?_)) hat hg
    · unfold Ob
      rw [List.length_append, List.map_append]
      exact hown'
    · exact Nat.le_trans hBb (World.ownsRow.lt hown k hk).1
/-! strings -/
def bl (s : ByteArray) : List UInt8 := s.data.toList
def str (l : List UInt8) : ByteArray := ⟨l.toArray⟩
theorem bl_str (l : List UInt8) : bl (str l) = l := rfl
theorem str_bl (s : ByteArray) : str (bl s) = s := rfl
theorem bl_length (s : ByteArray) : (bl s).length = s.size := by show s.data.toList.length = s.data.size; simp
theorem str_size (l : List UInt8) : (str l).size = l.length := by rw [← bl_length, bl_str]
theorem str_append (a b : List UInt8) : str a ++ str b = str (a ++ b) := by
  apply ByteArray.ext
  simp [str]
theorem bl_append (a b : ByteArray) : bl (a ++ b) = bl a ++ bl b := by simp [bl]
theorem str_inj {a b : List UInt8} (h : str a = str b) : a = b := by rw [← bl_str a, h, bl_str]
theorem bl_inj {a b : ByteArray} (h : bl a = bl b) : a = b := by rw [← str_bl a, h, str_bl]
theorem conv_bytes (s : ByteArray) : ∀ W : World, (convert 9 43 (.string s)).run Try.prog W = .ok (.slice (some ⟨W.heap.size, 0, none⟩) s.size (grownCap W s.size 0 5)) (Lib.bytesWorld W 5 s) := fun W =>
  Lib.run_convert_string_bytes W _ _ _ s Try.underlying9 Try.underlying43 Try.underlying5
theorem bytesWorld_row (W : World) (s : ByteArray) : Own (Lib.bytesWorld W 5 s) W.heap.size (bl s) := by
  have h := Lib.bytesWorld_at_new W 5 s
  have hc : Lib.bytesCells W 5 s = ((bl s).map B ++ List.replicate (grownCap W s.size 0 5 - s.size) (Value.int .u8 0)).toArray := by
    apply Array.ext'
    simp [Lib.bytesCells, bl]
  refine ⟨List.replicate (grownCap W s.size 0 5 - s.size) (Value.int .u8 0), ((Lib.bytesCells W 5 s).size, (Lib.bytesCells W 5 s).size + 1), by rw [h, hc], .inr ?_⟩
  rw [hc]
  simp
theorem bytesWorld_below (W : World) (s : ByteArray) : Below W.heap.size W (Lib.bytesWorld W 5 s) :=
  ⟨rfl, rfl, rfl, by rw [Lib.bytesWorld_size]; omega, fun k hk => Lib.bytesWorld_at_old W _ s k hk⟩
theorem ints_co (l : List UInt8) (i : Nat) : (l.map fun b => (b.toNat : Int)).getD i 0 = ((Gf.co l i).toNat : Int) := by
  unfold Gf.co
  simp only [List.getD_eq_getElem?_getD, List.getElem?_map]
  cases l[i]? <;> simp
theorem conv_string {W : World} {b off : Nat} {l : List UInt8} (h : Rd W b off l) (c : Nat) : (convert 43 9 (.slice (some ⟨b, off, none⟩) l.length c)).run Try.prog W = .ok (.string (str l)) W := by
  have := run_convert_bytes_arg (P := Try.prog) W 43 5 Try.underlying43 Try.underlying5 b off l.length c (l.map fun b => (b.toNat : Int)) (by simp) (fun i hi => by rw [ints_co]; exact h i hi) 9 Try.underlying9
  rw [this]
  congr 2
  simp [strOfNums, str, Function.comp_def]
theorem still_of {P : Program} {f : FuncId} {args : Array Value} {w : World} {v : Value} (h : Calls P f args w fun e w' => e = .returned v ∧ w = w') : Calls P f args w fun e w' => e = .returned v ∧ w' = w :=
  h.mono fun _ _ ⟨h1, h2⟩ => ⟨h1, h2.symm⟩
end Go.Proofs.Ytknfkhackmnnaaa
