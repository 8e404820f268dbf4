/- Words for blocks of memory: a block that is known whole, what a call may have changed (a list of blocks), the row behind a slice. No program is named here. -/
import Derived.WalkKit
import Derived.Deep.OwnRows
import Derived.Deep.Draws
import Derived.Laws.Rows
import Derived.Lib.Hide
namespace Go.Proofs.Ytohidmkfpaiklaa
open Go.RowKit

/-- Block b is just the cells cs, of element type t, none frozen. -/
def Blk (w : World) (b : Nat) (t : TypeId) (cs : Array Value) : Prop := w.heap[b]? = some (.cells cs t (0, 0))

/-- What a call that may change just the blocks of F (and makes new ones) leaves. -/
structure Upd (F : List Nat) (w w' : World) : Prop where
  os : w'.os = w.os
  tape : w'.tape = w.tape
  output : w'.output = w.output
  size : w.heap.size ≤ w'.heap.size
  block : ∀ k, k < w.heap.size → k ∉ F → w'.heap[k]? = w.heap[k]?

section
variable {w w' w'' : World} {b : Nat} {t : TypeId} {cs : Array Value} {F G : List Nat}

theorem Blk.lt (h : Blk w b t cs) : b < w.heap.size := (Array.getElem?_eq_some_iff.1 h).1
theorem Blk.cell (h : Blk w b t cs) (i : Nat) : w.cell? ⟨b, i, none⟩ = cs[i]? := cell_of_row w b i cs t (0, 0) h
theorem Blk.at_ (h : Blk w b t cs) {i : Nat} {v : Value} (hv : cs[i]? = some v) : w.cell? ⟨b, i, none⟩ = some v := (h.cell i).trans hv
theorem Blk.free (h : Blk w b t cs) (i : Nat) : w.frozen? ⟨b, i, none⟩ = false := by
  unfold Blk at h
  simp [World.frozen?, h]
theorem Blk.new (w : World) (t : TypeId) (cs : Array Value) : Blk (w.alloc (.cells cs t)) w.heap.size t cs := heap_alloc_new w _
theorem Blk.drew (h : Blk w b t cs) : Blk w.drew b t cs := h
theorem Blk.drewN (h : Blk w b t cs) (n : Nat) : Blk (w.drewN n) b t cs := h
theorem Blk.alloc (h : Blk w b t cs) (o : Obj) : Blk (w.alloc o) b t cs := (Below.heap_alloc w o b h.lt).trans h
theorem Blk.put (h : Blk w b t cs) (i : Nat) (u : Value) : Blk (w.setCell ⟨b, i, none⟩ u) b t (cs.setIfInBounds i u) := by
  unfold Blk at h ⊢
  simp [World.setCell, Array.getElem?_modify, h]
theorem Blk.far (h : Blk w b t cs) {p : Addr} (hp : b ≠ p.block) (u : Value) : Blk (w.setCell p u) b t cs := (Below.heap_setCell w p u b hp).trans h
theorem Blk.upd (h : Blk w b t cs) (hu : Upd F w w') (hb : b ∉ F) : Blk w' b t cs := (hu.block b h.lt hb).trans h
theorem Blk.below {B : Nat} (h : Blk w b t cs) (hb : Below B w w') (hg : b < B) : Blk w' b t cs := (hb.block b hg).trans h
theorem Blk.grown {row : Option Nat} (h : Blk w b t cs) (hg : w.grownBy w' row) (hb : some b ≠ row) : Blk w' b t cs := (hg.block b h.lt hb).trans h
theorem Blk.inj (h : Blk w b t cs) {t' : TypeId} {cs' : Array Value} (h' : Blk w b t' cs') : t = t' ∧ cs = cs' := by
  unfold Blk at h h'
  rw [h] at h'
  injection h' with h'
  injection h' with h1 h2
  exact ⟨h2, h1⟩
theorem Blk.ne_ (h : Blk w b t cs) {b' : Nat} {t' : TypeId} {cs' : Array Value} (h' : Blk w b' t' cs') (hne : t ≠ t') : b ≠ b' := by
  rintro rfl
  exact hne (h.inj h').1
theorem Blk.ne_new (h : Blk w b t cs) : b ≠ w.heap.size := Nat.ne_of_lt h.lt

theorem Upd.refl (F : List Nat) (w : World) : Upd F w w := ⟨rfl, rfl, rfl, Nat.le_refl _, fun _ _ _ => rfl⟩
theorem Upd.trans (h : Upd F w w') (k : Upd F w' w'') : Upd F w w'' :=
  ⟨k.os.trans h.os, k.tape.trans h.tape, k.output.trans h.output, Nat.le_trans h.size k.size, fun i hi hF => (k.block i (Nat.lt_of_lt_of_le hi h.size) hF).trans (h.block i hi hF)⟩
/-- The second step may also have changed what the first one made. -/
theorem Upd.trans_new (h : Upd F w w') (k : Upd G w' w'') (hG : ∀ b ∈ G, b ∈ F ∨ w.heap.size ≤ b) : Upd F w w'' :=
  ⟨k.os.trans h.os, k.tape.trans h.tape, k.output.trans h.output, Nat.le_trans h.size k.size, fun i hi hF =>
    (k.block i (Nat.lt_of_lt_of_le hi h.size) (fun hg => (hG i hg).elim hF (fun h => by omega))).trans (h.block i hi hF)⟩
theorem Upd.mono (h : Upd F w w') (hG : ∀ b ∈ F, b ∈ G) : Upd G w w' := ⟨h.os, h.tape, h.output, h.size, fun i hi hn => h.block i hi (fun hf => hn (hG i hf))⟩
theorem Upd.drew (h : Upd F w w') : Upd F w w'.drew := ⟨h.os, h.tape, h.output, h.size, h.block⟩
theorem Upd.drewN (h : Upd F w w') (n : Nat) : Upd F w (w'.drewN n) := ⟨h.os, h.tape, h.output, h.size, h.block⟩
theorem Upd.alloc (h : Upd F w w') (o : Obj) : Upd F w (w'.alloc o) :=
  ⟨h.os, h.tape, h.output, Nat.le_trans h.size (by simp), fun i hi hF => (Below.heap_alloc w' o i (Nat.lt_of_lt_of_le hi h.size)).trans (h.block i hi hF)⟩
theorem Upd.put (h : Upd F w w') {p : Addr} (hp : p.block ∈ F ∨ w.heap.size ≤ p.block) (u : Value) : Upd F w (w'.setCell p u) :=
  ⟨h.os, h.tape, h.output, by simpa [World.setCell] using h.size, fun i hi hF => (Below.heap_setCell w' p u i (by
    rintro rfl
    rcases hp with hp | hp
    · exact hF hp
    · omega)).trans (h.block i hi hF)⟩
theorem Upd.grown (h : Upd F w w') {row : Option Nat} (hg : w'.grownBy w'' row) (hr : ∀ g, row = some g → g ∈ F ∨ w.heap.size ≤ g) : Upd F w w'' :=
  ⟨hg.os.trans h.os, hg.tape.trans h.tape, hg.output.trans h.output, Nat.le_trans h.size hg.size, fun i hi hF =>
    (hg.block i (Nat.lt_of_lt_of_le hi h.size) (fun e => (hr i e.symm).elim hF (fun h => by omega))).trans (h.block i hi hF)⟩
/-- What changes new blocks alone is below the old size as it was. -/
theorem Upd.below (h : Upd F w w') {B : Nat} (hB : B ≤ w.heap.size) (hF : ∀ b ∈ F, B ≤ b) : Below B w w' :=
  ⟨h.os, h.tape, h.output, h.size, fun k hk => h.block k (Nat.lt_of_lt_of_le hk hB) (fun hf => by have := hF k hf; omega)⟩
theorem Upd.of_below (h : Below w.heap.size w w') : Upd F w w' := ⟨h.os, h.tape, h.output, h.size, fun k hk _ => h.block k hk⟩
theorem Upd.cell (h : Upd F w w') {p : Addr} (hp : p.block < w.heap.size) (hF : p.block ∉ F) : w'.cell? p = w.cell? p := World.cell?_of_block (h.block p.block hp hF)
theorem Upd.free (h : Upd F w w') {p : Addr} (hp : p.block < w.heap.size) (hF : p.block ∉ F) : w'.frozen? p = w.frozen? p := World.frozen?_of_block (h.block p.block hp hF)
end

/-- Numbers of a kind as a block's cells. -/
def nums (k : IntKind) (xs : List Int) : Array Value := (xs.map (Value.int k)).toArray
theorem nums_at (k : IntKind) (xs : List Int) (i : Nat) : (nums k xs)[i]? = (xs[i]?).map (Value.int k) := by simp [nums]
theorem nums_get (k : IntKind) (xs : List Int) (i : Nat) (h : i < xs.length) : (nums k xs)[i]? = some (.int k (xs.getD i 0)) := by
  simp [nums, h]
theorem nums_size (k : IntKind) (xs : List Int) : (nums k xs).size = xs.length := by simp [nums]
theorem nums_set (k : IntKind) (xs : List Int) (i : Nat) (v : Int) : (nums k xs).setIfInBounds i (.int k v) = nums k (xs.set i v) := by
  apply Array.ext'
  simp [nums]
theorem nums_zeros (k : IntKind) (n : Nat) : madeCells #[.int k 0] n = nums k (List.replicate n 0) := by
  apply Array.ext'
  simp [toList_madeCells_one, nums]

/-- A row: block g has room for cap elements of z cells each; its first n elements are the cells xs. -/
def Row (w : World) (t : TypeId) (z g n cap : Nat) (xs : List Value) : Prop :=
  ∃ cur, Blk w g t cur ∧ cur.size = cap * z ∧ xs.length = n * z ∧ n ≤ cap ∧ cap ≤ maxLen ∧ cur.toList.take (n * z) = xs

/-- A slice value that is nil, or a row of its own. -/
def Rows' (w : World) (t : TypeId) (z : Nat) (v : Value) (n : Nat) (xs : List Value) : Prop :=
  (v = .slice none 0 0 ∧ n = 0 ∧ xs = []) ∨ ∃ g cap, v = .slice (some ⟨g, 0, none⟩) n cap ∧ Row w t z g n cap xs

section
variable {w w' : World} {t : TypeId} {z g n cap : Nat} {xs : List Value} {F : List Nat} {v : Value}
theorem Row.lt (h : Row w t z g n cap xs) : g < w.heap.size := h.elim fun _ h => h.1.lt
theorem Row.cell (h : Row w t z g n cap xs) {j : Nat} {u : Value} (hu : xs[j]? = some u) : w.cell? ⟨g, j, none⟩ = some u := by
  obtain ⟨cur, hb, _, _, _, _, ht⟩ := h
  rw [hb.cell]
  rw [← ht, List.getElem?_take] at hu
  split at hu
  · simpa using hu
  · cases hu
theorem Row.free (h : Row w t z g n cap xs) (j : Nat) : w.frozen? ⟨g, j, none⟩ = false := h.elim fun _ h => h.1.free j
theorem Row.alloc (h : Row w t z g n cap xs) (o : Obj) : Row (w.alloc o) t z g n cap xs := h.elim fun cur h => ⟨cur, h.1.alloc o, h.2⟩
theorem Row.drewN (h : Row w t z g n cap xs) (k : Nat) : Row (w.drewN k) t z g n cap xs := h
theorem Row.drew (h : Row w t z g n cap xs) : Row w.drew t z g n cap xs := h
theorem Row.upd (h : Row w t z g n cap xs) (hu : Upd F w w') (hg : g ∉ F) : Row w' t z g n cap xs := h.elim fun cur h => ⟨cur, h.1.upd hu hg, h.2⟩
theorem Row.far (h : Row w t z g n cap xs) {p : Addr} (hp : g ≠ p.block) (u : Value) : Row (w.setCell p u) t z g n cap xs := h.elim fun cur h => ⟨cur, h.1.far hp u, h.2⟩
theorem Row.put (h : Row w t z g n cap xs) {j : Nat} (_hj : j < xs.length) (u : Value) : Row (w.setCell ⟨g, j, none⟩ u) t z g n cap (xs.set j u) := by
  obtain ⟨cur, hb, h1, h2, h3, h4, h5⟩ := h
  refine ⟨_, hb.put j u, by simpa using h1, by simpa using h2, h3, h4, ?_⟩
  rw [Array.toList_setIfInBounds, List.take_set, h5]
theorem Row.toOwn (h : Row w t z g n cap xs) {lo : Nat} (hlo : lo ≤ g) : w.ownsRow lo t z (.slice (some ⟨g, 0, none⟩) n cap) n xs := by
  obtain ⟨cur, hb, h1, h2, h3, h4, h5⟩ := h
  exact ⟨h2, .inr ⟨g, cap, cur, rfl, hlo, hb, h3, h4, h1, h5⟩⟩
theorem Rows'.ofOwn {lo : Nat} (h : w.ownsRow lo t z v n xs) : Rows' w t z v n xs ∧ (∀ b, v.ownBlock = some b → lo ≤ b) := by
  obtain ⟨hl, h⟩ := h
  rcases h with ⟨rfl, rfl⟩ | ⟨g, cap, cur, rfl, hlo, hb, h3, h4, h1, h5⟩
  · exact ⟨.inl ⟨rfl, rfl, List.eq_nil_of_length_eq_zero (by simpa using hl)⟩, by simp [Value.ownBlock]⟩
  · exact ⟨.inr ⟨g, cap, rfl, cur, hb, h1, hl, h3, h4, h5⟩, by simpa [Value.ownBlock] using hlo⟩
/-- A made row, all zeros of one cell each. -/
theorem Row.made {cs' : Array Value} (h : Blk w g t cs') (hn : cs'.size ≤ maxLen) : Row w t 1 g cs'.size cs'.size cs'.toList :=
  ⟨_, h, by simp, by simp, Nat.le_refl _, hn, by rw [Nat.mul_one]; exact List.take_of_length_le (by simp)⟩
end

/-- Below the old size nothing has turned, though the call's own blocks were written. -/
theorem below_upd {B : Nat} {w w' w'' : World} {F : List Nat} (h : Below B w w') (hu : Upd F w' w'') (hB : B ≤ w.heap.size) (hF : ∀ b ∈ F, B ≤ b) : Below B w w'' :=
  h.trans (hu.below (Nat.le_trans hB h.size) hF)
theorem below_then {B : Nat} {w w' w'' : World} (h : Below B w w') (hu : Below w'.heap.size w' w'') (hB : B ≤ w.heap.size) : Below B w w'' :=
  h.trans (hu.mono (Nat.le_trans hB h.size))
theorem u64_sum (v d : Int) : wrap64 (IntKind.u64.wrap (IntKind.u64.wrap v + IntKind.u64.wrap d)) = wrap64 (v + d) := by
  rw [IntKind.wrap_u64, IntKind.wrap_u64, IntKind.wrap_u64]
  unfold wrap64
  omega
end Go.Proofs.Ytohidmkfpaiklaa
