/- Layer 3's trail: what New, Step, Load, Store, Add, Swap, Wait, Dry, Fresh, Mark, Steps, Over do, each called alone. -/
import Derived.Test.YtldccemgfjmcdaaCell
import Derived.Test.YtldccemgfjmcdaaRes
import Derived.OneCell
import Derived.Deep.RegionLaw
import Derived.Deep.RegionLawGrows
import Derived.Deep.DeepCutAuto
import Derived.Deep.RegionHeld3
import Derived.Maps.AppendAt
namespace Go.Proofs.Ytldccemgfjmcdaa
open Go.RowKit

def markCells (l : List (Int × Int)) : List Value := l.flatMap fun p => [.int .i64 p.1, .int .i64 p.2]
def blockOf : Option Addr → List Nat
  | none => []
  | some a => [a.block]

theorem blockOf_some (a : Addr) : blockOf (some a) = [a.block] := rfl

/-- The trail's struct in block t; what it was told, and its marks, in rows of their own. -/
def TrailW (w : World) (t m : Nat) (s : TrS) (tA : Option Addr) (tcap : Nat) (mA : Option Addr) (mcap : Nat) : Prop :=
  Blk w t 144 #[.pointer (some ⟨m, 0, none⟩), .slice tA s.told.length tcap, .int .i64 s.at_, .bool s.done, .bool s.dry, .bool s.fresh, .bool s.over, .int .i64 s.time, .slice mA s.marks.length mcap] ∧
  w.ownsRow 0 2 1 (.slice tA s.told.length tcap) s.told.length (s.told.map (Value.int .i64)) ∧ w.ownsRow 0 193 2 (.slice mA s.marks.length mcap) s.marks.length (markCells s.marks)

/-- .. in the blocks of F. -/
def TrailAt (w : World) (t m : Nat) (s : TrS) (F : List Nat) : Prop :=
  ∃ tA tcap mA mcap, TrailW w t m s tA tcap mA mcap ∧ F = t :: (blockOf tA ++ blockOf mA)

/-- A memory and a trail on it, side by side. -/
structure TM (w : World) (m c t : Nat) (μ : MemS) (s : TrS) (F : List Nat) : Prop where
  mem : MemAt w m c μ
  tr : TrailAt w t m s F
  hm : m ∉ F
  hc : c ∉ F

/-- What a step on them leaves: the same blocks, or new ones. -/
def TMs (w w' : World) (m c t : Nat) (μ : MemS) (s : TrS) (F : List Nat) : Prop :=
  ∃ F', TM w' m c t μ s F' ∧ (∀ b ∈ F', b ∈ F ∨ w.heap.size ≤ b) ∧ Upd (m :: c :: F) w w'

theorem ownsRow_upd {w w' : World} {base : Nat} {e : TypeId} {size : Nat} {A : Option Addr} {n cap : Nat} {xs : List Value} {F : List Nat} (h : w.ownsRow base e size (.slice A n cap) n xs) (hu : Upd F w w') (hF : ∀ b ∈ blockOf A, b ∉ F) :
    w'.ownsRow base e size (.slice A n cap) n xs := by
  refine ⟨h.1, ?_⟩
  rcases h.2 with h2 | ⟨g, cap', cur, hv, hlo, hh, h3⟩
  · exact .inl h2
  · refine .inr ⟨g, cap', cur, hv, hlo, ?_, h3⟩
    injection hv with hA
    subst hA
    exact (hu.block g (Array.getElem?_eq_some_iff.1 hh).1 (hF g (by simp [blockOf]))).trans hh
theorem ownsRow_blockLt {w : World} {base : Nat} {e : TypeId} {size : Nat} {A : Option Addr} {n cap : Nat} {xs : List Value} (h : w.ownsRow base e size (.slice A n cap) n xs) : ∀ b ∈ blockOf A, b < w.heap.size := by
  intro b hb
  cases A with
  | none => simp [blockOf] at hb
  | some a =>
    simp [blockOf] at hb
    subst hb
    exact (h.lt a.block rfl).2
theorem ownsRow_far {w : World} {base : Nat} {e : TypeId} {size : Nat} {A : Option Addr} {n cap : Nat} {xs : List Value} (h : w.ownsRow base e size (.slice A n cap) n xs) {p : Addr} (hp : p.block ∉ blockOf A) (u : Value) :
    (w.setCell p u).ownsRow base e size (.slice A n cap) n xs :=
  ownsRow_setCell_other h (by
    cases A with
    | none => simp [Value.ownBlock]
    | some a => simp [Value.ownBlock]; intro e; exact hp (by simp [blockOf, e])) u
/-- A block of another type is none of a row's. -/
theorem blk_notin {w : World} {base : Nat} {e : TypeId} {size : Nat} {A : Option Addr} {n cap : Nat} {xs : List Value} (h : w.ownsRow base e size (.slice A n cap) n xs) {b : Nat} {t : TypeId} {cs : Array Value} (hb : Blk w b t cs) (hne : e ≠ t) : b ∉ blockOf A := by
  intro hin
  rcases h.2 with ⟨hv, _⟩ | ⟨g, cap', cur, hv, _, hh, _⟩
  · injection hv with hA
    subst hA
    simp [blockOf] at hin
  · injection hv with hA
    subst hA
    simp [blockOf] at hin
    subst hin
    exact hne (Blk.inj hh hb).1

section
variable {w w' : World} {m c t : Nat} {μ : MemS} {s : TrS} {F G : List Nat} {tA mA : Option Addr} {tcap mcap : Nat}
theorem TrailAt.lt (h : TrailAt w t m s F) : ∀ b ∈ F, b < w.heap.size := by
  obtain ⟨tA, tcap, mA, mcap, ⟨hb, h1, h2⟩, rfl⟩ := h
  intro b hb'
  simp only [List.mem_cons, List.mem_append] at hb'
  rcases hb' with rfl | h | h
  · exact hb.lt
  · exact ownsRow_blockLt h1 b h
  · exact ownsRow_blockLt h2 b h
theorem TrailAt.upd (h : TrailAt w t m s F) (hu : Upd G w w') (hF : ∀ b ∈ F, b ∉ G) : TrailAt w' t m s F := by
  obtain ⟨tA, tcap, mA, mcap, ⟨hb, h1, h2⟩, rfl⟩ := h
  exact ⟨tA, tcap, mA, mcap, ⟨hb.upd hu (hF _ (by simp)), ownsRow_upd h1 hu fun b hb => hF b (by simp [hb]), ownsRow_upd h2 hu fun b hb => hF b (by simp [hb])⟩, rfl⟩
theorem TM.upd (h : TM w m c t μ s F) (hu : Upd G w w') (h1 : m ∉ G) (h2 : c ∉ G) (hF : ∀ b ∈ F, b ∉ G) : TM w' m c t μ s F := ⟨h.mem.upd hu h1 h2, h.tr.upd hu hF, h.hm, h.hc⟩
theorem TM.lt (h : TM w m c t μ s F) : ∀ b ∈ m :: c :: F, b < w.heap.size := by
  intro b hb
  simp only [List.mem_cons] at hb
  rcases hb with rfl | rfl | hb
  · exact h.mem.1.lt
  · exact h.mem.2.1.lt
  · exact h.tr.lt b hb
theorem TMs.refl (h : TM w m c t μ s F) : TMs w w m c t μ s F := ⟨F, h, fun _ hb => .inl hb, Upd.refl _ _⟩
theorem TMs.trans {w'' : World} {μ' μ'' : MemS} {s' s'' : TrS} {F' : List Nat} (_h : TM w' m c t μ' s' F') (hF : ∀ b ∈ F', b ∈ F ∨ w.heap.size ≤ b) (hu : Upd (m :: c :: F) w w') (h2 : TMs w' w'' m c t μ'' s'' F') : TMs w w'' m c t μ'' s'' F := by
  obtain ⟨F2, ht, hF2, hu2⟩ := h2
  refine ⟨F2, ht, fun b hb => ?_, hu.trans_new hu2 fun b hb => ?_⟩
  · rcases hF2 b hb with h | h
    · exact hF b h
    · exact .inr (Nat.le_trans hu.size h)
  · simp only [List.mem_cons] at hb ⊢
    rcases hb with rfl | rfl | hb
    · exact .inl (.inl rfl)
    · exact .inl (.inr (.inl rfl))
    · rcases hF b hb with h | h
      · exact .inl (.inr (.inr h))
      · exact .inr h
end

/-- The cells of a trail's struct. -/
def trCells (m : Nat) (s : TrS) (tA : Option Addr) (tcap : Nat) (mA : Option Addr) (mcap : Nat) : Array Value :=
  #[.pointer (some ⟨m, 0, none⟩), .slice tA s.told.length tcap, .int .i64 s.at_, .bool s.done, .bool s.dry, .bool s.fresh, .bool s.over, .int .i64 s.time, .slice mA s.marks.length mcap]

section
variable {w w' : World} {m c t : Nat} {μ : MemS} {s : TrS} {F G : List Nat} {tA mA : Option Addr} {tcap mcap : Nat}
theorem TrailW.field (h : TrailW w t m s tA tcap mA mcap) (s' : TrS) (k : Nat) (v : Value) (ht : s'.told = s.told) (hm : s'.marks = s.marks)
    (hcells : (trCells m s tA tcap mA mcap).setIfInBounds k v = trCells m s' tA tcap mA mcap) : TrailW (w.setCell ⟨t, k, none⟩ v) t m s' tA tcap mA mcap := by
  obtain ⟨hb, h1, h2⟩ := h
  have hb' := hb.put k v
  refine ⟨?_, ?_, ?_⟩
  · change Blk _ t _ ((trCells m s tA tcap mA mcap).setIfInBounds k v) at hb'
    rw [hcells] at hb'
    exact hb'
  · rw [ht]
    exact ownsRow_far h1 (p := ⟨t, k, none⟩) (blk_notin h1 hb (by decide)) v
  · rw [hm]
    exact ownsRow_far h2 (p := ⟨t, k, none⟩) (blk_notin h2 hb (by decide)) v
theorem TM.field (h : TM w m c t μ s F) (s' : TrS) (k : Nat) (v : Value) (ht : s'.told = s.told) (hm : s'.marks = s.marks)
    (hcells : ∀ tA tcap mA mcap, (trCells m s tA tcap mA mcap).setIfInBounds k v = trCells m s' tA tcap mA mcap) : TM (w.setCell ⟨t, k, none⟩ v) m c t μ s' F := by
  obtain ⟨hmem, ⟨tA, tcap, mA, mcap, hw, rfl⟩, h1, h2⟩ := h
  have e1 : t ≠ m := fun e => h1 (by simp [e])
  have e2 : t ≠ c := fun e => h2 (by simp [e])
  exact ⟨hmem.far (p := ⟨t, k, none⟩) e1 e2 v, ⟨tA, tcap, mA, mcap, hw.field s' k v ht hm (hcells _ _ _ _), rfl⟩, h1, h2⟩
theorem TM.drewN (h : TM w m c t μ s F) (n : Nat) : TM (w.drewN n) m c t μ s F := by
  obtain ⟨hmem, ⟨tA, tcap, mA, mcap, ⟨hb, h1, h2⟩, hF⟩, h3, h4⟩ := h
  exact ⟨hmem.drewN n, ⟨tA, tcap, mA, mcap, ⟨hb.drewN n, h1, h2⟩, hF⟩, h3, h4⟩
theorem TM.alloc (h : TM w m c t μ s F) (o : Obj) : TM (w.alloc o) m c t μ s F := by
  obtain ⟨hmem, ⟨tA, tcap, mA, mcap, ⟨hb, h1, h2⟩, hF⟩, h3, h4⟩ := h
  exact ⟨hmem.alloc o, ⟨tA, tcap, mA, mcap, ⟨hb.alloc o, h1.alloc o, h2.alloc o⟩, hF⟩, h3, h4⟩
theorem TM.tF (h : TM w m c t μ s F) : t ∈ F := by
  obtain ⟨_, ⟨tA, tcap, mA, mcap, _, rfl⟩, _, _⟩ := h
  simp
theorem TM.blk (h : TM w m c t μ s F) : ∃ tA tcap mA mcap, Blk w t 144 (trCells m s tA tcap mA mcap) ∧ w.ownsRow 0 2 1 (.slice tA s.told.length tcap) s.told.length (s.told.map (Value.int .i64)) ∧ w.ownsRow 0 193 2 (.slice mA s.marks.length mcap) s.marks.length (markCells s.marks) ∧ F = t :: (blockOf tA ++ blockOf mA) := by
  obtain ⟨_, ⟨tA, tcap, mA, mcap, ⟨hb, h1, h2⟩, hF⟩, _, _⟩ := h
  exact ⟨tA, tcap, mA, mcap, hb, h1, h2, hF⟩
theorem TM.c0 (h : TM w m c t μ s F) : w.cell? ⟨t, 0, none⟩ = some (.pointer (some ⟨m, 0, none⟩)) := by obtain ⟨_, _, _, _, hb, _⟩ := h.blk; exact hb.at_ rfl
theorem TM.c2 (h : TM w m c t μ s F) : w.cell? ⟨t, 2, none⟩ = some (.int .i64 s.at_) := by obtain ⟨_, _, _, _, hb, _⟩ := h.blk; exact hb.at_ rfl
theorem TM.c3 (h : TM w m c t μ s F) : w.cell? ⟨t, 3, none⟩ = some (.bool s.done) := by obtain ⟨_, _, _, _, hb, _⟩ := h.blk; exact hb.at_ rfl
theorem TM.c4 (h : TM w m c t μ s F) : w.cell? ⟨t, 4, none⟩ = some (.bool s.dry) := by obtain ⟨_, _, _, _, hb, _⟩ := h.blk; exact hb.at_ rfl
theorem TM.c5 (h : TM w m c t μ s F) : w.cell? ⟨t, 5, none⟩ = some (.bool s.fresh) := by obtain ⟨_, _, _, _, hb, _⟩ := h.blk; exact hb.at_ rfl
theorem TM.c6 (h : TM w m c t μ s F) : w.cell? ⟨t, 6, none⟩ = some (.bool s.over) := by obtain ⟨_, _, _, _, hb, _⟩ := h.blk; exact hb.at_ rfl
theorem TM.c7 (h : TM w m c t μ s F) : w.cell? ⟨t, 7, none⟩ = some (.int .i64 s.time) := by obtain ⟨_, _, _, _, hb, _⟩ := h.blk; exact hb.at_ rfl
theorem TM.free (h : TM w m c t μ s F) (k : Nat) : w.frozen? ⟨t, k, none⟩ = false := by obtain ⟨_, _, _, _, hb, _⟩ := h.blk; exact hb.free k
theorem TM.told (h : TM w m c t μ s F) : ∃ tA tcap, w.cell? ⟨t, 1, none⟩ = some (.slice tA s.told.length tcap) ∧ w.ownsRow 0 2 1 (.slice tA s.told.length tcap) s.told.length (s.told.map (Value.int .i64)) ∧ (∀ b ∈ blockOf tA, b ∈ F ∧ b ≠ t) := by
  obtain ⟨tA, tcap, mA, mcap, hb, h1, _, hF⟩ := h.blk
  exact ⟨tA, tcap, hb.at_ rfl, h1, fun b hb' => ⟨by rw [hF]; simp [hb'], fun e => blk_notin h1 hb (by decide) (e ▸ hb')⟩⟩
theorem TM.marks (h : TM w m c t μ s F) : ∃ mA mcap, w.cell? ⟨t, 8, none⟩ = some (.slice mA s.marks.length mcap) ∧ w.ownsRow 0 193 2 (.slice mA s.marks.length mcap) s.marks.length (markCells s.marks) ∧ (∀ b ∈ blockOf mA, b ∈ F ∧ b ≠ t) := by
  obtain ⟨tA, tcap, mA, mcap, hb, _, h2, hF⟩ := h.blk
  exact ⟨mA, mcap, hb.at_ rfl, h2, fun b hb' => ⟨by rw [hF]; simp [hb'], fun e => blk_notin h2 hb (by decide) (e ▸ hb')⟩⟩
theorem TM.up (h : TM w m c t μ s F) {a b : World} (hu : Upd (m :: c :: F) a b) (k : Nat) (v : Value) : Upd (m :: c :: F) a (b.setCell ⟨t, k, none⟩ v) := hu.put (.inl (by simp [h.tF])) _
theorem TM.with_mem {μ' : MemS} (h : TM w m c t μ s F) (hm : MemAt w' m c μ') (hu : Upd [m, c] w w') : TM w' m c t μ' s F :=
  ⟨hm, h.tr.upd hu (fun b hb hb2 => by
    simp only [List.mem_cons, List.not_mem_nil, or_false] at hb2
    rcases hb2 with rfl | rfl
    · exact h.hm hb
    · exact h.hc hb), h.hm, h.hc⟩
/-- A step that only wrote the trail's own fields. -/
theorem TMs.same {μ' : MemS} {s' : TrS} (h : TM w' m c t μ' s' F) (hu : Upd (m :: c :: F) w w') : TMs w w' m c t μ' s' F := ⟨F, h, fun _ hb => .inl hb, hu⟩
end

theorem own_some {w : World} {base : Nat} {e : TypeId} {size : Nat} {v : Value} {n : Nat} {xs : List Value} (h : w.ownsRow base e size v (n + 1) xs) : ∃ g cap, v = .slice (some ⟨g, 0, none⟩) (n + 1) cap := by
  rcases h.2 with ⟨_, h⟩ | ⟨g, cap, _, h, _⟩
  · omega
  · exact ⟨g, cap, h⟩

/-- Rows of different element types lie in different blocks. -/
theorem rows_apart {w : World} {b1 b2 : Nat} {e1 e2 : TypeId} {z1 z2 n1 n2 : Nat} {v1 v2 : Value} {xs ys : List Value} (h1 : w.ownsRow b1 e1 z1 v1 n1 xs) (h2 : w.ownsRow b2 e2 z2 v2 n2 ys) (hne : e1 ≠ e2) : v1.ownBlock = none ∨ v1.ownBlock ≠ v2.ownBlock := by
  rcases h1.2 with ⟨rfl, _⟩ | ⟨g1, _, _, rfl, _, hh1, _⟩
  · exact .inl rfl
  · right
    rcases h2.2 with ⟨rfl, _⟩ | ⟨g2, _, _, rfl, _, hh2, _⟩
    · simp [Value.ownBlock]
    · simp only [Value.ownBlock, ne_eq, Option.some.injEq]
      intro e
      subst e
      exact hne (Blk.inj hh1 hh2).1

theorem mem_grown {w w' : World} {m c : Nat} {μ : MemS} {row : Option Nat} (h : MemAt w m c μ) (hg : w.grownBy w' row) (h1 : some m ≠ row) (h2 : some c ≠ row) : MemAt w' m c μ := ⟨h.1.grown hg h1, h.2.1.grown hg h2, h.2.2⟩

theorem TM.pushed {w w4 : World} {m c t g cap' : Nat} {μ : MemS} {s : TrS} {F : List Nat} {tA : Option Addr} {tcap : Nat} {v : Int} (h : TM w m c t μ s F) (htA : w.cell? ⟨t, 1, none⟩ = some (.slice tA s.told.length tcap)) (o : Obj)
    (hown : w4.ownsRow 0 2 1 (.slice (some ⟨g, 0, none⟩) (s.told.length + 1) cap') (s.told.length + 1) (s.told.map (Value.int .i64) ++ [.int .i64 v]))
    (hg : (w.alloc o).grownBy w4 (Value.slice tA s.told.length tcap).ownBlock) (hat : (Value.slice (some ⟨g, 0, none⟩) (s.told.length + 1) cap').ownBlock = (Value.slice tA s.told.length tcap).ownBlock ∨ (Value.slice (some ⟨g, 0, none⟩) (s.told.length + 1) cap').ownBlock = some (w.alloc o).heap.size) :
    ∃ F', TM (w4.setCell ⟨t, 1, none⟩ (.slice (some ⟨g, 0, none⟩) (s.told.length + 1) cap')) m c t μ { s with told := s.told ++ [v] } F' ∧ (∀ b ∈ F', b ∈ F ∨ w.heap.size ≤ b) ∧ Upd (m :: c :: F) w (w4.setCell ⟨t, 1, none⟩ (.slice (some ⟨g, 0, none⟩) (s.told.length + 1) cap')) ∧ w4.cell? ⟨t, 1, none⟩ = some (.slice tA s.told.length tcap) ∧ w4.frozen? ⟨t, 1, none⟩ = false := by
  obtain ⟨tA', tcap', mA, mcap, hb, h1, h2, hF⟩ := h.blk
  have e := htA.symm.trans (hb.at_ (i := 1) rfl)
  simp only [trCells, List.getElem_toArray, List.getElem_cons_succ, List.getElem_cons_zero, Option.some.injEq, Value.slice.injEq, true_and] at e
  obtain ⟨rfl, rfl⟩ := e
  have hrow : ∀ b, some b = (Value.slice tA s.told.length tcap).ownBlock → b ∈ F ∧ b ≠ t := by
    intro b hb'
    cases tA with
    | none => simp [Value.ownBlock] at hb'
    | some a =>
      simp [Value.ownBlock] at hb'
      subst hb'
      exact ⟨by rw [hF]; simp [blockOf], fun e => blk_notin h1 hb (by decide) (by simp [blockOf, e])⟩
  have hgF : g ∈ F ∨ w.heap.size < g + 1 := by
    rcases hat with hat | hat
    · exact .inl (hrow g (by simpa [Value.ownBlock] using hat)).1
    · simp [Value.ownBlock] at hat
      omega
  have hmem := mem_grown (h.mem.alloc o) hg (fun e => h.hm (hrow m e).1) (fun e => h.hc (hrow c e).1)
  have hbt := (hb.alloc o).grown hg (fun e => (hrow t e).2 rfl)
  have h2' := (h2.alloc o).kept hg (rows_apart h2 h1 (by decide))
  have et : t ≠ m := fun e => h.hm (by rw [← e]; exact h.tF)
  have ec : t ≠ c := fun e => h.hc (by rw [← e]; exact h.tF)
  have hu : Upd (m :: c :: F) w w4 := ((Upd.refl _ _).alloc o).grown hg (fun b hb => .inl (by simp [(hrow b hb.symm).1]))
  refine ⟨t :: (blockOf (some ⟨g, 0, none⟩) ++ blockOf mA), ⟨hmem.far (p := ⟨t, 1, none⟩) et ec _, ⟨some ⟨g, 0, none⟩, cap', mA, mcap, ⟨?_, ?_, ?_⟩, rfl⟩, ?_, ?_⟩, ?_, hu.put (.inl (by simp [h.tF])) _, hbt.at_ rfl, hbt.free 1⟩
  · have := hbt.put 1 (.slice (some ⟨g, 0, none⟩) (s.told.length + 1) cap')
    simpa [trCells] using this
  · have := ownsRow_far hown (p := ⟨t, 1, none⟩) (blk_notin hown hbt (by decide)) (.slice (some ⟨g, 0, none⟩) (s.told.length + 1) cap')
    simpa using this
  · exact ownsRow_far h2' (p := ⟨t, 1, none⟩) (blk_notin h2' hbt (by decide)) _
  · intro hin
    simp only [blockOf_some, List.mem_cons, List.mem_append, List.not_mem_nil, or_false] at hin
    rcases hin with e | e | e
    · exact et e.symm
    · subst e
      rcases hgF with hh | hh
      · exact h.hm hh
      · have := h.mem.1.lt
        omega
    · exact h.hm (by rw [hF]; simp [e])
  · intro hin
    simp only [blockOf_some, List.mem_cons, List.mem_append, List.not_mem_nil, or_false] at hin
    rcases hin with e | e | e
    · exact ec e.symm
    · subst e
      rcases hgF with hh | hh
      · exact h.hc hh
      · have := h.mem.2.1.lt
        omega
    · exact h.hc (by rw [hF]; simp [e])
  · intro b hin
    simp only [blockOf_some, List.mem_cons, List.mem_append, List.not_mem_nil, or_false] at hin
    rcases hin with rfl | rfl | e
    · exact .inl h.tF
    · rcases hgF with hh | hh
      · exact .inl hh
      · exact .inr (by omega)
    · exact .inl (by rw [hF]; simp [e])

theorem access_dry (f : Fn) (ts caps : Array Value) (m c t : Nat) (μ : MemS) (s : TrS) (F : List Nat) (w : World) (h : TM w m c t μ s F) (hd : s.dry = true) :
    Calls Try.prog 102 #[.pointer (some ⟨t, 0, none⟩), .func f ts caps] w fun e w' => e = .returned (.int .i64 0) ∧ TMs w w' m c t μ { s with fresh := false } F := by
  have c4 := h.c4
  have c5 := h.c5
  have f5 := h.free 5
  have hfin : TMs w (w.setCell ⟨t, 5, none⟩ (.bool false)) m c t μ { s with fresh := false } F := TMs.same (h.field _ 5 _ rfl rfl fun _ _ _ _ => rfl) (h.up (Upd.refl _ _) _ _)
  go_enter Try.func102, Try.ntmps102
  go_wp2
  go_ret
  exact ⟨rfl, hfin⟩

theorem access_told (f : Fn) (ts caps : Array Value) (m c t : Nat) (μ : MemS) (s : TrS) (F : List Nat) (w : World) (h : TM w m c t μ s F) (hd : s.dry = false) (hat : s.at_ < s.told.length) (hlen : s.told.length ≤ 1000000) :
    Calls Try.prog 102 #[.pointer (some ⟨t, 0, none⟩), .func f ts caps] w fun e w' => e = .returned (.int .i64 (s.told.getD s.at_ 0)) ∧ TMs w w' m c t μ { s with fresh := false, at_ := s.at_ + 1 } F := by
  obtain ⟨tA, tcap, c1, h1, hF⟩ := h.told
  obtain ⟨g, rfl⟩ : ∃ g, tA = some ⟨g, 0, none⟩ := by
    rcases h1.2 with ⟨_, h0⟩ | ⟨g, _, _, hv, _⟩
    · omega
    · injection hv with hA; exact ⟨g, hA⟩
  have hcell := h1.cells (g := g) rfl s.at_ (.int .i64 (s.told.getD s.at_ 0)) (by rw [List.getElem?_map, List.getElem?_eq_getElem hat]; simp [List.getD, hat])
  have hadd : (⟨g, 0, none⟩ : Addr).add s.at_ = ⟨g, s.at_, none⟩ := by unfold Addr.add; split <;> simp_all
  rw [hadd] at hcell
  have hgt : g ≠ t := (hF g (by simp [blockOf])).2
  have c2 := h.c2
  have c4 := h.c4
  have c5 := h.c5
  have f5 := h.free 5
  have f2 := h.free 2
  have hT : ∀ a b, TMs w ((((w.setCell ⟨t, 5, none⟩ (.bool false)).drewN a).setCell ⟨t, 2, none⟩ (.int .i64 ((s.at_ : Int) + 1))).drewN b) m c t μ { s with fresh := false, at_ := s.at_ + 1 } F := fun a b => by
    rw [show (s.at_ : Int) + 1 = ((s.at_ + 1 : Nat) : Int) by omega]
    have h1 := (h.field { s with fresh := false } 5 (.bool false) rfl rfl fun _ _ _ _ => rfl).drewN a
    have h2 := (h1.field { s with fresh := false, at_ := s.at_ + 1 } 2 (.int .i64 ((s.at_ + 1 : Nat) : Int)) rfl rfl fun _ _ _ _ => rfl).drewN b
    exact TMs.same h2 ((h1.up ((h.up (Upd.refl _ _) _ _).drewN a) _ _).drewN b)
  have HT := Lib.hid hT
  clear hT hF hadd h1
  generalize s.told.getD s.at_ 0 = x at *
  have e1 : IntKind.i64.wrap ((s.at_ : Int) + 1 - 1) = s.at_ := by rw [show (s.at_ : Int) + 1 - 1 = s.at_ by omega]; exact IntWalk.i64_in _ (by omega)
  go_enter Try.func102, Try.ntmps102
  go_wp2_with fail
  go_quiet (fail)
  go_wp2_with fail
  go_quiet (fail)
  go_wp2
  go_ret
  exact ⟨rfl, HT.out _ _⟩

theorem access_done (f : Fn) (ts caps : Array Value) (m c t : Nat) (μ : MemS) (s : TrS) (F : List Nat) (w : World) (h : TM w m c t μ s F) (hd : s.dry = false) (hat : ¬ s.at_ < s.told.length) (hdone : s.done = true) :
    Calls Try.prog 102 #[.pointer (some ⟨t, 0, none⟩), .func f ts caps] w fun e w' => e = .returned (.int .i64 0) ∧ TMs w w' m c t μ { s with fresh := false, dry := true } F := by
  obtain ⟨tA, tcap, c1, -, -⟩ := h.told
  have c2 := h.c2
  have c3 := h.c3
  have c4 := h.c4
  have c5 := h.c5
  have f5 := h.free 5
  have f4 := h.free 4
  have hT : ∀ a, TMs w (((w.setCell ⟨t, 5, none⟩ (.bool false)).drewN a).setCell ⟨t, 4, none⟩ (.bool true)) m c t μ { s with fresh := false, dry := true } F := fun a => by
    have h1 := (h.field { s with fresh := false } 5 (.bool false) rfl rfl fun _ _ _ _ => rfl).drewN a
    have h2 := h1.field { s with fresh := false, dry := true } 4 (.bool true) rfl rfl fun _ _ _ _ => rfl
    exact TMs.same h2 (h1.up ((h.up (Upd.refl _ _) _ _).drewN a) _ _)
  have HT := Lib.hid hT
  clear hT
  go_enter Try.func102, Try.ntmps102
  go_wp2_with fail
  go_quiet (fail)
  go_wp2
  go_ret
  exact ⟨rfl, HT.out _⟩

theorem access_wait (f : FuncId) (caps : Array Value) (v : Int) (m c t : Nat) (μ μ' : MemS) (s : TrS) (F : List Nat) (w : World) (h : TM w m c t μ s F) (hd : s.dry = false) (hat : ¬ s.at_ < s.told.length) (hdone : s.done = false) 
    (hcall : ∀ w, (callFunc f caps).run Try.prog w = .ok (.enter f caps) w)
    (HD : Hid (∀ w1, TM w1 m c t μ { s with fresh := false } F → Upd [t] w w1 → Calls Try.prog f caps w1 fun e w2 => e = .returned (.tuple #[.int .i64 v, .bool false]) ∧ MemAt w2 m c μ' ∧ Upd [m, c] w1 w2)) :
    Calls Try.prog 102 #[.pointer (some ⟨t, 0, none⟩), .func (.func f) #[] caps] w fun e w' => e = .returned (.int .i64 0) ∧ TMs w w' m c t μ' { s with done := true, fresh := true, dry := true } F := by
  obtain ⟨tA, tcap, c1, -, -⟩ := h.told
  have c2 := h.c2
  have c3 := h.c3
  have c4 := h.c4
  have c5 := h.c5
  have f5 := h.free 5
  have hT : ∀ a, TM ((w.setCell ⟨t, 5, none⟩ (.bool false)).drewN a) m c t μ { s with fresh := false } F ∧ Upd [t] w ((w.setCell ⟨t, 5, none⟩ (.bool false)).drewN a) := fun a =>
    ⟨(h.field { s with fresh := false } 5 (.bool false) rfl rfl fun _ _ _ _ => rfl).drewN a, ((Upd.refl _ _).put (.inl (by simp)) _).drewN a⟩
  have HT := Lib.hid hT
  clear hT
  go_enter Try.func102, Try.ntmps102
  go_wp2_with fail
  go_quiet (fail)
  rename_i nq _ _
  go_wp2_with fail
  refine (HD.out _ (HT.out nq).1 (HT.out nq).2).mono ?_
  rintro e w2 ⟨rfl, hm2, hu2⟩
  obtain ⟨ht1, hu1⟩ := HT.out nq
  have hu : Upd (m :: c :: F) w w2 := (hu1.mono (by simp [h.tF])).trans (hu2.mono (by simp))
  have ht2 : TM w2 m c t μ' { s with fresh := false } F := ht1.with_mem hm2 hu2
  clear c1 c2 c3 c4 c5 f5 ht1 hu1 hu2 hm2 HT HD hcall
  generalize (w.setCell ⟨t, 5, none⟩ (.bool false)).drewN nq = w1 at *
  have c3 := ht2.c3
  have c4 := ht2.c4
  have c5 := ht2.c5
  have f3 := ht2.free 3
  have f4 := ht2.free 4
  have f5 := ht2.free 5
  have hfin : TMs w (((w2.setCell ⟨t, 3, none⟩ (.bool true)).setCell ⟨t, 5, none⟩ (.bool true)).setCell ⟨t, 4, none⟩ (.bool true)) m c t μ' { s with done := true, fresh := true, dry := true } F := by
    have a1 := ht2.field { s with fresh := false, done := true } 3 (.bool true) rfl rfl fun _ _ _ _ => rfl
    have a2 := a1.field { s with done := true, fresh := true } 5 (.bool true) rfl rfl fun _ _ _ _ => rfl
    have a3 := a2.field { s with done := true, fresh := true, dry := true } 4 (.bool true) rfl rfl fun _ _ _ _ => rfl
    exact TMs.same a3 (a2.up (a1.up (ht2.up hu _ _) _ _) _ _)
  have HF := Lib.hid hfin
  clear hfin
  go_wp2
  go_ret
  exact ⟨rfl, HF.out⟩

theorem access_new (f : FuncId) (caps : Array Value) (v : Int) (m c t : Nat) (μ μ' : MemS) (s : TrS) (F : List Nat) (w : World) (h : TM w m c t μ s F) (hd : s.dry = false) (hat : ¬ s.at_ < s.told.length) (hdone : s.done = false) (hle : s.at_ ≤ s.told.length) (hlen : s.told.length ≤ 1000000)
    (hcall : ∀ w, (callFunc f caps).run Try.prog w = .ok (.enter f caps) w)
    (HD : Hid (∀ w1, TM w1 m c t μ { s with fresh := false } F → Upd [t] w w1 → Calls Try.prog f caps w1 fun e w2 => e = .returned (.tuple #[.int .i64 v, .bool true]) ∧ MemAt w2 m c μ' ∧ Upd [m, c] w1 w2)) :
    Calls Try.prog 102 #[.pointer (some ⟨t, 0, none⟩), .func (.func f) #[] caps] w fun e w' => e = .returned (.int .i64 v) ∧ TMs w w' m c t μ' { s with done := true, fresh := true, told := s.told ++ [v], at_ := s.at_ + 1 } F := by
  obtain ⟨tA, tcap, c1, -, -⟩ := h.told
  have c2 := h.c2
  have c3 := h.c3
  have c4 := h.c4
  have c5 := h.c5
  have f5 := h.free 5
  have hT : ∀ a, TM ((w.setCell ⟨t, 5, none⟩ (.bool false)).drewN a) m c t μ { s with fresh := false } F ∧ Upd [t] w ((w.setCell ⟨t, 5, none⟩ (.bool false)).drewN a) := fun a =>
    ⟨(h.field { s with fresh := false } 5 (.bool false) rfl rfl fun _ _ _ _ => rfl).drewN a, ((Upd.refl _ _).put (.inl (by simp)) _).drewN a⟩
  have HT := Lib.hid hT
  clear hT
  go_enter Try.func102, Try.ntmps102
  go_wp2_with fail
  go_quiet (fail)
  rename_i nq _ _
  go_wp2_with fail
  refine (HD.out _ (HT.out nq).1 (HT.out nq).2).mono ?_
  rintro e w2 ⟨rfl, hm2, hu2⟩
  obtain ⟨ht1, hu1⟩ := HT.out nq
  have hu : Upd (m :: c :: F) w w2 := (hu1.mono (by simp [h.tF])).trans (hu2.mono (by simp))
  have ht2 : TM w2 m c t μ' { s with fresh := false } F := ht1.with_mem hm2 hu2
  clear c1 c2 c3 c4 c5 f5 ht1 hu1 hu2 hm2 HT HD hcall
  generalize (w.setCell ⟨t, 5, none⟩ (.bool false)).drewN nq = w1 at *
  have f3 := ht2.free 3
  have f5 := ht2.free 5
  have c3 := ht2.c3
  have c5 := ht2.c5
  have h3 : TM ((w2.setCell ⟨t, 3, none⟩ (.bool true)).setCell ⟨t, 5, none⟩ (.bool true)) m c t μ' { s with done := true, fresh := true } F :=
    (ht2.field { s with fresh := false, done := true } 3 (.bool true) rfl rfl fun _ _ _ _ => rfl).field { s with done := true, fresh := true } 5 (.bool true) rfl rfl fun _ _ _ _ => rfl
  have hu3 := ht2.up (ht2.up hu 3 (.bool true)) 5 (.bool true)
  clear hu
  go_upto_region 15 with fail
  generalize (w2.setCell ⟨t, 3, none⟩ (.bool true)).setCell ⟨t, 5, none⟩ (.bool true) = w3 at *
  obtain ⟨tA, tcap, hcell, hown, -⟩ := h3.told
  obtain ⟨i0, hi, hz0, hz1, hz2⟩ := info_parts info_i64
  clear f3 f5 c3 c5 ht2 h
  have H3 := Lib.hid h3
  have HU := Lib.hid hu3
  clear h3 hu3
  go_wp2_with (at_builtin; refine wpList_append_own_at (P := Try.prog) _ rfl (.tmp 72) (.tmp 74) 31 rfl 0 2 i0 (.int .i64 0) 1 8 Try.underlying31 hi hz0 hz1 hz2 rfl (by decide) _ _ _ rfl (hown.alloc _) ⟨w3.heap.size, 0, none⟩ 1 1 [.int .i64 v] rfl rfl ?c1 ?c2 ?c3 ?c4 ?c5 ?_)
  case c2 => rfl
  case c3 => unfold maxLen; omega
  case c4 => omega
  intro v' w4 hown' hgrow _ hat'
  obtain ⟨g, cap', rfl⟩ := own_some hown'
  obtain ⟨F', h5, hF5, hu5, c1, f1⟩ := H3.out.pushed hcell _ hown' hgrow (by simpa using hat')
  have H5 := Lib.hid h5
  have HU5 := Lib.hid hu5
  have HF5 := Lib.hid hF5
  clear hown' hgrow hat' hown hcell h5 hu5 hF5
  go_upto_region 16 with fail
  generalize w4.setCell ⟨t, 1, none⟩ (.slice (some ⟨g, 0, none⟩) (s.told.length + 1) cap') = w5 at *
  have c2 := H5.out.c2
  have f2 := H5.out.free 2
  have hfin : TMs w (w5.setCell ⟨t, 2, none⟩ (.int .i64 ((s.at_ : Int) + 1))) m c t μ' { s with done := true, fresh := true, told := s.told ++ [v], at_ := s.at_ + 1 } F := by
    have a1 := H5.out.field { s with done := true, fresh := true, told := s.told ++ [v], at_ := s.at_ + 1 } 2 (.int .i64 ((s.at_ + 1 : Nat) : Int)) rfl rfl fun _ _ _ _ => rfl
    rw [show (s.at_ : Int) + 1 = ((s.at_ + 1 : Nat) : Int) by omega]
    refine ⟨F', a1, fun b hb => ?_, (HU.out.trans HU5.out).put (HF5.out t H5.out.tF |>.elim (fun h => .inl (by simp [h])) (fun h => .inr (Nat.le_trans HU.out.size h))) _⟩
    rcases HF5.out b hb with h | h
    · exact .inl h
    · exact .inr (Nat.le_trans HU.out.size h)
  have HF := Lib.hid hfin
  clear hfin c1 f1
  go_wp2
  go_ret
  exact ⟨rfl, by have h := HF.out; rw [hd] at h; exact h⟩

/-- What is remembered is as much as was told again, or more. -/
structure TrS.Ok (s : TrS) : Prop where
  le : s.at_ ≤ s.told.length
  len : s.told.length ≤ 1000000

theorem TrS.In.ok {s : TrS} {n : Nat} (h : s.In n) (hn : n ≤ 1000000) : s.Ok := ⟨h.le, by have := h.len; omega⟩

theorem access_any (f : FuncId) (caps : Array Value) (d : MemS → Int × Bool × MemS) (m c t : Nat) (μ : MemS) (s : TrS) (F : List Nat) (w : World) (h : TM w m c t μ s F) (ho : s.Ok)
    (hcall : ∀ w, (callFunc f caps).run Try.prog w = .ok (.enter f caps) w)
    (HD : Hid (∀ w1, TM w1 m c t μ { s with fresh := false } F → Upd [t] w w1 → Calls Try.prog f caps w1 fun e w2 => e = .returned (.tuple #[.int .i64 (d μ).1, .bool (d μ).2.1]) ∧ MemAt w2 m c (d μ).2.2 ∧ Upd [m, c] w1 w2)) :
    Calls Try.prog 102 #[.pointer (some ⟨t, 0, none⟩), .func (.func f) #[] caps] w fun e w' => e = .returned (.int .i64 (s.acc d μ).1) ∧ TMs w w' m c t (s.acc d μ).2.1 (s.acc d μ).2.2 F := by
  cases hd : s.dry with
  | true => rw [acc_dry d μ s hd]; exact access_dry _ _ _ m c t μ s F w h hd
  | false =>
    by_cases hat : s.at_ < s.told.length
    · rw [acc_told d μ s hd hat]
      exact access_told _ _ _ m c t μ s F w h hd hat ho.len
    · cases hdn : s.done with
      | true => rw [acc_done d μ s hd hat hdn]; exact access_done _ _ _ m c t μ s F w h hd hat hdn
      | false =>
        cases he : (d μ).2.1 with
        | false =>
          rw [acc_wait d μ s hd hat hdn he]
          rw [he] at HD
          exact access_wait f caps (d μ).1 m c t μ _ s F w h hd hat hdn hcall HD
        | true =>
          rw [acc_new d μ s hd hat hdn he]
          rw [he] at HD
          exact access_new f caps (d μ).1 m c t μ _ s F w h hd hat hdn ho.le ho.len hcall HD

/-! ### The accesses -/
def dLoad (i : Int) (μ : MemS) : Int × Bool × MemS := ((μ.load i).1, true, (μ.load i).2.2)
def dStore (i v : Int) (μ : MemS) : Int × Bool × MemS := (0, true, (μ.store i v).2)
def dAdd (i d : Int) (μ : MemS) : Int × Bool × MemS := ((μ.add i d).1, true, (μ.add i d).2.2)
def dSwap (i old fresh : Int) (μ : MemS) : Int × Bool × MemS := (bif (μ.swap i old fresh).1 then 1 else 0, true, (μ.swap i old fresh).2.2)
def dWait (i v : Int) (μ : MemS) : Int × Bool × MemS := ((μ.load i).1, ((μ.load i).2.1 == 0) && ((μ.load i).1 == v), (μ.load i).2.2)

theorem TM.box {w : World} {m c t : Nat} {μ : MemS} {s : TrS} {F : List Nat} (h : TM w m c t μ s F) {w1 : World} (hu : Upd [t] w w1) {b : Nat} {ty : TypeId} {cs : Array Value} (hb : Blk w b ty cs) (hne : ty ≠ 144) : Blk w1 b ty cs := by
  obtain ⟨_, _, _, _, hbt, _⟩ := h.blk
  exact hb.upd hu (by simpa using hb.ne_ hbt hne)

theorem load_1 (b1 b2 : Nat) (i : Int) (m c t : Nat) (μ : MemS) (s : TrS) (F : List Nat) (w : World) (h : TM w m c t μ s F) (h1 : Blk w b1 114 #[.pointer (some ⟨t, 0, none⟩)]) (h2 : Blk w b2 3 #[.int .i64 i]) :
    Calls Try.prog 106 #[.pointer (some ⟨b1, 0, none⟩), .pointer (some ⟨b2, 0, none⟩)] w fun e w' => e = .returned (.tuple #[.int .i64 (dLoad i μ).1, .bool (dLoad i μ).2.1]) ∧ MemAt w' m c (dLoad i μ).2.2 ∧ Upd [m, c] w w' := by
  have d1 := h1.at_ (i := 0) rfl
  have l1 := h1.lt
  have n1 : b1 ∉ [m, c] := by simp [h1.ne_ h.mem.1 (by decide), h1.ne_ h.mem.2.1 (by decide)]
  have d2 := h2.at_ (i := 0) rfl
  have l2 := h2.lt
  have n2 : b2 ∉ [m, c] := by simp [h2.ne_ h.mem.1 (by decide), h2.ne_ h.mem.2.1 (by decide)]
  have c0 := h.c0
  have lt := h.tr.lt t h.tF
  have nt : t ∉ [m, c] := by
    have := h.tF
    have hm := h.hm
    have hc := h.hc
    simp only [List.mem_cons, List.not_mem_nil, or_false, not_or]
    exact ⟨fun e => hm (e ▸ this), fun e => hc (e ▸ this)⟩
  have hmem := h.mem
  simp only [List.getElem_toArray, List.getElem_cons_zero] at d1 d2
  go_enter Try.func106, Try.ntmps106
  go_wp2_with fail
  go_region_held3 (fun x => x.cell? ⟨b1, 0, none⟩ = some (.pointer (some ⟨t, 0, none⟩)) ∧ x.cell? ⟨b2, 0, none⟩ = some (.int .i64 i) ∧ x.cell? ⟨t, 0, none⟩ = some (.pointer (some ⟨m, 0, none⟩))) (first | exact ⟨d1, d2, c0⟩ | exact ⟨e1, e2, e0⟩) (first | (go_at_call 33; refine (cell_load m c μ i _ (hmem.drewN 1)).mono ?_; rintro e w2 ⟨rfl, hm2, hu2⟩; have hv : Upd [m, c] w w2 := (Upd.drewN (Upd.refl _ _) 1).trans (hu2.mono (by simp)); have e1 := (hv.cell (p := ⟨b1, 0, none⟩) l1 n1).trans d1; have e2 := (hv.cell (p := ⟨b2, 0, none⟩) l2 n2).trans d2; have e0 := (hv.cell (p := ⟨t, 0, none⟩) lt nt).trans c0))
  go_wp2
  go_ret2
  exact ⟨rfl, hm2, hv⟩

set_option maxRecDepth 100000 in
theorem t_load (m c t : Nat) (μ : MemS) (s : TrS) (F : List Nat) (i : Int) (w : World) (h : TM w m c t μ s F) (ho : s.Ok) :
    Calls Try.prog 96 #[.pointer (some ⟨t, 0, none⟩), .int .i64 i] w fun e w' => e = .returned (.int .i64 (s.acc (dLoad i) μ).1) ∧ TMs w w' m c t (s.acc (dLoad i) μ).2.1 (s.acc (dLoad i) μ).2.2 F := by
  obtain ⟨w1, W1⟩ : ∃ w1, w1 = ((w.alloc (.cells #[.pointer (some ⟨t, 0, none⟩)] 114)).alloc (.cells #[.int .i64 i] 3)) := ⟨_, rfl⟩
  have h1 : TM w1 m c t μ s F := by rw [W1]; exact ((h.alloc _).alloc _)
  have hv1 : Upd (m :: c :: F) w w1 := by rw [W1]; exact (((Upd.refl _ _).alloc _).alloc _)
  have hb1 : Blk w1 (w.heap.size) 114 #[.pointer (some ⟨t, 0, none⟩)] := by simpa [W1] using ((Blk.new w 114 #[.pointer (some ⟨t, 0, none⟩)]).alloc (.cells #[.int .i64 i] 3))
  have hb2 : Blk w1 (w.heap.size + 1) 3 #[.int .i64 i] := by simpa [W1] using (Blk.new (w.alloc (.cells #[.pointer (some ⟨t, 0, none⟩)] 114)) 3 #[.int .i64 i])
  have hacc := access_any 106 #[.pointer (some ⟨w.heap.size, 0, none⟩), .pointer (some ⟨w.heap.size + 1, 0, none⟩)] (dLoad i) m c t μ s F w1 h1 ho (fun _ => by kernel_rfl) (fun wx hx hux => load_1 _ _ i m c t μ _ F wx hx (h1.box hux hb1 (by decide)) (h1.box hux hb2 (by decide)))
  have HA := Lib.hid hacc
  have hfin : ∀ w2, TMs w1 w2 m c t (s.acc (dLoad i) μ).2.1 (s.acc (dLoad i) μ).2.2 F → TMs w w2 m c t (s.acc (dLoad i) μ).2.1 (s.acc (dLoad i) μ).2.2 F := fun w2 h2 => TMs.trans h1 (fun _ hb => .inl hb) hv1 h2
  have HF := Lib.hid hfin
  have c0 := hb1.at_ (i := 0) rfl
  clear hacc hfin hb1 hb2 h1 hv1
  go_enter Try.func96, Try.ntmps96
  go_wp2_with fail
  rw [← W1]
  clear W1
  refine HA.out.mono ?_
  rintro e w2 ⟨rfl, h2⟩
  go_wp2
  go_ret
  exact ⟨rfl, HF.out w2 h2⟩


theorem store_1 (b1 b2 b3 : Nat) (i v : Int) (m c t : Nat) (μ : MemS) (s : TrS) (F : List Nat) (w : World) (h : TM w m c t μ s F) (h1 : Blk w b1 114 #[.pointer (some ⟨t, 0, none⟩)]) (h2 : Blk w b2 3 #[.int .i64 i]) (h3 : Blk w b3 2 #[.int .i64 v]) (n3 : b3 ∉ [m, c]) :
    Calls Try.prog 103 #[.pointer (some ⟨b1, 0, none⟩), .pointer (some ⟨b2, 0, none⟩), .pointer (some ⟨b3, 0, none⟩)] w fun e w' => e = .returned (.tuple #[.int .i64 (dStore i v μ).1, .bool (dStore i v μ).2.1]) ∧ MemAt w' m c (dStore i v μ).2.2 ∧ Upd [m, c] w w' := by
  have d1 := h1.at_ (i := 0) rfl
  have l1 := h1.lt
  have n1 : b1 ∉ [m, c] := by simp [h1.ne_ h.mem.1 (by decide), h1.ne_ h.mem.2.1 (by decide)]
  have d2 := h2.at_ (i := 0) rfl
  have l2 := h2.lt
  have n2 : b2 ∉ [m, c] := by simp [h2.ne_ h.mem.1 (by decide), h2.ne_ h.mem.2.1 (by decide)]
  have d3 := h3.at_ (i := 0) rfl
  have l3 := h3.lt
  have c0 := h.c0
  have lt := h.tr.lt t h.tF
  have nt : t ∉ [m, c] := by
    have := h.tF
    have hm := h.hm
    have hc := h.hc
    simp only [List.mem_cons, List.not_mem_nil, or_false, not_or]
    exact ⟨fun e => hm (e ▸ this), fun e => hc (e ▸ this)⟩
  have hmem := h.mem
  simp only [List.getElem_toArray, List.getElem_cons_zero] at d1 d2 d3
  go_enter Try.func103, Try.ntmps103
  go_wp2_with fail
  go_region_held3 (fun x => x.cell? ⟨b1, 0, none⟩ = some (.pointer (some ⟨t, 0, none⟩)) ∧ x.cell? ⟨b2, 0, none⟩ = some (.int .i64 i) ∧ x.cell? ⟨b3, 0, none⟩ = some (.int .i64 v) ∧ x.cell? ⟨t, 0, none⟩ = some (.pointer (some ⟨m, 0, none⟩))) (first | exact ⟨d1, d2, d3, c0⟩ | exact ⟨e1, e2, e3, e0⟩) (first | (go_at_call 32; refine (cell_store m c μ i v _ (hmem.drewN 1)).mono ?_; rintro e w2 ⟨rfl, hm2, hu2⟩; have hv : Upd [m, c] w w2 := (Upd.drewN (Upd.refl _ _) 1).trans (hu2.mono (by simp)); have e1 := (hv.cell (p := ⟨b1, 0, none⟩) l1 n1).trans d1; have e2 := (hv.cell (p := ⟨b2, 0, none⟩) l2 n2).trans d2; have e3 := (hv.cell (p := ⟨b3, 0, none⟩) l3 n3).trans d3; have e0 := (hv.cell (p := ⟨t, 0, none⟩) lt nt).trans c0))
  go_wp2
  go_ret2
  exact ⟨rfl, hm2, hv⟩

set_option maxRecDepth 100000 in
theorem t_store (m c t : Nat) (μ : MemS) (s : TrS) (F : List Nat) (i v : Int) (w : World) (h : TM w m c t μ s F) (ho : s.Ok) :
    Calls Try.prog 90 #[.pointer (some ⟨t, 0, none⟩), .int .i64 i, .int .i64 v] w fun e w' => e = .returned (.tuple #[]) ∧ TMs w w' m c t (s.acc (dStore i v) μ).2.1 (s.acc (dStore i v) μ).2.2 F := by
  obtain ⟨w1, W1⟩ : ∃ w1, w1 = (((w.alloc (.cells #[.pointer (some ⟨t, 0, none⟩)] 114)).alloc (.cells #[.int .i64 i] 3)).alloc (.cells #[.int .i64 v] 2)) := ⟨_, rfl⟩
  have h1 : TM w1 m c t μ s F := by rw [W1]; exact (((h.alloc _).alloc _).alloc _)
  have hv1 : Upd (m :: c :: F) w w1 := by rw [W1]; exact ((((Upd.refl _ _).alloc _).alloc _).alloc _)
  have hb1 : Blk w1 (w.heap.size) 114 #[.pointer (some ⟨t, 0, none⟩)] := by simpa [W1] using (((Blk.new w 114 #[.pointer (some ⟨t, 0, none⟩)]).alloc (.cells #[.int .i64 i] 3)).alloc (.cells #[.int .i64 v] 2))
  have hb2 : Blk w1 (w.heap.size + 1) 3 #[.int .i64 i] := by simpa [W1] using ((Blk.new (w.alloc (.cells #[.pointer (some ⟨t, 0, none⟩)] 114)) 3 #[.int .i64 i]).alloc (.cells #[.int .i64 v] 2))
  have hb3 : Blk w1 (w.heap.size + 2) 2 #[.int .i64 v] := by simpa [W1] using (Blk.new ((w.alloc (.cells #[.pointer (some ⟨t, 0, none⟩)] 114)).alloc (.cells #[.int .i64 i] 3)) 2 #[.int .i64 v])
  have hacc := access_any 103 #[.pointer (some ⟨w.heap.size, 0, none⟩), .pointer (some ⟨w.heap.size + 1, 0, none⟩), .pointer (some ⟨w.heap.size + 2, 0, none⟩)] (dStore i v) m c t μ s F w1 h1 ho (fun _ => by kernel_rfl) (fun wx hx hux => store_1 _ _ _ i v m c t μ _ F wx hx (h1.box hux hb1 (by decide)) (h1.box hux hb2 (by decide)) (h1.box hux hb3 (by decide)) (by have h1 := h.mem.1.lt; have h2 := h.mem.2.1.lt; simp only [List.mem_cons, List.not_mem_nil, or_false, not_or]; omega))
  have HA := Lib.hid hacc
  have hfin : ∀ w2, TMs w1 w2 m c t (s.acc (dStore i v) μ).2.1 (s.acc (dStore i v) μ).2.2 F → TMs w w2 m c t (s.acc (dStore i v) μ).2.1 (s.acc (dStore i v) μ).2.2 F := fun w2 h2 => TMs.trans h1 (fun _ hb => .inl hb) hv1 h2
  have HF := Lib.hid hfin
  have c0 := hb1.at_ (i := 0) rfl
  clear hacc hfin hb1 hb2 hb3 h1 hv1
  go_enter Try.func90, Try.ntmps90
  go_wp2_with fail
  rw [← W1]
  clear W1
  refine HA.out.mono ?_
  rintro e w2 ⟨rfl, h2⟩
  go_wp2
  go_end0
  exact ⟨rfl, HF.out w2 h2⟩





end Go.Proofs.Ytldccemgfjmcdaa
