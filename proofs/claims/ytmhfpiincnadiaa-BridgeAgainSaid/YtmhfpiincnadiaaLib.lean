/- Plain lemmas on worlds, blocks and maps: no Go function here. -/
import Derived.WalkKit
import Derived.WalkSpells
import Derived.WalkLawsBesides
import Derived.KernelRfl
import Derived.Deep.QuietTactic
import Derived.BigQuiet
import Derived.BigRegion
import Derived.RegionTactic
import Derived.ChangeAlike
import Derived.Deep.RegionHeld
import Derived.Lib.Hide
import Derived.StillTailTactics
namespace Go.Proofs.Ytmhfpiincnadiaa
open Go.RowKit
set_option linter.unusedSimpArgs false
set_option linter.unusedVariables false

/-! ### heaps -/
/-- What lies in a block (a name of its own, that 'simp' lets be). -/
def blk (w : World) (b : Nat) : Option Obj := w.heap[b]?
@[go_sem] theorem heap_alloc_lt (w : World) (o : Obj) (b : Nat) (h : b < w.heap.size) : blk (w.alloc o) b = blk w b := Below.heap_alloc w o b h
@[go_sem] theorem heap_alloc_at (w : World) (o : Obj) (b : Nat) (h : b = w.heap.size) : blk (w.alloc o) b = some o := by
  subst h
  show (w.heap.push o)[w.heap.size]? = _
  simp
@[go_sem] theorem heap_setCell_ne (w : World) (a : Addr) (v : Value) (b : Nat) (h : b ≠ a.block) : blk (w.setCell a v) b = blk w b := Below.heap_setCell w a v b h
theorem heap_setCell_eq (w : World) (b i : Nat) (v : Value) {cs : Array Value} {T : TypeId} {fr : Nat × Nat} (h : blk w b = some (.cells cs T fr)) :
    blk (w.setCell ⟨b, i, none⟩ v) b = some (.cells (cs.setIfInBounds i v) T fr) := by
  unfold blk at h ⊢
  simp only [World.setCell, Array.getElem?_modify]
  simp [h]
@[go_sem] theorem heap_drewN (w : World) (n b : Nat) : blk (w.drewN n) b = blk w b := rfl
@[go_sem] theorem heap_drew (w : World) (b : Nat) : blk w.drew b = blk w b := rfl
@[go_sem] theorem size_drewN (w : World) (n : Nat) : (w.drewN n).heap.size = w.heap.size := rfl
@[go_sem] theorem size_drew (w : World) : w.drew.heap.size = w.heap.size := rfl
@[go_sem] theorem size_setCell (w : World) (a : Addr) (v : Value) : (w.setCell a v).heap.size = w.heap.size := by simp [World.setCell]
theorem cell_of {w : World} {b : Nat} {cs : Array Value} {T : TypeId} {fr : Nat × Nat} (h : blk w b = some (.cells cs T fr)) (i : Nat) : w.cell? ⟨b, i, none⟩ = cs[i]? := by
  unfold blk at h; simp [World.cell?, h]
theorem free_of {w : World} {b : Nat} {cs : Array Value} {T : TypeId} (h : blk w b = some (.cells cs T (0, 0))) (i : Nat) : w.frozen? ⟨b, i, none⟩ = false := by
  unfold blk at h; simp [World.frozen?, h]
theorem lt_of {w : World} {b : Nat} {o : Obj} (h : blk w b = some o) : b < w.heap.size := by
  unfold blk at h
  rcases Nat.lt_or_ge b w.heap.size with h' | h'
  · exact h'
  · simp [Array.getElem?_eq_none h'] at h
theorem cells_1 {w : World} {b : Nat} {T : TypeId} {fr : Nat × Nat} {v0 : Value} (h : blk w b = some (.cells #[v0] T fr)) :
    w.cell? ⟨b, 0, none⟩ = some v0 :=
  cell_of h 0
theorem cells_2 {w : World} {b : Nat} {T : TypeId} {fr : Nat × Nat} {v0 v1 : Value} (h : blk w b = some (.cells #[v0, v1] T fr)) :
    w.cell? ⟨b, 0, none⟩ = some v0 ∧ w.cell? ⟨b, 1, none⟩ = some v1 :=
  ⟨cell_of h 0, cell_of h 1⟩
theorem cells_3 {w : World} {b : Nat} {T : TypeId} {fr : Nat × Nat} {v0 v1 v2 : Value} (h : blk w b = some (.cells #[v0, v1, v2] T fr)) :
    w.cell? ⟨b, 0, none⟩ = some v0 ∧ w.cell? ⟨b, 1, none⟩ = some v1 ∧ w.cell? ⟨b, 2, none⟩ = some v2 :=
  ⟨cell_of h 0, cell_of h 1, cell_of h 2⟩
theorem cells_4 {w : World} {b : Nat} {T : TypeId} {fr : Nat × Nat} {v0 v1 v2 v3 : Value} (h : blk w b = some (.cells #[v0, v1, v2, v3] T fr)) :
    w.cell? ⟨b, 0, none⟩ = some v0 ∧ w.cell? ⟨b, 1, none⟩ = some v1 ∧ w.cell? ⟨b, 2, none⟩ = some v2 ∧ w.cell? ⟨b, 3, none⟩ = some v3 :=
  ⟨cell_of h 0, cell_of h 1, cell_of h 2, cell_of h 3⟩
theorem cells_6 {w : World} {b : Nat} {T : TypeId} {fr : Nat × Nat} {v0 v1 v2 v3 v4 v5 : Value} (h : blk w b = some (.cells #[v0, v1, v2, v3, v4, v5] T fr)) :
    w.cell? ⟨b, 0, none⟩ = some v0 ∧ w.cell? ⟨b, 1, none⟩ = some v1 ∧ w.cell? ⟨b, 2, none⟩ = some v2 ∧ w.cell? ⟨b, 3, none⟩ = some v3 ∧ w.cell? ⟨b, 4, none⟩ = some v4 ∧ w.cell? ⟨b, 5, none⟩ = some v5 :=
  ⟨cell_of h 0, cell_of h 1, cell_of h 2, cell_of h 3, cell_of h 4, cell_of h 5⟩
theorem cells_10 {w : World} {b : Nat} {T : TypeId} {fr : Nat × Nat} {v0 v1 v2 v3 v4 v5 v6 v7 v8 v9 : Value} (h : blk w b = some (.cells #[v0, v1, v2, v3, v4, v5, v6, v7, v8, v9] T fr)) :
    w.cell? ⟨b, 0, none⟩ = some v0 ∧ w.cell? ⟨b, 1, none⟩ = some v1 ∧ w.cell? ⟨b, 2, none⟩ = some v2 ∧ w.cell? ⟨b, 3, none⟩ = some v3 ∧ w.cell? ⟨b, 4, none⟩ = some v4 ∧ w.cell? ⟨b, 5, none⟩ = some v5 ∧ w.cell? ⟨b, 6, none⟩ = some v6 ∧ w.cell? ⟨b, 7, none⟩ = some v7 ∧ w.cell? ⟨b, 8, none⟩ = some v8 ∧ w.cell? ⟨b, 9, none⟩ = some v9 :=
  ⟨cell_of h 0, cell_of h 1, cell_of h 2, cell_of h 3, cell_of h 4, cell_of h 5, cell_of h 6, cell_of h 7, cell_of h 8, cell_of h 9⟩
/-- An old block stays old behind new ones. -/
theorem lts {b n : Nat} (h : b < n) : b < n + 1 ∧ b < n + 1 + 1 ∧ b < n + 1 + 1 + 1 ∧ b < n + 1 + 1 + 1 + 1 ∧ b < n + 1 + 1 + 1 + 1 + 1 := by omega

/-! ### what a call may have turned: the blocks of a list, and new ones -/
structure Mod (S : List Nat) (w w' : World) : Prop where
  os : w'.os = w.os
  tape : w'.tape = w.tape
  output : w'.output = w.output
  size : w.heap.size ≤ w'.heap.size
  block : ∀ k, k < w.heap.size → k ∉ S → blk w' k = blk w k

namespace Mod
variable {S S' : List Nat} {w w' w'' : World}
theorem refl (S : List Nat) (w : World) : Mod S w w := ⟨rfl, rfl, rfl, Nat.le_refl _, fun _ _ _ => rfl⟩
theorem trans (h : Mod S w w') (h' : Mod S' w' w'') (hs : ∀ k, k ∈ S' → k ∈ S ∨ w.heap.size ≤ k) : Mod S w w'' :=
  ⟨h'.os.trans h.os, h'.tape.trans h.tape, h'.output.trans h.output, Nat.le_trans h.size h'.size, fun k hk hn => by
    rw [h'.block k (Nat.lt_of_lt_of_le hk h.size) (fun hm => by rcases hs k hm with h1 | h1; · exact hn h1
                                                                · omega), h.block k hk hn]⟩
theorem mono (h : Mod S w w') (hs : ∀ k, k ∈ S → k ∈ S') : Mod S' w w' := ⟨h.os, h.tape, h.output, h.size, fun k hk hn => h.block k hk (fun hm => hn (hs k hm))⟩
theorem nil (h : Mod [] w w') : Mod S w w' := h.mono (by simp)
theorem alloc (h : Mod S w w') (o : Obj) : Mod S w (w'.alloc o) :=
  ⟨h.os, h.tape, h.output, by have := h.size; simp; omega, fun k hk hn => by rw [heap_alloc_lt _ _ _ (Nat.lt_of_lt_of_le hk h.size), h.block k hk hn]⟩
theorem setCell (h : Mod S w w') {p : Addr} (hp : p.block ∈ S ∨ w.heap.size ≤ p.block) (v : Value) : Mod S w (w'.setCell p v) :=
  ⟨h.os, h.tape, h.output, by rw [size_setCell]; exact h.size, fun k hk hn => by
    rw [heap_setCell_ne _ _ _ _ (fun e => by rcases hp with hp | hp; · exact hn (e ▸ hp)
                                             · omega), h.block k hk hn]⟩
theorem drewN (h : Mod S w w') (n : Nat) : Mod S w (w'.drewN n) := ⟨h.os, h.tape, h.output, h.size, h.block⟩
theorem drew (h : Mod S w w') : Mod S w w'.drew := ⟨h.os, h.tape, h.output, h.size, h.block⟩
theorem drew_l (h : Mod S w.drew w') : Mod S w w' := ⟨h.os, h.tape, h.output, h.size, h.block⟩
theorem drewN_l {n : Nat} (h : Mod S (w.drewN n) w') : Mod S w w' := ⟨h.os, h.tape, h.output, h.size, h.block⟩
theorem below (h : Mod [] w w') : Below w.heap.size w w' := ⟨h.os, h.tape, h.output, h.size, fun k hk => h.block k hk (by simp)⟩
theorem cell (h : Mod S w w') {b : Nat} (hb : b < w.heap.size) (hn : b ∉ S) (i : Nat) : w'.cell? ⟨b, i, none⟩ = w.cell? ⟨b, i, none⟩ := World.cell?_of_block (w := w) (h.block b hb hn)
theorem free (h : Mod S w w') {b : Nat} (hb : b < w.heap.size) (hn : b ∉ S) (i : Nat) : w'.frozen? ⟨b, i, none⟩ = w.frozen? ⟨b, i, none⟩ := World.frozen?_of_block (w := w) (h.block b hb hn)
theorem keep (h : Mod S w w') {b : Nat} {o : Obj} (hb : blk w b = some o) (hn : b ∉ S) : blk w' b = some o := by
  rw [h.block b (lt_of hb) hn]; exact hb
end Mod
theorem mod_of_below {w w' : World} (h : Below w.heap.size w w') : Mod [] w w' := ⟨h.os, h.tape, h.output, h.size, fun k hk _ => h.block k hk⟩


/-- A region that draws, whose first n operations leave the world alone, and whose others come in one order. -/
theorem region_tail {P : Program} {id : Nat} {Q : Exit → Act → World → Prop} {a : Act} {w : World} {l : List Oper} (n : Nat) (hm : P.follows .mixedOrders = true) (hB : Region.lexTailB .any l.toArray n = true)
    (h : wpStill P l.toArray w.drew (fun a' => wpList P l.toArray Q (l.drop n) a' w.drew) (l.take n) a) : (Code.region id l.toArray true).wp P Q a w :=
  wp_region_still_tail n hm hB h

/-! ### equality of structs, field by field -/
section
variable {P : Program} {d : Nat} {xs ys : Array Value} {f : Field} {fs : List Field} {a b : Value} {r s : Bool} {w : World}
theorem fields_nil : (Op.eqFields d xs ys []).run P w = .ok true w := by simp [Op.eqFields]
theorem fields_cons (hn : (f.name != "_") = true) (ha : (part f.type xs f.offset).run P w = .ok a w) (hb : (part f.type ys f.offset).run P w = .ok b w)
    (he : (Op.equalIn d f.type a b).run P w = .ok r w) (hr : (Op.eqFields d xs ys fs).run P w = .ok s w) : (Op.eqFields d xs ys (f :: fs)).run P w = .ok (r && s) w := by
  have hn' : f.name ≠ "_" := by simpa using hn
  cases r
  · simp only [Op.eqFields, if_pos hn', Sem.run_bind, ha, hb, he, Result.andThen_ok]
    simp
  · simp only [Op.eqFields, if_pos hn', Sem.run_bind, ha, hb, he, Result.andThen_ok]
    simpa using hr
theorem struct_eq {t : TypeId} {fs : Array Field} (hu : P.underlying t = some (.struct fs)) (hp : P.stoodInHeld t = false) (h : (Op.eqFields d xs ys fs.toList).run P w = .ok r w) :
    (Op.equalIn (d + 1) t (.agg xs) (.agg ys)).run P w = .ok r w := by
  have hf : P.fieldsOf t = fs := by simp [Program.fieldsOf, hu]
  rw [run_equalIn_struct (P := P) w d t xs ys (by rw [hf]; exact hu) hp, hf]
  exact h
end
end Go.Proofs.Ytmhfpiincnadiaa
