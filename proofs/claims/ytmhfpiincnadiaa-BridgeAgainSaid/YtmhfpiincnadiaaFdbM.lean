/- The model of fdb: MACs, entries, a base; how a base lies in memory. -/
import Derived.Test.YtmhfpiincnadiaaMaps
import Derived.Test.YtmhfpiincnadiaaChecked
namespace Go.Proofs.Ytmhfpiincnadiaa
open Go.RowKit
open Go.ChangeMaps (setBlock)
set_option linter.unusedSimpArgs false
set_option linter.unusedVariables false

structure Mac where
  a0 : UInt8
  a1 : UInt8
  a2 : UInt8
  a3 : UInt8
  a4 : UInt8
  a5 : UInt8
  deriving DecidableEq
@[reducible] def Mac.cells (m : Mac) : Array Value := #[.int .u8 (m.a0.toNat : Int), .int .u8 (m.a1.toNat : Int), .int .u8 (m.a2.toNat : Int), .int .u8 (m.a3.toNat : Int), .int .u8 (m.a4.toNat : Int), .int .u8 (m.a5.toNat : Int)]
@[reducible] def Mac.v (m : Mac) : Value := .agg m.cells
def Mac.group (m : Mac) : Bool := m.a0.toNat % 2 == 1

structure EntM where
  mac : Mac
  tun : Bool
  n : Int
  at_ : Int
  deriving DecidableEq
@[reducible] def EntM.cells (e : EntM) : Array Value := #[.int .u8 (e.mac.a0.toNat : Int), .int .u8 (e.mac.a1.toNat : Int), .int .u8 (e.mac.a2.toNat : Int), .int .u8 (e.mac.a3.toNat : Int), .int .u8 (e.mac.a4.toNat : Int), .int .u8 (e.mac.a5.toNat : Int), .bool e.tun, .int .i64 e.n, .int .u64 e.at_, .bool false]
def EntM.ok (e : EntM) : Prop := -9223372036854775808 ≤ e.n ∧ e.n ≤ 9223372036854775807 ∧ 0 ≤ e.at_ ∧ e.at_ ≤ 18446744073709551615

@[reducible] def ptr (b : Nat) : Value := .pointer (some ⟨b, 0, none⟩)

structure BaseM where
  room : Int
  life : Int
  ents : List EntM
  deriving DecidableEq

/-- A base in memory: its struct at p, its map at mb, each entry with the block that it lies in. -/
structure BaseIs (w : World) (p mb : Nat) (L : List (EntM × Nat)) (room life : Int) : Prop where
  base : blk w p = some (.cells #[.int .i64 room, .int .u64 life, .map (some mb)] 114 (0, 0))
  map : ∃ es clock, blk w mb = some (.map es clock) ∧ IsMap Mac.v es clock (L.map fun x => (x.1.mac, ptr x.2))
  ents : ∀ x ∈ L, blk w x.2 = some (.cells x.1.cells 67 (0, 0))
  nodup : (p :: mb :: L.map (·.2)).Nodup
  macs : (L.map (·.1.mac)).Nodup
  ok : ∀ x ∈ L, x.1.ok
  room1 : 1 ≤ room
  room2 : room ≤ 64
  len : (L.length : Int) ≤ room
  life0 : 0 ≤ life
  life1 : life ≤ 18446744073709551615

def BaseAt (w : World) (p : Nat) (F : List Nat) (B : BaseM) : Prop :=
  ∃ mb L, BaseIs w p mb L B.room B.life ∧ L.map (·.1) = B.ents ∧ F = p :: mb :: L.map (·.2)

theorem BaseIs.keep {w w' : World} {p mb : Nat} {L : List (EntM × Nat)} {room life : Int} (h : BaseIs w p mb L room life)
    (hk : ∀ b, b ∈ p :: mb :: L.map (·.2) → blk w' b = blk w b) : BaseIs w' p mb L room life where
  base := by rw [hk p (by simp)]; exact h.base
  map := by obtain ⟨es, clock, h1, h2⟩ := h.map; exact ⟨es, clock, by rw [hk mb (by simp)]; exact h1, h2⟩
  ents x hx := by rw [hk x.2 (by simp; exact .inr (.inr ⟨x.1, hx⟩))]; exact h.ents x hx
  nodup := h.nodup
  macs := h.macs
  ok := h.ok
  room1 := h.room1
  room2 := h.room2
  len := h.len
  life0 := h.life0
  life1 := h.life1
theorem BaseAt.keep {w w' : World} {p : Nat} {F : List Nat} {B : BaseM} (h : BaseAt w p F B) (hk : ∀ b, b ∈ F → blk w' b = blk w b) : BaseAt w' p F B := by
  obtain ⟨mb, L, h1, h2, rfl⟩ := h
  exact ⟨mb, L, h1.keep hk, h2, rfl⟩
theorem BaseAt.lt {w : World} {p : Nat} {F : List Nat} {B : BaseM} (h : BaseAt w p F B) : ∀ b, b ∈ F → b < w.heap.size := by
  obtain ⟨mb, L, h1, h2, rfl⟩ := h
  intro b hb
  simp only [List.mem_cons, List.mem_map] at hb
  rcases hb with rfl | rfl | ⟨x, hx, rfl⟩
  · exact lt_of h1.base
  · obtain ⟨es, clock, h3, _⟩ := h1.map; exact lt_of h3
  · exact lt_of (h1.ents x hx)
theorem BaseAt.mod {w w' : World} {p : Nat} {F S : List Nat} {B : BaseM} (h : BaseAt w p F B) (hm : Mod S w w') (hd : ∀ b, b ∈ F → b ∉ S) : BaseAt w' p F B :=
  h.keep fun b hb => hm.block b (h.lt b hb) (hd b hb)

/-! ### what its calls do -/
def oldM (life at_ now : Int) : Bool := decide (life ≤ now - if at_ < now then at_ else now)
def lookE (mac : Mac) : List EntM → Option EntM
  | [] => none
  | e :: l => if mac = e.mac then some e else lookE mac l
def findM (B : BaseM) (mac : Mac) (now : Int) : Option (Bool × Int) :=
  match lookE mac B.ents with
  | some e => if oldM B.life e.at_ now then none else some (e.tun, e.n)
  | none => none

theorem look_ents (mac : Mac) : ∀ (L : List (EntM × Nat)), look mac (L.map fun x => (x.1.mac, ptr x.2)) = (L.find? fun x => mac = x.1.mac).map fun x => ptr x.2
  | [] => rfl
  | x :: L => by
    simp only [List.map_cons, look, List.find?_cons]
    by_cases h : mac = x.1.mac
    · simp [h]
    · simp [h, look_ents mac L]
theorem lookE_find (mac : Mac) : ∀ (L : List (EntM × Nat)), lookE mac (L.map (·.1)) = (L.find? fun x => mac = x.1.mac).map (·.1)
  | [] => rfl
  | x :: L => by
    simp only [List.map_cons, lookE, List.find?_cons]
    by_cases h : mac = x.1.mac
    · simp [h]
    · simp [h, lookE_find mac L]

/-! ### keys that are MACs -/
theorem agg_u8 (w : World) : (isAgg 5).run Try.prog w = .ok false w := by kernel_rfl
theorem cells_u8 : Try.prog.cellsOf 5 = 1 := by kernel_rfl
theorem info_u8 : (Try.prog.info? 5).isSome = true := by kernel_rfl
theorem part_u8 {x : Value} {xs : Array Value} {i : Nat} (w : World) (h : xs[i]? = some x) : (part 5 xs i).run Try.prog w = .ok x w := by
  simp [part, agg_u8, Result.andThen, h]
theorem u8_ne (a b : UInt8) : ((a.toNat : Int) == (b.toNat : Int)) = decide (a = b) := by
  rw [Bool.eq_iff_iff]
  simp only [beq_iff_eq, decide_eq_true_eq]
  constructor
  · intro h; exact UInt8.toNat_inj.1 (by omega)
  · rintro rfl; rfl

theorem eqItems_cons (d : Nat) (xs ys : Array Value) (a b : UInt8) (i : Nat) (is : List Nat) (w : World) (ha : xs[i]? = some (.int .u8 (a.toNat : Int))) (hb : ys[i]? = some (.int .u8 (b.toNat : Int))) :
    (Op.eqItems (d + 1) 5 1 xs ys (i :: is)).run Try.prog w = if a = b then (Op.eqItems (d + 1) 5 1 xs ys is).run Try.prog w else .ok false w := by
  simp only [Op.eqItems, Sem.run_bind, Nat.mul_one, part_u8 w ha, part_u8 w hb, Result.andThen_ok, run_equalIn_int w d _ .u8 .u8 _ _ Try.underlying5, u8_ne]
  by_cases h : a = b <;> simp [h]

theorem mac_equal (a b : Mac) (w : World) : (Op.equal 63 a.v b.v).run Try.prog w = .ok (decide (a = b)) w := by
  obtain ⟨i, hi⟩ := Option.isSome_iff_exists.1 info_u8
  show (Op.equalIn (9998 + 1 + 1) 63 (.agg a.cells) (.agg b.cells)).run Try.prog w = _
  rw [run_equalIn_array w (9998 + 1) _ _ Try.underlying63 hi, cells_u8]
  obtain ⟨a0, a1, a2, a3, a4, a5⟩ := a
  obtain ⟨b0, b1, b2, b3, b4, b5⟩ := b
  rw [show List.range 6 = [0, 1, 2, 3, 4, 5] from rfl]
  rw [eqItems_cons _ _ _ a0 b0 _ _ _ rfl rfl, eqItems_cons _ _ _ a1 b1 _ _ _ rfl rfl, eqItems_cons _ _ _ a2 b2 _ _ _ rfl rfl, eqItems_cons _ _ _ a3 b3 _ _ _ rfl rfl,
    eqItems_cons _ _ _ a4 b4 _ _ _ rfl rfl, eqItems_cons _ _ _ a5 b5 _ _ _ rfl rfl]
  simp only [Op.eqItems, Sem.run_pure, Mac.mk.injEq]
  by_cases h0 : a0 = b0 <;> simp [h0]
  by_cases h1 : a1 = b1 <;> simp [h1]
  by_cases h2 : a2 = b2 <;> simp [h2]
  by_cases h3 : a3 = b3 <;> simp [h3]
  by_cases h4 : a4 = b4 <;> simp [h4]
  by_cases h5 : a5 = b5 <;> simp [h5]

theorem mac_check (em : Bool) (k : Mac) (w : World) : (Instr.checkKey em 10000 63 k.v).run Try.prog w = .ok () w := by
  obtain ⟨a0, a1, a2, a3, a4, a5⟩ := k
  kernel_rfl

theorem mac_law : KeyLaw Try.prog 63 Mac.v :=
  keyLaw_asking Try.underlying63 (fun _ _ => rfl) mac_check mac_equal (fun k => by
    obtain ⟨a0, a1, a2, a3, a4, a5⟩ := k
    show Instr.sameBits (9998 + 1 + 1) _ _ = true
    simp [Instr.sameBits, Mac.v, Mac.cells])
theorem zero_ent (w : World) : (zeroValue 115).run Try.prog w = .ok (.pointer none) w := by kernel_rfl

theorem place_eq (w : World) (x0 y0 : Bool) (x1 y1 : Int) :
    (Op.equalIn 10000 65 (.agg #[.bool x0, .int .i64 x1]) (.agg #[.bool y0, .int .i64 y1])).run Try.prog w = .ok (x0 == y0 && x1 == y1) w := by
  refine struct_eq (d := 9999) Try.underlying65 (by kernel_rfl) ?_
  have e : (x0 == y0 && x1 == y1) = (x0 == y0 && (x1 == y1 && true)) := by simp
  rw [e]
  refine fields_cons (by rfl) (by go_simp; rfl) (by go_simp; rfl) (by go_simp) ?_
  refine fields_cons (by rfl) (by go_simp; rfl) (by go_simp; rfl) (by go_simp) ?_
  exact fields_nil
theorem place_guard : Try.prog.eqGuardType Try.prog.depth 65 = false := by kernel_rfl
end Go.Proofs.Ytmhfpiincnadiaa
