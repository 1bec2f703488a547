/- fdb: maps.DeleteFunc, drop, Forget. -/
import Derived.Test.YtmhfpiincnadiaaFdb6
namespace Go.Proofs.Ytmhfpiincnadiaa
open Go.RowKit
open Go.ChangeMaps (setBlock)
set_option linter.unusedSimpArgs false
set_option linter.unusedVariables false

/-- What is left of a map's entries, some of which were seen. -/
def goneOf (L : List (EntM × Nat)) (pd : EntM → Bool) (seen : Array Nat) (e : MapEntry) : Bool :=
  seen.contains e.born && (match e.val with | .pointer (some a) => (L.any fun x => x.2 == a.block && pd x.1) | _ => false)

theorem gone_val {L : List (EntM × Nat)} {pd : EntM → Bool} (hnd : (L.map (·.2)).Nodup) {x : EntM × Nat} (hx : x ∈ L) : (L.any fun y => y.2 == x.2 && pd y.1) = pd x.1 := by
  rw [Bool.eq_iff_iff, List.any_eq_true]
  constructor
  · rintro ⟨y, hy, h⟩
    simp only [Bool.and_eq_true, beq_iff_eq] at h
    have : (y.1, x.2) ∈ L := by rw [← h.1]; exact hy
    rw [← nodup_snd hnd this hx]
    exact h.2
  · intro h
    exact ⟨x, hx, by simp [h]⟩

theorem IsMap.sub {κ : Type} {ks : κ → Value} {es es' : Array MapEntry} {clock : Nat} {l : List (κ × Value)} (hm : IsMap ks es clock l) (q : MapEntry → Bool) (he : es'.toList = es.toList.filter q) :
    ∃ l', IsMap ks es' clock l' ∧ l'.Sublist l := by
  have : ∀ (a : List MapEntry) (b : List (κ × Value)), a.map (fun e => (e.key, e.val)) = b.map (fun x => (ks x.1, x.2)) → ∃ b' : List (κ × Value), (a.filter q).map (fun e => (e.key, e.val)) = b'.map (fun x => (ks x.1, x.2)) ∧ b'.Sublist b := by
    intro a
    induction a with
    | nil => intro b h; exact ⟨[], rfl, List.nil_sublist _⟩
    | cons e a ih =>
      intro b h
      cases b with
      | nil => simp at h
      | cons x b =>
        simp only [List.map_cons, List.cons.injEq, Prod.mk.injEq] at h
        obtain ⟨b', h1, h2⟩ := ih b h.2
        simp only [List.filter_cons]
        split
        · exact ⟨x :: b', by simp [h.1.1, h.1.2, h1], h2.cons_cons x⟩
        · exact ⟨b', h1, h2.cons x⟩
  obtain ⟨b', h1, h2⟩ := this _ _ hm.kv
  exact ⟨b', ⟨by rw [he]; exact h1, fun e h => hm.born e (by rw [he] at h; exact (List.mem_filter.1 h).1), by rw [he]; exact hm.nodup.sublist (List.filter_sublist.map _)⟩, h2⟩

/-- Is the entry of a value to go? -/
def valGone (L : List (EntM × Nat)) (pd : EntM → Bool) (v : Value) : Bool := match v with | .pointer (some a) => (L.any fun x => x.2 == a.block && pd x.1) | _ => false

theorem born_inj {es : List MapEntry} (hn : (es.map (·.born)).Nodup) {x e : MapEntry} (hx : x ∈ es) (he : e ∈ es) (h : x.born = e.born) : x = e := by
  obtain ⟨i, hi⟩ := List.getElem?_of_mem hx
  obtain ⟨j, hj⟩ := List.getElem?_of_mem he
  have := nodup_get (·.born) hn hi hj h
  subst this
  rw [hi] at hj
  exact Option.some.inj hj

set_option maxRecDepth 100000 in
set_option maxHeartbeats 1000000 in
theorem deleteFunc_any (mb cbx : Nat) (es : Array MapEntry) (clock : Nat) (L : List (EntM × Nat)) (pd : EntM → Bool) (w : World) (hmb : blk w mb = some (.map es clock))
    (hm : IsMap Mac.v es clock (L.map fun x => (x.1.mac, ptr x.2))) (hmacs : (L.map (·.1.mac)).Nodup) (hnd : (L.map (·.2)).Nodup)
    (hdel : ∀ (W : World) (x : EntM × Nat), x ∈ L → Mod [mb] w W → Calls Try.prog 100 #[x.1.mac.v, ptr x.2, ptr cbx] W fun r w' => r = .returned (.bool (pd x.1)) ∧ Mod [] W w') :
    Calls Try.prog 99 #[.map (some mb), .func (.func 100) #[] #[ptr cbx]] w fun r w' => r = .returned (.tuple #[]) ∧
      ∃ es', blk w' mb = some (.map es' clock) ∧ IsMap Mac.v es' clock ((L.filter fun x => !pd x.1).map fun x => (x.1.mac, ptr x.2)) ∧ Mod [mb] w w' := by
  have hlt := lt_of hmb
  have hrange := run_range (P := Try.prog) Try.underlying112 hmb
  have hkn : ((L.map fun x => (x.1.mac, ptr x.2)).map (·.1)).Nodup := by rw [List.map_map]; exact hmacs
  have HD := Lib.hid hdel
  clear hdel
  obtain ⟨r, hr⟩ : ∃ r, r = w.heap.size := ⟨_, rfl⟩
  have hmb1 : blk (w.alloc (.mapIter (some mb) clock #[] clock)) mb = some (.map es clock) := by rw [heap_alloc_lt _ _ _ hlt]; exact hmb
  have hr1 : blk (w.alloc (.mapIter (some mb) clock #[] clock)) r = some (.mapIter (some mb) clock #[] clock) := heap_alloc_at _ _ _ hr
  have hrw : w.heap.size ≤ r := by omega
  rw [← hr] at hrange
  clear hr
  go_enter Try.func99, Try.ntmps99
  go_wp2
  clear hrange
  go_loopw [4, 5] (fun _ _ wr => ∃ (seen : Array Nat) (c0 : Nat) (esk : Array MapEntry), blk wr r = some (.mapIter (some mb) clock seen c0) ∧ clock ≤ c0 ∧ blk wr mb = some (.map esk clock) ∧
      esk.toList = es.toList.filter (fun e => !(seen.contains e.born && valGone L pd e.val)) ∧ Mod [mb] w wr)
    (fun _ _ wr => match blk wr r with | some (.mapIter _ _ seen _) => (es.toList.filter fun e => !seen.contains e.born).length | _ => 0)
  case atStart => exact ⟨#[], clock, es, hr1, Nat.le_refl _, hmb1, by rw [List.filter_eq_self.2]; simp, (Mod.refl _ _).alloc _⟩
  case round =>
    obtain ⟨seen, c0, esk, hri, hc0, hmi, hek, hmod⟩ := hrel
    have hskb : ∀ x ∈ esk.toList, x.born < clock := fun x hx => hm.born x (by rw [hek] at hx; exact (List.mem_filter.1 hx).1)
    rcases run_next_at (P := Try.prog) wr 0 r mb clock c0 seen esk clock hri hmi hskb hc0 with ⟨hz, hn⟩ | ⟨e, he, w1, hw1, hn⟩
    · have hn' : ∀ ty, (Instr.next (.pointer (some ⟨r, 0, none⟩)) false ty).run Try.prog wr = .ok (.tuple #[.bool false]) wr := fun ty => hn
      clear hn
      have hall : ∀ e ∈ es.toList, seen.contains e.born = true := fun e he => by
        cases hs : seen.contains e.born with
        | true => rfl
        | false =>
          have h1 : e ∈ esk.toList := by rw [hek]; exact List.mem_filter.2 ⟨he, by simp only [hs, Bool.false_and, Bool.not_false]⟩
          have h2 : e ∈ (leftOf esk seen).toList := by simp only [leftOf, Array.toList_filter]; exact List.mem_filter.2 ⟨h1, by simp only [hs, Bool.not_false]⟩
          have h3 : (leftOf esk seen).toList = [] := List.eq_nil_of_length_eq_zero (by simpa using hz)
          rw [h3] at h2
          cases h2
      have hek2 : esk.toList = es.toList.filter fun e => !valGone L pd e.val := by
        rw [hek]
        exact List.filter_congr fun e he => by rw [hall e he, Bool.true_and]
      have hfin := hm.filter (es' := esk) (fun e => !valGone L pd e.val) (fun x => !valGone L pd x.2) (fun e x _ h2 _ => by rw [h2]) hek2
      rw [List.filter_map] at hfin
      have hc : L.filter ((fun x : Mac × Value => !valGone L pd x.2) ∘ fun x => (x.1.mac, ptr x.2)) = L.filter fun x => !pd x.1 := List.filter_congr fun x hx => by
        simp only [Function.comp, valGone, gone_val hnd hx]
      rw [hc] at hfin
      have HF := Lib.hid hfin
      clear hfin hc hek hek2 hall hz
      go_wp2
      go_end0
      exact ⟨rfl, esk, hmi, HF.out, hmod⟩
    · have he2 := he
      simp only [leftOf, Array.toList_filter, List.mem_filter] at he2
      obtain ⟨hein, hens⟩ := he2
      have hens' : seen.contains e.born = false := by simpa using hens
      have hes : e ∈ es.toList := by rw [hek] at hein; exact (List.mem_filter.1 hein).1
      obtain ⟨x, hxL, hxk, hxv⟩ : ∃ x ∈ L, e.key = x.1.mac.v ∧ e.val = ptr x.2 := by
        have h5 : (e.key, e.val) ∈ es.toList.map (fun e => (e.key, e.val)) := List.mem_map.2 ⟨e, hes, rfl⟩
        rw [hm.kv, List.map_map] at h5
        obtain ⟨y, hy, h6⟩ := List.mem_map.1 h5
        exact ⟨y, hy, (congrArg Prod.fst h6).symm, (congrArg Prod.snd h6).symm⟩
      have hvg : valGone L pd e.val = pd x.1 := by rw [hxv]; exact gone_val hnd hxL
      obtain ⟨l', hm', hsl⟩ := hm.sub _ hek
      obtain ⟨es2, hdl, hes2⟩ := run_delete_entry mac_law Try.underlying112 mac_inj hm' (hkn.sublist (hsl.map _)) hein 0 63
      have hmeas := (filter_remove e seen es.toList hm.nodup hes hens').length_eq
      simp only [List.length_map, List.length_cons] at hmeas
      have hn' : ∀ ty, (Instr.next (.pointer (some ⟨r, 0, none⟩)) false ty).run Try.prog wr = .ok (.tuple #[.bool true, e.key, e.val]) (setBlock w1 r (.mapIter (some mb) clock (seen.push e.born) clock)) := fun ty => hn
      clear hn
      have hw1h : ∀ b, blk w1 b = blk wr b := fun b => by rcases hw1 with rfl | rfl <;> rfl
      have hw1s : w1.heap.size = wr.heap.size := by rcases hw1 with rfl | rfl <;> rfl
      have hmw1 : Mod [mb] w w1 := by
        rcases hw1 with rfl | rfl
        · exact hmod
        · exact hmod.drew
      have hrl := lt_of hri
      obtain ⟨w2, hw2⟩ : ∃ w2, setBlock w1 r (.mapIter (some mb) clock (seen.push e.born) clock) = w2 := ⟨_, rfl⟩
      have hr2 : blk w2 r = some (.mapIter (some mb) clock (seen.push e.born) clock) := by rw [← hw2]; exact heap_setBlock_at _ _ _ (by omega)
      have hne : mb ≠ r := fun h => by rw [← h, hmi] at hri; cases hri
      have hm2 : blk w2 mb = some (.map esk clock) := by rw [← hw2, heap_setBlock_ne _ _ _ _ hne, hw1h]; exact hmi
      have hmw2 : Mod [mb] w w2 := by rw [← hw2]; exact hmw1.setBlock (.inr hrw) _
      rw [hw2] at hn'
      clear hw2 hw1 hw1h hw1s hmw1
      have hent := run_entry_at (P := Try.prog) w2 r mb clock seen esk clock e hr2 hm2 hein (hm'.nodup)
      rw [hxk, hxv] at hn' hent
      rw [hxk] at hdl
      have hml2 := lt_of hm2
      have hrl2 := lt_of hr2
      have HN := Lib.hid hmeas
      have HE := Lib.hid hek
      have H2 := Lib.hid hes2
      have HV := Lib.hid hvg
      have HS := Lib.hid hens'
      clear hmeas hek hes2 hvg hens' hens hxk hxv hkn hm' hsl
      cases hpx : pd x.1 with
      | false =>
        have HP := Lib.hid hpx
        clear hpx
        go_wp2_with (go_at_call 100; refine (HD.out _ x hxL (by (repeat (first | exact Mod.refl _ _ | refine Mod.alloc ?_ _ | refine Mod.drewN ?_ _ | refine Mod.drew ?_ | refine Mod.setCell ?_ (by first | (simp; done) | (simp; omega)) _ | refine Mod.setBlock ?_ (by first | (simp; done) | (simp; omega)) _ | assumption)))).mono ?_; rintro rr w3 ⟨rfl, hm3⟩; rw [HP.out])
        have m3 : blk w3 mb = some (.map esk clock) := hm3.keep (by rw [heap_alloc_lt _ _ _ hml2]; exact hm2) (by simp)
        have r3 : blk w3 r = some (.mapIter (some mb) clock (seen.push e.born) clock) := hm3.keep (by rw [heap_alloc_lt _ _ _ hrl2]; exact hr2) (by simp)
        have hmw3 : Mod [mb] w w3 := (hmw2.alloc _).trans hm3 (by simp)
        go_roundw
        case rel =>
          refine ⟨seen.push e.born, clock, esk, r3, Nat.le_refl _, m3, ?_, hmw3⟩
          rw [HE.out]
          refine List.filter_congr fun y hy => ?_
          by_cases hye : y.born = e.born
          · have := born_inj hm.nodup hy hes hye
            subst this
            rw [HV.out, HP.out]
            simp
          · have hc : (seen.push e.born).contains y.born = seen.contains y.born := by
              rw [Bool.eq_iff_iff]; simp [hye]
            rw [hc]
        case measure =>
          rw [r3, hri]
          have := HN.out
          simp only
          omega
      | true =>
        have HP := Lib.hid hpx
        clear hpx
        go_wp2_with (go_at_call 100; refine (HD.out _ x hxL (by (repeat (first | exact Mod.refl _ _ | refine Mod.alloc ?_ _ | refine Mod.drewN ?_ _ | refine Mod.drew ?_ | refine Mod.setCell ?_ (by first | (simp; done) | (simp; omega)) _ | refine Mod.setBlock ?_ (by first | (simp; done) | (simp; omega)) _ | assumption)))).mono ?_; rintro rr w3 ⟨rfl, hm3⟩; rw [HP.out]; have kk : blk w3 w2.heap.size = some (.cells #[.int .u8 (x.1.mac.a0.toNat : Int), .int .u8 (x.1.mac.a1.toNat : Int), .int .u8 (x.1.mac.a2.toNat : Int), .int .u8 (x.1.mac.a3.toNat : Int), .int .u8 (x.1.mac.a4.toNat : Int), .int .u8 (x.1.mac.a5.toNat : Int)] 63 (0, 0)) := hm3.keep (heap_alloc_at _ _ _ rfl) (by simp); obtain ⟨k0, k1, k2, k3, k4, k5⟩ := cells_6 kk; have m3 : blk w3 mb = some (.map esk clock) := hm3.keep (by rw [heap_alloc_lt _ _ _ hml2]; exact hm2) (by simp); have r3 : blk w3 r = some (.mapIter (some mb) clock (seen.push e.born) clock) := hm3.keep (by rw [heap_alloc_lt _ _ _ hrl2]; exact hr2) (by simp); have hmw3 : Mod [mb] w w3 := (hmw2.alloc _).trans hm3 (by simp); have hdl3 := hdl w3 mb m3; clear kk)
        have hne : r ≠ mb := fun h => by rw [h, hmi] at hri; cases hri
        have r4 : blk (setBlock w3 mb (.map es2 clock)) r = some (.mapIter (some mb) clock (seen.push e.born) clock) := by rw [heap_setBlock_ne _ _ _ _ hne]; exact r3
        go_roundw
        case rel =>
          refine ⟨seen.push e.born, clock, es2, r4, Nat.le_refl _, heap_setBlock_at _ _ _ (lt_of m3), ?_, hmw3.setBlock (by simp) _⟩
          rw [H2.out, HE.out, List.filter_filter]
          refine List.filter_congr fun y hy => ?_
          by_cases hye : y.born = e.born
          · have := born_inj hm.nodup hy hes hye
            subst this
            rw [HV.out, HP.out]
            simp
          · have hc : (seen.push e.born).contains y.born = seen.contains y.born := by
              rw [Bool.eq_iff_iff]; simp [hye]
            rw [hc]
            simp [hye]
        case measure =>
          rw [r4, hri]
          have := HN.out
          simp only
          omega
end Go.Proofs.Ytmhfpiincnadiaa
