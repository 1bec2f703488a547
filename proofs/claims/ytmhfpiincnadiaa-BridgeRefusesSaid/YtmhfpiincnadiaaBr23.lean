/- BridgeRefuses: its walk. -/
import Derived.Test.YtmhfpiincnadiaaBr22
namespace Go.Proofs.Ytmhfpiincnadiaa
open Go.RowKit
open Go.ChangeMaps (setBlock)
set_option linter.unusedSimpArgs false
set_option linter.unusedVariables false

/-- The rows of entries that were told: one of each segment ahead of number j. -/
def Told (w : World) (ar : Nat) (M : BridgeM) (cs : Array Value) (K : List Nat) (j : Nat) : Prop :=
  ∀ i, i < j → ∃ v, cs[i]? = some v ∧ EntRow w 0 v (listM (M.segs i).base) ∧ ∀ g, v.ownBlock = some g → g ∈ K ∧ ar < g
theorem Told.keeps {w w' : World} {ar : Nat} {M : BridgeM} {cs : Array Value} {K : List Nat} {j : Nat} (h : Told w ar M cs K j) (hs : w.heap.size ≤ w'.heap.size) (hk : ∀ g, g ∈ K → ar < g → blk w' g = blk w g) : Told w' ar M cs K j := fun i hi => by
  obtain ⟨v, h1, h2, h3⟩ := h i hi
  exact ⟨v, h1, h2.keeps hs (fun g hg => hk g (h3 g hg).1 (h3 g hg).2), h3⟩
theorem EntRow.keeps2 {w w' : World} {B : Nat} {v : Value} {L : List EntM} (h : EntRow w B v L) (hk : ∀ g, v.ownBlock = some g → g < w'.heap.size ∧ blk w' g = blk w g) : EntRow w' B v L := by
  rcases h with h | ⟨g, c, rfl, h2, h3, h4, h5⟩
  · exact .inl h
  · refine .inr ⟨g, c, rfl, h2, h3, (hk g rfl).1, fun i e hi j u hu => ?_⟩
    have hb := (hk g rfl).2
    unfold blk at hb
    exact (World.cell?_of_block (w := w) (a := ⟨g, i * 10 + j, none⟩) hb).trans (h5 i e hi j u hu)
theorem Told.keeps2 {w w' : World} {ar : Nat} {M : BridgeM} {cs : Array Value} {K : List Nat} {j : Nat} (h : Told w ar M cs K j) (hk : ∀ g, g ∈ K → g < w'.heap.size ∧ blk w' g = blk w g) : Told w' ar M cs K j := fun i hi => by
  obtain ⟨v, h1, h2, h3⟩ := h i hi
  exact ⟨v, h1, h2.keeps2 (fun g hg => hk g (h3 g hg).1), h3⟩
theorem Told.step {w : World} {ar : Nat} {M : BridgeM} {cs : Array Value} {K : List Nat} {j : Nat} (h : Told w ar M cs K j) (hj : j < cs.size) {v : Value} (hv : EntRow w 0 v (listM (M.segs j).base)) (hg : ∀ g, v.ownBlock = some g → ar < g) : Told w ar M (cs.setIfInBounds j v) (v.ownBlock.toList ++ K) (j + 1) := fun i hi => by
  by_cases hij : i = j
  · subst hij
    exact ⟨v, by simp [hj], hv, fun g hg2 => ⟨List.mem_append.2 (.inl (ownBlock_mem.2 hg2)), hg g hg2⟩⟩
  · obtain ⟨u, h1, h2, h3⟩ := h i (by omega)
    exact ⟨u, by rw [Array.getElem?_setIfInBounds_ne (Ne.symm hij)]; exact h1, h2, fun g hg2 => ⟨List.mem_append.2 (.inr (h3 g hg2).1), (h3 g hg2).2⟩⟩
theorem Live.addRow {w0 w w1 : World} {p : Nat} {M : BridgeM} {K : List Nat} (h : Live w0 w p M K) (hm : Mod [] w w1) {v : Value} (hv : ∀ g, v.ownBlock = some g → w.heap.size ≤ g ∧ g < w1.heap.size) : Live w0 w1 p M (v.ownBlock.toList ++ K) := by
  cases hg : v.ownBlock with
  | none => exact h.later hm
  | some g => exact h.add hm (hv g hg).1 (hv g hg).2
theorem EntRow.zero {w : World} {B : Nat} {v : Value} {L : List EntM} (h : EntRow w B v L) : EntRow w 0 v L := by
  refine h.imp id ?_
  rintro ⟨g, c, h1, h2, h3, h4⟩
  exact ⟨g, c, h1, h2, Nat.zero_le _, h4⟩
theorem ents_64 {w : World} {q : Nat} {F : List Nat} {B : BaseM} (h : BaseAt w q F B) : (listM B).length ≤ 64 := by
  obtain ⟨mb, L, g1, g2, _⟩ := h
  have g3 := g1.len
  have g4 := g1.room2
  rw [(listM_perm _).length_eq, ← g2]
  simp
  omega

set_option maxRecDepth 100000 in
set_option maxHeartbeats 4000000 in
theorem refuses_walk (room life port : Int) (v : Value) (n : Nat) (st : Nat → StepM) (vb : Nat → Value) (bv : Value) (d : List UInt8) (w : World) (hst : Steps w v n st vb) (hbv : Bytes w bv d) (hl : 0 ≤ life ∧ life ≤ 18446744073709551615) (hp : -9223372036854775808 ≤ port ∧ port ≤ 9223372036854775807) :
    Calls Try.prog 4 #[i64 room, .int .u64 life, v, i64 port, bv] w fun r w' => r = .returned (.bool true) ∧ Mod [] w w' := by
  obtain ⟨a, c, hv, hc1, hc2⟩ : ∃ a c, v = .slice a n c ∧ n ≤ c ∧ n ≤ maxLen := by
    rcases hst with ⟨rfl, a, c, rfl⟩ | ⟨b, off, c, rfl, h1, h2, _⟩
    · exact ⟨a, c, rfl, by omega, by unfold maxLen; omega⟩
    · exact ⟨_, c, rfl, h1, by omega⟩
  unfold maxLen at hc2
  have hby : ∀ i, i < n → (st i).by_ ≤ 255 := by
    intro i hi
    rcases hst with ⟨rfl, _⟩ | ⟨b, off, c, _, h1, h2, h3⟩
    · omega
    · exact (h3 i hi).by_
  obtain ⟨ba, bn, bc, rfl⟩ := hbv.form
  have HBV := Lib.hid hbv
  clear hbv
  have HNOW := Lib.hid (nowM_le st n hby)
  have HST := Lib.hid hst
  have HV := Lib.hid hv
  clear hst hby
  rw [hv]
  clear hv
  go_enter Try.func4, Try.ntmps4
  go_wp2_with fail
  refine (shown_any w).mono ?_
  rintro r w1 ⟨rfl, hm1⟩
  go_wp2_with fail
  refine (live_new room life w1 hl.1 hl.2 hm1).mono ?_
  rintro r w2 ⟨p, rfl, h, _⟩
  have H0 := Lib.hid h
  clear h hm1
  go_wp2_with fail
  go_loopw [13, 14] (fun now i wr => ∃ k : Nat, k ≤ n ∧ k ≤ 100 ∧ i = .int .i64 k ∧ now = .int .u64 (nowM st k : Nat) ∧ Live w wr p (runM st room life k) []) (fun _ i _ => 100 - (intOf i).toNat)
  case atStart => exact ⟨0, by omega, by omega, rfl, rfl, H0.out⟩
  case round =>
    obtain ⟨k, hkn, hk1, rfl, rfl, h⟩ := hrel
    have H := Lib.hid h
    clear h H0
    by_cases hlt : k < n ∧ k < 100
    · obtain ⟨hl1, hl2⟩ := hlt
      obtain ⟨b, off, hva, hsk⟩ : ∃ b off, a = some ⟨b, off, none⟩ ∧ StepAt w b (off + k * 5) (st k) (vb k) := by
        rcases HST.out with ⟨h0, _⟩ | ⟨b, off, c', h1, _, _, h3⟩
        · omega
        · have h2 := HV.out
          rw [h1] at h2
          cases h2
          exact ⟨b, off, rfl, h3 k hl1⟩
      have hs := hsk.mod H.out.mod0
      subst hva
      obtain ⟨c0, c1, c2, c3, c4, hblt, hbytes, hnn, hby⟩ := hs
      have hnw := HNOW.out k hkn
      have hnw2 := HNOW.out (k + 1) hl1
      have hd := Lib.hid (H.out.does (st k) (v := vb k) (nowM st (k + 1) : Nat) hbytes hnn (by omega))
      have hnext : runM st room life (k + 1) = (doesM (runM st room life k) (st k) (nowM st (k + 1) : Nat)).2.2 := rfl
      rw [← hnext] at hd
      have hn1 : (nowM st (k + 1) : Int) = (nowM st k : Int) + ((st k).by_ : Int) := by simp [nowM]
      rw [hn1] at hd
      have HN1 := Lib.hid hn1
      clear hsk hnw2 hbytes hnext hn1
      go_wp2_with fail
      refine hd.out.mono ?_
      rintro r w3 ⟨⟨pv, qv, rfl, _, _⟩, h3, _⟩
      have H3 := Lib.hid h3
      clear h3 hd
      go_wp2_with fail
      go_roundw
      case rel => exact ⟨k + 1, by omega, by omega, by go_num, by rw [HN1.out], H3.out⟩
      case measure => simp [intOf]; omega
    · have hend : ¬ k < n ∨ (k < n ∧ k = 100) := by omega
      have hnw := HNOW.out k hkn
      generalize runM st room life k = M at H
      obtain ⟨now, hnow, hnow1⟩ : ∃ now : Nat, now = nowM st k ∧ now ≤ 100 * 255 := ⟨_, rfl, by omega⟩
      rw [← hnow]
      clear hnow hnw hlt
      rcases hend with hend | ⟨hend, rfl⟩
      all_goals
        go_wp2_with fail
        obtain ⟨ar, har⟩ : ∃ ar, ar = wr.heap.size := ⟨_, rfl⟩
        have HA := Lib.hid har
        rw [← har]
        have hb0 := heap_alloc_at wr (.cells #[.slice none 0 0, .slice none 0 0, .slice none 0 0, .slice none 0 0, .slice none 0 0, .slice none 0 0, .slice none 0 0, .slice none 0 0] 56) ar har
        have HB0 := Lib.hid hb0
        have H1 := Lib.hid (H.out.add (b := ar) ((Mod.refl [] wr).alloc (.cells #[.slice none 0 0, .slice none 0 0, .slice none 0 0, .slice none 0 0, .slice none 0 0, .slice none 0 0, .slice none 0 0, .slice none 0 0] 56)) (by omega) (by simp; omega))
        have hw0 : w.heap.size ≤ ar := by have := H.out.mod0.size; omega
        clear hb0 har H
        go_loopw [16] (fun t wx => ∃ (j : Nat) (cs : Array Value) (K : List Nat), j ≤ 8 ∧ t = .int .i64 j ∧ blk wx ar = some (.cells cs 56 (0, 0)) ∧ cs.size = 8 ∧ Told wx ar M cs K j ∧ Live w wx p M (ar :: K)) (fun t _ => 8 - (intOf t).toNat)
        case atStart =>
          exact ⟨0, _, [], by omega, rfl, HB0.out, rfl, fun i hi => by omega, H1.out⟩
        case round =>
          obtain ⟨j, cs, K, hj, rfl, hb, hsz, htold, hlive⟩ := hrel
          have HL := Lib.hid hlive
          have HT := Lib.hid htold
          have HB := Lib.hid hb
          have HSZ := Lib.hid hsz
          clear hlive htold hb hsz
          by_cases hj8 : j < 8
          · have hb := HB.out
            go_wp2_with fail
            refine (HL.out.base hj8).mono ?_
            rintro r w7 ⟨q, F, rfl, hB, rfl⟩
            go_wp2_with fail
            refine (list_any hB).mono ?_
            rintro r w8 ⟨v8, rfl, hrow, hm8⟩
            obtain ⟨a8, c8, rfl, hc8⟩ := hrow.form
            have hb8 := hm8.keep HB.out (by simp)
            have hlt8 := lt_of hb8
            obtain ⟨x, hx⟩ : ∃ x, cs[j]? = some x := ⟨_, Array.getElem?_eq_getElem (by rw [HSZ.out]; exact hj8)⟩
            have t8 : w8.cell? ⟨ar, j, none⟩ = some x := by rw [cell_of hb8]; exact hx
            have f8 := free_of hb8 j
            have HB8 := Lib.hid hb8
            have HROW := Lib.hid hrow
            have HM8 := Lib.hid hm8
            have har : ar < wr.heap.size := lt_of hb
            clear hb8 hrow hm8 hb hx hB
            go_wp2_with fail
            go_roundw
            case rel =>
              have h1 := HL.out.addRow HM8.out (v := .slice a8 (listM (M.segs j).base).length c8) (fun g hg => HROW.out.lt hg)
              have hk : ∀ g, g ∈ K → ar < g → blk (w8.setCell ⟨ar, j, none⟩ (.slice a8 (listM (M.segs j).base).length c8)) g = blk wr g := fun g hg hag => by
                rw [heap_setCell_ne _ _ _ _ (by simp; omega)]
                exact HM8.out.block g (HL.out.lt g (List.mem_cons_of_mem _ hg)) (by simp)
              refine ⟨j + 1, cs.setIfInBounds j (.slice a8 (listM (M.segs j).base).length c8), (Value.slice a8 (listM (M.segs j).base).length c8).ownBlock.toList ++ K, by omega, by go_num, heap_setCell_eq _ _ _ _ HB8.out, by simp [HSZ.out], ?_, ?_⟩
              · refine (HT.out.keeps (by rw [size_setCell]; exact HM8.out.size) hk).step (by rw [HSZ.out]; exact hj8) ?_ (fun g hg => ?_)
                · exact (HROW.out.zero).keeps (by rw [size_setCell]; exact Nat.le_refl _) (fun g hg => heap_setCell_ne _ _ _ _ (by have := (HROW.out.lt hg).1; simp; omega))
                · have := (HROW.out.lt hg).1; omega
              · exact (h1.set (i := j) (b := ar) (by simp) hw0 _).sub (by intro b hb; simp only [List.mem_cons, List.mem_append] at hb ⊢; rcases hb with hb | hb | hb; exact .inr (.inl hb); exact .inl hb; exact .inr (.inr hb))
            case measure => simp [intOf]; omega
          · obtain rfl : j = 8 := by omega
            obtain ⟨O, e, M', he⟩ : ∃ O e M', fromPortM M port d now = (O, e, M') := ⟨_, _, _, rfl⟩
            have HE := Lib.hid he
            have hb := HB.out
            clear he
            go_wp2_with fail
            refine (HL.out.fromPort HE.out (HBV.out.keep HL.out.mod0) hp (by omega)).mono ?_
            rintro r w8 ⟨pv, qv, rfl, hp8, hq8, hl8, hk8⟩
            obtain ⟨a1, n1, c1, rfl⟩ := hp8.form
            obtain ⟨a2, n2, c2, rfl⟩ := hq8.form
            by_cases h0 : e = 0
            · subst h0
              go_wp2_with fail
              go_ret
              exact ⟨rfl, hl8.mod0.alloc _⟩
            · have hrf := fromPortM_refused (M := M) (port := port) (d := d) (now := now) (by rw [HE.out]; exact h0)
              rw [HE.out] at hrf
              obtain ⟨hO, hbase, herr⟩ := hrf
              simp only at hO hbase herr
              subst hO
              obtain ⟨wz, hwz⟩ : ∃ wz, wz = w8.alloc (.cells #[.slice a1 n1 c1, .slice a2 n2 c2, .bool zeroOut.flood] 52) := ⟨_, rfl⟩
              have hmz : Mod [] w8 wz := by rw [hwz]; exact (Mod.refl _ _).alloc _
              obtain ⟨ob, hob⟩ : ∃ ob, ob = w8.heap.size := ⟨_, rfl⟩
              have hbo : blk wz ob = some (.cells #[.slice a1 n1 c1, .slice a2 n2 c2, .bool zeroOut.flood] 52 (0, 0)) := by rw [hwz]; exact heap_alloc_at _ _ _ hob
              have HZ := Lib.hid ((hl8.later hmz).sub (K' := []) (by simp))
              have HBO := Lib.hid hbo
              have hT8 : Told w8 ar M cs K 8 := HT.out.keeps2 (fun g hg => ⟨hl8.lt g (by simp [hg]), hk8 g (List.mem_cons_of_mem _ hg)⟩)
              have hTz : Told wz ar M cs K 8 := hT8.keeps2 (fun g hg => ⟨Nat.lt_of_lt_of_le (hl8.lt g (by simp [hg])) hmz.size, hmz.block g (hl8.lt g (by simp [hg])) (by simp)⟩)
              have HTZ := Lib.hid hTz
              have HAZ := Lib.hid (hmz.keep ((hk8 ar (by simp)).trans HB.out) (by simp))
              obtain ⟨b1, hb1⟩ := ints_0 hp8
              obtain ⟨b2, hb2⟩ := ints_0 hq8
              have hn1 : n1 = 0 := by obtain ⟨c', h5⟩ := hb1; cases h5; rfl
              have hn2 : n2 = 0 := by obtain ⟨c', h5⟩ := hb2; cases h5; rfl
              subst hn1 hn2
              have hef : (e == 0) = false := by simpa using h0
              have HBASE := Lib.hid hbase
              have HERR := Lib.hid herr
              have HWZ := Lib.hid hwz
              have HOB := Lib.hid hob
              have hbz := HBO.out
              clear hb1 hb2 hbo hob hTz hT8 hmz hk8 hl8 hp8 hq8 h0 hbase herr HE hb HT HB HL
              go_wp2_with fail
              rw [← HWZ.out, ← HOB.out]
              have hm00 : Mod [] wz wz := Mod.refl _ _
              go_loopw [19] (fun t wy => ∃ j : Nat, j ≤ 8 ∧ t = .int .i64 j ∧ Mod [] wz wy) (fun t _ => 8 - (intOf t).toNat)
              case atStart => exact ⟨0, by omega, rfl, hm00⟩
              case round =>
                obtain ⟨j, hj, rfl, hmy⟩ := hrel
                have HMY := Lib.hid hmy
                clear hm00
                by_cases hj8 : j < 8
                · obtain ⟨uv, hcs, hrv, hgv⟩ := HTZ.out j hj8
                  obtain ⟨av, cv, rfl, hcv⟩ := hrv.form
                  have hrv2 := hrv.keeps2 (w' := wr) (fun g hg => ⟨Nat.lt_of_lt_of_le (hrv.lt hg).2 hmy.size, hmy.block g (hrv.lt hg).2 (by simp)⟩)
                  have hL64 : (listM (M.segs j).base).length ≤ 64 := by
                    obtain ⟨G, ⟨mb, S, g1, g2, g3, _⟩, _⟩ := HZ.out
                    have g4 := (g1.seg j hj8).base
                    rw [g2 j hj8, HBASE.out j] at g4
                    exact ents_64 g4
                  have hza := hmy.keep HAZ.out (by simp)
                  have tz : wr.cell? ⟨ar, j, none⟩ = some (.slice av (listM (M.segs j).base).length cv) := by rw [cell_of hza]; exact hcs
                  go_wp2_with fail
                  refine ((HZ.out.later hmy).base hj8).mono ?_
                  rintro r w9 ⟨q, F, rfl, hB, rfl⟩
                  rw [HBASE.out j] at hB
                  go_wp2_with fail
                  refine (list_any hB).mono ?_
                  rintro r w10 ⟨v10, rfl, hrow, hm10⟩
                  obtain ⟨a10, c10, rfl, hc10⟩ := hrow.form
                  have hrv3 := hrv2.keeps2 (w' := w10) (fun g hg => ⟨Nat.lt_of_lt_of_le (hrv2.lt hg).2 hm10.size, hm10.block g (hrv2.lt hg).2 (by simp)⟩)
                  have hza2 := hm10.keep hza (by simp)
                  have tz2 : w10.cell? ⟨ar, j, none⟩ = some (.slice av (listM (M.segs j).base).length cv) := by rw [cell_of hza2]; exact hcs
                  have hM10 : Mod [] wz w10 := hmy.trans hm10 (by simp)
                  generalize listM (M.segs j).base = L at hrv3 hrow hL64 tz2 hc10 hcv
                  have HR3 := Lib.hid hrv3
                  have HRW := Lib.hid hrow
                  have HM10 := Lib.hid hM10
                  clear hcs hrv hgv hrv2 hza tz hB hrow hm10 hrv3 hza2 hM10 hmy
                  go_wp2_with fail
                  go_loopw [21] (fun t wq => ∃ i q : Nat, i ≤ L.length ∧ t = .int .i64 i ∧ wq = w10.drewN q) (fun t _ => L.length - (intOf t).toNat)
                  case atStart => exact ⟨0, 0, by omega, rfl, rfl⟩
                  case round =>
                    obtain ⟨i, q, hi, rfl, rfl⟩ := hrel
                    by_cases hil : i < L.length
                    · obtain ⟨g1, rfl, e1⟩ := HR3.out.at_ hil
                      obtain ⟨g2, rfl, e2⟩ := HRW.out.at_ hil
                      obtain ⟨x0, x1, x2, x3, x4, x5, x6, x7, x8, x9⟩ := e1
                      obtain ⟨y0, y1, y2, y3, y4, y5, y6, y7, y8, y9⟩ := e2
                      have hpe := fun W => ent_eq_self W L[i]
                      have hpg := ent_guard
                      generalize L[i] = z at *
                      have b0 : (0 : Int) ≤ (i : Int) := by omega
                      have b1 : (i : Int) < (L.length : Int) := by omega
                      have b2 : (0 : Int) ≤ (j : Int) := by omega
                      have b3 : (j : Int) < 8 := by omega
                      go_wp2_with fail
                      go_quiet (fail)
                      go_wp2_with fail
                      go_roundw
                      case rel => exact ⟨i + 1, q + nq, by omega, by go_num, rfl⟩
                      case measure => simp [intOf]; omega
                    · obtain rfl : i = L.length := by omega
                      go_wp2_with fail
                      go_roundw
                      case rel => exact ⟨j + 1, by omega, by go_num, HM10.out.drewN q⟩
                      case measure => simp [intOf]; omega
                · obtain rfl : j = 8 := by omega
                  have hbo := hmy.keep HBO.out (by simp)
                  obtain ⟨o0, o1, o2⟩ := cells_3 hbo
                  have hml := (HZ.out.later hmy).mod0
                  rcases HERR.out with rfl | rfl | rfl | rfl
                  all_goals
                    clear hef
                    go_wp2
                    go_ret
                    exact ⟨rfl, hml⟩
end Go.Proofs.Ytmhfpiincnadiaa
