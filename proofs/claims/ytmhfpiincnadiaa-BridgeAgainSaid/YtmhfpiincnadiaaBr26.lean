/- BridgeAgain: its walk. -/
import Derived.Test.YtmhfpiincnadiaaBr25
namespace Go.Proofs.Ytmhfpiincnadiaa
open Go.RowKit
open Go.ChangeMaps (setBlock)
set_option linter.unusedSimpArgs false
set_option linter.unusedVariables false

theorem EntRow.keeps2 {w w' : World} {B : Nat} {v : Value} {L : List EntM} (h : EntRow w B v L) (hk : ∀ g, v.ownBlock = some g → g < w'.heap.size ∧ blk w' g = blk w g) : EntRow w' B v L := by
  rcases h with h | ⟨g, c, rfl, h2, h3, h4, h5⟩
  · exact .inl h
  · refine .inr ⟨g, c, rfl, h2, h3, (hk g rfl).1, fun i e hi j u hu => ?_⟩
    have hb := (hk g rfl).2
    unfold blk at hb
    exact (World.cell?_of_block (w := w) (a := ⟨g, i * 10 + j, none⟩) hb).trans (h5 i e hi j u hu)
theorem ents_64 {w : World} {q : Nat} {F : List Nat} {B : BaseM} (h : BaseAt w q F B) : (listM B).length ≤ 64 := by
  obtain ⟨mb, L, g1, g2, _⟩ := h
  have g3 := g1.len
  have g4 := g1.room2
  rw [(listM_perm _).length_eq, ← g2]
  simp
  omega

set_option maxRecDepth 100000 in
set_option maxHeartbeats 4000000 in
theorem again_walk (room life : Int) (v : Value) (n : Nat) (st : Nat → StepM) (vb : Nat → Value) (w : World) (hst : Steps w v n st vb) (hl : 0 ≤ life ∧ life ≤ 18446744073709551615) :
    Calls Try.prog 6 #[i64 room, .int .u64 life, v] w fun r w' => r = .returned (.bool true) ∧ Mod [] w w' := by
  obtain ⟨a, c, hv, hc1, hc2⟩ : ∃ a c, v = .slice a n c ∧ n ≤ c ∧ n ≤ maxLen := by
    rcases hst with ⟨rfl, a, c, rfl⟩ | ⟨b, off, c, rfl, h1, h2, _⟩
    · exact ⟨a, c, rfl, by omega, by unfold maxLen; omega⟩
    · exact ⟨_, c, rfl, h1, by omega⟩
  unfold maxLen at hc2
  have hby : ∀ i, i < n → (st i).by_ ≤ 255 := by
    intro i hi
    rcases hst with ⟨rfl, _⟩ | ⟨b, off, c, _, h1, h2, h3⟩
    · omega
    · exact (h3 i hi).by_
  have HNOW := Lib.hid (nowM_le st n hby)
  have HST := Lib.hid hst
  have HV := Lib.hid hv
  clear hst hby
  rw [hv]
  clear hv
  go_enter Try.func6, Try.ntmps6
  go_wp2_with fail
  refine (shown_any w).mono ?_
  rintro r w1 ⟨rfl, hm1⟩
  go_wp2_with fail
  refine (live_new room life w1 hl.1 hl.2 hm1).mono ?_
  rintro r w2 ⟨pa, rfl, h, _⟩
  have H00 := Lib.hid h
  clear h hm1
  go_wp2_with fail
  refine (bridgeNew_pair room life w2 hl.1 hl.2 H00.out).mono ?_
  rintro r w3 ⟨pb, rfl, h⟩
  have H0 := Lib.hid h
  clear h H00
  go_wp2_with fail
  go_loopw [10, 11] (fun now i wr => ∃ k nb : Nat, k ≤ n ∧ k ≤ 100 ∧ i = .int .i64 k ∧ now = .int .u64 (nowM st k : Nat) ∧ Pair w wr pa pb (runM st room life k) (runM st room life k) nb) (fun _ i _ => 100 - (intOf i).toNat)
  case atStart => exact ⟨0, _, by omega, by omega, rfl, rfl, H0.out⟩
  case round =>
    obtain ⟨k, nb, hkn, hk1, rfl, rfl, h⟩ := hrel
    have H := Lib.hid h
    clear h H0
    by_cases hlt : k < n ∧ k < 100
    · obtain ⟨hl1, hl2⟩ := hlt
      obtain ⟨b, off, hva, hsk⟩ : ∃ b off, a = some ⟨b, off, none⟩ ∧ StepAt w b (off + k * 5) (st k) (vb k) := by
        rcases HST.out with ⟨h0, _⟩ | ⟨b, off, c', h1, _, _, h3⟩
        · omega
        · have h2 := HV.out
          rw [h1] at h2
          cases h2
          exact ⟨b, off, rfl, h3 k hl1⟩
      have hs := hsk.mod H.out.mod0
      subst hva
      have HSK := Lib.hid hsk
      obtain ⟨c0, c1, c2, c3, c4, hblt, hbytes, hnn, hby⟩ := hs
      have hnw := HNOW.out k hkn
      have hnw2 := HNOW.out (k + 1) hl1
      have hd := Lib.hid (H.out.stepA (st k) (v := vb k) (nowM st (k + 1) : Nat) hbytes hnn (by omega))
      have hnext : runM st room life (k + 1) = (doesM (runM st room life k) (st k) (nowM st (k + 1) : Nat)).2.2 := rfl
      rw [← hnext] at hd
      have hstepB : ∀ W nb', Pair w W pa pb (runM st room life (k + 1)) (runM st room life k) nb' → Calls Try.prog 15 #[ptr pb, .agg #[i64 (st k).kind, i64 (st k).n, i64 (st k).s, vb k, .int .u8 ((st k).by_ : Int)], .int .u64 (nowM st (k + 1) : Nat)] W fun r w' => OutRes (doesM (runM st room life k) (st k) (nowM st (k + 1) : Nat)).1 (doesM (runM st room life k) (st k) (nowM st (k + 1) : Nat)).2.1 W r w' ∧ Pair w w' pa pb (runM st room life (k + 1)) (runM st room life (k + 1)) w'.heap.size ∧ W.heap.size ≤ w'.heap.size ∧ ∀ g, nb' ≤ g → g < W.heap.size → blk w' g = blk W g :=
        fun W nb' hW => hW.stepB (st k) (nowM st (k + 1) : Nat) (HSK.out.bytes.keep hW.mod0) hnn (by omega)
      obtain ⟨O, hO⟩ : ∃ O, O = (doesM (runM st room life k) (st k) (nowM st (k + 1) : Nat)).1 := ⟨_, rfl⟩
      obtain ⟨e, he⟩ : ∃ e, e = (doesM (runM st room life k) (st k) (nowM st (k + 1) : Nat)).2.1 := ⟨_, rfl⟩
      rw [← hO, ← he] at hd hstepB
      have hn1 : (nowM st (k + 1) : Int) = (nowM st k : Int) + ((st k).by_ : Int) := by simp [nowM]
      rw [hn1] at hd hstepB
      have HN1 := Lib.hid hn1
      have HSB := Lib.hid hstepB
      clear hsk hnw2 hbytes hnext hn1 hstepB hO he
      go_wp2_with fail
      refine hd.out.mono ?_
      rintro r w4 ⟨⟨pv, qv, rfl, hp4, hq4⟩, h4, hsz4⟩
      obtain ⟨a1, n1, c1', rfl⟩ := hp4.form
      obtain ⟨a2, n2, c2', rfl⟩ := hq4.form
      obtain ⟨wA, hwA⟩ : ∃ wA, wA = w4.alloc (.cells #[.slice a1 n1 c1', .slice a2 n2 c2', .bool O.flood] 52) := ⟨_, rfl⟩
      obtain ⟨bA, hbA⟩ : ∃ bA, bA = w4.heap.size := ⟨_, rfl⟩
      have hmA : Mod [] w4 wA := by rw [hwA]; exact (Mod.refl _ _).alloc _
      have hoA : blk wA bA = some (.cells #[.slice a1 n1 c1', .slice a2 n2 c2', .bool O.flood] 52 (0, 0)) := by rw [hwA]; exact heap_alloc_at _ _ _ hbA
      have hpA := hp4.keep (w' := wA) (fun b hb => hmA.block b (hp4.lt b hb).2 (by simp))
      have hqA := hq4.keep (w' := wA) (fun b hb => hmA.block b (hq4.lt b hb).2 (by simp))
      have hPA := h4.later hmA
      have hsA : wr.heap.size ≤ bA := by omega
      have hbAl := lt_of hoA
      obtain ⟨s0, s1, s2, s3, s4, hblA, hbytesA, _, _⟩ := HSK.out.mod h4.mod0
      have HP := Lib.hid hpA
      have HQ := Lib.hid hqA
      have HOA := Lib.hid hoA
      have HPA := Lib.hid hPA
      have HWA := Lib.hid hwA
      have HBA := Lib.hid hbA
      clear hp4 hq4 h4 hsz4 hpA hqA hoA hPA hmA hwA hbA hbytesA hd c0 c1 c2 c3 c4
      go_wp2_with fail
      rw [← HWA.out, ← HBA.out]
      refine (HSB.out _ _ HPA.out).mono ?_
      rintro r w5 ⟨⟨pv2, qv2, rfl, hp5, hq5⟩, h5, hsz5, hkeep⟩
      obtain ⟨a3, n3, c3', rfl⟩ := hp5.form
      obtain ⟨a4, n4, c4', rfl⟩ := hq5.form
      obtain ⟨wB, hwB⟩ : ∃ wB, wB = w5.alloc (.cells #[.slice a3 n3 c3', .slice a4 n4 c4', .bool O.flood] 52) := ⟨_, rfl⟩
      obtain ⟨bB, hbB⟩ : ∃ bB, bB = w5.heap.size := ⟨_, rfl⟩
      have hmB : Mod [] w5 wB := by rw [hwB]; exact (Mod.refl _ _).alloc _
      have hoB : blk wB bB = some (.cells #[.slice a3 n3 c3', .slice a4 n4 c4', .bool O.flood] 52 (0, 0)) := by rw [hwB]; exact heap_alloc_at _ _ _ hbB
      have hoA5 := (hkeep bA hsA hbAl).trans HOA.out
      have hoAB := hmB.keep hoA5 (by simp)
      have hpB := hp5.keep (w' := wB) (fun b hb => hmB.block b (hp5.lt b hb).2 (by simp))
      have hqB := hq5.keep (w' := wB) (fun b hb => hmB.block b (hq5.lt b hb).2 (by simp))
      have hpA5 := HP.out.keep (w' := w5) (fun b hb => hkeep b (HP.out.lt b hb).1 (HP.out.lt b hb).2)
      have hqA5 := HQ.out.keep (w' := w5) (fun b hb => hkeep b (HQ.out.lt b hb).1 (HQ.out.lt b hb).2)
      have hpAB := hpA5.keep (w' := wB) (fun b hb => hmB.block b (hpA5.lt b hb).2 (by simp))
      have hqAB := hqA5.keep (w' := wB) (fun b hb => hmB.block b (hqA5.lt b hb).2 (by simp))
      have HPB := Lib.hid (h5.later hmB)
      have I1 := Lib.hid (ints_same hpAB hpB)
      have I2 := fun q => Lib.hid (ints_same (w := wB.drewN q) (hqAB.keep (fun _ _ => rfl)) (hqB.keep (fun _ _ => rfl)))
      obtain ⟨x0, x1, x2⟩ := cells_3 hoA5
      have xl := lt_of hoA5
      have HWB := Lib.hid hwB
      have HBB := Lib.hid hbB
      have HOAB := Lib.hid hoAB
      have HOB := Lib.hid hoB
      clear hp5 hq5 h5 hsz5 hkeep hwB hbB hmB hoB hoA5 hoAB hpB hqB hpA5 hqA5 hpAB hqAB s0 s1 s2 s3 s4 
      go_wp2_with fail
      rw [← HWB.out, ← HBB.out]
      refine I1.out.mono ?_
      rintro r w6 ⟨rfl, q, rfl⟩
      obtain ⟨z0, z1, z2⟩ := cells_3 HOAB.out
      obtain ⟨y0, y1, y2⟩ := cells_3 HOB.out
      clear x0 x1 x2
      go_wp2_with fail
      refine (I2 q).out.mono ?_
      rintro r w7 ⟨rfl, q2, rfl⟩
      go_wp2_with fail
      go_roundw
      case rel => exact ⟨k + 1, _, by omega, by omega, by go_num, by rw [HN1.out], HPB.out.later ((Mod.refl _ _).drewN (q + q2))⟩
      case measure => simp [intOf]; omega
    · have hend : ¬ k < n ∨ (k < n ∧ k = 100) := by omega
      generalize runM st room life k = M at H
      have hok := H.out.first.ok
      have HOK := Lib.hid hok
      clear hlt hok
      rcases hend with hend | ⟨hend, rfl⟩
      all_goals
        go_wp2_with fail
        have hm00 : Mod [] wr wr := Mod.refl _ _
        obtain ⟨wz, hwz⟩ : ∃ wz : World, wz = wr := ⟨_, rfl⟩
        rw [← hwz] at H hm00 ⊢
        clear hwz
        go_loopw [16] (fun t wy => ∃ j : Nat, j ≤ 8 ∧ t = .int .i64 j ∧ Mod [] wz wy) (fun t _ => 8 - (intOf t).toNat)
        case atStart => exact ⟨0, by omega, rfl, hm00⟩
        case round =>
          obtain ⟨j, hj, rfl, hmy⟩ := hrel
          clear hm00
          by_cases hj8 : j < 8
          · go_wp2_with fail
            refine ((H.out.later hmy).first.base hj8).mono ?_
            rintro r w9 ⟨q, F, rfl, hB, rfl⟩
            have hL64 := ents_64 hB
            go_wp2_with fail
            refine (list_any hB).mono ?_
            rintro r w10 ⟨v10, rfl, hrow, hm10⟩
            obtain ⟨a10, c10, rfl, hc10⟩ := hrow.form
            have hM10 : Mod [] wz w10 := hmy.trans hm10 (by simp)
            clear hmy hm10 hB
            go_wp2_with fail
            refine ((H.out.later hM10).second.base hj8).mono ?_
            rintro r w11 ⟨q', F', rfl, hB, rfl⟩
            go_wp2_with fail
            refine (list_any hB).mono ?_
            rintro r w12 ⟨v12, rfl, hrow2, hm12⟩
            obtain ⟨a12, c12, rfl, hc12⟩ := hrow2.form
            have hM12 : Mod [] wz w12 := hM10.trans hm12 (by simp)
            have hrow1 := hrow.keeps2 (w' := w12) (fun g hg => ⟨Nat.lt_of_lt_of_le (hrow.lt hg).2 hm12.size, hm12.block g (hrow.lt hg).2 (by simp)⟩)
            have HR1 := Lib.hid hrow1
            have HR2 := Lib.hid hrow2
            clear hM10 hm12 hB hrow hrow1 hrow2
            go_wp2_with fail
            refine ((H.out.later hM12).first.ports hj8).mono ?_
            rintro r w13 ⟨v13, rfl, hi13, hm13⟩
            obtain ⟨a13, n13, c13, rfl⟩ := hi13.form
            go_wp2_with fail
            refine ((H.out.later (hM12.trans hm13 (by simp))).second.ports hj8).mono ?_
            rintro r w14 ⟨v14, rfl, hi14, hm14⟩
            obtain ⟨a14, n14, c14, rfl⟩ := hi14.form
            have I1 := Lib.hid (ints_same (hi13.keep (w' := w14) (fun b hb => hm14.block b (hi13.lt b hb).2 (by simp))) hi14)
            have hM14 : Mod [] w12 w14 := hm13.trans hm14 (by simp)
            clear hi13 hi14 hm13 hm14
            go_wp2_with fail
            refine I1.out.mono ?_
            rintro r w15 ⟨rfl, q1, rfl⟩
            have hM15 : Mod [] w12 (w14.drewN q1) := hM14.drewN q1
            clear I1 hM14
            go_wp2_with fail
            refine ((H.out.later (hM12.trans hM15 (by simp))).first.peers hj8).mono ?_
            rintro r w16 ⟨v16, rfl, hi16, hm16⟩
            obtain ⟨a16, n16, c16, rfl⟩ := hi16.form
            go_wp2_with fail
            refine ((H.out.later ((hM12.trans hM15 (by simp)).trans hm16 (by simp))).second.peers hj8).mono ?_
            rintro r w17 ⟨v17, rfl, hi17, hm17⟩
            obtain ⟨a17, n17, c17, rfl⟩ := hi17.form
            have I2 := Lib.hid (ints_same (hi16.keep (w' := w17) (fun b hb => hm17.block b (hi16.lt b hb).2 (by simp))) hi17)
            have hM17 : Mod [] w12 w17 := (hM15.trans hm16 (by simp)).trans hm17 (by simp)
            clear hi16 hi17 hm16 hm17 hM15
            go_wp2_with fail
            refine I2.out.mono ?_
            rintro r w18 ⟨rfl, q2, rfl⟩
            have hM18 : Mod [] w12 (w17.drewN q2) := hM17.drewN q2
            have HR1' := Lib.hid (HR1.out.keeps2 (w' := w17.drewN q2) (fun g hg => ⟨Nat.lt_of_lt_of_le (HR1.out.lt hg).2 hM18.size, hM18.block g (HR1.out.lt hg).2 (by simp)⟩))
            have HR2' := Lib.hid (HR2.out.keeps2 (w' := w17.drewN q2) (fun g hg => ⟨Nat.lt_of_lt_of_le (HR2.out.lt hg).2 hM18.size, hM18.block g (HR2.out.lt hg).2 (by simp)⟩))
            have HMZ := Lib.hid (hM12.trans hM18 (by simp))
            clear I2 hM17 hM18 hM12 HR1 HR2
            generalize w17.drewN q2 = w19 at HR1' HR2' HMZ ⊢
            generalize listM (M.segs j).base = L at HR1' HR2' hL64 hc10 hc12 ⊢
            go_wp2_with fail
            go_loopw [19] (fun t wq => ∃ i q : Nat, i ≤ L.length ∧ t = .int .i64 i ∧ wq = w19.drewN q) (fun t _ => L.length - (intOf t).toNat)
            case atStart => exact ⟨0, 0, by omega, rfl, rfl⟩
            case round =>
              obtain ⟨i, q, hi, rfl, rfl⟩ := hrel
              by_cases hil : i < L.length
              · obtain ⟨g1, rfl, e1⟩ := HR1'.out.at_ hil
                obtain ⟨g2, rfl, e2⟩ := HR2'.out.at_ hil
                obtain ⟨x0, x1, x2, x3, x4, x5, x6, x7, x8, x9⟩ := e1
                obtain ⟨y0, y1, y2, y3, y4, y5, y6, y7, y8, y9⟩ := e2
                have hpe := fun W => ent_eq_self W L[i]
                have hpg := ent_guard
                generalize L[i] = z at *
                have b0 : (0 : Int) ≤ (i : Int) := by omega
                have b1 : (i : Int) < (L.length : Int) := by omega
                go_wp2_with fail
                go_quiet (fail)
                go_wp2_with fail
                go_roundw
                case rel => exact ⟨i + 1, q + nq, by omega, by go_num, rfl⟩
                case measure => simp [intOf]; omega
              · obtain rfl : i = L.length := by omega
                go_wp2_with fail
                go_roundw
                case rel => exact ⟨j + 1, by omega, by go_num, HMZ.out.drewN q⟩
                case measure => simp [intOf]; omega
          · obtain rfl : j = 8 := by omega
            go_wp2
            go_ret
            exact ⟨rfl, (H.out.later hmy).mod0⟩
end Go.Proofs.Ytmhfpiincnadiaa
