/- The law SeriesPlays answers true. Conditions: labels in memory that is not written, of bulk at most 1048576; the library's table. -/
import Derived.Test.YtdnglhcconnocaaDoorSeL0
namespace Go.Proofs.YtdnglhcconnocaaDoor
open Go.RowKit Go.Maps Go.Sort

set_option maxHeartbeats 4000000 in
set_option maxRecDepth 100000 in
theorem seriesPlays_calls (E : Eh) (most i : Int) (l : List Lab) (A : Option Addr) (n c : Nat) (w : World) (hE : Et E w) (hP : PowG E) (hl : Labs E A n l) (hbk : ∀ y ∈ l, sumB y ≤ 1048576) :
    Calls Tryd.prog 3 #[.int .i64 most, .slice A n c, .int .i64 i] w fun e w' => e = .returned (.bool true) ∧ Below w.heap.size w w' := by
  obtain ⟨hln, hn⟩ := hl.len
  go_enter Tryd.func3, Tryd.ntmps3
  go_wp2_with fail
  refine (aliveS_calls E w hE hP).mono ?_; rintro e w1 ⟨rfl, hb1⟩
  have hE1 := hE.below hb1
  by_cases hn100 : 100 < n
  · go_wp2_with fail
    go_ret
    exact ⟨rfl, hb1⟩
  by_cases hmo : 1 ≤ most ∧ most ≤ 65536
  · obtain ⟨hm1, hm2⟩ := hmo
    have n1 : ¬ most < 1 := by omega
    have n2 : ¬ 65536 < most := by omega
    go_wp2_with fail
    refine (new_ok E most w1 hE1 hm1 hm2).mono ?_; rintro e w2 ⟨tb, F0, rfl, hb2, hT2, hF2⟩
    have hE2 := hE1.below hb2
    have hb12 : Below w.heap.size w w2 := hb1.trans (hb2.mono hb1.size)
    have hz1 : w.heap.size ≤ w1.heap.size := hb1.size
    have HZ12 : w1.heap.size ≤ w2.heap.size := hb2.size
    clear hb2
    go_wp2_with fail
    go_loopw [9, 10] (fun m k' wr => ∃ (k : Nat) (ms : List Lab) (E1 : Eh) (F : Nat → Prop), k ≤ n ∧ k' = .int .i64 k ∧ E.le E1 ∧ Et E1 wr ∧ Below w.heap.size w wr ∧ TabS w1.heap.size E1 wr F tb most ms ∧ Rows2 w1.heap.size E1 wr m ms ∧ (∀ g, m.ownBlock = some g → ¬ F g) ∧ ms.length ≤ k ∧ ms.Nodup ∧ (∀ y ∈ ms, y.length ≤ 16) ∧ w1.heap.size ≤ wr.heap.size) (fun _ i _ => n - (intOf i).toNat)
    case atStart => exact ⟨0, [], E, F0, by omega, rfl, Eh.le.refl E, hE2, hb12, hT2, ⟨[], rfl, Own.nil _ _ _ _ _, (fun p hp => by cases hp), fun g hg => by cases hg⟩, (fun g hg => by cases hg), by simp, List.nodup_nil, (fun y hy => by cases hy), HZ12⟩
    case round =>
      obtain ⟨k, ms, E1, F, hk, rfl, hle, hEr, hbr, hT, hR, hmF, hmk, hnd, h16m, hzr⟩ := hrel
      have hlr : Labs E1 A n l := by obtain ⟨ps, e1, e2, e3⟩ := hl; exact ⟨ps, e1, e2.up hle, fun p hp => (e3 p hp).up hle⟩
      by_cases hlt : k < n
      · obtain ⟨g, off, x, B, d, rfl, hx, hrx, hdz, hcell⟩ := hlr.at_ hlt
        have hbx := hbk x (List.mem_of_getElem? hx)
        have q0 := hcell _ hEr
        have hxl := hrx.2.1
        by_cases h40 : 40 < x.length
        · clear hcell
          go_wp2_with fail
          go_ret
          exact ⟨rfl, hbr⟩
        by_cases h16 : 16 < x.length
        · go_wp2_with fail
          refine (tof_long tb B x.length d wr h16).mono ?_; rintro e w3 ⟨rfl, rfl⟩
          go_wp2_with fail
          exact ⟨⟨k + 1, ms, E1, F, by omega, by go_num, hle, hEr, hbr, hT, hR, hmF, by omega, hnd, h16m, hzr⟩, by simp [intOf]; omega⟩
        · obtain ⟨hk1, hk2⟩ := keyF_small x hbx h16
          have hof1 := ofF_len ms x most
          have hofn := ofF_nodup (x := x) (most := most) hnd
          have hof16 : ∀ y ∈ (ofF ms x most).1, y.length ≤ 16 := by
            intro y hy
            unfold ofF at hy
            cases hi : idxF ms x with
            | some i => rw [hi] at hy; exact h16m y hy
            | none =>
              rw [hi] at hy
              simp only [] at hy
              split at hy
              · exact h16m y hy
              · rcases List.mem_append.1 hy with hy | hy
                · exact h16m y hy
                · simp only [List.mem_singleton] at hy; subst hy; omega
          go_wp2_with fail
          refine (tof_calls w1.heap.size E1 F tb most ms x B x.length d wr hEr (hP.up hle) hT rfl hrx hk1 hk2 (by omega) hzr h16).mono ?_
          rintro e w3 ⟨E3, F3, rfl, hle3, hE3, hb3, hT3, hF3, hk3⟩
          have hRlt := hR.lt
          have hR3 : Rows2 w1.heap.size E3 w3 _ ms := hR.keep (fun g hg => ⟨(hk3 g (hRlt g hg).2.1 (hmF g hg)).1, (hk3 g (hRlt g hg).2.1 (hmF g hg)).2 (hRlt g hg).2.2⟩) hle3
          have q3 := hcell w3 (hE3.sub hle3)
          have hb03 : Below w.heap.size w w3 := hbr.trans (hb3.mono hz1)
          have hz3 : w1.heap.size ≤ w3.heap.size := Nat.le_trans hzr hb3.size
          have hmF3 : ∀ g, u9.ownBlock = some g → ¬ F3 g := fun g hg hf => by
            rcases hF3 g hf with h | h
            · exact hmF g hg h
            · have := (hRlt g hg).2.1; omega
          obtain ⟨Am, cm, rfl⟩ := hR.slice
          go_wp2_with fail
          refine (refOf_calls w1.heap.size E3 _ ms most x B d w3 hE3 hR3 (hrx.up hle3) hdz (by omega) hz3).mono ?_
          rintro e w4 ⟨v4, rfl, hE4, hR4, hg4, hv4⟩
          have hT4 : TabS w1.heap.size E3 w4 F3 tb most (ofF ms x most).1 := hT3.keep (fun b hb => hg4.block b (hT3.low b hb).2.1 (fun e => hmF3 b e.symm hb)) hg4.size (Eh.le.refl _) (fun b hb => (hT3.low b hb).2.2)
          have hmF4 : ∀ g, v4.ownBlock = some g → ¬ F3 g := fun g hg hf => by
            rcases hv4 with h | ⟨g', h, h2⟩
            · exact hmF3 g (h.symm.trans hg) hf
            · rw [hg] at h
              injection h with h
              have := (hT3.low g hf).2.1
              omega
          have hb04 : Below w.heap.size w w4 := hb03.grown hg4 hb03.size (fun g hg => by have := (hRlt g hg).1; omega)
          have hz4 : w1.heap.size ≤ w4.heap.size := Nat.le_trans hz3 hg4.size
          obtain ⟨A4, c4, rfl⟩ := hR4.slice
          clear hb3 hk3 hF3 hT3 hR3 hR hT hg4 hv4 hcell q0 q3
          generalize ofF ms x most = r at *
          obtain ⟨ms', z⟩ := r
          simp only [] at *
          go_wp2_with fail
          refine (len_calls _ _ _ _ _ _ _ hT4).mono ?_; rintro e w5 ⟨rfl, rfl⟩
          go_wp2_with fail
          exact ⟨⟨k + 1, ms', E3, F3, by omega, by go_num, hle.trans hle3, hE4, hb04, hT4, hR4, hmF4, by omega, hofn, hof16, hz4⟩, by simp [intOf]; omega⟩
      · obtain rfl : k = n := by omega
        have hml : (ms.length : Int) ≤ 100 := by omega
        have hRlt := hR.lt
        obtain ⟨Am, cm, rfl, hrow⟩ := hR.read
        go_wp2_with fail
        refine (labels_any w1.heap.size E1 F tb most ms i _ hEr hT (fun y hy => by have := h16m y hy; omega) (by omega)).mono ?_; rintro e w5 ⟨s5, ok5, rfl, hL⟩
        go_upto_region 23 with fail
        go_cut [144] from 105 to 144 (fun s wx => s = .bool false ∧ ∃ E9, Ext E1 wr E9 wx)
        case first =>
          obtain ⟨E5, x9, hL⟩ := hL
          rcases hL with ⟨hi, rfl, rfl⟩ | ⟨hi, rfl, rfl⟩ | ⟨rfl, rfl, rfl⟩ | ⟨j, x, rfl, hxj, ⟨B5, c5, rfl, hr5, hz5⟩, rfl⟩
          · have a1 : ¬ 0 ≤ i := by omega
            have a2 : ¬ 0 < i := by omega
            have a3 : (i == 0) = false := by rw [beq_eq_false_iff_ne]; omega
            go_wp2_with fail
            go_meet
            exact ⟨rfl, E5, x9⟩
          · have a1 : 0 ≤ i := by omega
            have a2 : 0 < i := by omega
            have a3 : (i == 0) = false := by rw [beq_eq_false_iff_ne]; omega
            have a4 : ¬ i ≤ (ms.length : Int) := by omega
            go_wp2_with fail
            go_meet
            exact ⟨rfl, E5, x9⟩
          · go_wp2_with fail
            go_meet
            exact ⟨rfl, E5, x9⟩
          · have hj : j < ms.length := (List.getElem?_eq_some_iff.1 hxj).1
            have a1 : (0 : Int) ≤ (j : Int) + 1 := by omega
            have a2 : (0 : Int) < (j : Int) + 1 := by omega
            have a3 : ((j : Int) + 1 == 0) = false := by rw [beq_eq_false_iff_ne]; omega
            have a4 : (j : Int) + 1 ≤ (ms.length : Int) := by omega
            obtain ⟨g, u, rfl, hc, B2, c2, rfl, hr2, hz2⟩ := hrow j _ hxj
            have hc5 : w5.cell? ⟨g, j, none⟩ = some (.slice B2 x.length c2) := by
              have := x9.below.cell (p := ⟨g, j, none⟩) (hRlt g rfl).2.1
              rw [this]
              exact hc
            go_wp2_with fail
            refine (refSame_calls E5 x x B5 B2 c5 c2 _ x9.et hr5 (hr2.up x9.le)).mono ?_; rintro e w6 ⟨rfl, q6, rfl⟩
            go_wp2_with fail
            go_meet
            exact ⟨rfl, E5, x9.drewN q6⟩
        case rest =>
        obtain ⟨rfl, E5, x9⟩ := hcut
        go_wp2_with fail
        have hE9 := x9.et
        have hT9 := hT.ext x9
        have hR9 := hR.keep (fun g hg => ⟨x9.below.block g (hRlt g hg).2.1, x9.free (hRlt g hg).2.2 (hRlt g hg).2.1⟩) x9.le
        have hb9 := hbr.trans (x9.below.mono hbr.size)
        have hR9lt := hR9.lt
        refine (order_calls _ _ _ tb most ms _ hE9 hT9 (by omega)).mono ?_; rintro e w7 ⟨v, d, rfl, x7, ho7, hperm, hsorted⟩
        have hord := ord_at hnd (by omega) hperm hsorted
        have ho7lt := ho7.lt
        obtain ⟨E7, A7, c7, hle7, hE7, rfl, hrd7, hfr7⟩ := Own.freezeT (k := 1) (fun _ => rfl) ho7 x7.et (fun g hg => hE9.out (ho7lt g hg).1)
        have hR7 := hR9.keep (fun g hg => ⟨x7.below.block g (hR9lt g hg).2.1, hfr7 g (hR9lt g hg).2.2 (fun e => by have := (ho7lt g e).1; have := (hR9lt g hg).2.1; omega)⟩) hle7
        obtain ⟨E8, A8, c8, hle8, hE8, hv8, hlabs⟩ := hR7.freeze hE7
        injection hv8 with e1 _ e2
        subst e1 e2
        have hdl : d.length = ms.length := by rw [hperm.length_eq, List.length_finRange]
        have hb7 := hb9.trans (x7.below.mono hb9.size)
        have hrd8 := hrd7.up hle8
        rw [List.length_map, hdl] at hrd8 ⊢
        generalize (d.map fun j => (j.val : Int) + 1) = dl at hrd8 hord
        obtain ⟨o1, o2⟩ := hord
        have H1 := Lib.hid o1
        have H2 := Lib.hid o2
        clear hdl o1 o2 hrd7 hR7 hfr7 ho7lt hR9lt hb9 hR9 hT9 x7 ho7 hperm hsorted x9 hT hR hRlt hbr hEr hmF hmk hnd h16m hlr hE9
        go_wp2_with fail
        go_loopw [18] (fun i' wr' => ∃ k : Nat, k ≤ ms.length ∧ i' = .int .i64 k ∧ ∃ q, wr' = w7.drewN q) (fun i _ => ms.length - (intOf i).toNat)
        case atStart => exact ⟨0, by omega, rfl, 0, rfl⟩
        case round =>
          obtain ⟨k, hk, rfl, hWq⟩ := hrel
          have hEq : Et E8 wr := by obtain ⟨q, rfl⟩ := hWq; exact hE8.drewN q
          have hWn : ∀ n, ∃ q, wr.drewN n = w7.drewN q := fun n => by obtain ⟨q, rfl⟩ := hWq; exact ⟨q + n, by rw [World.drewN_drewN]⟩
          clear hWq
          by_cases hlt : k < ms.length
          · by_cases hk0 : k = 0
            · obtain ⟨z, xa, hz', ho⟩ := H1.out k hlt
              obtain ⟨g, off, z', rfl, hz, hcell⟩ := hrd8.at_ hlt
              rw [hz'] at hz
              injection hz with hz
              subst hz
              have q0 := hcell 0 _ rfl _ hEq
              simp only [Nat.add_zero, Nat.mul_one] at q0
              have t1 := ho.t1
              have t2 := ho.t2
              have t3 : decide ((0 : Int) < (k : Int)) = false := by rw [decide_eq_false_iff_not]; omega
              have t3' : decide (0 < k) = false := by rw [decide_eq_false_iff_not]; omega
              have HK := Lib.hid hk0
              clear hcell hz' ho hk0
              go_wp2_with fail
              go_quiet (fail)
              go_wp2_with fail
              exact ⟨⟨k + 1, by omega, by go_num, hWn _⟩, by simp [intOf]; omega⟩
            · obtain ⟨j, rfl⟩ : ∃ j, k = j + 1 := ⟨k - 1, by omega⟩
              obtain ⟨z, xa, y, xb, hz', ho, hy', ho', hlc⟩ := H2.out j hlt
              obtain ⟨g, off, z', rfl, hz, hcell⟩ := hrd8.at_ (i := j) (by omega)
              rw [hz'] at hz
              injection hz with hz
              subst hz
              have q1 := hcell 0 _ rfl _ hEq
              obtain ⟨g', off', y', hA', hy, hcell'⟩ := hrd8.at_ (i := j + 1) hlt
              injection hA' with hA'
              injection hA' with e1 e2
              subst e1 e2
              rw [hy'] at hy
              injection hy with hy
              subst hy
              have q0 := hcell' 0 _ rfl _ hEq
              simp only [Nat.add_zero, Nat.mul_one] at q0 q1
              obtain ⟨g2, off2, x2, Bb, cb, rfl, hx2, hrb, _, hcb⟩ := hlabs.at_ ho.lt
              rw [ho.at_] at hx2
              injection hx2 with hx2
              subst hx2
              obtain ⟨g3, off3, x3, Ba, ca, hA3, hx3, hra, _, hca⟩ := hlabs.at_ ho'.lt
              injection hA3 with hA3
              injection hA3 with e1 e2
              subst e1 e2
              rw [ho'.at_] at hx3
              injection hx3 with hx3
              subst hx3
              have p1 := hcb _ hEq
              have p0 := hca _ hEq
              have p1' := p1
              have p0' := p0
              simp only [Int.pred_toNat] at p1' p0'
              have t1 := ho'.t1
              have t2 := ho'.t2
              have t3 : decide ((0 : Int) < ((j + 1 : Nat) : Int)) = true := by rw [decide_eq_true_iff]; omega
              have t3' : decide (0 < j + 1) = true := by rw [decide_eq_true_iff]; omega
              have t4 : (0 : Int) < ((j + 1 : Nat) : Int) := by omega
              have wz := ho.wr
              have lz := ho.lo
              have uz := ho.hi
              have wy := ho'.wr
              have ly := ho'.lo
              have uy := ho'.hi
              have wk : IntKind.i64.wrap (((j + 1 : Nat) : Int) - 1) = (j : Int) := by simp [IntKind.wrap, IntKind.bits, IntKind.signed]; omega
              have wk' : IntKind.i64.wrap ((j : Int) + 1 - 1) = (j : Int) := by simp [IntKind.wrap, IntKind.bits, IntKind.signed]; omega
              have aj : (j : Int) + 1 - 1 = (j : Int) := by omega
              have tj : decide ((0 : Int) ≤ labCmp xa xb) = false := by rw [decide_eq_false_iff_not]; omega
              clear hcell hcell' hz' hy' ho ho' hca hcb hlc
              go_wp2_with fail
              go_quiet ((go_at_call 16; exact Calls.quiet_of (refCompare_calls E8 xa xb Bb Ba cb ca _ (hEq.drewN _) hrb hra)))
              go_wp2_with fail
              exact ⟨⟨j + 1 + 1, by omega, by go_num, hWn _⟩, by simp [intOf]; omega⟩
          · obtain rfl : k = ms.length := by omega
            go_wp2_with fail
            go_ret
            obtain ⟨q, hq⟩ := hWn 0
            replace hq : wr = w7.drewN q := hq
            subst hq
            exact ⟨rfl, ⟨hb7.os, hb7.tape, hb7.output, hb7.size, hb7.block⟩⟩
  · by_cases n1 : most < 1
    · go_wp2_with fail
      refine (new_no most _ hmo).mono ?_; rintro e w6 ⟨rfl, rfl⟩
      go_wp2_with fail
      go_ret
      exact ⟨rfl, hb1⟩
    · have n2 : 65536 < most := by omega
      go_wp2_with fail
      refine (new_no most _ hmo).mono ?_; rintro e w6 ⟨rfl, rfl⟩
      go_wp2_with fail
      go_ret
      exact ⟨rfl, hb1⟩
end Go.Proofs.YtdnglhcconnocaaDoor
