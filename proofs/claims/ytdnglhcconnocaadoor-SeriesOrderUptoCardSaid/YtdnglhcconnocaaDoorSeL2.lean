/- The law SeriesOrder answers true. Conditions: labels in memory that is not written, of bulk at most 1048576; the library's table. -/
import Derived.Test.YtdnglhcconnocaaDoorSeN
namespace Go.Proofs.YtdnglhcconnocaaDoor
open Go.RowKit Go.Maps Go.Sort

set_option maxHeartbeats 4000000 in
set_option maxRecDepth 100000 in
theorem seriesOrder_calls (E : Eh) (by' : Int) (l : List Lab) (A : Option Addr) (n c : Nat) (a b d : Lab) (va vb vd : Value) (w : World) (hE : Et E w) (hP : PowG E) (hl : Labs E A n l) (hbk : ∀ y ∈ l, sumB y ≤ 1048576)
    (ha : HdrS E a va) (hb : HdrS E b vb) (hd : HdrS E d vd) (hal : a.length ≤ 1048576) (hbl : b.length ≤ 1048576) (hdl : d.length ≤ 1048576) (hby0 : 0 ≤ by') (hby : by' ≤ 255) :
    Calls Tryd.prog 4 #[.slice A n c, .int .u8 by', va, vb, vd] w fun e w' => e = .returned (.bool true) ∧ Below w.heap.size w w' := by
  obtain ⟨hln, hn⟩ := hl.len
  obtain ⟨Aa, ca, rfl, hra, hza⟩ := ha
  obtain ⟨Ab, cb, rfl, hrb, hzb⟩ := hb
  obtain ⟨Ad, cd, rfl, hrd, hzd⟩ := hd
  go_enter Tryd.func4, Tryd.ntmps4
  go_wp2_with fail
  refine (aliveS_calls E w hE hP).mono ?_; rintro e w1 ⟨rfl, hb1⟩
  have hE1 := hE.below hb1
  have hz1 : w.heap.size ≤ w1.heap.size := hb1.size
  by_cases hn60 : 60 < n
  · go_wp2_with fail
    go_ret
    exact ⟨rfl, hb1⟩
  by_cases hs : (100 : Int) < (a.length : Int) + (b.length : Int) + (d.length : Int)
  · go_wp2_with fail
    go_ret
    exact ⟨rfl, hb1⟩
  go_wp2_with fail
  refine (new_ok E 100 w1 hE1 (by decide) (by decide)).mono ?_; rintro e w2 ⟨tb, F0, rfl, hb2, hT2, hF2⟩
  have hE2 := hE1.below hb2
  have hb12 : Below w.heap.size w w2 := hb1.trans (hb2.mono hb1.size)
  have hz2 : w1.heap.size ≤ w2.heap.size := hb2.size
  go_wp2_with fail
  refine (new_ok E 100 w2 hE2 (by decide) (by decide)).mono ?_; rintro e w3 ⟨ub, G0, rfl, hb3, hU3, hG3⟩
  have hE3 := hE2.below hb3
  have hb13 : Below w.heap.size w w3 := hb12.trans (hb3.mono hb12.size)
  have hz3 : w2.heap.size ≤ w3.heap.size := hb3.size
  have hT3 := hT2.ext (Ext.of_below hE2 hb3)
  have hFG0 : ∀ b, F0 b → ¬ G0 b := fun b h1 h2 => by have := (hT2.low b h1).2.1; have := hG3 b h2; omega
  clear hb2 hb3 hT2
  go_wp2_with fail
  go_loopw [15] (fun k' wr => ∃ (k : Nat) (ms us : List Lab) (E1 : Eh) (F G : Nat → Prop), k ≤ n ∧ k' = .int .i64 k ∧ E.le E1 ∧ Et E1 wr ∧ Below w.heap.size w wr ∧ TabS w1.heap.size E1 wr F tb 100 ms ∧ TabS w2.heap.size E1 wr G ub 100 us ∧ (∀ b, F b → ¬ G b) ∧ ms.Nodup ∧ us.Nodup ∧ ms.length ≤ k ∧ us.length ≤ k ∧
      (∀ y, y ∈ ms ↔ (∃ i, i < k ∧ l[i]? = some y) ∧ y.length ≤ 16) ∧ (∀ y, y ∈ us ↔ (∃ i, i < k ∧ l[(n - 1 - i + by'.toNat) % n]? = some y) ∧ y.length ≤ 16) ∧ w2.heap.size ≤ wr.heap.size) (fun i _ => n - (intOf i).toNat)
  case atStart => exact ⟨0, [], [], E, F0, G0, by omega, rfl, Eh.le.refl E, hE3, hb13, hT3, hU3, hFG0, List.nodup_nil, List.nodup_nil, by simp, by simp, (fun y => ⟨fun h => by (cases h), fun h => by (obtain ⟨⟨i, h, _⟩, _⟩ := h; omega)⟩), (fun y => ⟨fun h => by (cases h), fun h => by (obtain ⟨⟨i, h, _⟩, _⟩ := h; omega)⟩), hz3⟩
  case round =>
    obtain ⟨k, ms, us, E1, F, G, hk, rfl, hle, hEr, hbr, hT, hU, hFG, hnm, hnu, hlm, hlu, hmm, hmu, hzr⟩ := hrel
    have hlr : Labs E1 A n l := by obtain ⟨ps, e1, e2, e3⟩ := hl; exact ⟨ps, e1, e2.up hle, fun p hp => (e3 p hp).up hle⟩
    by_cases hlt : k < n
    · obtain ⟨g, off, x, B, cx, rfl, hx, hrx, hdz, hcell⟩ := hlr.at_ hlt
      have hjn : (n - 1 - k + by'.toNat) % n < n := Nat.mod_lt _ (by omega)
      have hji : ((n : Int) - 1 - (k : Int) + by') % (n : Int) = (((n - 1 - k + by'.toNat) % n : Nat) : Int) := by
        rw [Int.natCast_emod]
        congr 1
        omega
      have hmuk : ∀ y, (∃ i, i < k + 1 ∧ l[(n - 1 - i + by'.toNat) % n]? = some y) ↔ (∃ i, i < k ∧ l[(n - 1 - i + by'.toNat) % n]? = some y) ∨ l[(n - 1 - k + by'.toNat) % n]? = some y := by
        intro y
        constructor
        · rintro ⟨i, hi, h⟩
          by_cases e : i = k
          · subst e; exact .inr h
          · exact .inl ⟨i, by omega, h⟩
        · rintro (⟨i, hi, h⟩ | h)
          · exact ⟨i, by omega, h⟩
          · exact ⟨k, by omega, h⟩
      obtain ⟨g', off', y, B', cy, hA', hy, hry, hdy, hcell'⟩ := hlr.at_ hjn
      injection hA' with hA'
      injection hA' with e1 e2
      subst e1 e2
      generalize (n - 1 - k + by'.toNat) % n = j at *
      have q0 := hcell _ hEr
      have hsm := addF_spec ms x hnm (by omega)
      have hsu := addF_spec us y hnu (by omega)
      have HJ := Lib.hid hji
      have HMU := Lib.hid hmuk
      have hbx := hbk x (List.mem_of_getElem? hx)
      have hby2 := hbk y (List.mem_of_getElem? hy)
      clear hmuk hji
      go_wp2_with fail
      refine (tof_any w1.heap.size E1 F tb ms x B cx wr hEr (hP.up hle) hT hrx hbx (by omega) (by omega)).mono ?_
      rintro e w4 ⟨r4, E4, F4, rfl, hle4, hE4, hb4, hT4, hF4, hk4⟩
      have hU4 : TabS w2.heap.size E4 w4 G ub 100 us := hU.keep (fun b hb => (hk4 b (hU.low b hb).2.1 (fun h => hFG b h hb)).1) hb4.size hle4 (fun b hb => (hk4 b (hU.low b hb).2.1 (fun h => hFG b h hb)).2 (hU.low b hb).2.2)
      have hFG4 : ∀ b, F4 b → ¬ G b := fun b h1 h2 => by
        rcases hF4 b h1 with h | h
        · exact hFG b h h2
        · have := (hU.low b h2).2.1; omega
      have hbw4 : Below w.heap.size w w4 := hbr.trans (hb4.mono hz1)
      have q4 := hcell' _ (hE4.sub hle4)
      have hz4 : wr.heap.size ≤ w4.heap.size := hb4.size
      have hji := HJ.out
      clear hcell hcell' hb4 hF4 hk4 hT hU
      go_wp2_with fail
      refine (tof_any w2.heap.size E4 G ub us y B' cy w4 hE4 (hP.up (hle.trans hle4)) hU4 (hry.up hle4) hby2 (by omega) (by omega)).mono ?_
      rintro e w5 ⟨r5, E5, G5, rfl, hle5, hE5, hb5, hU5, hG5, hk5⟩
      have hT5 : TabS w1.heap.size E5 w5 F4 tb 100 (addF ms x) := hT4.keep (fun b hb => (hk5 b (hT4.low b hb).2.1 (fun h => hFG4 b hb h)).1) hb5.size hle5 (fun b hb => (hk5 b (hT4.low b hb).2.1 (fun h => hFG4 b hb h)).2 (hT4.low b hb).2.2)
      have hFG5 : ∀ b, F4 b → ¬ G5 b := fun b h1 h2 => by
        rcases hG5 b h2 with h | h
        · exact hFG4 b h1 h
        · have := (hT4.low b h1).2.1; omega
      have hbw5 : Below w.heap.size w w5 := hbw4.trans (hb5.mono (by omega))
      have hz5 : w4.heap.size ≤ w5.heap.size := hb5.size
      clear hb5 hG5 hk5 hT4 hU4 hji
      go_wp2_with fail
      refine ⟨⟨k + 1, addF ms x, addF us y, E5, F4, G5, by omega, by go_num, hle.trans (hle4.trans hle5), hE5, hbw5, hT5, hU5, hFG5, hsm.1, hsu.1, by omega, by omega, fun z => ?_, fun z => ?_, by omega⟩, by simp [intOf]; omega⟩
      · rw [hsm.2.2 z, hmm z]
        constructor
        · rintro (⟨⟨i, hi, h⟩, h2⟩ | ⟨rfl, h2⟩)
          · exact ⟨⟨i, by omega, h⟩, h2⟩
          · exact ⟨⟨k, by omega, hx⟩, h2⟩
        · rintro ⟨⟨i, hi, h⟩, h2⟩
          by_cases e : i = k
          · subst e
            rw [hx] at h
            injection h with h
            exact .inr ⟨h.symm, h2⟩
          · exact .inl ⟨⟨i, by omega, h⟩, h2⟩
      · rw [hsu.2.2 z, hmu z, HMU.out z]
        constructor
        · rintro (⟨h, h2⟩ | ⟨rfl, h2⟩)
          · exact ⟨.inl h, h2⟩
          · exact ⟨.inr hy, h2⟩
        · rintro ⟨h | h, h2⟩
          · exact .inl ⟨h, h2⟩
          · rw [hy] at h
            injection h with h
            exact .inr ⟨h.symm, h2⟩
    · obtain rfl : k = n := by omega
      have hperm : ms.Perm us := by
        refine perm_of_mem hnm hnu fun y => ?_
        rw [hmm y, hmu y]
        refine and_congr_left fun _ => ⟨?_, ?_⟩
        · rintro ⟨i, hi, h⟩
          obtain ⟨i', hi', h'⟩ := turn_back (b := by'.toNat) hi
          exact ⟨i', hi', by rw [h']; exact h⟩
        · rintro ⟨i, hi, h⟩
          exact ⟨_, Nat.mod_lt _ (by omega), h⟩
      have hlen := hperm.length_eq
      have h16 : ∀ y ∈ ms, y.length ≤ 16 := fun y hy => ((hmm y).1 hy).2
      clear hmm hmu
      have HLEN := Lib.hid hlen
      clear hlen
      go_wp2_with fail
      refine (order_calls _ _ _ tb 100 ms _ hEr hT (by omega)).mono ?_; rintro e w4 ⟨v4, d4, rfl, x4, ho4, hp4, hs4⟩
      have L4 := Lib.hid (ord_list hnm (by omega) hp4 hs4)
      clear hs4 hp4
      go_wp2_with fail
      refine (order_calls _ _ _ ub 100 us _ x4.et (hU.ext x4) (by omega)).mono ?_; rintro e w5 ⟨v5, d5, rfl, x5, ho5, hp5, hs5⟩
      have L4 := L4.out
      have L5 := ord_list hnu (by omega) hp5 hs5
      clear hs5 hp5
      have hSS := sorted_one (L4.perm.trans (hperm.trans L5.perm.symm)) L4.sorted L5.sorted
      generalize (d4.map fun j => (j.val : Int) + 1) = dl4 at *
      generalize (d5.map fun j => (j.val : Int) + 1) = dl5 at *
      generalize (d4.map fun j => ms[j]) = S4 at *
      generalize (d5.map fun j => us[j]) = S5 at *
      subst hSS
      have lt4 := ho4.lt
      have lt5 := ho5.lt
      obtain ⟨E6, A6, c6, hle6, hE6, rfl, hrd6, hfr6⟩ := Own.freezeT (k := 1) (fun _ => rfl) (ho4.step x5.below) x5.et (fun g hg => hEr.out (lt4 g hg).1)
      have hle56 := x5.below.size
      have hsz45 := x4.below.size
      have hn5 : ∀ g, v5.ownBlock = some g → E6 g = none := fun g hg => hfr6 g (hEr.out (by have := (lt5 g hg).1; omega)) (fun e => by have := (lt4 g e).2; have := (lt5 g hg).1; omega)
      obtain ⟨E7, A7, c7, hle7, hE7, rfl, hrd7, hfr7⟩ := Own.freezeT (k := 1) (fun _ => rfl) ho5 hE6 hn5
      have low : ∀ b, b < wr.heap.size → E1 b = none → E7 b = none := fun b hb hn => hfr7 b (hfr6 b hn (fun e => by have := (lt4 b e).1; omega)) (fun e => by have := (lt5 b e).1; omega)
      have hT7 := ((hT.ext x4).ext x5).keep (w' := w5) (fun b _ => rfl) (Nat.le_refl _) (hle6.trans hle7) (fun b hb => low b (hT.low b hb).2.1 (hT.low b hb).2.2)
      have hU7 := ((hU.ext x4).ext x5).keep (w' := w5) (fun b _ => rfl) (Nat.le_refl _) (hle6.trans hle7) (fun b hb => low b (hU.low b hb).2.1 (hU.low b hb).2.2)
      have hb5 : Below w.heap.size w w5 := (hbr.trans (x4.below.mono hbr.size)).trans (x5.below.mono (by have := hbr.size; omega))
      have hE17 := hle.trans (hle6.trans hle7)
      rw [L4.len] at hrd6 ⊢
      rw [L5.len, ← HLEN.out] at hrd7 ⊢
      have hrd6' := hrd6.up hle7
      have A4 := Lib.hid L4.at_
      have A5 := Lib.hid L5.at_
      have HL2 := HLEN.out
      have hus : us.length ≤ 1000 := by omega
      have hms : ms.length ≤ 1000 := by omega
      clear L4 L5 hfr6 hfr7 low lt4 lt5 hn5 ho4 ho5 x4 x5 hT hU hrd6 hle56 hsz45 hFG hnm hnu hperm hlr hE6 hEr hbr hle6 hle7 HL2 hlm hlu hzr hF2 hG3
      go_wp2_with fail
      go_loopw [18] (fun k' wr => ∃ (k : Nat) (E9 : Eh), k ≤ ms.length ∧ k' = .int .i64 k ∧ Ext E7 w5 E9 wr) (fun i _ => ms.length - (intOf i).toNat)
      case atStart => exact ⟨0, E7, by omega, rfl, Ext.refl hE7⟩
      case round =>
        obtain ⟨k, E9, hk, rfl, x9⟩ := hrel
        have hb9 := hb5.trans (x9.below.mono hb5.size)
        by_cases hlt : k < ms.length
        · obtain ⟨z, x, hz, ho, hsx⟩ := A4.out k hlt
          obtain ⟨y, x', hy, hoy, hsx'⟩ := A5.out k (by rw [← HLEN.out]; exact hlt)
          rw [hsx] at hsx'
          injection hsx' with hsx'
          subst hsx'
          obtain ⟨g, off, z', rfl, hz', hcell⟩ := hrd6'.at_ hlt
          rw [hz] at hz'
          injection hz' with hz'
          subst hz'
          obtain ⟨g2, off2, y', rfl, hy', hcell2⟩ := hrd7.at_ hlt
          rw [hy] at hy'
          injection hy' with hy'
          subst hy'
          have hx16 := h16 x (List.mem_of_getElem? ho.at_)
          have q0 := hcell 0 _ rfl _ (x9.et.sub x9.le)
          simp only [Nat.add_zero, Nat.mul_one] at q0
          clear hz hy
          go_wp2_with fail
          refine (labels_ord _ _ _ tb 100 ms z x _ x9.et (hT7.ext x9) ho (by omega) hms).mono ?_; rintro e w10 ⟨v10, E10, rfl, x10, hd10⟩
          have x10' := x9.trans x10
          have q1 := hcell2 0 _ rfl _ (x10'.et.sub x10'.le)
          simp only [Nat.add_zero, Nat.mul_one] at q1
          go_wp2_with fail
          refine (labels_ord _ _ _ ub 100 us y x _ x10.et (hU7.ext x10') hoy (by omega) hus).mono ?_; rintro e w11 ⟨v11, E11, rfl, x11, hd11⟩
          have x11' := x10'.trans x11
          obtain ⟨B1, b1, rfl, hr1, _⟩ := hd10.up x11.le
          obtain ⟨B2, b2, rfl, hr2, _⟩ := hd11
          clear hcell hcell2 hd10
          go_wp2_with fail
          refine (refSame_calls E11 x x B1 B2 b1 b2 _ x11.et hr1 hr2).mono ?_; rintro e w12 ⟨rfl, q12, rfl⟩
          go_wp2_with fail
          exact ⟨⟨k + 1, E11, by omega, by go_num, x11'.drewN q12⟩, by simp [intOf]; omega⟩
        · obtain rfl : k = ms.length := by omega
          have hE9 := hE17.trans x9.le
          have hra9 := hra.up hE9
          have hrb9 := hrb.up hE9
          have hrd9 := hrd.up hE9
          go_wp2_with fail
          refine (seCompare_calls E9 a b Aa Ab ca cb _ x9.et hra9 hrb9).mono ?_; rintro e w10 ⟨rfl, q10, hw⟩
          have y10 : Ext E7 w5 E9 w10 := by rw [hw]; exact x9.drewN q10
          clear hw
          go_wp2_with fail
          refine (seCompare_calls E9 b d Ab Ad cb cd _ y10.et hrb9 hrd9).mono ?_; rintro e w11 ⟨rfl, q11, hw⟩
          have y11 : Ext E7 w5 E9 w11 := by rw [hw]; exact y10.drewN q11
          clear hw
          go_wp2_with fail
          refine (seCompare_calls E9 a d Aa Ad ca cd _ y11.et hra9 hrd9).mono ?_; rintro e w12 ⟨rfl, q12, hw⟩
          have y12 : Ext E7 w5 E9 w12 := by rw [hw]; exact y11.drewN q12
          clear hw y10 y11
          go_wp2_with fail
          refine (of_nil Aa a.length ca _).mono ?_; rintro e w13 ⟨rfl, rfl⟩
          go_wp2_with fail
          refine (labels_nil 0 _).mono ?_; rintro e w13 ⟨rfl, rfl⟩
          go_wp2_with fail
          refine (refCompare_calls E9 a b Aa Ab ca cb _ y12.et hra9 hrb9).mono ?_; rintro e w14 ⟨rfl, q14, hw⟩
          have y14 : Ext E7 w5 E9 w14 := by rw [hw]; exact y12.drewN q14
          clear hw
          have hba := seCompare_calls E9 b a Ab Aa cb ca w14 y14.et hrb9 hra9
          have htr := @labCmp_trans a b d
          have hrg := labCmp_rng a b
          have hneg := labCmp_neg a b
          rw [hneg] at hba
          clear hneg
          generalize labCmp a b = p at *
          generalize labCmp b d = q at *
          generalize labCmp a d = r at *
          have hpp : (p == p) = true := by simp
          rcases (show (p = -1 ∧ q ≤ 0) ∨ (p = -1 ∧ ¬ q ≤ 0) ∨ (p = 0 ∧ q ≤ 0) ∨ (p = 0 ∧ ¬ q ≤ 0) ∨ p = 1 by omega) with ⟨rfl, hq⟩ | ⟨rfl, hq⟩ | ⟨rfl, hq⟩ | ⟨rfl, hq⟩ | rfl
          · have hr := htr (by decide) hq
            clear htr hrg
            go_wp2_with fail
            refine hba.mono ?_; rintro e w15 ⟨rfl, q15, hw⟩
            have y15 : Ext E7 w5 E9 w15 := by rw [hw]; exact y14.drewN q15
            clear hw hba y14 y12
            go_wp2_with fail
            refine (len_nil _).mono ?_; rintro e w16 ⟨rfl, rfl⟩
            go_wp2_with fail
            refine (order_nil _).mono ?_; rintro e w17 ⟨rfl, hb17⟩
            go_wp2_with fail
            go_ret
            have hb15 := hb5.trans (y15.below.mono hb5.size)
            exact ⟨rfl, hb15.trans (hb17.mono hb15.size)⟩
          · clear htr hrg
            go_wp2_with fail
            refine hba.mono ?_; rintro e w15 ⟨rfl, q15, hw⟩
            have y15 : Ext E7 w5 E9 w15 := by rw [hw]; exact y14.drewN q15
            clear hw hba y14 y12
            go_wp2_with fail
            refine (len_nil _).mono ?_; rintro e w16 ⟨rfl, rfl⟩
            go_wp2_with fail
            refine (order_nil _).mono ?_; rintro e w17 ⟨rfl, hb17⟩
            go_wp2_with fail
            go_ret
            have hb15 := hb5.trans (y15.below.mono hb5.size)
            exact ⟨rfl, hb15.trans (hb17.mono hb15.size)⟩
          · have hr := htr (by decide) hq
            clear htr hrg
            go_wp2_with fail
            refine hba.mono ?_; rintro e w15 ⟨rfl, q15, hw⟩
            have y15 : Ext E7 w5 E9 w15 := by rw [hw]; exact y14.drewN q15
            clear hw hba y14 y12
            go_wp2_with fail
            refine (len_nil _).mono ?_; rintro e w16 ⟨rfl, rfl⟩
            go_wp2_with fail
            refine (order_nil _).mono ?_; rintro e w17 ⟨rfl, hb17⟩
            go_wp2_with fail
            go_ret
            have hb15 := hb5.trans (y15.below.mono hb5.size)
            exact ⟨rfl, hb15.trans (hb17.mono hb15.size)⟩
          · clear htr hrg
            go_wp2_with fail
            refine hba.mono ?_; rintro e w15 ⟨rfl, q15, hw⟩
            have y15 : Ext E7 w5 E9 w15 := by rw [hw]; exact y14.drewN q15
            clear hw hba y14 y12
            go_wp2_with fail
            refine (len_nil _).mono ?_; rintro e w16 ⟨rfl, rfl⟩
            go_wp2_with fail
            refine (order_nil _).mono ?_; rintro e w17 ⟨rfl, hb17⟩
            go_wp2_with fail
            go_ret
            have hb15 := hb5.trans (y15.below.mono hb5.size)
            exact ⟨rfl, hb15.trans (hb17.mono hb15.size)⟩
          · clear htr hrg
            go_wp2_with fail
            refine hba.mono ?_; rintro e w15 ⟨rfl, q15, hw⟩
            have y15 : Ext E7 w5 E9 w15 := by rw [hw]; exact y14.drewN q15
            clear hw hba y14 y12
            go_wp2_with fail
            refine (len_nil _).mono ?_; rintro e w16 ⟨rfl, rfl⟩
            go_wp2_with fail
            refine (order_nil _).mono ?_; rintro e w17 ⟨rfl, hb17⟩
            go_wp2_with fail
            go_ret
            have hb15 := hb5.trans (y15.below.mono hb5.size)
            exact ⟨rfl, hb15.trans (hb17.mono hb15.size)⟩
end Go.Proofs.YtdnglhcconnocaaDoor
