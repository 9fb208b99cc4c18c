/- The calls that compare labels: cmp.Compare and slices.Compare of texts, the series' and the document's Compare and Same. Conditions: labels in memory that is not written. -/
import Derived.Test.YtdnglhcconnocaaDoorBase
import Derived.Test.YtdnglhcconnocaaDoorSeF
import Derived.Deep.RegionHeld3
namespace Go.Proofs.YtdnglhcconnocaaDoor
open Go.RowKit

abbrev strC (s : ByteArray) : List Value := [.string s]
/-- Labels in memory that is not written. -/
def HdrS (E : Eh) (x : Lab) (v : Value) : Prop := ∃ A c, v = .slice A x.length c ∧ Rd E 1 strC A x.length x ∧ (A = none → c = 0)
theorem HdrS.up {E E' : Eh} {x : Lab} {v : Value} (h : HdrS E x v) (k : E.le E') : HdrS E' x v := by
  obtain ⟨A, c, hv, hr, hz⟩ := h
  exact ⟨A, c, hv, hr.up k, hz⟩
abbrev labC (p : Lab × Value) : List Value := [p.2]
/-- A slice of labels. -/
def Labs (E : Eh) (A : Option Addr) (n : Nat) (l : List Lab) : Prop := ∃ ps : List (Lab × Value), ps.map (·.1) = l ∧ Rd E 1 labC A n ps ∧ ∀ p ∈ ps, HdrS E p.1 p.2
def scmp (a b : ByteArray) : Int := if sless a b = true then -1 else if sless b a = true then 1 else 0
theorem gtr_eq (a b : ByteArray) : (!(Op.bytesLess a.toList b.toList || a.toList == b.toList)) = sless b a := by
  cases h : sless b a with
  | true =>
    have h1 := sless_asymm h
    have h2 : (a.toList == b.toList) = false := by
      rw [beq_eq_false_iff_ne]
      intro e
      unfold sless at h
      rw [e, bl_irrefl] at h
      cases h
    unfold sless at h1
    rw [h1, h2]
    rfl
  | false =>
    cases h1 : Op.bytesLess a.toList b.toList with
    | true => rfl
    | false =>
      have := sless_total (a := a) (b := b) h1 h
      subst this
      simp

set_option maxHeartbeats 400000 in
theorem isNaN_calls (a : ByteArray) (w : World) :
    Calls Tryd.prog 60 #[.string a] w fun e w' => e = .returned (.bool false) ∧ w' = w := by
  have h : (!(a.toList == a.toList)) = false := by simp
  go_enter Tryd.func60, Tryd.ntmps60
  go_wp2
  go_ret
  exact ⟨by simp, rfl⟩
set_option maxHeartbeats 400000 in
theorem cmp_calls (a b : ByteArray) (w : World) :
    Calls Tryd.prog 42 #[.string a, .string b] w fun e w' => e = .returned (.int .i64 (scmp a b)) ∧ w' = w := by
  have hg := gtr_eq a b
  go_enter Tryd.func42, Tryd.ntmps42
  go_wp2_with fail
  refine (isNaN_calls a _).mono ?_; rintro e w' ⟨rfl, rfl⟩
  go_wp2_with fail
  refine (isNaN_calls b _).mono ?_; rintro e w' ⟨rfl, rfl⟩
  cases h1 : Op.bytesLess a.toList b.toList with
  | true =>
    go_wp2_with fail
    go_ret
    exact ⟨by unfold scmp sless; rw [h1]; rfl, rfl⟩
  | false =>
    cases h2 : (a.toList == b.toList) with
    | true =>
      rw [h2, h1] at hg
      go_wp2_with fail
      go_ret
      exact ⟨by unfold scmp; rw [show sless a b = false from h1, ← hg]; rfl, rfl⟩
    | false =>
      rw [h2, h1] at hg
      go_wp2_with fail
      go_ret
      exact ⟨by unfold scmp; rw [show sless a b = false from h1, ← hg]; rfl, rfl⟩

theorem labCmp_drop {a b : Lab} {k : Nat} (h : a.take k = b.take k) (ha : k ≤ a.length) (hb : k ≤ b.length) : labCmp a b = labCmp (a.drop k) (b.drop k) := by
  induction k generalizing a b with
  | zero => rfl
  | succ k ih =>
    match a, b, h, ha, hb with
    | x :: a, y :: b, h, ha, hb =>
      simp only [List.take_succ_cons, List.cons.injEq] at h
      obtain ⟨rfl, h⟩ := h
      simp only [List.length_cons, Nat.add_le_add_iff_right] at ha hb
      simp only [labCmp, sless_irrefl, Bool.false_eq_true, if_false, List.drop_succ_cons]
      exact ih h ha hb
theorem labCmp_at {a b : Lab} {k : Nat} {x y : ByteArray} (h : a.take k = b.take k) (ha : a[k]? = some x) (hb : b[k]? = some y) : labCmp a b = if sless x y = true then -1 else if sless y x = true then 1 else labCmp (a.drop (k + 1)) (b.drop (k + 1)) := by
  have h1 := (List.getElem?_eq_some_iff.1 ha).1
  have h2 := (List.getElem?_eq_some_iff.1 hb).1
  rw [labCmp_drop h (by omega) (by omega), List.drop_eq_getElem_cons h1, List.drop_eq_getElem_cons h2, (List.getElem?_eq_some_iff.1 ha).2, (List.getElem?_eq_some_iff.1 hb).2]
  rfl
theorem take_next {a b : Lab} {k : Nat} {x : ByteArray} (h : a.take k = b.take k) (ha : a[k]? = some x) (hb : b[k]? = some x) : a.take (k + 1) = b.take (k + 1) := by
  rw [List.take_add_one, List.take_add_one, h, ha, hb]

set_option maxHeartbeats 1000000 in
set_option maxRecDepth 100000 in
/-- slices.Compare of labels. -/
theorem slicesCompare_calls (E : Eh) (a b : Lab) (A B : Option Addr) (c d : Nat) (w : World) (hE : Et E w) (ha : Rd E 1 strC A a.length a) (hb : Rd E 1 strC B b.length b) :
    Calls Tryd.prog 31 #[.slice A a.length c, .slice B b.length d] w fun e w' => e = .returned (.int .i64 (labCmp a b)) ∧ ∃ q, w' = w.drewN q := by
  have hal := ha.2.1
  have hbl := hb.2.1
  go_enter Tryd.func31, Tryd.ntmps31
  go_wp2_with fail
  go_loopw [11] (fun i wr => ∃ k : Nat, k ≤ a.length ∧ k ≤ b.length ∧ i = .int .i64 k ∧ a.take k = b.take k ∧ wr = w) (fun i _ => a.length - (intOf i).toNat)
  case atStart => exact ⟨0, by omega, by omega, rfl, rfl, rfl⟩
  case round =>
    obtain ⟨k, hka, hkb, rfl, htk, rfl⟩ := hrel
    by_cases hlt : k < a.length
    · obtain ⟨g, off, x, rfl, hx, hcell⟩ := ha.at_ hlt
      have q0 := hcell 0 _ rfl _ hE
      simp only [Nat.add_zero, Nat.mul_one] at q0
      by_cases hlb : k < b.length
      · obtain ⟨g', off', y, rfl, hy, hcell'⟩ := hb.at_ hlb
        have z0 := hcell' 0 _ rfl _ hE
        simp only [Nat.add_zero, Nat.mul_one] at z0
        have hat := labCmp_at htk hx hy
        have hge : ¬ (b.length : Int) ≤ (k : Int) := by omega
        clear hcell hcell'
        by_cases hs : scmp x y = 0
        · have hxy : sless x y = false ∧ sless y x = false := by
            unfold scmp at hs
            cases h1 : sless x y with
            | true => rw [h1] at hs; simp at hs
            | false =>
              rw [h1] at hs
              cases h2 : sless y x with
              | true => rw [h2] at hs; simp at hs
              | false => exact ⟨rfl, rfl⟩
          have e := sless_total hxy.1 hxy.2
          subst e
          go_wp2_with fail
          refine (cmp_calls x x _).mono ?_; rintro e w' ⟨rfl, rfl⟩
          rw [hs]
          go_wp2_with fail
          exact ⟨⟨k + 1, by omega, by omega, by go_num, take_next htk hx hy, trivial⟩, by simp [intOf]; omega⟩
        · have hsn : (scmp x y != 0) = true := by rw [bne_iff_ne]; exact hs
          have hlc : labCmp a b = scmp x y := by
            rw [hat]
            unfold scmp at hs ⊢
            cases h1 : sless x y with
            | true => simp
            | false =>
              rw [h1] at hs
              cases h2 : sless y x with
              | true => simp
              | false => rw [h2] at hs; simp at hs
          go_wp2_with fail
          refine (cmp_calls x y _).mono ?_; rintro e w' ⟨rfl, rfl⟩
          go_wp2_with fail
          go_ret
          exact ⟨by first | (rw [hlc]; rfl) | rfl, 0, rfl⟩
      · obtain rfl : k = b.length := by omega
        have hge : (b.length : Int) ≤ (b.length : Int) := Int.le_refl _
        have hlc : labCmp a b = 1 := by
          rw [labCmp_drop htk hka (Nat.le_refl _), List.drop_length]
          rw [List.drop_eq_getElem_cons hlt]
          rfl
        clear hcell
        go_wp2_with fail
        go_ret
        exact ⟨by first | (rw [hlc]; rfl) | rfl, 0, rfl⟩
    · obtain rfl : k = a.length := by omega
      have hdl : labCmp a b = labCmp [] (b.drop a.length) := by rw [labCmp_drop htk (Nat.le_refl _) hkb, List.drop_length]
      by_cases hlb : a.length < b.length
      · have hlc : labCmp a b = -1 := by rw [hdl, List.drop_eq_getElem_cons hlb]; rfl
        clear hdl
        go_wp2_with fail
        go_ret
        exact ⟨by first | (rw [hlc]; rfl) | rfl, 0, rfl⟩
      · have hlc : labCmp a b = 0 := by rw [hdl, List.drop_eq_nil_of_le (by omega)]; rfl
        clear hdl
        have hnl : ¬ (a.length : Int) < (b.length : Int) := by omega
        go_wp2_with fail
        go_ret
        exact ⟨by first | (rw [hlc]; rfl) | rfl, 0, rfl⟩

set_option maxHeartbeats 400000 in
theorem seCompare_calls (E : Eh) (a b : Lab) (A B : Option Addr) (c d : Nat) (w : World) (hE : Et E w) (ha : Rd E 1 strC A a.length a) (hb : Rd E 1 strC B b.length b) :
    Calls Tryd.prog 17 #[.slice A a.length c, .slice B b.length d] w fun e w' => e = .returned (.int .i64 (labCmp a b)) ∧ ∃ q, w' = w.drewN q := by
  go_enter Tryd.func17, Tryd.ntmps17
  go_wp2_with fail
  refine (slicesCompare_calls E a b A B c d _ hE ha hb).mono ?_; rintro e w' ⟨rfl, q, rfl⟩
  go_wp2_with fail
  go_ret
  exact ⟨rfl, q, rfl⟩

set_option maxHeartbeats 1000000 in
set_option maxRecDepth 100000 in
/-- The document's Compare. -/
theorem refCompare_calls (E : Eh) (a b : Lab) (A B : Option Addr) (c d : Nat) (w : World) (hE : Et E w) (ha : Rd E 1 strC A a.length a) (hb : Rd E 1 strC B b.length b) :
    Calls Tryd.prog 16 #[.slice A a.length c, .slice B b.length d] w fun e w' => e = .returned (.int .i64 (labCmp a b)) ∧ ∃ q, w' = w.drewN q := by
  have hal := ha.2.1
  have hbl := hb.2.1
  go_enter Tryd.func16, Tryd.ntmps16
  go_wp2_with fail
  go_loopw [5] (fun i wr => ∃ k : Nat, k ≤ a.length ∧ k ≤ b.length ∧ i = .int .i64 k ∧ a.take k = b.take k ∧ ∃ q, wr = w.drewN q) (fun i _ => a.length - (intOf i).toNat)
  case atStart => exact ⟨0, by omega, by omega, rfl, rfl, 0, rfl⟩
  case round =>
    obtain ⟨k, hka, hkb, rfl, htk, q, rfl⟩ := hrel
    have hEq : Et E (w.drewN q) := hE.drewN q
    by_cases hlt : k < a.length
    · by_cases hlb : k < b.length
      · obtain ⟨g, off, x, rfl, hx, hcell⟩ := ha.at_ hlt
        obtain ⟨g', off', y, rfl, hy, hcell'⟩ := hb.at_ hlb
        have q0 := hcell 0 _ rfl _ hEq
        have z0 := hcell' 0 _ rfl _ hEq
        simp only [Nat.add_zero, Nat.mul_one] at q0 z0
        have hat := labCmp_at htk hx hy
        have hgt := gtr_eq x y
        clear hcell hcell'
        generalize hWq : w.drewN q = W at hEq q0 z0 ⊢
        have hW2 : ∃ q', W.drew = w.drewN q' := ⟨q + 1, by rw [← hWq]; rfl⟩
        have hW3 : ∃ q', W.drew.drew = w.drewN q' := ⟨q + 2, by rw [← hWq]; rfl⟩
        have q1 : W.drew.cell? ⟨g, off + k, none⟩ = some (.string x) := q0
        have z1 : W.drew.cell? ⟨g', off' + k, none⟩ = some (.string y) := z0
        clear hWq
        go_wp2_with fail
        go_region_held3 (fun w' => w'.cell? ⟨g, off + k, none⟩ = some (.string x) ∧ w'.cell? ⟨g', off' + k, none⟩ = some (.string y))
          (exact ⟨q0, z0⟩)
          (first | skip)
        clear q0 z0
        cases h1 : Op.bytesLess x.toList y.toList with
        | true =>
          have hlc : labCmp a b = -1 := by rw [hat, show sless x y = true from h1]; rfl
          clear hat
          go_wp2_with fail
          go_ret
          exact ⟨by first | (rw [hlc]; rfl) | rfl, hW2⟩
        | false =>
          go_wp2_with fail
          go_region_held3 (fun w' => w'.cell? ⟨g, off + k, none⟩ = some (.string x) ∧ w'.cell? ⟨g', off' + k, none⟩ = some (.string y))
            (exact ⟨q1, z1⟩)
            (first | skip)
          clear q1 z1
          cases h2 : (x.toList == y.toList) with
          | true =>
            have hsy : sless y x = false := by rw [← hgt, h1, h2]; rfl
            have e := sless_total (show sless x y = false from h1) hsy
            subst e
            clear hat hgt
            go_wp2_with fail
            exact ⟨⟨k + 1, by omega, by omega, by go_num, take_next htk hx hy, hW3⟩, by simp [intOf]; omega⟩
          | false =>
            have hsy : sless y x = true := by rw [← hgt, h1, h2]; rfl
            have hlc : labCmp a b = 1 := by rw [hat, show sless x y = false from h1, hsy]; rfl
            clear hat hgt
            go_wp2_with fail
            go_ret
            exact ⟨by first | (rw [hlc]; rfl) | rfl, hW3⟩
      · obtain rfl : k = b.length := by omega
        have hlc : labCmp a b = 1 := by
          rw [labCmp_drop htk hka (Nat.le_refl _), List.drop_length]
          rw [List.drop_eq_getElem_cons hlt]
          rfl
        have n1 : ¬ (a.length : Int) < (b.length : Int) := by omega
        go_wp2_with fail
        go_ret
        exact ⟨by first | (rw [hlc]; rfl) | rfl, q, rfl⟩
    · obtain rfl : k = a.length := by omega
      have hdl : labCmp a b = labCmp [] (b.drop a.length) := by rw [labCmp_drop htk (Nat.le_refl _) hkb, List.drop_length]
      by_cases hlb : a.length < b.length
      · have hlc : labCmp a b = -1 := by rw [hdl, List.drop_eq_getElem_cons hlb]; rfl
        clear hdl
        go_wp2_with fail
        go_ret
        exact ⟨by first | (rw [hlc]; rfl) | rfl, q, rfl⟩
      · have hlc : labCmp a b = 0 := by rw [hdl, List.drop_eq_nil_of_le (by omega)]; rfl
        clear hdl
        have hnl : ¬ (a.length : Int) < (b.length : Int) := by omega
        have hnl' : ¬ (b.length : Int) < (a.length : Int) := by omega
        go_wp2_with fail
        go_ret
        exact ⟨by first | (rw [hlc]; rfl) | rfl, q, rfl⟩

set_option maxHeartbeats 400000 in
theorem refSame_calls (E : Eh) (a b : Lab) (A B : Option Addr) (c d : Nat) (w : World) (hE : Et E w) (ha : Rd E 1 strC A a.length a) (hb : Rd E 1 strC B b.length b) :
    Calls Tryd.prog 14 #[.slice A a.length c, .slice B b.length d] w fun e w' => e = .returned (.bool (decide (a = b))) ∧ ∃ q, w' = w.drewN q := by
  have hz : (labCmp a b == 0) = decide (a = b) := by rw [Bool.eq_iff_iff, beq_iff_eq, decide_eq_true_iff]; exact labCmp_zero a b
  go_enter Tryd.func14, Tryd.ntmps14
  go_wp2_with fail
  refine (refCompare_calls E a b A B c d _ hE ha hb).mono ?_; rintro e w' ⟨rfl, q, rfl⟩
  go_wp2_with fail
  go_ret
  exact ⟨by first | rfl | (rw [← hz]; rfl), q, rfl⟩
end Go.Proofs.YtdnglhcconnocaaDoor
