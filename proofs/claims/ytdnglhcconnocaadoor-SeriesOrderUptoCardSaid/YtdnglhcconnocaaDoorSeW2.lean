/- The calls of the series' key and of the library's Clone of texts. Conditions: labels in memory that is not written; lengths; the library's table. -/
import Derived.Test.YtdnglhcconnocaaDoorGlob
import Derived.Test.YtdnglhcconnocaaDoorBld
import Derived.Test.YtdnglhcconnocaaDoorShelf
import Derived.Test.YtdnglhcconnocaaDoorScJ1
import Derived.Test.YtdnglhcconnocaaDoorSeW1
namespace Go.Proofs.YtdnglhcconnocaaDoor
open Go.RowKit

/-- The library's powers of ten, in memory that is not written. -/
def PowG (E : Eh) : Prop := ∀ W, Et E W → Lib.TabIs Tryd.prog W "internal/strconv.uint64pow10" .u64 Lib.pow10Tab
theorem PowG.up {E E' : Eh} (h : PowG E) (k : E.le E') : PowG E' := fun W hW => h W (hW.sub k)
theorem keyF_snoc (l : Lab) (s : ByteArray) : keyF (l ++ [s]) = keyF l ++ Lib.itoa (s.size : Int) ++ [58] ++ s.data.toList := by simp [keyF]
theorem keyF_append (a b : Lab) : keyF (a ++ b) = keyF a ++ keyF b := by simp [keyF]
theorem keyF_take_le (l : Lab) (k : Nat) : (keyF (l.take k)).length ≤ (keyF l).length := by
  have h := congrArg keyF (List.take_append_drop k l)
  rw [keyF_append] at h
  rw [← h, List.length_append]
  omega
theorem strCells_mk2 (l : List UInt8) : Lib.strCells ⟨l.toArray⟩ = Lib.byteCells l := rfl
theorem strCells_data (s : ByteArray) : Lib.strCells s = Lib.byteCells s.data.toList := rfl
theorem byteCells_app (a b : List UInt8) : Lib.byteCells a ++ Lib.byteCells b = Lib.byteCells (a ++ b) := by simp [Lib.byteCells]
theorem byteCells_58 (a : List UInt8) : Lib.byteCells a ++ [.int .u8 58] = Lib.byteCells (a ++ [58]) := by simp [Lib.byteCells]

set_option maxHeartbeats 1000000 in
set_option maxRecDepth 100000 in
theorem key_calls (E : Eh) (x : Lab) (A : Option Addr) (n c : Nat) (w : World) (hE : Et E w) (hP : PowG E) (hn : n = x.length) (ha : Rd E 1 strC A n x) (hl : (keyF x).length ≤ 140737488355328) (hs : ∀ s ∈ x, s.size ≤ 9223372036854775807) :
    Calls Tryd.prog 27 #[.slice A n c] w fun e w' => e = .returned (.string ⟨(keyF x).toArray⟩) ∧ Below w.heap.size w w' := by
  subst hn
  have hB : ∀ b o, E b = some o → b < w.heap.size := fun b o x => hE.lt x
  have hal := ha.2.1
  have HL := Lib.hid hl
  clear hl
  go_enter Tryd.func27, Tryd.ntmps27
  go_wp2_with fail
  go_loopw [8] (fun i wr => ∃ k : Nat, k ≤ x.length ∧ i = .int .i64 k ∧ IsB w.heap.size w.heap.size (Lib.byteCells (keyF (x.take k))) wr ∧ Below w.heap.size w wr) (fun i _ => x.length - (intOf i).toNat)
  case atStart => exact ⟨0, by omega, rfl, Lib.fresh_isBuilder _ _ w, (Below.refl _ _).alloc (Nat.le_refl _) _⟩
  case round =>
    obtain ⟨k, hk, rfl, hbu, hbel⟩ := hrel
    have hEr : Et E wr := hE.belowB hbel hB
    have hsz := hbel.size
    by_cases hlt : k < x.length
    · obtain ⟨g, off, s, rfl, hp, hcell⟩ := ha.at_ hlt
      have hmem := List.mem_of_getElem? hp
      have hss := hs s hmem
      have q0 := hcell 0 _ rfl wr hEr
      simp only [Nat.add_zero, Nat.mul_one] at q0
      have HS := Lib.hid (show keyF (x.take (k + 1)) = keyF (x.take k) ++ Lib.itoa (s.size : Int) ++ [58] ++ s.data.toList by
        rw [List.take_add_one, hp]
        exact keyF_snoc _ _)
      have hle := keyF_take_le x (k + 1)
      rw [HS.out] at hle
      simp only [List.length_append, List.length_cons, List.length_nil] at hle
      have hle2 := Nat.le_trans hle HL.out
      have hzs : s.data.toList.length = s.size := rfl
      generalize keyF (x.take k) = tx at *
      clear hcell hp hmem hle
      go_wp2_with fail
      refine (Tryd.strconv_Itoa (s.size : Int) (by omega) (by omega) _ (hP _ hEr)).mono ?_; rintro e w1 ⟨rfl, hw1⟩
      have hw1b := below_grows hw1
      have hbu1 := isB_step hbu hw1b
      have hbl1 := hbel.trans (hw1b.mono hbel.size)
      have hz1 := hbl1.size
      clear hw1 hw1b hbu
      go_wp2_with fail
      refine (WriteString_calls _ _ _ _ _ hbu1 (by rw [Lib.byteCells_length]; have : (⟨(Lib.itoa (s.size : Int)).toArray⟩ : ByteArray).size = (Lib.itoa (s.size : Int)).length := rfl; omega) hz1).mono ?_; rintro e w3 ⟨rfl, hbu3, hw3⟩
      rw [strCells_mk2, byteCells_app] at hbu3
      have hbl3 := hbl1.trans hw3
      have hz3 := hbl3.size
      clear hbu1 hw3
      go_wp2_with fail
      refine (WriteByte_calls _ _ _ _ _ hbu3.is (by rw [Lib.byteCells_length, List.length_append]; omega) hz3).mono ?_; rintro e w4 ⟨rfl, hbu4, hw4⟩
      rw [byteCells_58] at hbu4
      have hbl4 := hbl3.trans hw4
      have hz4 := hbl4.size
      clear hbu3 hw4
      go_wp2_with fail
      refine (WriteString_calls _ _ _ _ _ hbu4.is (by rw [Lib.byteCells_length, List.length_append, List.length_append]; simp only [List.length_cons, List.length_nil]; omega) hz4).mono ?_; rintro e w5 ⟨rfl, hbu5, hw5⟩
      rw [strCells_data, byteCells_app] at hbu5
      have hbl5 := hbl4.trans hw5
      clear hbu4 hw5
      go_wp2_with fail
      exact ⟨⟨k + 1, by omega, by go_num, by rw [HS.out]; exact hbu5.is, hbl5⟩, by simp [intOf]; omega⟩
    · obtain rfl : k = x.length := by omega
      rw [List.take_of_length_le (by omega)] at hbu
      go_wp2_with fail
      refine (Tryd.Builder_String_any _ _ _ _ hbu hsz).mono ?_; rintro e w1 ⟨rfl, hb1⟩
      go_wp2_with fail
      go_ret
      exact ⟨rfl, hbel.trans hb1⟩

theorem flat_str : ∀ x : Lab, x.flatMap strC = x.map Value.string
  | [] => rfl
  | a :: x => by rw [List.flatMap_cons, flat_str x, List.map_cons]; rfl
/-- slices.Clone of texts: a row of the call's own, that is not written any more. -/
theorem clone_calls (E : Eh) (x : Lab) (A : Option Addr) (n c : Nat) (w : World) (hE : Et E w) (hn : n = x.length) (ha : Rd E 1 strC A n x) (hl : n ≤ 1000000) :
    Calls Tryd.prog 28 #[.slice A n c] w fun e w' => ∃ v E', e = .returned v ∧ Ext E w E' w' ∧ HdrS E' x v ∧ ∀ b, E b = none → b < w.heap.size → E' b = none := by
  have key : ∀ v' w', w'.ownsRow w.heap.size 9 1 v' n (x.map Value.string) → Below w.heap.size w w' → ∃ v E', Ending.returned v' = .returned v ∧ Ext E w E' w' ∧ HdrS E' x v ∧ ∀ b, E b = none → b < w.heap.size → E' b = none := by
    intro v' w' ho hb
    have hf : x.flatMap strC = x.map Value.string := flat_str x
    have ho' : Own w' w.heap.size 9 1 strC v' x := by unfold Own; rw [hf, ← hn]; exact ho
    have hlt := ho'.lt
    obtain ⟨E2, A2, c2, x2, _, rfl, hrd, hfr, hnew⟩ := Own.freeze (k := 1) (cs := strC) (fun _ => rfl) ho' (Ext.of_below hE hb) (Nat.le_refl _) (fun g hg => hE.out (hlt g hg).1)
    have hz2 : A2 = none → c2 = 0 := fun h => by
      subst h
      rcases ho'.2 with ⟨h1, _⟩ | ⟨_, _, _, h1, _⟩
      · injection h1
      · cases h1
    exact ⟨_, E2, rfl, x2, ⟨A2, c2, rfl, hrd, hz2⟩, fun b h1 h2 => hfr b h1 (fun e => by have := (hlt b e).1; omega)⟩
  cases A with
  | none =>
    have h0 : n = 0 := by
      rcases Nat.eq_zero_or_pos n with h0 | h0
      · exact h0
      · obtain ⟨g, off, ha'⟩ := ha.nonempty h0
        cases ha'
    refine (Tryd.slices_Clone_string_nil n c w).mono ?_; rintro e w' ⟨rfl, rfl⟩
    have hx : x = [] := List.eq_nil_of_length_eq_zero (hn.symm.trans h0)
    subst hx
    exact ⟨_, E, rfl, Ext.refl hE, ⟨none, 0, rfl, Rd.nil, fun _ => rfl⟩, fun b h _ => h⟩
  | some ad =>
    by_cases h0 : n = 0
    · subst h0
      have hx : x = [] := List.eq_nil_of_length_eq_zero hn.symm
      subst hx
      refine (Tryd.slices_Clone_string_zero ad c w).mono ?_; rintro e w' ⟨v', rfl, ho, _, hb⟩
      exact key v' w' ho hb
    · obtain ⟨g, off, ha', hc⟩ := ha.2.2 (by omega)
      injection ha' with ha'
      subst ha'
      refine (Tryd.slices_Clone_string g off n c x w (by omega) (by omega) (fun j hj => ?_)).mono ?_
      · have := hE.cell (hc j x[j] 0 _ (List.getElem?_eq_getElem hj) rfl)
        simp only [Nat.mul_one, Nat.add_zero] at this
        rw [this, List.getD_eq_getElem?_getD, List.getElem?_eq_getElem hj]
        rfl
      · rintro e w' ⟨v', rfl, ho, _, hb⟩
        rw [List.take_of_length_le (by omega)] at ho
        exact key v' w' ho hb
end Go.Proofs.YtdnglhcconnocaaDoor
