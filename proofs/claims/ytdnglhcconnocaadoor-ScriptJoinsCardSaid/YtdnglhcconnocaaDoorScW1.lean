/- The calls of script's writing functions: what each returns. Conditions: memory that reads as the argument; lengths. -/
import Derived.Test.YtdnglhcconnocaaDoorBase
import Derived.Test.YtdnglhcconnocaaDoorScF
import Derived.Test.YtdnglhcconnocaaDoorBld
import Derived.Test.YtdnglhcconnocaaDoorShelf
namespace Go.Proofs.YtdnglhcconnocaaDoor
open Go.RowKit

abbrev byteC (x : Int) : List Value := [.int .u8 x]

set_option maxHeartbeats 400000 in
theorem digit_calls (n : Int) (w : World) (h0 : 0 ≤ n) (h1 : n < 16) :
    Calls Tryd.prog 65 #[.int .u8 n] w fun e w' => e = .returned (.int .u8 (digitF n)) ∧ w' = w := by
  by_cases h : n < 10
  · go_enter Tryd.func65, Tryd.ntmps65
    go_wp2
    go_ret
    exact ⟨ret_int (by simp [digitF, h]), rfl⟩
  · go_enter Tryd.func65, Tryd.ntmps65
    go_wp2
    go_ret
    exact ⟨ret_int (by unfold digitF; rw [if_neg (by omega)]; omega), rfl⟩

set_option maxHeartbeats 1000000 in
theorem hex_calls (E : Eh) (A : Option Addr) (n c : Nat) (bs : List Int) (w : World) (hE : Et E w) (h : Rd E 1 byteC A n bs) (hb : isBytes bs) (hn : n ≤ 1000000) :
    Calls Tryd.prog 48 #[.slice A n c] w fun e w' => e = .returned (.string ⟨(hexF bs).toArray⟩) ∧ Below w.heap.size w w' := by
  have hl : bs.length = n := h.1
  by_cases h0 : n = 0
  · subst h0
    obtain rfl := List.eq_nil_of_length_eq_zero hl
    go_enter Tryd.func48, Tryd.ntmps48
    go_wp2
    go_ret
    exact ⟨rfl, Below.refl _ _⟩
  · have hB : ∀ b o, E b = some o → b < w.heap.size := fun b o x => hE.lt x
    have hnz : ((n : Int) == 0) = false := by simp; omega
    have HF := Lib.hid (show hexF bs = hexL bs by unfold hexF; rw [if_neg (by intro x; subst x; exact h0 hl.symm)])
    go_enter Tryd.func48, Tryd.ntmps48
    go_wp2
    go_loopw [5, 11] (fun _ i wr => ∃ k : Nat, k ≤ n ∧ i = .int .i64 k ∧ IsB w.heap.size w.heap.size (Lib.byteCells (hexL (bs.take k))) wr ∧ Below w.heap.size w wr) (fun _ i _ => n - (intOf i).toNat)
    case atStart => exact ⟨0, by omega, rfl, Lib.fresh_isBuilder _ _ w, (Below.refl _ _).alloc (Nat.le_refl _) _⟩
    case round =>
      obtain ⟨k, hk, rfl, hbu, hbel⟩ := hrel
      by_cases hlt : k < n
      · obtain ⟨g, off, x, rfl, hx, hcell⟩ := h.at_ hlt
        have hEr : Et E wr := hE.belowB hbel hB
        have c0 := hcell 0 (.int .u8 x) rfl wr hEr
        simp only [Nat.mul_one, Nat.add_zero] at c0
        obtain ⟨hx0, hx1⟩ := hb x (List.mem_of_getElem? hx)
        have hlen := hexL_len (bs.take k)
        have htl : (bs.take k).length ≤ k := List.length_take_le _ _
        have hsz := hbel.size
        have HS := Lib.hid (show hexL (bs.take (k + 1)) = hexL (bs.take k) ++ [u8 (digitF (x / 16))] ++ [u8 (digitF (x % 16))] by
          rw [List.take_add_one, hx]; exact hexL_snoc _ _)
        obtain ⟨d0, d1⟩ := digitF_bd (n := x / 16) (by omega) (by omega)
        obtain ⟨d2, d3⟩ := digitF_bd (n := x % 16) (by omega) (by omega)
        generalize hexL (bs.take k) = hk' at *
        go_wp2_with fail
        refine (digit_calls _ _ (by omega) (by omega)).mono ?_; rintro e w' ⟨rfl, rfl⟩
        go_wp2_with fail
        refine (WriteByte_calls _ _ _ _ _ hbu (by rw [Lib.byteCells_length]; omega) (by omega)).mono ?_; rintro e w1 ⟨rfl, hb1, hbl1⟩
        go_wp2_with fail
        refine (digit_calls _ _ (by omega) (by omega)).mono ?_; rintro e w' ⟨rfl, rfl⟩
        go_wp2_with fail
        have hs1 := hbl1.size
        refine (WriteByte_calls _ _ _ _ _ hb1.is (by rw [List.length_append, Lib.byteCells_length]; simp; omega) (by omega)).mono ?_; rintro e w2 ⟨rfl, hb2, hbl2⟩
        go_wp2_with fail
        rw [byteCells_snoc _ _ d0 d1, byteCells_snoc _ _ d2 d3] at hb2
        exact ⟨⟨k + 1, by omega, by go_num, by rw [HS.out]; exact hb2.is, (hbel.trans hbl1).trans hbl2⟩, by simp [intOf]; omega⟩
      · obtain rfl : k = n := by omega
        have hsz := hbel.size
        rw [List.take_of_length_le (by omega)] at hbu
        go_wp2_with fail
        refine (Tryd.Builder_String_any _ _ _ _ hbu (by omega)).mono ?_; rintro e w1 ⟨rfl, hb1⟩
        go_wp2_with fail
        go_ret
        exact ⟨by rw [HF.out]; rfl, hbel.trans hb1⟩
/-- A step's cells; v: its bytes' slice. -/
abbrev stpC (s : Stp) (v : Value) : List Value := [.int .i64 s.kind, .int .i64 s.source, .int .i64 s.shard, v]

set_option maxHeartbeats 1000000 in
theorem check_calls (s : Stp) (A : Option Addr) (n c : Nat) (w : World) (hn : s.b.length = n) :
    Calls Tryd.prog 21 #[.agg #[.int .i64 s.kind, .int .i64 s.source, .int .i64 s.shard, .slice A n c]] w fun e w' => e = .returned (.int .i64 (checkF s)) ∧ Below w.heap.size w w' := by
  obtain ⟨k, so, sh, b⟩ := s
  simp only [] at hn ⊢
  go_enter Tryd.func21, Tryd.ntmps21
  go_wp2
  all_goals
    go_ret
    refine ⟨ret_int ?_, (Below.refl _ _).alloc (Nat.le_refl _) _⟩
    unfold checkF
    simp only [ne_eq, bne_iff_ne, bne_eq_false_iff_eq] at *
    repeat' split
    all_goals omega
end Go.Proofs.YtdnglhcconnocaaDoor
