/- The calls of script's line and Print: what each returns. Conditions: the library's variables; lengths. -/
import Derived.Test.YtdnglhcconnocaaDoorScW4
import Derived.Test.YtdnglhcconnocaaDoorScLaw
import Derived.Deep.RegionHeld3
namespace Go.Proofs.YtdnglhcconnocaaDoor
open Go.RowKit

theorem ba_append (a b : List UInt8) : (⟨a.toArray⟩ : ByteArray) ++ ⟨b.toArray⟩ = ⟨(a ++ b).toArray⟩ := by
  apply ByteArray.ext
  simp
theorem itoa_small_fin : ∀ n : Fin 100, (Lib.itoa (n.val : Int)).length ≤ 2 := by decide +kernel
theorem itoa_small {n : Int} (h0 : 0 ≤ n) (h1 : n < 100) : (Lib.itoa n).length ≤ 2 := by
  have := itoa_small_fin ⟨n.toNat, by omega⟩
  simpa [Int.toNat_of_nonneg h0] using this

set_option maxHeartbeats 1000000 in
set_option maxRecDepth 100000 in
theorem line_calls (E : Eh) (s : Stp) (A : Option Addr) (c : Nat) (w : World) (hE : Et E w) (hG : Glob E) (hr : Rd E 1 byteC A s.b.length s.b) (hb : isBytes s.b) (hck : checkF s = 0) :
    Calls Tryd.prog 35 #[.agg #[.int .i64 s.kind, .int .i64 s.source, .int .i64 s.shard, .slice A s.b.length c]] w fun e w' => e = .returned (.string ⟨(lineF s).toArray⟩) ∧ Below w.heap.size w w' := by
  obtain ⟨k, so, sh, b⟩ := s
  simp only [] at hr hb ⊢
  have hbd : 0 ≤ k ∧ k ≤ 4 ∧ 0 ≤ so ∧ so ≤ 15 ∧ 0 ≤ sh ∧ sh ≤ 63 ∧ b.length ≤ 65536 := by
    unfold checkF at hck
    simp only [] at hck
    repeat' split at hck
    all_goals omega
  obtain ⟨k0, k4, so0, so1, sh0, sh1, hbl⟩ := hbd
  clear hck
  by_cases h0 : k = 0
  · subst h0
    go_enter Tryd.func35, Tryd.ntmps35
    go_wp2_with fail
    have hS : ∀ W o, Below w.heap.size w W → Below w.heap.size w (W.alloc o) := fun W o h => h.alloc h.size o
    generalize hw0 : w.alloc (.cells #[.int .i64 0, .int .i64 so, .int .i64 sh, .slice A b.length c] 50) = w0
    have hB0 : Blk w0 w.heap.size 50 #[.int .i64 0, .int .i64 so, .int .i64 sh, .slice A b.length c] := by rw [← hw0]; exact Blk.new _ _ _
    have hb0 : Below w.heap.size w w0 := by rw [← hw0]; exact (Below.refl _ _).alloc (Nat.le_refl _) _
    clear hw0 hS
    have c1 := hB0.cell 1
    have c3 := hB0.cell 3
    simp only [List.getElem?_toArray, List.getElem?_cons_zero, List.getElem?_cons_succ] at c1 c3
    have hE0 : Et E w0 := hE.below hb0
    have hl1 : (Lib.itoa so).length ≤ 2 := itoa_small so0 (by omega)
    have hl2 : (hexF b).length ≤ 200000 := by
      unfold hexF
      split
      · simp
      · rw [hexL_len]; omega
    have n1 : ¬ 9223372036854775807 < 8 + (Lib.itoa so).length := by omega
    have n2 : ¬ 9223372036854775807 < 8 + (Lib.itoa so).length + 1 := by omega
    have n3 : ¬ 9223372036854775807 < 8 + (Lib.itoa so).length + 1 + (hexF b).length := by omega
    go_region_held3 (fun w' => w'.cell? ⟨w.heap.size, 1, none⟩ = some (.int .i64 so) ∧ w'.cell? ⟨w.heap.size, 3, none⟩ = some (.slice A b.length c)) (first | exact ⟨c1, c3⟩ | exact ⟨(hb1.cell (p := ⟨w.heap.size, 1, none⟩) hB0.lt).trans c1, (hb1.cell (p := ⟨w.heap.size, 3, none⟩) hB0.lt).trans c3⟩ | exact ⟨((hb1.trans (hb2.mono hb1.size)).cell (p := ⟨w.heap.size, 1, none⟩) hB0.lt).trans c1, ((hb1.trans (hb2.mono hb1.size)).cell (p := ⟨w.heap.size, 3, none⟩) hB0.lt).trans c3⟩)
      (first
        | (go_at_call 39; refine (Tryd.strconv_Itoa so (by omega) (by omega) _ (hG.pow _ hE0.drew)).mono ?_; rintro e w1 ⟨rfl, hw1⟩; have hb1 := below_grows hw1; clear hw1)
        | (go_at_call 48; refine (hex_calls E A b.length c b _ (hE0.drew.below hb1) hr hb (by omega)).mono ?_; rintro e w2 ⟨rfl, hb2⟩))
    go_wp2
    go_ret
    refine ⟨?_, hb0.drew.trans ((hb1.trans (hb2.mono hb1.size)).mono hb0.size)⟩
    have hf : lineF ⟨0, so, sh, b⟩ = sDeliver ++ [32] ++ Lib.itoa so ++ [32] ++ hexF b := by simp [lineF]
    rw [hf, ← ba_append, ← ba_append, ← ba_append]
    rfl
  · have e0 : (k == 0) = false := by rw [beq_eq_false_iff_ne]; exact h0
    by_cases h1 : k = 1
    · subst h1
      go_enter Tryd.func35, Tryd.ntmps35
      go_wp2
      go_ret
      exact ⟨by simp [lineF]; rfl, (Below.refl _ _).alloc (Nat.le_refl _) _⟩
    · have e1 : (k == 1) = false := by rw [beq_eq_false_iff_ne]; exact h1
      by_cases h2 : k = 2
      · subst h2
        have hf : lineF ⟨2, so, sh, b⟩ = sClose ++ [32] ++ Lib.itoa sh := by simp [lineF]
        have HF := Lib.hid hf
        clear hf
        have hl1 : (Lib.itoa sh).length ≤ 2 := itoa_small sh0 (by omega)
        have n1 : ¬ 9223372036854775807 < 6 + (Lib.itoa sh).length := by omega
        go_enter Tryd.func35, Tryd.ntmps35
        go_wp2_with fail
        refine (Tryd.strconv_Itoa sh (by omega) (by omega) _ (hG.pow _ (hE.alloc _))).mono ?_; rintro e w1 ⟨rfl, hw1⟩
        have hb1 := below_grows hw1
        clear hw1
        go_wp2
        go_ret
        refine ⟨?_, ((Below.refl _ _).alloc (Nat.le_refl _) _).trans (hb1.mono (by simp))⟩
        rw [HF.out, ← ba_append]
        rfl
      · have e2 : (k == 2) = false := by rw [beq_eq_false_iff_ne]; exact h2
        by_cases h3 : k = 3
        · subst h3
          go_enter Tryd.func35, Tryd.ntmps35
          go_wp2
          go_ret
          exact ⟨by simp [lineF]; rfl, (Below.refl _ _).alloc (Nat.le_refl _) _⟩
        · have e3 : (k == 3) = false := by rw [beq_eq_false_iff_ne]; exact h3
          have hf : lineF ⟨k, so, sh, b⟩ = sEnd := by simp [lineF, h0, h1, h2, h3]
          have HF := Lib.hid hf
          clear hf
          go_enter Tryd.func35, Tryd.ntmps35
          go_wp2
          go_ret
          exact ⟨by rw [HF.out]; rfl, (Below.refl _ _).alloc (Nat.le_refl _) _⟩

theorem textF_snoc (l : List Stp) (s : Stp) : textF (l ++ [s]) = textF l ++ lineF s ++ [10] := by simp [textF]
theorem lineF_len {s : Stp} (h : checkF s = 0) : (lineF s).length ≤ 200000 := by
  have hbd : 0 ≤ s.source ∧ s.source ≤ 15 ∧ 0 ≤ s.shard ∧ s.shard ≤ 63 ∧ s.b.length ≤ 65536 := by
    unfold checkF at h
    repeat' split at h
    all_goals omega
  have h1 := itoa_small hbd.1 (by omega)
  have h2 := itoa_small hbd.2.2.1 (by omega)
  have h3 : (hexF s.b).length ≤ 131073 := by
    unfold hexF
    split
    · simp
    · rw [hexL_len]; omega
  unfold lineF
  repeat' split
  all_goals simp only [List.length_append, List.length_cons, List.length_nil, sDeliver, sTick, sClose, sFlush, sEnd]
  all_goals omega
theorem textF_len : ∀ (l : List Stp), (∀ s ∈ l, checkF s = 0) → (textF l).length ≤ 200001 * l.length
  | [], _ => by simp [textF]
  | a :: l, h => by
    have ih := textF_len l (fun s hs => h s (by simp [hs]))
    have h1 := lineF_len (h a (by simp))
    simp only [textF, List.flatMap_cons, List.length_append, List.length_cons, List.length_nil] at ih ⊢
    omega
theorem strCells_mk (l : List UInt8) : Lib.strCells ⟨l.toArray⟩ = Lib.byteCells l := rfl

set_option maxHeartbeats 1000000 in
set_option maxRecDepth 100000 in
theorem print_calls (E : Eh) (l : List Stp) (A : Option Addr) (n c : Nat) (w : World) (hE : Et E w) (hG : Glob E) (hr : Steps E A n l) (hck : ∀ s ∈ l, checkF s = 0) (hn : n ≤ 100000) (hl : (textF l).length ≤ 4194304) :
    Calls Tryd.prog 20 #[.slice A n c] w fun e w' => e = .returned (.tuple #[.string ⟨(textF l).toArray⟩, .int .i64 0]) ∧ Below w.heap.size w w' := by
  obtain ⟨ps, rfl, hrd, hdr⟩ := hr
  have hpl : ps.length = n := hrd.1
  have hB : ∀ b o, E b = some o → b < w.heap.size := fun b o x => hE.lt x
  have HL := Lib.hid hl
  clear hl
  go_enter Tryd.func20, Tryd.ntmps20
  go_wp2
  go_loopw [10] (fun i wr => ∃ k : Nat, k ≤ n ∧ i = .int .i64 k ∧ IsB w.heap.size w.heap.size (Lib.byteCells (textF ((ps.take k).map (·.1)))) wr ∧ Below w.heap.size w wr) (fun i _ => n - (intOf i).toNat)
  case atStart => exact ⟨0, by omega, rfl, Lib.fresh_isBuilder _ _ w, (Below.refl _ _).alloc (Nat.le_refl _) _⟩
  case round =>
    obtain ⟨k, hk, rfl, hbu, hbel⟩ := hrel
    have hEr : Et E wr := hE.belowB hbel hB
    have hsz := hbel.size
    by_cases hlt : k < n
    · obtain ⟨g, off, p, rfl, hp, hcell⟩ := hrd.at_ hlt
      obtain ⟨s, v⟩ := p
      have hmem := List.mem_of_getElem? hp
      obtain ⟨A1, c1, hv, hb1, hbb⟩ := hdr _ hmem
      simp only [] at hv hb1 hbb
      subst hv
      have hcs := hck s (List.mem_map.2 ⟨_, hmem, rfl⟩)
      have q0 := hcell 0 _ rfl wr hEr
      have q1 := hcell 1 _ rfl wr hEr
      have q2 := hcell 2 _ rfl wr hEr
      have q3 := hcell 3 _ rfl wr hEr
      simp only [Nat.add_zero, ← Nat.add_assoc] at q0 q1 q2 q3
      have HS := Lib.hid (show textF ((ps.take (k + 1)).map (·.1)) = textF ((ps.take k).map (·.1)) ++ lineF s ++ [10] by
        rw [List.take_add_one, hp, List.map_append]
        exact textF_snoc _ _)
      have hlen := lineF_len hcs
      have htl := textF_len ((ps.take k).map (·.1)) (fun s hs => hck s (by
        obtain ⟨p, hp, rfl⟩ := List.mem_map.1 hs
        exact List.mem_map.2 ⟨p, List.mem_of_mem_take hp, rfl⟩))
      have htk : ((ps.take k).map (·.1)).length ≤ k := by rw [List.length_map]; exact List.length_take_le _ _
      generalize textF ((ps.take k).map (·.1)) = tx at *
      have HCS := Lib.hid hcs
      clear hcs hp hcell hmem
      go_wp2_with fail
      refine (check_calls s A1 s.b.length c1 _ rfl).mono ?_; rintro e w1 ⟨rfl, hw1⟩
      have hB1 := (Blk.new wr 50 #[.int .i64 s.kind, .int .i64 s.source, .int .i64 s.shard, .slice A1 s.b.length c1]).step hw1
      have hbl1 := (hbel.alloc hbel.size (.cells #[.int .i64 s.kind, .int .i64 s.source, .int .i64 s.shard, .slice A1 s.b.length c1] 50)).trans (hw1.mono (by simp; omega))
      have hbu1 := isB_step (isB_step hbu ((Below.refl _ _).alloc (Nat.le_refl _) _)) hw1
      rw [HCS.out]
      have hz1 := hw1.size
      clear hw1 hbu
      have b0 := hB1.cell 0
      have b1 := hB1.cell 1
      have b2 := hB1.cell 2
      have b3 := hB1.cell 3
      simp only [List.getElem?_toArray, List.getElem?_cons_zero, List.getElem?_cons_succ] at b0 b1 b2 b3
      go_wp2_with fail
      refine (line_calls E s A1 c1 _ (hE.belowB hbl1 hB) hG hb1 hbb HCS.out).mono ?_; rintro e w2 ⟨rfl, hw2⟩
      have hbu2 := isB_step hbu1 hw2
      have hbl2 := hbl1.trans (hw2.mono hbl1.size)
      have hz2 := hbl2.size
      clear hw2 hbu1 b0 b1 b2 b3
      go_wp2_with fail
      refine (WriteString_calls _ _ _ _ _ hbu2 (by rw [Lib.byteCells_length]; have : (⟨(lineF s).toArray⟩ : ByteArray).size = (lineF s).length := rfl; omega) hz2).mono ?_; rintro e w3 ⟨rfl, hbu3, hw3⟩
      rw [strCells_mk, show Lib.byteCells tx ++ Lib.byteCells (lineF s) = Lib.byteCells (tx ++ lineF s) by simp [Lib.byteCells]] at hbu3
      have hbl3 := hbl2.trans hw3
      have hz3 := hbl3.size
      clear hbu2 hw3
      go_wp2_with fail
      refine (WriteByte_calls _ _ _ _ _ hbu3.is (by rw [Lib.byteCells_length, List.length_append]; omega) hz3).mono ?_; rintro e w4 ⟨rfl, hbu4, hw4⟩
      rw [byteCells_snoc _ _ (by decide) (by decide)] at hbu4
      have hbl4 := hbl3.trans hw4
      clear hbu3 hw4
      go_wp2_with fail
      exact ⟨⟨k + 1, by omega, by go_num, by rw [HS.out]; exact hbu4.is, hbl4⟩, by simp [intOf]; omega⟩
    · obtain rfl : k = n := by omega
      rw [List.take_of_length_le (by omega)] at hbu
      have hlen : ¬ (4194304 : Int) < ((Lib.byteCells (textF (ps.map (·.1)))).length : Int) := by rw [Lib.byteCells_length]; have := HL.out; omega
      have hd : decide ((4194304 : Int) < ((Lib.byteCells (textF (ps.map (·.1)))).length : Int)) = false := decide_eq_false hlen
      go_wp2_with fail
      refine (Tryd.Builder_Len _ _ _ _ hbu).mono ?_; rintro e w' ⟨rfl, rfl⟩
      rw [Lib.byteCells_length]
      have hl2 : ¬ (4194304 : Int) < ((textF (ps.map (·.1))).length : Int) := by have := HL.out; omega
      go_wp2_with fail
      refine (Tryd.Builder_String_any _ _ _ _ hbu hsz).mono ?_; rintro e w1 ⟨rfl, hb1⟩
      go_wp2_with fail
      go_ret2
      exact ⟨rfl, hbel.trans hb1⟩
end Go.Proofs.YtdnglhcconnocaaDoor
