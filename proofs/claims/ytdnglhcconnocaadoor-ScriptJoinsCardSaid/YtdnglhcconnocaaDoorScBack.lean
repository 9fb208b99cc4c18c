/- What is told of steps is read as those steps; a line with something else behind its word is not read. Plain functions alone. No condition. -/
import Derived.Test.YtdnglhcconnocaaDoorScLaw
namespace Go.Proofs.YtdnglhcconnocaaDoor

theorem words_no {c : UInt8} : ∀ {l : List UInt8}, c ∉ l → wordsF c l = [l]
  | [], _ => rfl
  | a :: r, h => by
    have h1 : a ≠ c := fun e => h (by simp [e])
    have ih := words_no (c := c) (l := r) (fun e => h (by simp [e]))
    unfold wordsF
    rw [if_neg h1, ih]
theorem words_cons {c : UInt8} : ∀ {l : List UInt8} (r : List UInt8), c ∉ l → wordsF c (l ++ [c] ++ r) = l :: wordsF c r
  | [], r, _ => by simp [wordsF]
  | a :: l, r, h => by
    have h1 : a ≠ c := fun e => h (by simp [e])
    have ih := words_cons (c := c) (l := l) r (fun e => h (by simp [e]))
    have hc : (a :: l) ++ [c] ++ r = a :: (l ++ [c] ++ r) := rfl
    rw [hc]
    conv => lhs; unfold wordsF
    rw [if_neg h1, ih]
theorem lineCut_no : ∀ {l : List UInt8} (r : List UInt8), (10 : UInt8) ∉ l → lineCut (l ++ 10 :: r) = some (l, r)
  | [], r, _ => by simp [lineCut]
  | a :: l, r, h => by
    have h1 : a ≠ 10 := fun e => h (by simp [e])
    have ih := lineCut_no (l := l) r (fun e => h (by simp [e]))
    have hc : (a :: l) ++ 10 :: r = a :: (l ++ 10 :: r) := rfl
    rw [hc]
    unfold lineCut
    rw [if_neg h1, ih]
    rfl
theorem small_back_fin : ∀ n : Fin 100, smallF (Lib.itoa (n.val : Int)) = some (n.val : Int) ∧ (32 : UInt8) ∉ Lib.itoa (n.val : Int) ∧ (10 : UInt8) ∉ Lib.itoa (n.val : Int) := by decide +kernel
theorem small_back {n : Int} (h0 : 0 ≤ n) (h1 : n < 100) : smallF (Lib.itoa n) = some n ∧ (32 : UInt8) ∉ Lib.itoa n ∧ (10 : UInt8) ∉ Lib.itoa n := by
  have := small_back_fin ⟨n.toNat, by omega⟩
  simpa [Int.toNat_of_nonneg h0] using this
theorem nib_back_fin : ∀ n : Fin 16, nib (u8 (digitF (n.val : Int))) = some (n.val : Int) ∧ u8 (digitF (n.val : Int)) ≠ 32 ∧ u8 (digitF (n.val : Int)) ≠ 10 := by decide +kernel
theorem nib_back {n : Int} (h0 : 0 ≤ n) (h1 : n < 16) : nib (u8 (digitF n)) = some n ∧ u8 (digitF n) ≠ 32 ∧ u8 (digitF n) ≠ 10 := by
  have := nib_back_fin ⟨n.toNat, by omega⟩
  simpa [Int.toNat_of_nonneg h0] using this
theorem hex_back : ∀ (b : List Int), isBytes b → ∃ ns, nibs (hexL b) = some ns ∧ pairUp ns = b
  | [], _ => ⟨[], rfl, rfl⟩
  | x :: b, h => by
    obtain ⟨ns, h1, h2⟩ := hex_back b (fun y hy => h y (by simp [hy]))
    have hx := h x (by simp)
    have n1 := (nib_back (n := x / 16) (by omega) (by omega)).1
    have n2 := (nib_back (n := x % 16) (by omega) (by omega)).1
    refine ⟨(x / 16) :: (x % 16) :: ns, ?_, ?_⟩
    · have hh : hexL (x :: b) = u8 (digitF (x / 16)) :: u8 (digitF (x % 16)) :: hexL b := rfl
      rw [hh]
      simp only [nibs, n1, n2, h1, Option.map_some]
    · simp only [pairUp]
      rw [h2, show 16 * (x / 16) + x % 16 = x from by omega]
theorem hex_no : ∀ (b : List Int), isBytes b → (32 : UInt8) ∉ hexF b ∧ (10 : UInt8) ∉ hexF b := by
  have hL : ∀ (b : List Int), isBytes b → (32 : UInt8) ∉ hexL b ∧ (10 : UInt8) ∉ hexL b := by
    intro b
    induction b with
    | nil => intro _; simp [hexL]
    | cons x b ih =>
      intro h
      have ih := ih (fun y hy => h y (by simp [hy]))
      have hx := h x (by simp)
      have n1 := (nib_back (n := x / 16) (by omega) (by omega)).2
      have n2 := (nib_back (n := x % 16) (by omega) (by omega)).2
      have hh : hexL (x :: b) = u8 (digitF (x / 16)) :: u8 (digitF (x % 16)) :: hexL b := rfl
      rw [hh]
      simp only [List.mem_cons, not_or]
      exact ⟨⟨fun e => n1.1 e.symm, fun e => n2.1 e.symm, ih.1⟩, ⟨fun e => n1.2 e.symm, fun e => n2.2 e.symm, ih.2⟩⟩
  intro b h
  unfold hexF
  split
  · decide
  · exact hL b h
theorem bytes_back (b : List Int) (h : isBytes b) : bytesF (hexF b) = some b := by
  by_cases h0 : b = []
  · subst h0; decide
  · obtain ⟨ns, h1, h2⟩ := hex_back b h
    have hl := hexL_len b
    have hp : 0 < b.length := List.length_pos_iff.2 h0
    unfold hexF
    rw [if_neg h0]
    unfold bytesF
    rw [if_neg (fun e => by rw [e] at hl; simp only [List.length_cons, List.length_nil] at hl; omega), h1]
    simp only []
    rw [if_pos (by omega), h2]
/-- A step that may be, with bytes. -/
def okStp (s : Stp) : Prop := checkF s = 0 ∧ isBytes s.b
theorem line_no {s : Stp} (h : okStp s) : (10 : UInt8) ∉ lineF s := by
  obtain ⟨hc, hb⟩ := h
  have hbd : 0 ≤ s.source ∧ s.source ≤ 15 ∧ 0 ≤ s.shard ∧ s.shard ≤ 63 := by
    unfold checkF at hc
    repeat' split at hc
    all_goals omega
  have n1 := (small_back hbd.1 (by omega)).2.2
  have n2 := (small_back hbd.2.2.1 (by omega)).2.2
  have n3 := (hex_no s.b hb).2
  unfold lineF
  split
  · simp only [List.mem_append, not_or]
    exact ⟨⟨⟨⟨by decide, by decide⟩, n1⟩, by decide⟩, n3⟩
  · split
    · decide
    · split
      · simp only [List.mem_append, not_or]
        exact ⟨⟨by decide, by decide⟩, n2⟩
      · split <;> decide
theorem line_back {s : Stp} (h : okStp s) : stepF (lineF s) = some s := by
  obtain ⟨hc, hb⟩ := h
  obtain ⟨k, so, sh, b⟩ := s
  have hbd : 0 ≤ so ∧ so ≤ 15 ∧ 0 ≤ sh ∧ sh ≤ 63 ∧ 0 ≤ k ∧ k ≤ 4 ∧ (k ≠ 0 → so = 0 ∧ b.length = 0) ∧ (k ≠ 2 → sh = 0) := by
    unfold checkF at hc
    simp only [] at hc
    repeat' split at hc
    all_goals omega
  obtain ⟨s0, s1, h0, h1, k0, k1, hz, hzs⟩ := hbd
  simp only [] at hb
  by_cases e0 : k = 0
  · subst e0
    have hs0 := hzs (by decide)
    subst hs0
    have n1 := small_back s0 (by omega)
    have n3 := hex_no b hb
    have hf : lineF ⟨0, so, 0, b⟩ = sDeliver ++ [32] ++ (Lib.itoa so ++ [32] ++ hexF b) := by simp [lineF]
    have hw : wordsF 32 (lineF ⟨0, so, 0, b⟩) = [sDeliver, Lib.itoa so, hexF b] := by
      rw [hf, words_cons _ (by decide), words_cons _ n1.2.1, words_no n3.1]
    unfold stepF wd
    rw [hw]
    simp only [List.getD_cons_zero, List.getD_cons_succ, List.length_cons, List.length_nil, n1.1, bytes_back b hb]
    rw [if_pos (by simp)]
  · obtain ⟨hso, hbl⟩ := hz e0
    subst hso
    have hb0 := List.eq_nil_of_length_eq_zero hbl
    subst hb0
    by_cases e2 : k = 2
    · subst e2
      have n1 := small_back h0 (by omega)
      have hf : lineF ⟨2, 0, sh, []⟩ = sClose ++ [32] ++ Lib.itoa sh := by simp [lineF]
      have hw : wordsF 32 (lineF ⟨2, 0, sh, []⟩) = [sClose, Lib.itoa sh] := by
        rw [hf, words_cons _ (by decide), words_no n1.2.1]
      unfold stepF wd
      rw [hw]
      simp only [List.getD_cons_zero, List.getD_cons_succ, List.length_cons, List.length_nil, n1.1]
      rw [if_neg (by decide), if_pos (by simp)]
    · have := hzs e2
      subst this
      have h3 : k = 1 ∨ k = 3 ∨ k = 4 := by omega
      rcases h3 with rfl | rfl | rfl <;> decide
theorem text_back : ∀ (l : List Stp), (∀ s ∈ l, okStp s) → parseF (textF l) = some l
  | [], _ => rfl
  | s :: l, h => by
    have ih := text_back l (fun x hx => h x (by simp [hx]))
    have hs := h s (by simp)
    have ht : textF (s :: l) = lineF s ++ 10 :: textF l := by simp [textF]
    rw [ht, parseF_cons _ (by simp), lineCut_no _ (line_no hs)]
    simp only [line_back hs]
    rw [if_pos hs.1, ih]
    rfl
theorem textF_append (a b : List Stp) : textF (a ++ b) = textF a ++ textF b := by simp [textF]

/-! ### something else behind 'tick' -/
theorem words_head {c x : UInt8} (h : x ≠ c) (r : List UInt8) : ∃ t, (wordsF c (x :: r)).getD 0 [] = x :: t := by
  unfold wordsF
  rw [if_neg h]
  cases hw : wordsF c r with
  | nil => exact absurd hw (wordsF_ne c r)
  | cons w ws => exact ⟨w, rfl⟩
theorem odd_step (a : UInt8) (r : List UInt8) : stepF (sTick ++ a :: r) = none := by
  have hc : sTick ++ a :: r = 116 :: 105 :: 99 :: 107 :: a :: r := rfl
  obtain ⟨t, ht⟩ := words_head (c := 32) (x := 116) (by decide) (105 :: 99 :: 107 :: a :: r)
  have hw : wd (sTick ++ a :: r) 0 = 116 :: t := by unfold wd; rw [hc]; exact ht
  unfold stepF
  rw [hw, hc, if_neg (by simp [sDeliver]), if_neg (by simp [sClose]), if_neg (by simp [sTick]), if_neg (by simp [sFlush]), if_neg (by simp [sEnd])]
theorem odd_none {a : UInt8} (h : a ≠ 10) (r : List UInt8) : parseF (sTick ++ a :: r) = none := by
  rw [parseF_cons _ (by simp [sTick])]
  have hl : lineCut (sTick ++ a :: r) = (lineCut r).map fun p => (sTick ++ a :: p.1, p.2) := by
    have hc : sTick ++ a :: r = 116 :: 105 :: 99 :: 107 :: a :: r := rfl
    rw [hc]
    simp only [lineCut, if_neg h]
    cases lineCut r <;> simp [sTick]
  rw [hl]
  cases lineCut r with
  | none => rfl
  | some p => simp only [Option.map_some, odd_step]
theorem odd_tick : parseF (sTick ++ [] ++ [10]) = some [⟨1, 0, 0, []⟩] := by decide +kernel
end Go.Proofs.YtdnglhcconnocaaDoor
