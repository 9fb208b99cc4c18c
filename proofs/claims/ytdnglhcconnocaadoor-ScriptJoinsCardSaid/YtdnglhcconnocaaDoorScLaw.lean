/- What is read of a text is told as that text; plain functions alone. No condition. -/
import Derived.Test.YtdnglhcconnocaaDoorScF2
namespace Go.Proofs.YtdnglhcconnocaaDoor

def lineF (s : Stp) : List UInt8 :=
  if s.kind = 0 then sDeliver ++ [32] ++ Lib.itoa s.source ++ [32] ++ hexF s.b
  else if s.kind = 1 then sTick
  else if s.kind = 2 then sClose ++ [32] ++ Lib.itoa s.shard
  else if s.kind = 3 then sFlush
  else sEnd
def textF (l : List Stp) : List UInt8 := l.flatMap fun s => lineF s ++ [10]

def joinF (c : UInt8) : List (List UInt8) → List UInt8
  | [] => []
  | [w] => w
  | w :: ws => w ++ [c] ++ joinF c ws
theorem join_words (c : UInt8) : ∀ l : List UInt8, joinF c (wordsF c l) = l
  | [] => rfl
  | a :: r => by
    have ih := join_words c r
    have hne := wordsF_ne c r
    unfold wordsF
    split
    · rename_i e
      subst e
      cases hw : wordsF a r with
      | nil => exact absurd hw hne
      | cons w ws =>
        rw [hw] at ih
        simp only [joinF]
        rw [ih]
        rfl
    · cases hw : wordsF c r with
      | nil => exact absurd hw hne
      | cons w ws =>
        rw [hw] at ih
        simp only []
        cases ws with
        | nil => simp only [joinF] at ih ⊢; rw [ih]
        | cons w2 ws => simp only [joinF, List.cons_append] at ih ⊢; rw [ih]
theorem small_itoa {l : List UInt8} {n : Int} (h : smallF l = some n) : Lib.itoa n = l := by
  unfold smallF at h
  split at h
  · split at h
    · rename_i e
      injection h with h
      rw [← h]
      exact e
    · cases h
  · cases h
theorem nib_digit_fin : ∀ c : Fin 256, ∀ x, nib (UInt8.ofNat c.val) = some x → u8 (digitF x) = UInt8.ofNat c.val := by
  have : ∀ c : Fin 256, (nib (UInt8.ofNat c.val)).map (fun x => u8 (digitF x)) = (nib (UInt8.ofNat c.val)).map (fun _ => UInt8.ofNat c.val) := by decide +kernel
  intro c x hx
  have h := this c
  rw [hx] at h
  exact Option.some.inj h
theorem nib_digit {c : UInt8} {x : Int} (h : nib c = some x) : u8 (digitF x) = c := by
  have e : UInt8.ofNat c.toNat = c := UInt8.ofNat_toNat
  have := nib_digit_fin ⟨c.toNat, c.toNat_lt⟩ x (by rw [e]; exact h)
  rw [e] at this
  exact this
theorem nib_rng {c : UInt8} {x : Int} (h : nib c = some x) : 0 ≤ x ∧ x < 16 := by
  unfold nib at h
  split at h
  · injection h; omega
  · split at h
    · injection h; omega
    · cases h
theorem hex_nibs : ∀ (l : List UInt8) (ns : List Int), nibs l = some ns → l.length % 2 = 0 → hexL (pairUp ns) = l
  | [], ns, h, _ => by simp only [nibs, Option.some.injEq] at h; subst h; rfl
  | [a], ns, _, h => by simp at h
  | a :: b :: r, ns, h, he => by
    unfold nibs at h
    cases hx : nib a with
    | none => rw [hx] at h; cases h
    | some x =>
      rw [hx] at h
      simp only [] at h
      obtain ⟨q, hq, rfl⟩ := Option.map_eq_some_iff.1 h
      unfold nibs at hq
      cases hy : nib b with
      | none => rw [hy] at hq; cases hq
      | some y =>
        rw [hy] at hq
        simp only [] at hq
        obtain ⟨q2, hq2, rfl⟩ := Option.map_eq_some_iff.1 hq
        have ih := hex_nibs r q2 hq2 (by simp only [List.length_cons] at he; omega)
        have bx := nib_rng hx
        have by_ := nib_rng hy
        simp only [pairUp, hexL, List.flatMap_cons] at ih ⊢
        rw [ih, show (16 * x + y) / 16 = x from by omega, show (16 * x + y) % 16 = y from by omega, nib_digit hx, nib_digit hy]
        rfl
theorem bytes_hex {l : List UInt8} {b : List Int} (h : bytesF l = some b) : hexF b = l := by
  unfold bytesF at h
  split at h
  · rename_i e
    injection h with h
    subst h
    rw [e]
    rfl
  · split at h
    · cases h
    · rename_i ns hns
      split at h
      · rename_i hc
        injection h with h
        have hx := hex_nibs l ns hns hc.1
        rw [h] at hx
        unfold hexF
        rw [if_neg, hx]
        intro e
        rw [e] at hx
        simp only [hexL, List.flatMap_nil] at hx
        have := congrArg List.length hx
        simp only [List.length_nil] at this
        omega
      · cases h
theorem words_three {l : List UInt8} (h : (wordsF 32 l).length = 3) : l = wd l 0 ++ [32] ++ (wd l 1 ++ [32] ++ wd l 2) := by
  have hj := join_words 32 l
  unfold wd
  match hw : wordsF 32 l, h with
  | [a, b, c], _ =>
    rw [hw] at hj
    simp only [joinF] at hj
    exact hj.symm
theorem words_two {l : List UInt8} (h : (wordsF 32 l).length = 2) : l = wd l 0 ++ [32] ++ wd l 1 := by
  have hj := join_words 32 l
  unfold wd
  match hw : wordsF 32 l, h with
  | [a, b], _ =>
    rw [hw] at hj
    simp only [joinF] at hj
    exact hj.symm
theorem step_line {l : List UInt8} {st : Stp} (h : stepF l = some st) : lineF st = l := by
  unfold stepF at h
  split at h
  · rename_i hc
    split at h
    · rename_i n b hn hb
      injection h with h
      subst h
      unfold lineF
      rw [if_pos rfl]
      simp only []
      rw [small_itoa hn, bytes_hex hb, ← hc.1]
      have := words_three hc.2
      simp only [List.append_assoc] at this ⊢
      exact this.symm
    · cases h
  · split at h
    · rename_i hc
      split at h
      · rename_i n hn
        injection h with h
        subst h
        have hf : lineF ⟨2, 0, n, []⟩ = sClose ++ [32] ++ Lib.itoa n := by simp [lineF]
        rw [hf, small_itoa hn, ← hc.1]
        exact (words_two hc.2).symm
      · cases h
    · split at h
      · rename_i e; injection h with h; subst h; rw [e]; rfl
      · split at h
        · rename_i e; injection h with h; subst h; rw [e]; rfl
        · split at h
          · rename_i e; injection h with h; subst h; rw [e]; rfl
          · cases h
theorem parse_text : ∀ (k : Nat) (l : List UInt8) (ss : List Stp), parseN k l = some ss → (∀ s ∈ ss, checkF s = 0) ∧ textF ss = l
  | k, [], ss, h => by
    have : parseN k [] = some [] := by cases k <;> rfl
    rw [this] at h
    injection h with h
    subst h
    exact ⟨(fun s hs => by cases hs), rfl⟩
  | 0, a :: r, ss, h => by cases h
  | k + 1, a :: r, ss, h => by
    unfold parseN at h
    cases hc : lineCut (a :: r) with
    | none => rw [hc] at h; cases h
    | some p =>
      rw [hc] at h
      simp only [] at h
      cases hst : stepF p.1 with
      | none => rw [hst] at h; cases h
      | some st =>
        rw [hst] at h
        simp only [] at h
        split at h
        · rename_i hck
          obtain ⟨q, hq, rfl⟩ := Option.map_eq_some_iff.1 h
          have ih := parse_text k p.2 q hq
          refine ⟨fun s hs => ?_, ?_⟩
          · rcases List.mem_cons.1 hs with rfl | hs
            · exact hck
            · exact ih.1 s hs
          · have hl := (lineCut_len _ p hc).2
            rw [hl]
            simp only [textF, List.flatMap_cons] at ih ⊢
            rw [ih.2, step_line hst]
            simp
        · cases h
theorem text_long (l : List Stp) : l.length ≤ (textF l).length := by
  induction l with
  | nil => simp [textF]
  | cons a l ih => simp only [textF, List.flatMap_cons, List.length_append, List.length_cons, List.length_nil] at ih ⊢; omega
end Go.Proofs.YtdnglhcconnocaaDoor
