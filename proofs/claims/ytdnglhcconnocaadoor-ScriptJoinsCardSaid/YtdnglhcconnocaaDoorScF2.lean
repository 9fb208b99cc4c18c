/- What the script's reading functions compute, as plain functions, and what the library's words come to there. No condition. -/
import Derived.Lib.CutLaws
import Derived.Lib.SplitLaws
import Derived.Lib.AtoiAll
import Derived.Lib.ItoaNum
import Derived.Test.YtdnglhcconnocaaDoorScF
namespace Go.Proofs.YtdnglhcconnocaaDoor

def smallF (l : List UInt8) : Option Int := match Lib.atoiAll l with
  | .ok v => if Lib.itoa v = l then some v else none
  | _ => none
def nib (c : UInt8) : Option Int := if 48 ≤ c.toNat ∧ c.toNat ≤ 57 then some ((c.toNat : Int) - 48) else if 97 ≤ c.toNat ∧ c.toNat ≤ 102 then some ((c.toNat : Int) - 87) else none
def nibs : List UInt8 → Option (List Int)
  | [] => some []
  | a :: r => match nib a with
    | none => none
    | some x => (nibs r).map (x :: ·)
def pairUp : List Int → List Int
  | a :: b :: r => (16 * a + b) :: pairUp r
  | _ => []
def bytesF (l : List UInt8) : Option (List Int) :=
  if l = [45] then some [] else match nibs l with
    | none => none
    | some ns => if l.length % 2 = 0 ∧ 0 < l.length then some (pairUp ns) else none
def wordsF (c : UInt8) : List UInt8 → List (List UInt8)
  | [] => [[]]
  | a :: r => if a = c then [] :: wordsF c r else match wordsF c r with
    | w :: ws => (a :: w) :: ws
    | [] => [[a]]
def lineCut : List UInt8 → Option (List UInt8 × List UInt8)
  | [] => none
  | a :: r => if a = 10 then some ([], r) else (lineCut r).map fun p => (a :: p.1, p.2)
def sDeliver : List UInt8 := [100, 101, 108, 105, 118, 101, 114]
def sClose : List UInt8 := [99, 108, 111, 115, 101]
def sTick : List UInt8 := [116, 105, 99, 107]
def sFlush : List UInt8 := [102, 108, 117, 115, 104]
def sEnd : List UInt8 := [101, 110, 100]
def wd (l : List UInt8) (i : Nat) : List UInt8 := (wordsF 32 l).getD i []
def stepF (l : List UInt8) : Option Stp :=
  if wd l 0 = sDeliver ∧ (wordsF 32 l).length = 3 then
    match smallF (wd l 1), bytesF (wd l 2) with
    | some n, some b => some ⟨0, n, 0, b⟩
    | _, _ => none
  else if wd l 0 = sClose ∧ (wordsF 32 l).length = 2 then
    match smallF (wd l 1) with
    | some n => some ⟨2, 0, n, []⟩
    | _ => none
  else if l = sTick then some ⟨1, 0, 0, []⟩
  else if l = sFlush then some ⟨3, 0, 0, []⟩
  else if l = sEnd then some ⟨4, 0, 0, []⟩
  else none
def parseN : Nat → List UInt8 → Option (List Stp)
  | _, [] => some []
  | 0, _ => none
  | k + 1, l => match lineCut l with
    | none => none
    | some p => match stepF p.1 with
      | none => none
      | some st => if checkF st = 0 then (parseN k p.2).map (st :: ·) else none
def parseF (l : List UInt8) : Option (List Stp) := parseN l.length l

theorem wordsF_ne (c : UInt8) (l : List UInt8) : wordsF c l ≠ [] := by
  cases l with
  | nil => simp [wordsF]
  | cons a r =>
    unfold wordsF
    split
    · simp
    · split <;> simp
theorem lineCut_len : ∀ (l : List UInt8) (p : List UInt8 × List UInt8), lineCut l = some p → p.2.length < l.length ∧ l = p.1 ++ 10 :: p.2
  | [], p, h => by simp [lineCut] at h
  | a :: r, p, h => by
    unfold lineCut at h
    split at h
    · rename_i e
      cases h
      subst e
      simp
    · obtain ⟨q, hq, rfl⟩ := Option.map_eq_some_iff.1 h
      have := lineCut_len r q hq
      simp only [List.length_cons]
      refine ⟨by omega, ?_⟩
      rw [this.2]
      rfl
/-- With more rounds the same is read. -/
theorem parseN_more : ∀ (k k' : Nat) (l : List UInt8), l.length ≤ k → l.length ≤ k' → parseN k l = parseN k' l
  | k, k', [], _, _ => by cases k <;> cases k' <;> rfl
  | 0, _, a :: r, h, _ => by simp at h
  | _, 0, a :: r, _, h => by simp at h
  | k + 1, k' + 1, a :: r, h, h' => by
    unfold parseN
    cases hc : lineCut (a :: r) with
    | none => rfl
    | some p =>
      have hl := lineCut_len _ p hc
      simp only []
      rw [parseN_more k k' p.2 (by omega) (by omega)]
theorem parseF_nil : parseF [] = some [] := rfl
theorem parseF_cons (l : List UInt8) (hl : l ≠ []) : parseF l = match lineCut l with
    | none => none
    | some p => match stepF p.1 with
      | none => none
      | some st => if checkF st = 0 then (parseF p.2).map (st :: ·) else none := by
  cases l with
  | nil => exact absurd rfl hl
  | cons a r =>
    show parseN (r.length + 1) (a :: r) = _
    unfold parseN
    cases hc : lineCut (a :: r) with
    | none => rfl
    | some p =>
      have h := lineCut_len _ p hc
      simp only []
      rw [parseN_more r.length p.2.length p.2 (by simp only [List.length_cons] at h; omega) (Nat.le_refl _)]
      rfl

/-! ### the library's Cut and Split -/
theorem index_line : ∀ l : List UInt8, match lineCut l with | none => Lib.index l [10] = -1 | some p => Lib.index l [10] = p.1.length
  | [] => by simp [lineCut, Lib.index]
  | a :: r => by
    have ih := index_line r
    unfold lineCut
    by_cases e : a = 10
    · subst e
      simp [Lib.index, List.isPrefixOf]
    · rw [if_neg e]
      have hp : ([10] : List UInt8).isPrefixOf (a :: r) = false := by simp [List.isPrefixOf]; exact fun h => e h.symm
      have hix : Lib.index (a :: r) [10] = if Lib.index r [10] == -1 then -1 else Lib.index r [10] + 1 := by rw [Lib.index, hp]; simp
      cases hc : lineCut r with
      | none =>
        rw [hc] at ih
        simp only [Option.map_none]
        rw [hix, ih]
        rfl
      | some p =>
        rw [hc] at ih
        simp only [Option.map_some] at ih ⊢
        rw [hix, ih, if_neg (by rw [beq_iff_eq]; omega)]
        simp
theorem cut_eq (l : List UInt8) : Lib.cut l [10] = match lineCut l with | some p => (p.1, p.2, true) | none => (l, [], false) := by
  have h := index_line l
  cases hc : lineCut l with
  | none =>
    rw [hc] at h
    simp only [] at h ⊢
    unfold Lib.cut
    rw [h, if_neg (by omega)]
  | some p =>
    rw [hc] at h
    simp only [] at h ⊢
    have hl := (lineCut_len l p hc).2
    unfold Lib.cut
    rw [h, if_pos (by omega)]
    rw [hl]
    simp
theorem index_one (c a : UInt8) (h : a ≠ c) (l : List UInt8) : Lib.index (a :: l) [c] = if Lib.index l [c] == -1 then -1 else Lib.index l [c] + 1 := by
  have hp : ([c] : List UInt8).isPrefixOf (a :: l) = false := by simp [List.isPrefixOf]; exact fun e => h e.symm
  rw [Lib.index, hp]
  simp
theorem split_eq (c : UInt8) : ∀ l : List UInt8, Lib.splitK [c] 0 (Lib.count l [c]) l = wordsF c l
  | [] => by rw [Lib.count_miss (by simp [Lib.index])]; rfl
  | a :: r => by
    have ih := split_eq c r
    by_cases e : a = c
    · subst e
      rw [Lib.count_cons_eq, Nat.add_comm]
      have hix : Lib.index (a :: r) [a] = 0 := by rw [Lib.index]; simp [List.isPrefixOf]
      simp only [Lib.splitK, hix, wordsF, if_true]
      simp [ih]
    · rw [Lib.count_cons_ne a c r e]
      simp only [wordsF, if_neg e]
      rw [← ih]
      by_cases hm : Lib.index r [c] = -1
      · rw [Lib.count_miss hm]
        rfl
      · have hge := Lib.index_ge r [c]
        obtain ⟨j, hj⟩ : ∃ j : Nat, Lib.index r [c] = j := ⟨(Lib.index r [c]).toNat, by omega⟩
        rw [Lib.count_hit (by simp) hj, Nat.add_comm]
        have h1 : Lib.index (a :: r) [c] = ((j + 1 : Nat) : Int) := by rw [index_one c a e, if_neg (by simpa using hm), hj]; simp
        have n1 : (Lib.index (a :: r) [c] == -1) = false := by rw [h1, beq_eq_false_iff_ne]; omega
        have n2 : (Lib.index r [c] == -1) = false := by rw [hj, beq_eq_false_iff_ne]; omega
        simp only [Lib.splitK]
        rw [n1, n2, h1, hj]
        simp
theorem splitB_eq (c : UInt8) (s : ByteArray) : (Lib.splitB ⟨#[c]⟩ 0 (Lib.countB s ⟨#[c]⟩) s).map (·.data.toList) = wordsF c s.data.toList := by
  rw [Lib.splitB_data, ← split_eq]
end Go.Proofs.YtdnglhcconnocaaDoor
