/- What the series' functions compute, as plain functions, and what they keep to: a key for each list of labels, an order of labels. No condition. -/
import Derived.Lib.ItoaMem
import Derived.Lib.ItoaNum
import Derived.Lib.UnsafeStr
import Derived.Sort.Walk0
import Derived.Sort.Statements
namespace Go.Proofs.YtdnglhcconnocaaDoor

/-- Labels, as texts. -/
abbrev Lab := List ByteArray
theorem baExt {a b : ByteArray} (h : a.data.toList = b.data.toList) : a = b := ByteArray.ext (Array.toList_inj.1 h)
def sless (a b : ByteArray) : Bool := Op.bytesLess a.toList b.toList
def labCmp : Lab → Lab → Int
  | [], [] => 0
  | [], _ :: _ => -1
  | _ :: _, [] => 1
  | a :: x, b :: y => if sless a b = true then -1 else if sless b a = true then 1 else labCmp x y

/-! ### texts in order -/
theorem bl_irrefl : ∀ l : List UInt8, Op.bytesLess l l = false
  | [] => rfl
  | a :: l => by simp [Op.bytesLess, bl_irrefl l]
theorem bl_trans : ∀ {x y z : List UInt8}, Op.bytesLess x y = true → Op.bytesLess y z = true → Op.bytesLess x z = true
  | _, _, [], _, h => by simp [Op.bytesLess] at h
  | [], _, _ :: _, _, _ => rfl
  | _ :: _, [], _ :: _, h, _ => by simp [Op.bytesLess] at h
  | a :: x, b :: y, c :: z, h1, h2 => by
    simp only [Op.bytesLess, Bool.or_eq_true, decide_eq_true_eq, Bool.and_eq_true, beq_iff_eq] at h1 h2 ⊢
    rcases h1 with h1 | ⟨rfl, h1⟩
    · rcases h2 with h2 | ⟨rfl, h2⟩
      · exact .inl (UInt8.lt_trans h1 h2)
      · exact .inl h1
    · rcases h2 with h2 | ⟨rfl, h2⟩
      · exact .inl h2
      · exact .inr ⟨rfl, bl_trans h1 h2⟩
theorem bl_total : ∀ {x y : List UInt8}, Op.bytesLess x y = false → Op.bytesLess y x = false → x = y
  | [], [], _, _ => rfl
  | [], _ :: _, h, _ => by simp [Op.bytesLess] at h
  | _ :: _, [], _, h => by simp [Op.bytesLess] at h
  | a :: x, b :: y, h1, h2 => by
    simp only [Op.bytesLess, Bool.or_eq_false_iff, decide_eq_false_iff_not, Bool.and_eq_false_iff, beq_eq_false_iff_ne] at h1 h2
    have e : a = b := UInt8.le_antisymm (UInt8.not_lt.1 h2.1) (UInt8.not_lt.1 h1.1)
    subst e
    rw [bl_total (h1.2.resolve_left (by simp)) (h2.2.resolve_left (by simp))]
theorem sless_irrefl (a : ByteArray) : sless a a = false := bl_irrefl _
theorem sless_trans {a b c : ByteArray} (h : sless a b = true) (k : sless b c = true) : sless a c = true := bl_trans h k
theorem sless_total {a b : ByteArray} (h : sless a b = false) (k : sless b a = false) : a = b := by
  have := bl_total h k
  rw [Lib.toList_data, Lib.toList_data] at this
  exact baExt this
theorem sless_asymm {a b : ByteArray} (h : sless a b = true) : sless b a = false := by
  cases k : sless b a with
  | false => rfl
  | true => have := sless_trans h k; rw [sless_irrefl] at this; cases this

/-! ### labels in order -/
theorem labCmp_refl : ∀ a : Lab, labCmp a a = 0
  | [] => rfl
  | a :: x => by simp [labCmp, sless_irrefl, labCmp_refl x]
theorem labCmp_eq : ∀ {a b : Lab}, labCmp a b = 0 → a = b
  | [], [], _ => rfl
  | [], _ :: _, h => by simp [labCmp] at h
  | _ :: _, [], h => by simp [labCmp] at h
  | a :: x, b :: y, h => by
    simp only [labCmp] at h
    split at h
    · cases h
    · split at h
      · cases h
      · rename_i h1 h2
        have e := sless_total (by simpa using h1) (by simpa using h2)
        subst e
        rw [labCmp_eq h]
theorem labCmp_zero (a b : Lab) : labCmp a b = 0 ↔ a = b := ⟨labCmp_eq, fun e => by rw [e]; exact labCmp_refl b⟩
theorem labCmp_neg : ∀ a b : Lab, labCmp b a = -labCmp a b
  | [], [] => rfl
  | [], _ :: _ => rfl
  | _ :: _, [] => rfl
  | a :: x, b :: y => by
    simp only [labCmp]
    cases h1 : sless a b with
    | true => rw [sless_asymm h1]; rfl
    | false =>
      cases h2 : sless b a with
      | true => rfl
      | false => simp only [Bool.false_eq_true, if_false]; exact labCmp_neg x y
theorem labCmp_rng : ∀ a b : Lab, labCmp a b = -1 ∨ labCmp a b = 0 ∨ labCmp a b = 1
  | [], [] => .inr (.inl rfl)
  | [], _ :: _ => .inl rfl
  | _ :: _, [] => .inr (.inr rfl)
  | a :: x, b :: y => by
    simp only [labCmp]
    split
    · exact .inl rfl
    · split
      · exact .inr (.inr rfl)
      · exact labCmp_rng x y
theorem labCmp_trans : ∀ {a b c : Lab}, labCmp a b ≤ 0 → labCmp b c ≤ 0 → labCmp a c ≤ 0
  | [], _, [], _, _ => by simp [labCmp]
  | [], _, _ :: _, _, _ => by simp [labCmp]
  | _ :: _, [], _, h, _ => by simp [labCmp] at h
  | _ :: _, _ :: _, [], _, h => by simp [labCmp] at h
  | a :: x, b :: y, c :: z, h1, h2 => by
    simp only [labCmp] at h1 h2 ⊢
    cases e1 : sless a b with
    | true =>
      cases e2 : sless b c with
      | true => rw [sless_trans e1 e2]; simp
      | false =>
        rw [e2] at h2
        cases e3 : sless c b with
        | true => rw [e3] at h2; simp at h2
        | false =>
          have := sless_total e2 e3
          subst this
          rw [e1]
          simp
    | false =>
      rw [e1] at h1
      cases e2 : sless b a with
      | true => rw [e2] at h1; simp at h1
      | false =>
        have := sless_total e1 e2
        subst this
        rw [e2] at h1
        simp only [Bool.false_eq_true, if_false] at h1
        cases e3 : sless a c with
        | true => simp
        | false =>
          rw [e3] at h2
          cases e4 : sless c a with
          | true => rw [e4] at h2; simp at h2
          | false =>
            rw [e4] at h2
            simp only [Bool.false_eq_true, if_false] at h2 ⊢
            exact labCmp_trans h1 h2
theorem labCmp_swo {α : Type} (f : α → Lab) : Sort.SWO (fun x y => decide (labCmp (f x) (f y) < 0)) where
  irrefl := fun x => by simp [labCmp_refl]
  trans := fun x y z h1 h2 => by
    simp only [decide_eq_true_eq] at h1 h2 ⊢
    have h3 := labCmp_trans (a := f x) (b := f y) (c := f z) (by omega) (by omega)
    have h4 : labCmp (f x) (f z) ≠ 0 := fun e => by
      have e := labCmp_eq e
      rw [← e] at h2
      have := labCmp_neg (f x) (f y)
      omega
    omega
  ntrans := fun x y z h1 h2 => by
    simp only [decide_eq_false_iff_not] at h1 h2 ⊢
    have n1 := labCmp_neg (f x) (f y)
    have n2 := labCmp_neg (f y) (f z)
    have n3 := labCmp_neg (f x) (f z)
    have h3 := labCmp_trans (a := f z) (b := f y) (c := f x) (by omega) (by omega)
    omega

/-! ### a key for each list of labels -/
def keyF (l : Lab) : List UInt8 := l.flatMap fun s => Lib.itoa (s.size : Int) ++ [58] ++ s.data.toList
def valF (l : List UInt8) : Nat := l.foldl (fun acc c => acc * 10 + (c.toNat - 48)) 0
theorem val_dec : ∀ u : Nat, valF (Lib.decDigits u) = u := by
  intro u
  induction u using Nat.strongRecOn with
  | ind u ih =>
    by_cases h : u < 10
    · rw [Lib.decDigits_one h]
      simp [valF, UInt8.toNat_ofNat']
      omega
    · rw [Lib.decDigits, dif_neg h]
      have := ih (u / 10) (by omega)
      simp only [valF, List.foldl_append, List.foldl_cons, List.foldl_nil] at this ⊢
      rw [this, UInt8.toNat_ofNat']
      omega
theorem dec_chars : ∀ u : Nat, ∀ c ∈ Lib.decDigits u, 48 ≤ c.toNat ∧ c.toNat ≤ 57 := by
  intro u
  induction u using Nat.strongRecOn with
  | ind u ih =>
    by_cases h : u < 10
    · rw [Lib.decDigits_one h]
      intro c hc
      simp only [List.mem_singleton] at hc
      subst hc
      rw [UInt8.toNat_ofNat']
      omega
    · rw [Lib.decDigits, dif_neg h]
      intro c hc
      rcases List.mem_append.1 hc with hc | hc
      · exact ih (u / 10) (by omega) c hc
      · simp only [List.mem_singleton] at hc
        subst hc
        rw [UInt8.toNat_ofNat']
        omega
theorem split58 : ∀ {a b r s : List UInt8}, (58 : UInt8) ∉ a → (58 : UInt8) ∉ b → a ++ 58 :: r = b ++ 58 :: s → a = b ∧ r = s
  | [], [], r, s, _, _, h => by simp at h; exact ⟨rfl, h⟩
  | [], c :: b, r, s, _, hb, h => by simp at h; exact absurd h.1.symm (fun e => hb (by simp [e]))
  | c :: a, [], r, s, ha, _, h => by simp at h; exact absurd h.1 (fun e => ha (by simp [e]))
  | c :: a, d :: b, r, s, ha, hb, h => by
    simp only [List.cons_append, List.cons.injEq] at h
    have := split58 (a := a) (b := b) (fun e => ha (by simp [e])) (fun e => hb (by simp [e])) h.2
    exact ⟨by rw [h.1, this.1], this.2⟩
theorem no58 (u : Nat) : (58 : UInt8) ∉ Lib.itoa (u : Int) := by
  rw [Lib.itoa_nonneg]
  intro h
  have := dec_chars u 58 h
  simp at this
theorem key_inj : ∀ {a b : Lab}, keyF a = keyF b → a = b
  | [], [], _ => rfl
  | [], y :: b, h => by
    have := congrArg List.length h
    simp [keyF] at this
  | x :: a, [], h => by
    have := congrArg List.length h
    simp [keyF] at this
  | x :: a, y :: b, h => by
    have hc : ∀ (x : ByteArray) (a : Lab), keyF (x :: a) = Lib.itoa (x.size : Int) ++ 58 :: (x.data.toList ++ keyF a) := by intro x a; simp [keyF]
    rw [hc, hc] at h
    obtain ⟨h1, h2⟩ := split58 (no58 _) (no58 _) h
    have hz : x.size = y.size := by
      rw [Lib.itoa_nonneg, Lib.itoa_nonneg] at h1
      rw [← val_dec x.size, h1, val_dec]
    have hl : x.data.toList.length = y.data.toList.length := hz
    obtain ⟨h3, h4⟩ := List.append_inj h2 hl
    rw [baExt h3, key_inj h4]
end Go.Proofs.YtdnglhcconnocaaDoor
