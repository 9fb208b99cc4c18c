/- The document's Check on steps. Conditions: lengths. -/
import Derived.Test.YtdnglhcconnocaaDoorScF
import Derived.Test.YtdnglhcconnocaaDoorScJ1
namespace Go.Proofs.YtdnglhcconnocaaDoor
open Go.RowKit

def refCheckF (s : Stp) : Int := if (s.kind = 0 ∧ 0 ≤ s.source ∧ s.source ≤ 15 ∧ s.shard = 0) ∨ ((s.kind = 1 ∨ s.kind = 3 ∨ s.kind = 4) ∧ s.source = 0 ∧ s.shard = 0 ∧ s.b.length = 0) ∨ (s.kind = 2 ∧ s.source = 0 ∧ 0 ≤ s.shard ∧ s.shard ≤ 63 ∧ s.b.length = 0) then (if 65536 < s.b.length then 2 else 0) else 1
theorem refCheckF_mk (k so sh : Int) (b : List Int) : refCheckF ⟨k, so, sh, b⟩ = if (k = 0 ∧ 0 ≤ so ∧ so ≤ 15 ∧ sh = 0) ∨ ((k = 1 ∨ k = 3 ∨ k = 4) ∧ so = 0 ∧ sh = 0 ∧ b.length = 0) ∨ (k = 2 ∧ so = 0 ∧ 0 ≤ sh ∧ sh ≤ 63 ∧ b.length = 0) then (if 65536 < b.length then 2 else 0) else 1 := rfl
theorem refCheck_zero {s : Stp} (h : refCheckF s = 0) : checkF s = 0 := by
  unfold refCheckF at h
  unfold checkF
  split at h
  · split at h
    · cases h
    · repeat' split
      all_goals omega
  · cases h

set_option maxHeartbeats 1000000 in
set_option maxRecDepth 100000 in
theorem refCheck_calls (s : Stp) (A : Option Addr) (n c : Nat) (w : World) (hn : s.b.length = n) (hn' : n ≤ 9223372036854775807) :
    Calls Tryd.prog 22 #[.agg #[.int .i64 s.kind, .int .i64 s.source, .int .i64 s.shard, .slice A n c]] w fun e w' => e = .returned (.int .i64 (refCheckF s)) ∧ Below w.heap.size w w' := by
  obtain ⟨k, so, sh, b⟩ := s
  simp only [] at hn ⊢
  by_cases h0 : k = 0
  · subst h0
    by_cases t4 : 0 ≤ so
    · skip
      by_cases t3 : so ≤ 15
      · skip
        by_cases t2 : sh = 0
        · have b2 : (sh == 0) = true := by rw [beq_iff_eq]; omega
          by_cases t1 : n ≤ 65536
          · skip
            go_enter Tryd.func22, Tryd.ntmps22
            go_wp2
            go_ret
            refine ⟨ret_int ?_, (Below.refl _ _).alloc (Nat.le_refl _) _⟩
            rw [refCheckF_mk]
            repeat' split
            all_goals omega
          · skip
            go_enter Tryd.func22, Tryd.ntmps22
            go_wp2
            go_ret
            refine ⟨ret_int ?_, (Below.refl _ _).alloc (Nat.le_refl _) _⟩
            rw [refCheckF_mk]
            repeat' split
            all_goals omega
        · have b2 : (sh == 0) = false := by rw [beq_eq_false_iff_ne]; omega
          go_enter Tryd.func22, Tryd.ntmps22
          go_wp2
          go_ret
          refine ⟨ret_int ?_, (Below.refl _ _).alloc (Nat.le_refl _) _⟩
          rw [refCheckF_mk]
          repeat' split
          all_goals omega
      · skip
        go_enter Tryd.func22, Tryd.ntmps22
        go_wp2
        go_ret
        refine ⟨ret_int ?_, (Below.refl _ _).alloc (Nat.le_refl _) _⟩
        rw [refCheckF_mk]
        repeat' split
        all_goals omega
    · skip
      go_enter Tryd.func22, Tryd.ntmps22
      go_wp2
      go_ret
      refine ⟨ret_int ?_, (Below.refl _ _).alloc (Nat.le_refl _) _⟩
      rw [refCheckF_mk]
      repeat' split
      all_goals omega
  · have e0 : (k == 0) = false := by rw [beq_eq_false_iff_ne]; exact h0
    by_cases h1 : k = 1
    · subst h1
      by_cases t3 : so = 0
      · have b3 : (so == 0) = true := by rw [beq_iff_eq]; omega
        by_cases t2 : sh = 0
        · have b2 : (sh == 0) = true := by rw [beq_iff_eq]; omega
          by_cases t1 : n = 0
          · have b1 : ((n : Int) == 0) = true := by rw [beq_iff_eq]; omega
            go_enter Tryd.func22, Tryd.ntmps22
            go_wp2
            go_ret
            refine ⟨ret_int ?_, (Below.refl _ _).alloc (Nat.le_refl _) _⟩
            rw [refCheckF_mk]
            repeat' split
            all_goals omega
          · have b1 : ((n : Int) == 0) = false := by rw [beq_eq_false_iff_ne]; omega
            go_enter Tryd.func22, Tryd.ntmps22
            go_wp2
            go_ret
            refine ⟨ret_int ?_, (Below.refl _ _).alloc (Nat.le_refl _) _⟩
            rw [refCheckF_mk]
            repeat' split
            all_goals omega
        · have b2 : (sh == 0) = false := by rw [beq_eq_false_iff_ne]; omega
          go_enter Tryd.func22, Tryd.ntmps22
          go_wp2
          go_ret
          refine ⟨ret_int ?_, (Below.refl _ _).alloc (Nat.le_refl _) _⟩
          rw [refCheckF_mk]
          repeat' split
          all_goals omega
      · have b3 : (so == 0) = false := by rw [beq_eq_false_iff_ne]; omega
        go_enter Tryd.func22, Tryd.ntmps22
        go_wp2
        go_ret
        refine ⟨ret_int ?_, (Below.refl _ _).alloc (Nat.le_refl _) _⟩
        rw [refCheckF_mk]
        repeat' split
        all_goals omega
    · have e1 : (k == 1) = false := by rw [beq_eq_false_iff_ne]; exact h1
      by_cases h3 : k = 3
      · subst h3
        by_cases t3 : so = 0
        · have b3 : (so == 0) = true := by rw [beq_iff_eq]; omega
          by_cases t2 : sh = 0
          · have b2 : (sh == 0) = true := by rw [beq_iff_eq]; omega
            by_cases t1 : n = 0
            · have b1 : ((n : Int) == 0) = true := by rw [beq_iff_eq]; omega
              go_enter Tryd.func22, Tryd.ntmps22
              go_wp2
              go_ret
              refine ⟨ret_int ?_, (Below.refl _ _).alloc (Nat.le_refl _) _⟩
              rw [refCheckF_mk]
              repeat' split
              all_goals omega
            · have b1 : ((n : Int) == 0) = false := by rw [beq_eq_false_iff_ne]; omega
              go_enter Tryd.func22, Tryd.ntmps22
              go_wp2
              go_ret
              refine ⟨ret_int ?_, (Below.refl _ _).alloc (Nat.le_refl _) _⟩
              rw [refCheckF_mk]
              repeat' split
              all_goals omega
          · have b2 : (sh == 0) = false := by rw [beq_eq_false_iff_ne]; omega
            go_enter Tryd.func22, Tryd.ntmps22
            go_wp2
            go_ret
            refine ⟨ret_int ?_, (Below.refl _ _).alloc (Nat.le_refl _) _⟩
            rw [refCheckF_mk]
            repeat' split
            all_goals omega
        · have b3 : (so == 0) = false := by rw [beq_eq_false_iff_ne]; omega
          go_enter Tryd.func22, Tryd.ntmps22
          go_wp2
          go_ret
          refine ⟨ret_int ?_, (Below.refl _ _).alloc (Nat.le_refl _) _⟩
          rw [refCheckF_mk]
          repeat' split
          all_goals omega
      · have e3 : (k == 3) = false := by rw [beq_eq_false_iff_ne]; exact h3
        by_cases h4 : k = 4
        · subst h4
          by_cases t3 : so = 0
          · have b3 : (so == 0) = true := by rw [beq_iff_eq]; omega
            by_cases t2 : sh = 0
            · have b2 : (sh == 0) = true := by rw [beq_iff_eq]; omega
              by_cases t1 : n = 0
              · have b1 : ((n : Int) == 0) = true := by rw [beq_iff_eq]; omega
                go_enter Tryd.func22, Tryd.ntmps22
                go_wp2
                go_ret
                refine ⟨ret_int ?_, (Below.refl _ _).alloc (Nat.le_refl _) _⟩
                rw [refCheckF_mk]
                repeat' split
                all_goals omega
              · have b1 : ((n : Int) == 0) = false := by rw [beq_eq_false_iff_ne]; omega
                go_enter Tryd.func22, Tryd.ntmps22
                go_wp2
                go_ret
                refine ⟨ret_int ?_, (Below.refl _ _).alloc (Nat.le_refl _) _⟩
                rw [refCheckF_mk]
                repeat' split
                all_goals omega
            · have b2 : (sh == 0) = false := by rw [beq_eq_false_iff_ne]; omega
              go_enter Tryd.func22, Tryd.ntmps22
              go_wp2
              go_ret
              refine ⟨ret_int ?_, (Below.refl _ _).alloc (Nat.le_refl _) _⟩
              rw [refCheckF_mk]
              repeat' split
              all_goals omega
          · have b3 : (so == 0) = false := by rw [beq_eq_false_iff_ne]; omega
            go_enter Tryd.func22, Tryd.ntmps22
            go_wp2
            go_ret
            refine ⟨ret_int ?_, (Below.refl _ _).alloc (Nat.le_refl _) _⟩
            rw [refCheckF_mk]
            repeat' split
            all_goals omega
        · have e4 : (k == 4) = false := by rw [beq_eq_false_iff_ne]; exact h4
          by_cases h2 : k = 2
          · subst h2
            by_cases t4 : so = 0
            · have b4 : (so == 0) = true := by rw [beq_iff_eq]; omega
              by_cases t3 : 0 ≤ sh
              · skip
                by_cases t2 : sh ≤ 63
                · skip
                  by_cases t1 : n = 0
                  · have b1 : ((n : Int) == 0) = true := by rw [beq_iff_eq]; omega
                    go_enter Tryd.func22, Tryd.ntmps22
                    go_wp2
                    go_ret
                    refine ⟨ret_int ?_, (Below.refl _ _).alloc (Nat.le_refl _) _⟩
                    rw [refCheckF_mk]
                    repeat' split
                    all_goals omega
                  · have b1 : ((n : Int) == 0) = false := by rw [beq_eq_false_iff_ne]; omega
                    go_enter Tryd.func22, Tryd.ntmps22
                    go_wp2
                    go_ret
                    refine ⟨ret_int ?_, (Below.refl _ _).alloc (Nat.le_refl _) _⟩
                    rw [refCheckF_mk]
                    repeat' split
                    all_goals omega
                · skip
                  go_enter Tryd.func22, Tryd.ntmps22
                  go_wp2
                  go_ret
                  refine ⟨ret_int ?_, (Below.refl _ _).alloc (Nat.le_refl _) _⟩
                  rw [refCheckF_mk]
                  repeat' split
                  all_goals omega
              · skip
                go_enter Tryd.func22, Tryd.ntmps22
                go_wp2
                go_ret
                refine ⟨ret_int ?_, (Below.refl _ _).alloc (Nat.le_refl _) _⟩
                rw [refCheckF_mk]
                repeat' split
                all_goals omega
            · have b4 : (so == 0) = false := by rw [beq_eq_false_iff_ne]; omega
              go_enter Tryd.func22, Tryd.ntmps22
              go_wp2
              go_ret
              refine ⟨ret_int ?_, (Below.refl _ _).alloc (Nat.le_refl _) _⟩
              rw [refCheckF_mk]
              repeat' split
              all_goals omega
          · have e2 : (k == 2) = false := by rw [beq_eq_false_iff_ne]; exact h2
            go_enter Tryd.func22, Tryd.ntmps22
            go_wp2
            go_ret
            refine ⟨ret_int ?_, (Below.refl _ _).alloc (Nat.le_refl _) _⟩
            rw [refCheckF_mk]
            repeat' split
            all_goals omega
end Go.Proofs.YtdnglhcconnocaaDoor
