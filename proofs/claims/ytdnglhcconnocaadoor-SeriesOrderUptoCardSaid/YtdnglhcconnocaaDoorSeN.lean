/- The calls on no table: Of, Labels, Len, Order; and how a table takes labels while there is room. Conditions: labels in memory that is not written. -/
import Derived.Test.YtdnglhcconnocaaDoorSeL0
namespace Go.Proofs.YtdnglhcconnocaaDoor
open Go.RowKit Go.Maps Go.Sort

set_option maxHeartbeats 1000000 in
theorem of_nil (A : Option Addr) (n c : Nat) (w : World) :
    Calls Tryd.prog 10 #[.pointer none, .slice A n c] w fun e w' => e = .returned (.tuple #[.int .i64 0, .int .i64 3]) ∧ w' = w := by
  go_enter Tryd.func10, Tryd.ntmps10
  go_wp2_with fail
  go_ret2
  exact ⟨rfl, rfl⟩
set_option maxHeartbeats 1000000 in
theorem len_nil (w : World) : Calls Tryd.prog 12 #[.pointer none] w fun e w' => e = .returned (.int .i64 0) ∧ w' = w := by
  go_enter Tryd.func12, Tryd.ntmps12
  go_wp2_with fail
  go_ret
  exact ⟨rfl, rfl⟩
set_option maxHeartbeats 1000000 in
theorem labels_nil (i : Int) (w : World) : Calls Tryd.prog 13 #[.pointer none, .int .i64 i] w fun e w' => e = .returned (.tuple #[.slice none 0 0, .bool false]) ∧ w' = w := by
  go_enter Tryd.func13, Tryd.ntmps13
  go_wp2_with fail
  go_ret2
  exact ⟨rfl, rfl⟩
set_option maxHeartbeats 1000000 in
set_option maxRecDepth 100000 in
theorem order_nil (w : World) : Calls Tryd.prog 15 #[.pointer none] w fun e w' => e = .returned (.slice none 0 0) ∧ Below w.heap.size w w' := by
  go_enter Tryd.func15, Tryd.ntmps15
  go_wp2_with fail
  refine (len_nil _).mono ?_; rintro e w1 ⟨rfl, rfl⟩
  go_wp2_with fail
  go_loopw [3, 7] (fun out i wr => out = .slice none 0 0 ∧ i = .int .i64 0 ∧ wr = w.alloc (.cells #[.pointer none] 24)) (fun _ i _ => (intOf i).toNat)
  case atStart => exact ⟨rfl, rfl, rfl⟩
  case round =>
    obtain ⟨rfl, rfl, rfl⟩ := hrel
    have hcon := AnyF.slices_SortFunc_none (P := Tryd.prog) (ρ := Tryd.laysSF6_ren) { Tryd.laysSF6 with } none 0 (.func (.func 30) #[] #[.pointer (some ⟨w.heap.size, 0, none⟩)]) (w.alloc (.cells #[.pointer none] 24))
    change Calls Tryd.prog 29 _ _ _ at hcon
    go_wp2_with fail
    refine hcon.mono ?_; rintro e w2 ⟨rfl, rfl⟩
    go_wp2_with fail
    go_ret
    exact ⟨rfl, (Below.refl _ _).alloc (Nat.le_refl _) _⟩

/-- One more list of labels, while there is room. -/
def addF (ms : List Lab) (x : Lab) : List Lab := if 16 < x.length then ms else (ofF ms x 100).1
theorem addF_spec (ms : List Lab) (x : Lab) (hn : ms.Nodup) (hl : ms.length < 100) : (addF ms x).Nodup ∧ (addF ms x).length ≤ ms.length + 1 ∧ ∀ y, y ∈ addF ms x ↔ y ∈ ms ∨ (y = x ∧ y.length ≤ 16) := by
  unfold addF
  by_cases h : 16 < x.length
  · rw [if_pos h]
    refine ⟨hn, by omega, fun y => ⟨.inl, fun hy => ?_⟩⟩
    rcases hy with hy | ⟨rfl, hy⟩
    · exact hy
    · omega
  · rw [if_neg h]
    refine ⟨ofF_nodup hn, ofF_len _ _ _, fun y => ?_⟩
    unfold ofF
    cases hi : idxF ms x with
    | some i =>
      simp only []
      refine ⟨.inl, fun hy => ?_⟩
      rcases hy with hy | ⟨rfl, _⟩
      · exact hy
      · exact List.mem_of_getElem? (idx_some hi)
    | none =>
      simp only []
      rw [if_neg (by omega)]
      rw [List.mem_append, List.mem_singleton]
      refine ⟨fun hy => ?_, fun hy => ?_⟩
      · rcases hy with hy | rfl
        · exact .inl hy
        · exact .inr ⟨rfl, by omega⟩
      · rcases hy with hy | ⟨hy, _⟩
        · exact .inl hy
        · exact .inr hy
theorem tof_any (n0 : Nat) (E : Eh) (F : Nat → Prop) (tb : Nat) (ms : List Lab) (x : Lab) (A : Option Addr) (c : Nat) (w : World) (hE : Et E w) (hP : PowG E) (hT : TabS n0 E w F tb 100 ms) (ha : Rd E 1 strC A x.length x)
    (hb : sumB x ≤ 1048576) (hms : ms.length ≤ 1000) (hn0 : n0 ≤ w.heap.size) :
    Calls Tryd.prog 10 #[.pointer (some ⟨tb, 0, none⟩), .slice A x.length c] w fun e w' =>
      ∃ r E' F', e = .returned r ∧ E.le E' ∧ Et E' w' ∧ Below n0 w w' ∧ TabS n0 E' w' F' tb 100 (addF ms x) ∧ (∀ b, F' b → F b ∨ w.heap.size ≤ b) ∧ (∀ b, b < w.heap.size → ¬ F b → w'.heap[b]? = w.heap[b]? ∧ (E b = none → E' b = none)) := by
  unfold addF
  by_cases h : 16 < x.length
  · rw [if_pos h]
    refine (tof_long tb A x.length c w h).mono ?_; rintro e w' ⟨rfl, rfl⟩
    exact ⟨_, E, F, rfl, Eh.le.refl E, hE, Below.refl _ _, hT, fun b hb => .inl hb, fun b _ _ => ⟨rfl, fun h => h⟩⟩
  · rw [if_neg h]
    obtain ⟨h1, h2⟩ := keyF_small x hb h
    refine (tof_calls n0 E F tb 100 ms x A x.length c w hE hP hT rfl ha h1 h2 hms hn0 h).mono ?_
    rintro e w' ⟨E', F', rfl, r⟩
    exact ⟨_, E', F', rfl, r⟩
theorem labels_ord (n0 : Nat) (E : Eh) (F : Nat → Prop) (tb : Nat) (most : Int) (ms : List Lab) (z : Int) (x : Lab) (w : World) (hE : Et E w) (hT : TabS n0 E w F tb most ms) (ho : OrdN ms z x) (hxl : x.length ≤ 1000000) (hml : ms.length ≤ 1000) :
    Calls Tryd.prog 13 #[.pointer (some ⟨tb, 0, none⟩), .int .i64 z] w fun e w' => ∃ v E', e = .returned (.tuple #[v, .bool true]) ∧ Ext E w E' w' ∧ HdrS E' x v := by
  have h := labels_some n0 E F tb most ms (z - 1).toNat x w hE hT ho.at_ hxl hml
  have e : (((z - 1).toNat : Nat) : Int) + 1 = z := by have := ho.lo; omega
  rw [e] at h
  exact h

/-! ### both orders are one -/
structure OrdL (ms : List Lab) (dl : List Int) (S : List Lab) : Prop where
  len : dl.length = ms.length
  at_ : ∀ k, k < ms.length → ∃ z x, dl[k]? = some z ∧ OrdN ms z x ∧ S[k]? = some x
  perm : S.Perm ms
  sorted : S.Pairwise (fun a b => labCmp a b < 0)
theorem ord_list {ms : List Lab} {d : List (Fin ms.length)} (hm : ms.Nodup) (hml : ms.length ≤ 1000) (hp : d.Perm (List.finRange ms.length)) (hs : ∀ i j (hi : i < j) (hj : j < d.length), ¬ labCmp ms[d[j]] ms[d[i]] < 0) :
    OrdL ms (d.map fun j => (j.val : Int) + 1) (d.map fun j => ms[j]) := by
  have hdl : d.length = ms.length := by rw [hp.length_eq, List.length_finRange]
  refine ⟨by rw [List.length_map, hdl], fun k hk => ⟨_, ms[d[k]'(by omega)], ?_, ordN (a := (d[k]'(by omega)).val) (List.getElem?_eq_getElem _) hml, ?_⟩, ?_, ?_⟩
  · rw [List.getElem?_map, List.getElem?_eq_getElem (by omega)]; rfl
  · rw [List.getElem?_map, List.getElem?_eq_getElem (by omega)]; rfl
  · have h := hp.map (fun j : Fin ms.length => ms[j])
    have e : (List.finRange ms.length).map (fun j : Fin ms.length => ms[j]) = ms := by
      apply List.ext_getElem
      · simp
      · intro i h1 h2
        simp
    rw [e] at h
    exact h
  · rw [List.pairwise_iff_getElem]
    intro i j hi hj hij
    simp only [List.length_map] at hi hj
    simp only [List.getElem_map]
    exact order_strict hm hp hs i j hij hj
theorem sorted_one : ∀ {S T : List Lab}, S.Perm T → S.Pairwise (fun a b => labCmp a b < 0) → T.Pairwise (fun a b => labCmp a b < 0) → S = T
  | [], T, h, _, _ => by rw [List.nil_perm.1 h]
  | a :: S, [], h, _, _ => by have := h.length_eq; simp at this
  | a :: S, b :: T, h, hs, ht => by
    rw [List.pairwise_cons] at hs ht
    have hab : a = b := by
      have ha : a ∈ b :: T := h.mem_iff.1 (by simp)
      have hb : b ∈ a :: S := h.mem_iff.2 (by simp)
      rcases List.mem_cons.1 ha with e | ha
      · exact e
      rcases List.mem_cons.1 hb with e | hb
      · exact e.symm
      have h1 := ht.1 a ha
      have h2 := hs.1 b hb
      have := labCmp_neg a b
      omega
    subst hab
    rw [sorted_one (List.perm_cons _ |>.1 h) hs.2 ht.2]
theorem perm_of_mem {a b : List Lab} (ha : a.Nodup) (hb : b.Nodup) (h : ∀ y, y ∈ a ↔ y ∈ b) : a.Perm b := (List.perm_ext_iff_of_nodup ha hb).2 h
theorem turn_back {n j b : Nat} (hj : j < n) : ∃ i, i < n ∧ (n - 1 - i + b) % n = j := by
  refine ⟨(n - 1 - j + b) % n, Nat.mod_lt _ (by omega), ?_⟩
  have h := Nat.div_add_mod (n - 1 - j + b) n
  have hl := Nat.mod_lt (n - 1 - j + b) (show 0 < n by omega)
  generalize (n - 1 - j + b) % n = i at *
  have e : n - 1 - i + b = j + n * ((n - 1 - j + b) / n) := by omega
  rw [e, Nat.add_mul_mod_self_left, Nat.mod_eq_of_lt hj]
end Go.Proofs.YtdnglhcconnocaaDoor
