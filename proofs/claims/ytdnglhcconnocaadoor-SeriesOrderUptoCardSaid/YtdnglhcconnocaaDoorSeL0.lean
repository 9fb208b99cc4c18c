/- What the laws of series ask beyond the calls: plain laws of tables and rows. No condition. -/
import Derived.Test.YtdnglhcconnocaaDoorSeW9
import Derived.Test.YtdnglhcconnocaaDoorSeArgs
import Derived.Lib.ItoaLen
import Derived.Deep.Cut
import Derived.Deep.CutRange
import Derived.Deep.DeepCutAuto
namespace Go.Proofs.YtdnglhcconnocaaDoor
open Go.RowKit Go.Maps Go.Sort

theorem keyF_le : ∀ (x : Lab), (∀ s ∈ x, s.size ≤ 1048576) → (keyF x).length ≤ 23 * sumB x
  | [], _ => by simp [keyF]
  | s :: x, h => by
    have h1 := h s (by simp)
    have ih := keyF_le x (fun s hs => h s (by simp [hs]))
    have hi := Lib.itoa_length_le (s.size : Int) (by omega) (by omega)
    have hc : keyF (s :: x) = Lib.itoa (s.size : Int) ++ [58] ++ s.data.toList ++ keyF x := by simp [keyF]
    have hz : s.data.toList.length = s.size := rfl
    rw [hc, sumB_cons]
    simp only [List.length_append, List.length_cons, List.length_nil]
    omega
theorem keyF_small (x : Lab) (h : sumB x ≤ 1048576) (h16 : ¬ 16 < x.length) : (keyF x).length ≤ 10000000 ∧ ∀ s ∈ x, s.size ≤ 10000000 := by
  have hm : ∀ s ∈ x, s.size ≤ 1048576 := fun s hs => by have := sumB_mem hs; omega
  refine ⟨?_, fun s hs => by have := hm s hs; omega⟩
  have key : ∀ y : Lab, (∀ s ∈ y, s.size ≤ 1048576) → (keyF y).length ≤ 23 * y.length + sumB y := by
    intro y
    induction y with
    | nil => intro _; simp [keyF]
    | cons s y ih =>
      intro h
      have h1 := h s (by simp)
      have ih := ih (fun s hs => h s (by simp [hs]))
      have hi := Lib.itoa_length_le (s.size : Int) (by omega) (by omega)
      have hc : keyF (s :: y) = Lib.itoa (s.size : Int) ++ [58] ++ s.data.toList ++ keyF y := by simp [keyF]
      have hz : s.data.toList.length = s.size := rfl
      rw [hc, sumB_cons]
      simp only [List.length_append, List.length_cons, List.length_nil]
      omega
  have := key x hm
  omega
theorem ofF_len (ms : List Lab) (x : Lab) (most : Int) : (ofF ms x most).1.length ≤ ms.length + 1 := by
  unfold ofF
  cases idxF ms x with
  | some i => simp
  | none => simp only []; split <;> simp
theorem Rows2.keep {n0 : Nat} {E E' : Eh} {w w' : World} {v : Value} {ms : List Lab} (h : Rows2 n0 E w v ms) (hk : ∀ g, v.ownBlock = some g → w'.heap[g]? = w.heap[g]? ∧ E' g = none) (hle : E.le E') : Rows2 n0 E' w' v ms := by
  obtain ⟨ps, h1, h2, h3, h4⟩ := h
  refine ⟨ps, h1, ⟨h2.1, ?_⟩, fun p hp => (h3 p hp).up hle, fun g hg => (hk g hg).2⟩
  rcases h2.2 with hl | ⟨g, cap, cur, rfl, hb, hg, r⟩
  · exact .inl hl
  · exact .inr ⟨g, cap, cur, rfl, hb, (hk g rfl).1.trans hg, r⟩
theorem Rows2.lt {n0 : Nat} {E : Eh} {w : World} {v : Value} {ms : List Lab} (h : Rows2 n0 E w v ms) : ∀ g, v.ownBlock = some g → n0 ≤ g ∧ g < w.heap.size ∧ E g = none := by
  obtain ⟨ps, h1, h2, h3, h4⟩ := h
  exact fun g hg => ⟨(h2.lt g hg).1, (h2.lt g hg).2, h4 g hg⟩
theorem Rows2.slice {n0 : Nat} {E : Eh} {w : World} {v : Value} {ms : List Lab} (h : Rows2 n0 E w v ms) : ∃ A c, v = .slice A ms.length c := by
  obtain ⟨A, c, hv, _⟩ := h.read
  exact ⟨A, c, hv⟩
theorem Own.freezeT {α : Type} {E : Eh} {w : World} {base : Nat} {t : TypeId} {k : Nat} {cs : α → List Value} {v : Value} {l : List α} (hk : ∀ x, (cs x).length = k) (h : Own w base t k cs v l) (hE : Et E w) (ho : ∀ g, v.ownBlock = some g → E g = none) :
    ∃ E2 A c, E.le E2 ∧ Et E2 w ∧ v = .slice A l.length c ∧ Rd E2 k cs A l.length l ∧ ∀ b, E b = none → v.ownBlock ≠ some b → E2 b = none := by
  have x : Ext E { w with heap := #[] } E w := ⟨Eh.le.refl _, hE, fun _ _ h => .inl h, ⟨rfl, rfl, rfl, Nat.zero_le _, fun i hi => absurd hi (Nat.not_lt_zero _)⟩⟩
  obtain ⟨E2, A, c, x2, hle, hv, hr, hn, _⟩ := Own.freeze hk h x (Nat.zero_le _) ho
  exact ⟨E2, A, c, hle, x2.et, hv, hr, hn⟩
theorem Rows2.freeze {n0 : Nat} {E : Eh} {w : World} {v : Value} {ms : List Lab} (h : Rows2 n0 E w v ms) (hE : Et E w) : ∃ E2 A c, E.le E2 ∧ Et E2 w ∧ v = .slice A ms.length c ∧ Labs E2 A ms.length ms := by
  obtain ⟨ps, h1, h2, h3, h4⟩ := h
  obtain ⟨E2, A, c, hle, hE2, hv, hr, _⟩ := Own.freezeT (k := 1) (fun _ => rfl) h2 hE h4
  have hl : ps.length = ms.length := by rw [← h1, List.length_map]
  rw [hl] at hv hr
  exact ⟨E2, A, c, hle, hE2, hv, ps, h1, hr, fun p hp => (h3 p hp).up hle⟩
theorem Labs.at_ {E : Eh} {A : Option Addr} {n : Nat} {l : List Lab} (h : Labs E A n l) {i : Nat} (hi : i < n) :
    ∃ g off x B c, A = some ⟨g, off, none⟩ ∧ l[i]? = some x ∧ Rd E 1 strC B x.length x ∧ (B = none → c = 0) ∧ ∀ W, Et E W → W.cell? ⟨g, off + i, none⟩ = some (.slice B x.length c) := by
  obtain ⟨ps, rfl, hr, hd⟩ := h
  obtain ⟨g, off, p, hA, hp, hcell⟩ := hr.at_ hi
  obtain ⟨B, c, hv, hb, hz⟩ := hd p (List.mem_of_getElem? hp)
  refine ⟨g, off, p.1, B, c, hA, by rw [List.getElem?_map, hp]; rfl, hb, hz, fun W hW => ?_⟩
  have := hcell 0 _ rfl W hW
  rw [Nat.mul_one, Nat.add_zero, hv] at this
  exact this
theorem Labs.len {E : Eh} {A : Option Addr} {n : Nat} {l : List Lab} (h : Labs E A n l) : l.length = n ∧ n ≤ 9223372036854775807 := by
  obtain ⟨ps, rfl, hr, _⟩ := h
  exact ⟨by rw [List.length_map]; exact hr.1, hr.2.1⟩
theorem labCmp_lt {a b : Lab} (h : ¬ labCmp b a < 0) (hne : a ≠ b) : labCmp a b < 0 := by
  have h1 := labCmp_neg a b
  have h2 : labCmp a b ≠ 0 := fun e => hne (labCmp_eq e)
  omega
/-- The numbers in order are strictly in order. -/
theorem order_strict {ms : List Lab} {d : List (Fin ms.length)} (hm : ms.Nodup) (hp : d.Perm (List.finRange ms.length)) (hs : ∀ i j (hi : i < j) (hj : j < d.length), ¬ labCmp ms[d[j]] ms[d[i]] < 0) :
    ∀ i j (hi : i < j) (hj : j < d.length), labCmp ms[d[i]] ms[d[j]] < 0 := by
  intro i j hi hj
  refine labCmp_lt (hs i j hi hj) (fun e => ?_)
  have hd : d.Nodup := hp.nodup_iff.2 (List.nodup_finRange _)
  have e1 : d[i] = d[j] := Fin.ext ((List.getElem_inj hm).1 e)
  have := (List.getElem_inj hd).1 e1
  omega
/-- One number of the order, in the walk's own spelling. -/
structure OrdN (ms : List Lab) (z : Int) (x : Lab) : Prop where
  at_ : ms[(z - 1).toNat]? = some x
  t1 : decide (z < 1) = false
  t2 : decide ((ms.length : Int) < z) = false
  wr : IntKind.i64.wrap (z - 1) = z - 1
  lo : 0 ≤ z - 1
  hi : z - 1 < (ms.length : Int)
  lt : (z - 1).toNat < ms.length
theorem ordN {ms : List Lab} {a : Nat} {x : Lab} (h : ms[a]? = some x) (hm : ms.length ≤ 1000) : OrdN ms ((a : Int) + 1) x := by
  have ha := (List.getElem?_eq_some_iff.1 h).1
  have e : (a : Int) + 1 - 1 = (a : Int) := by omega
  have e2 : ((a : Int) + 1 - 1).toNat = a := by omega
  exact ⟨by rw [e2]; exact h, by rw [decide_eq_false_iff_not]; omega, by rw [decide_eq_false_iff_not]; omega, by rw [e]; simp [IntKind.wrap, IntKind.bits, IntKind.signed]; omega, by omega, by omega, by omega⟩
def OrdAt (ms : List Lab) (dl : List Int) : Prop :=
  (∀ k, k < ms.length → ∃ z x, dl[k]? = some z ∧ OrdN ms z x) ∧
  ∀ k, k + 1 < ms.length → ∃ z x z' x', dl[k]? = some z ∧ OrdN ms z x ∧ dl[k + 1]? = some z' ∧ OrdN ms z' x' ∧ labCmp x x' < 0
theorem ord_at {ms : List Lab} {d : List (Fin ms.length)} (hm : ms.Nodup) (hml : ms.length ≤ 1000) (hp : d.Perm (List.finRange ms.length)) (hs : ∀ i j (hi : i < j) (hj : j < d.length), ¬ labCmp ms[d[j]] ms[d[i]] < 0) :
    OrdAt ms (d.map fun j => (j.val : Int) + 1) := by
  have hdl : d.length = ms.length := by rw [hp.length_eq, List.length_finRange]
  refine ⟨fun k hk => ⟨_, ms[d[k]'(by omega)], ?_, ordN (a := (d[k]'(by omega)).val) (List.getElem?_eq_getElem _) hml⟩, fun k hk => ⟨_, ms[d[k]'(by omega)], _, ms[d[k + 1]'(by omega)], ?_, ordN (a := (d[k]'(by omega)).val) (List.getElem?_eq_getElem _) hml, ?_, ordN (a := (d[k + 1]'(by omega)).val) (List.getElem?_eq_getElem _) hml, ?_⟩⟩
  · rw [List.getElem?_map, List.getElem?_eq_getElem (by omega)]; rfl
  · rw [List.getElem?_map, List.getElem?_eq_getElem (by omega)]; rfl
  · rw [List.getElem?_map, List.getElem?_eq_getElem (by omega)]; rfl
  · exact order_strict hm hp hs k (k + 1) (by omega) (by omega)
def LabRes (E : Eh) (w : World) (ms : List Lab) (i : Int) (s ok : Value) (w' : World) : Prop :=
  ∃ E9, Ext E w E9 w' ∧ ((i < 0 ∧ s = .slice none 0 0 ∧ ok = .bool false) ∨ ((ms.length : Int) < i ∧ s = .slice none 0 0 ∧ ok = .bool false) ∨ (i = 0 ∧ s = .slice none 0 0 ∧ ok = .bool true) ∨
    ∃ (j : Nat) (x : Lab), i = (j : Int) + 1 ∧ ms[j]? = some x ∧ HdrS E9 x s ∧ ok = .bool true)
/-- The call Labels, whatever number. -/
theorem labels_any (n0 : Nat) (E : Eh) (F : Nat → Prop) (tb : Nat) (most : Int) (ms : List Lab) (i : Int) (w : World) (hE : Et E w) (hT : TabS n0 E w F tb most ms) (hxl : ∀ x ∈ ms, x.length ≤ 1000000) (hml : ms.length ≤ 1000) :
    Calls Tryd.prog 13 #[.pointer (some ⟨tb, 0, none⟩), .int .i64 i] w fun e w' => ∃ s ok, e = .returned (.tuple #[s, ok]) ∧ LabRes E w ms i s ok w' := by
  by_cases h0 : i < 0
  · refine (labels_no _ _ _ _ _ _ i _ hT (.inl h0)).mono ?_; rintro e w5 ⟨rfl, hb5⟩
    exact ⟨_, _, rfl, E, Ext.of_below hE hb5, .inl ⟨h0, rfl, rfl⟩⟩
  by_cases h1 : (ms.length : Int) < i
  · refine (labels_no _ _ _ _ _ _ i _ hT (.inr h1)).mono ?_; rintro e w5 ⟨rfl, hb5⟩
    exact ⟨_, _, rfl, E, Ext.of_below hE hb5, .inr (.inl ⟨h1, rfl, rfl⟩)⟩
  by_cases h2 : i = 0
  · subst h2
    refine (labels_zero _ _ _ _ _ _ _ hT).mono ?_; rintro e w5 ⟨rfl, hb5⟩
    exact ⟨_, _, rfl, E, Ext.of_below hE hb5, .inr (.inr (.inl ⟨rfl, rfl, rfl⟩))⟩
  · obtain ⟨j, rfl⟩ : ∃ j : Nat, i = (j : Int) + 1 := ⟨(i - 1).toNat, by omega⟩
    have hxj : ms[j]? = some ms[j] := List.getElem?_eq_getElem (by omega)
    refine (labels_some _ _ _ _ _ _ j ms[j] _ hE hT hxj (hxl _ (List.getElem_mem _)) hml).mono ?_; rintro e w5 ⟨v5, E5, rfl, x9, hd⟩
    exact ⟨_, _, rfl, E5, x9, .inr (.inr (.inr ⟨j, _, rfl, hxj, hd, rfl⟩))⟩
end Go.Proofs.YtdnglhcconnocaaDoor
