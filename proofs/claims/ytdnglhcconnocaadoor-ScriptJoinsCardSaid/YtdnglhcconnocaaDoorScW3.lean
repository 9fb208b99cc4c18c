/- The calls of script's step and Parse: what each returns. Conditions: the library's variables; lengths. -/
import Derived.Test.YtdnglhcconnocaaDoorScW2
namespace Go.Proofs.YtdnglhcconnocaaDoor
open Go.RowKit

/-- What step answers. -/
def StepPost (E : Eh) (l : List UInt8) (w : World) (e : Ending) (w' : World) : Prop :=
  match stepF l with
  | some st => ∃ A c E', e = .returned (.tuple #[.agg #[.int .i64 st.kind, .int .i64 st.source, .int .i64 st.shard, .slice A st.b.length c], .bool true]) ∧ Ext E w E' w' ∧ Rd E' 1 byteC A st.b.length st.b ∧ isBytes st.b ∧ NewA w.heap.size E' 5 A
  | none => (∃ a b c A n cp, e = .returned (.tuple #[.agg #[.int .i64 a, .int .i64 b, .int .i64 c, .slice A n cp], .bool false])) ∧ Below w.heap.size w w'

def strs (l : List ByteArray) : Array Value := (l.map Value.string).toArray

theorem words_len (l : List ByteArray) (ws : List (List UInt8)) (h : l.map (·.data.toList) = ws) : l.length = ws.length := by rw [← h]; simp
theorem words_at {l : List ByteArray} {ws : List (List UInt8)} (h : l.map (·.data.toList) = ws) {i : Nat} (hi : i < ws.length) : ∃ s : ByteArray, l[i]? = some s ∧ s.data.toList = ws.getD i [] := by
  have hl := words_len l ws h
  refine ⟨l[i]'(by omega), List.getElem?_eq_getElem (by omega), ?_⟩
  subst h
  simp [List.getD, List.getElem?_map, List.getElem?_eq_getElem (show i < l.length by omega)]

theorem wordsF_le (c : UInt8) : ∀ l : List UInt8, ∀ x ∈ wordsF c l, x.length ≤ l.length
  | [], x, hx => by simp [wordsF] at hx; subst hx; simp
  | a :: r, x, hx => by
    have ih := wordsF_le c r
    unfold wordsF at hx
    split at hx
    · rcases List.mem_cons.1 hx with rfl | hx
      · simp
      · have := ih x hx; simp only [List.length_cons]; omega
    · split at hx
      · rename_i w ws hw
        rw [hw] at ih
        rcases List.mem_cons.1 hx with rfl | hx
        · have := ih w (by simp); simp only [List.length_cons]; omega
        · have := ih x (by simp [hx]); simp only [List.length_cons]; omega
      · simp only [List.mem_singleton] at hx
        subst hx
        simp
theorem word_le (l : List UInt8) (i : Nat) : ((wordsF 32 l).getD i []).length ≤ l.length := by
  by_cases h : i < (wordsF 32 l).length
  · have : (wordsF 32 l).getD i [] = (wordsF 32 l)[i] := by simp [List.getD, List.getElem?_eq_getElem h]
    rw [this]
    exact wordsF_le 32 l _ (List.getElem_mem h)
  · rw [List.getD, List.getElem?_eq_none (by omega)]
    simp

theorem infoStep : (Tryd.prog.info? 50).map (·.size) = some 4 := by kernel_rfl
/-- step's return: the step in its cell, the truth in its slot. -/
theorem step_ret {l : List UInt8} {E E3 : Eh} {w w3 : World} {a b c : Int} {A : Option Addr} {n cp : Nat} {ok : Bool} {tmps : Array Value} {c0 c1 c2 c3 : Value}
    (hB : Blk w3 w.heap.size 50 #[c0, c1, c2, c3]) (h2 : tmps.getD 2 undef = .pointer (some ⟨w.heap.size, 0, none⟩)) (h3 : tmps.getD 3 undef = .bool ok)
    (x : Ext E w E3 w3) (hf : E3 w.heap.size = none)
    (hp : ∀ W, Ext E w E3 W → StepPost E l w (.returned (.tuple #[.agg #[.int .i64 a, .int .i64 b, .int .i64 c, .slice A n cp], .bool ok])) W) :
    bodyPost Tryd.prog Tryd.f33 (StepPost E l w) Exit.ret { tmps := tmps, defers := [] }
      ((((w3.setCell ⟨w.heap.size, 0, none⟩ (.int .i64 a)).setCell ⟨w.heap.size, 1, none⟩ (.int .i64 b)).setCell ⟨w.heap.size, 2, none⟩ (.int .i64 c)).setCell ⟨w.heap.size, 3, none⟩ (.slice A n cp)) := by
  have hB4 := (((hB.set_ 0 (.int .i64 a)).set_ 1 (.int .i64 b)).set_ 2 (.int .i64 c)).set_ 3 (.slice A n cp)
  have x4 := (((x.setCell (p := ⟨w.heap.size, 0, none⟩) (.int .i64 a) (Nat.le_refl _) hf).setCell (p := ⟨w.heap.size, 1, none⟩) (.int .i64 b) (Nat.le_refl _) hf).setCell (p := ⟨w.heap.size, 2, none⟩) (.int .i64 c) (Nat.le_refl _) hf).setCell (p := ⟨w.heap.size, 3, none⟩) (.slice A n cp) (Nat.le_refl _) hf
  have hr := results_cell_tmp (P := Tryd.prog) (fn := Tryd.f33) (p := 2) (q := 3) rfl tmps _ w.heap.size 50 _ (0, 0) _ h2 hB4 Tryd.underlying50 rfl infoStep
  rw [h3] at hr
  exact bodyPost_ret hr rfl (hp _ x4)

theorem step_ret2 {l : List UInt8} {E : Eh} {w W : World} {v0 v1 v2 v3 : Value} {ok : Bool} {tmps : Array Value}
    (hB : Blk W w.heap.size 50 #[v0, v1, v2, v3]) (h2 : tmps.getD 2 undef = .pointer (some ⟨w.heap.size, 0, none⟩)) (h3 : tmps.getD 3 undef = .bool ok)
    (hp : StepPost E l w (.returned (.tuple #[.agg #[v0, v1, v2, v3], .bool ok])) W) :
    bodyPost Tryd.prog Tryd.f33 (StepPost E l w) Exit.ret { tmps := tmps, defers := [] } W := by
  have hr := results_cell_tmp (P := Tryd.prog) (fn := Tryd.f33) (p := 2) (q := 3) rfl tmps _ w.heap.size 50 _ (0, 0) _ h2 hB Tryd.underlying50 rfl infoStep
  rw [h3] at hr
  exact bodyPost_ret hr rfl hp

set_option maxHeartbeats 1000000 in
set_option maxRecDepth 100000 in
theorem step_calls (E : Eh) (s : ByteArray) (w : World) (hE : Et E w) (hG : Glob E) (hs : s.size ≤ 1000000) :
    Calls Tryd.prog 33 #[.string s] w (StepPost E s.data.toList w) := by
  obtain ⟨m, hm⟩ := hG.maxLen
  have hws := splitB_eq 32 s
  have hcnt : (Lib.splitB ⟨#[32]⟩ 0 (Lib.countB s ⟨#[32]⟩) s).length = Lib.countB s ⟨#[32]⟩ + 1 := Lib.splitB_all _ (by decide) 0 _ _ rfl
  have hwl := words_len _ _ hws
  have hne : 0 < (wordsF 32 s.data.toList).length := by have := wordsF_ne 32 s.data.toList; cases hq : wordsF 32 s.data.toList with | nil => exact absurd hq this | cons a b => simp
  generalize hwsd : Lib.splitB ⟨#[32]⟩ 0 (Lib.countB s ⟨#[32]⟩) s = ws at *
  have HWS := Lib.hid hwsd
  clear hwsd
  obtain ⟨s0, hs0, hd0⟩ := words_at hws hne
  have hs' : s.size < 4294967281 := by omega
  go_enter Tryd.func33, Tryd.ntmps33
  go_wp2_with fail
  refine (Tryd.strings_Split s _ m _ hs' ((hE.alloc _).cell hm) (by decide)).mono ?_; rintro e w1 ⟨rfl, rfl⟩
  rw [HWS.out, show Lib.countB s ⟨#[32]⟩ + 1 = (wordsF 32 s.data.toList).length from by omega]
  have hr0 : s0.data.toList = wd s.data.toList 0 := hd0
  have hle : ∀ i, (wd s.data.toList i).length ≤ s.size := word_le s.data.toList
  have HWL := Lib.hid hwl
  have HWSS := Lib.hid hws
  clear hwl hws hcnt hd0
  generalize hK : (wordsF 32 s.data.toList).length = K at *
  have HK := Lib.hid hK
  clear hK
  have hEW : ∀ o o', Et E ((w.alloc o).alloc o') := fun o o' => (hE.alloc o).alloc o'
  by_cases hA : wd s.data.toList 0 = sDeliver ∧ K = 3
  · obtain ⟨hA0, rfl⟩ := hA
    have hst : stepF s.data.toList = match smallF (wd s.data.toList 1), bytesF (wd s.data.toList 2) with
        | some n, some b => some ⟨0, n, 0, b⟩
        | _, _ => none := by
      unfold stepF
      rw [if_pos ⟨hA0, HK.out⟩]
      cases smallF (wd s.data.toList 1) <;> cases bytesF (wd s.data.toList 2) <;> rfl
    have HST := Lib.hid hst
    clear hst
    obtain ⟨s1, hs1, hd1⟩ := words_at HWSS.out (i := 1) (by rw [HK.out]; omega)
    obtain ⟨s2, hs2, hd2⟩ := words_at HWSS.out (i := 2) (by rw [HK.out]; omega)
    have hz1 : s1.size ≤ s.size := by have := hle 1; unfold wd at this; rw [← hd1] at this; exact this
    have hz2 : s2.size ≤ s.size := by have := hle 2; unfold wd at this; rw [← hd2] at this; exact this
    have e0 : (s0.toList == [100, 101, 108, 105, 118, 101, 114]) = true := by rw [Lib.toList_data, hr0, hA0]; rfl
    have HD1 := Lib.hid hd1
    have HD2 := Lib.hid hd2
    clear hd1 hd2 hA0 hr0
    cases hsm : smallF s1.data.toList with
    | none =>
      go_wp2_with fail
      refine (small_calls E s1 _ (hEW _ _) hG (by omega)).mono ?_; rintro e w2 ⟨n, rfl, hn, hb2⟩
      have hE2 : Et E w2 := (hEW _ _).below hb2
      have hS2 : Below w.heap.size w w2 := ((((Below.refl _ w).alloc (Nat.le_refl _) _).alloc (by simp) _).trans (hb2.mono (by simp; omega)))
      have hB2 : Blk w2 w.heap.size 50 #[.int .i64 0, .int .i64 0, .int .i64 0, .slice none 0 0] := ((Blk.new w _ _).alloc _).step hb2
      have hW2 : w2.heap[w.heap.size + 1]? = some (.cells (ws.map Value.string).toArray 9) := by
        rw [hb2.block _ (by simp)]
        have := heap_alloc_new (w.alloc (.cells #[.int .i64 0, .int .i64 0, .int .i64 0, .slice none 0 0] 50)) (.cells (ws.map Value.string).toArray 9)
        simpa using this
      have hc2 : w2.cell? ⟨w.heap.size + 1, 2, none⟩ = some (.string s2) := by rw [cell_of_row _ _ _ _ _ _ hW2]; simp [hs2]
      clear hb2
      go_wp2_with fail
      refine (bytes_calls E s2 _ hE2 (by omega)).mono ?_; intro e w3 hp3
      unfold BytesPost at hp3
      clear hn
      cases hby : bytesF s2.data.toList with
      | some bs =>
        rw [hby] at hp3
        obtain ⟨A3, c3, E3, rfl, x3, hrd3, hbb3⟩ := hp3
        have hB3 := hB2.step x3.below
        have b0 := hB3.cell 0
        have b1 := hB3.cell 1
        have b2 := hB3.cell 2
        have b3 := hB3.cell 3
        have f0 := hB3.frozen 0
        have f1 := hB3.frozen 1
        have f2 := hB3.frozen 2
        have f3 := hB3.frozen 3
        simp only [List.getElem?_toArray, List.getElem?_cons_zero, List.getElem?_cons_succ] at b0 b1 b2 b3
        go_wp2
        exact step_ret (E := E) (E3 := E3) (a := 0) (b := n) (c := 0) (A := A3) (n := bs.length) (cp := c3) (ok := false) hB3 rfl rfl ((Ext.of_below hE hS2).trans x3) (Ext.free x3 (hE.out (Nat.le_refl _)) hB2.lt) (fun W x => by
          unfold StepPost
          rw [HST.out]
          have h1 := HD1.out; have h2 := HD2.out
          rw [show wd s.data.toList 1 = s1.data.toList from h1.symm, show wd s.data.toList 2 = s2.data.toList from h2.symm, hsm, hby]
          exact ⟨⟨0, n, 0, A3, bs.length, c3, rfl⟩, x.below⟩)
      | none =>
        rw [hby] at hp3
        obtain ⟨⟨A3, n3, c3, rfl⟩, hb3⟩ := hp3
        have x3 := Ext.of_below hE2 hb3
        have hB3 := hB2.step x3.below
        have b0 := hB3.cell 0
        have b1 := hB3.cell 1
        have b2 := hB3.cell 2
        have b3 := hB3.cell 3
        have f0 := hB3.frozen 0
        have f1 := hB3.frozen 1
        have f2 := hB3.frozen 2
        have f3 := hB3.frozen 3
        simp only [List.getElem?_toArray, List.getElem?_cons_zero, List.getElem?_cons_succ] at b0 b1 b2 b3
        go_wp2
        exact step_ret (E := E) (E3 := E) (a := 0) (b := n) (c := 0) (A := A3) (n := n3) (cp := c3) (ok := false) hB3 rfl rfl ((Ext.of_below hE hS2).trans x3) (Ext.free x3 (hE.out (Nat.le_refl _)) hB2.lt) (fun W x => by
          unfold StepPost
          rw [HST.out]
          have h1 := HD1.out; have h2 := HD2.out
          rw [show wd s.data.toList 1 = s1.data.toList from h1.symm, show wd s.data.toList 2 = s2.data.toList from h2.symm, hsm, hby]
          exact ⟨⟨0, n, 0, A3, n3, c3, rfl⟩, x.below⟩)
    | some n1 =>
      go_wp2_with fail
      refine (small_calls E s1 _ (hEW _ _) hG (by omega)).mono ?_; rintro e w2 ⟨n, rfl, hn, hb2⟩
      have hE2 : Et E w2 := (hEW _ _).below hb2
      have hS2 : Below w.heap.size w w2 := ((((Below.refl _ w).alloc (Nat.le_refl _) _).alloc (by simp) _).trans (hb2.mono (by simp; omega)))
      have hB2 : Blk w2 w.heap.size 50 #[.int .i64 0, .int .i64 0, .int .i64 0, .slice none 0 0] := ((Blk.new w _ _).alloc _).step hb2
      have hW2 : w2.heap[w.heap.size + 1]? = some (.cells (ws.map Value.string).toArray 9) := by
        rw [hb2.block _ (by simp)]
        have := heap_alloc_new (w.alloc (.cells #[.int .i64 0, .int .i64 0, .int .i64 0, .slice none 0 0] 50)) (.cells (ws.map Value.string).toArray 9)
        simpa using this
      have hc2 : w2.cell? ⟨w.heap.size + 1, 2, none⟩ = some (.string s2) := by rw [cell_of_row _ _ _ _ _ _ hW2]; simp [hs2]
      clear hb2
      go_wp2_with fail
      refine (bytes_calls E s2 _ hE2 (by omega)).mono ?_; intro e w3 hp3
      unfold BytesPost at hp3
      have hn1 := hn n1 hsm
      subst hn1
      clear hn
      cases hby : bytesF s2.data.toList with
      | some bs =>
        rw [hby] at hp3
        obtain ⟨A3, c3, E3, rfl, x3, hrd3, hbb3⟩ := hp3
        have hB3 := hB2.step x3.below
        have b0 := hB3.cell 0
        have b1 := hB3.cell 1
        have b2 := hB3.cell 2
        have b3 := hB3.cell 3
        have f0 := hB3.frozen 0
        have f1 := hB3.frozen 1
        have f2 := hB3.frozen 2
        have f3 := hB3.frozen 3
        simp only [List.getElem?_toArray, List.getElem?_cons_zero, List.getElem?_cons_succ] at b0 b1 b2 b3
        go_wp2
        exact step_ret (E := E) (E3 := E3) (a := 0) (b := n) (c := 0) (A := A3) (n := bs.length) (cp := c3) (ok := true) hB3 rfl rfl ((Ext.of_below hE hS2).trans x3) (Ext.free x3 (hE.out (Nat.le_refl _)) hB2.lt) (fun W x => by
          unfold StepPost
          rw [HST.out]
          have h1 := HD1.out; have h2 := HD2.out
          rw [show wd s.data.toList 1 = s1.data.toList from h1.symm, show wd s.data.toList 2 = s2.data.toList from h2.symm, hsm, hby]
          exact ⟨A3, c3, E3, rfl, x, hrd3, hbb3.1, hbb3.2.mono hS2.size⟩)
      | none =>
        rw [hby] at hp3
        obtain ⟨⟨A3, n3, c3, rfl⟩, hb3⟩ := hp3
        have x3 := Ext.of_below hE2 hb3
        have hB3 := hB2.step x3.below
        have b0 := hB3.cell 0
        have b1 := hB3.cell 1
        have b2 := hB3.cell 2
        have b3 := hB3.cell 3
        have f0 := hB3.frozen 0
        have f1 := hB3.frozen 1
        have f2 := hB3.frozen 2
        have f3 := hB3.frozen 3
        simp only [List.getElem?_toArray, List.getElem?_cons_zero, List.getElem?_cons_succ] at b0 b1 b2 b3
        go_wp2
        exact step_ret (E := E) (E3 := E) (a := 0) (b := n) (c := 0) (A := A3) (n := n3) (cp := c3) (ok := false) hB3 rfl rfl ((Ext.of_below hE hS2).trans x3) (Ext.free x3 (hE.out (Nat.le_refl _)) hB2.lt) (fun W x => by
          unfold StepPost
          rw [HST.out]
          have h1 := HD1.out; have h2 := HD2.out
          rw [show wd s.data.toList 1 = s1.data.toList from h1.symm, show wd s.data.toList 2 = s2.data.toList from h2.symm, hsm, hby]
          exact ⟨⟨0, n, 0, A3, n3, c3, rfl⟩, x.below⟩)
  · have hcond : (s0.toList == [100, 101, 108, 105, 118, 101, 114]) = false ∨ ((s0.toList == [100, 101, 108, 105, 118, 101, 114]) = true ∧ ((K : Int) == 3) = false) := by
      rw [Lib.toList_data, hr0]
      by_cases h1 : wd s.data.toList 0 = sDeliver
      · refine .inr ⟨by rw [h1]; rfl, ?_⟩
        rw [beq_eq_false_iff_ne]
        intro e
        exact hA ⟨h1, by omega⟩
      · exact .inl (by rw [beq_eq_false_iff_ne]; exact h1)
    have hstep : stepF s.data.toList = if wd s.data.toList 0 = sClose ∧ K = 2 then (match smallF (wd s.data.toList 1) with
        | some n => some ⟨2, 0, n, []⟩
        | _ => none) else if s.data.toList = sTick then some ⟨1, 0, 0, []⟩ else if s.data.toList = sFlush then some ⟨3, 0, 0, []⟩ else if s.data.toList = sEnd then some ⟨4, 0, 0, []⟩ else none := by
      unfold stepF
      rw [HK.out, if_neg hA]
      cases smallF (wd s.data.toList 1) <;> rfl
    have HST := Lib.hid hstep
    clear hstep
    by_cases hC : wd s.data.toList 0 = sClose ∧ K = 2
    · obtain ⟨hC0, rfl⟩ := hC
      obtain ⟨s1, hs1, hd1⟩ := words_at HWSS.out (i := 1) (by rw [HK.out]; omega)
      have hz1 : s1.size ≤ s.size := by have := hle 1; unfold wd at this; rw [← hd1] at this; exact this
      have e0 : (s0.toList == [100, 101, 108, 105, 118, 101, 114]) = false := by rw [Lib.toList_data, hr0, hC0]; rfl
      have e1 : (s0.toList == [99, 108, 111, 115, 101]) = true := by rw [Lib.toList_data, hr0, hC0]; rfl
      have HD1 := Lib.hid hd1
      have HC0 := Lib.hid hC0
      clear hd1 hr0 hcond hA hC0
      cases hsm : smallF s1.data.toList with
      | none =>
        go_wp2_with fail
        refine (small_calls E s1 _ (hEW _ _) hG (by omega)).mono ?_; rintro e w2 ⟨n, rfl, hn, hb2⟩
        have hS2 : Below w.heap.size w w2 := ((((Below.refl _ w).alloc (Nat.le_refl _) _).alloc (by simp) _).trans (hb2.mono (by simp; omega)))
        have hB3 : Blk w2 w.heap.size 50 #[.int .i64 0, .int .i64 0, .int .i64 0, .slice none 0 0] := ((Blk.new w _ _).alloc _).step hb2
        clear hb2 hn
        have b0 := hB3.cell 0
        have b1 := hB3.cell 1
        have b2 := hB3.cell 2
        have b3 := hB3.cell 3
        have f0 := hB3.frozen 0
        have f1 := hB3.frozen 1
        have f2 := hB3.frozen 2
        have f3 := hB3.frozen 3
        simp only [List.getElem?_toArray, List.getElem?_cons_zero, List.getElem?_cons_succ] at b0 b1 b2 b3
        go_wp2
        exact step_ret (E := E) (E3 := E) (a := 2) (b := 0) (c := n) (A := none) (n := 0) (cp := 0) (ok := false) hB3 rfl rfl (Ext.of_below hE hS2) (hE.out (Nat.le_refl _)) (fun W x => by
          unfold StepPost
          have h1 := HD1.out
          rw [HST.out, if_pos ⟨HC0.out, trivial⟩, show wd s.data.toList 1 = s1.data.toList from h1.symm, hsm]
          exact ⟨⟨2, 0, n, none, 0, 0, rfl⟩, x.below⟩)
      | some n1 =>
        go_wp2_with fail
        refine (small_calls E s1 _ (hEW _ _) hG (by omega)).mono ?_; rintro e w2 ⟨n, rfl, hn, hb2⟩
        have hS2 : Below w.heap.size w w2 := ((((Below.refl _ w).alloc (Nat.le_refl _) _).alloc (by simp) _).trans (hb2.mono (by simp; omega)))
        have hB3 : Blk w2 w.heap.size 50 #[.int .i64 0, .int .i64 0, .int .i64 0, .slice none 0 0] := ((Blk.new w _ _).alloc _).step hb2
        have hn1 := hn n1 hsm
        subst hn1
        clear hb2 hn
        have b0 := hB3.cell 0
        have b1 := hB3.cell 1
        have b2 := hB3.cell 2
        have b3 := hB3.cell 3
        have f0 := hB3.frozen 0
        have f1 := hB3.frozen 1
        have f2 := hB3.frozen 2
        have f3 := hB3.frozen 3
        simp only [List.getElem?_toArray, List.getElem?_cons_zero, List.getElem?_cons_succ] at b0 b1 b2 b3
        go_wp2
        exact step_ret (E := E) (E3 := E) (a := 2) (b := 0) (c := n) (A := none) (n := 0) (cp := 0) (ok := true) hB3 rfl rfl (Ext.of_below hE hS2) (hE.out (Nat.le_refl _)) (fun W x => by
          unfold StepPost
          have h1 := HD1.out
          rw [HST.out, if_pos ⟨HC0.out, trivial⟩, show wd s.data.toList 1 = s1.data.toList from h1.symm, hsm]
          exact ⟨none, 0, E, rfl, x, Rd.nil, (fun x hx => by cases hx), NewA.none⟩)
    · have hcond2 : (s0.toList == [99, 108, 111, 115, 101]) = false ∨ ((s0.toList == [99, 108, 111, 115, 101]) = true ∧ ((K : Int) == 2) = false) := by
        rw [Lib.toList_data, hr0]
        by_cases h1 : wd s.data.toList 0 = sClose
        · refine .inr ⟨by rw [h1]; rfl, ?_⟩
          rw [beq_eq_false_iff_ne]
          intro e
          exact hC ⟨h1, by omega⟩
        · exact .inl (by rw [beq_eq_false_iff_ne]; exact h1)
      have HR0 := Lib.hid hr0
      have HNC := Lib.hid hC
      have hT : ∀ r : List UInt8, (s.toList == r) = decide (s.data.toList = r) := fun r => by
        rw [Lib.toList_data, Bool.eq_iff_iff, beq_iff_eq, decide_eq_true_iff]
      clear hr0 hC hA
      by_cases hL1 : s.data.toList = sTick
      · have t1 : (s.toList == [116, 105, 99, 107]) = true := by rw [hT]; exact decide_eq_true hL1
        have HL := Lib.hid hL1
        clear hT hL1
        rcases hcond with c1 | ⟨c1, c1'⟩ <;> rcases hcond2 with c2 | ⟨c2, c2'⟩
        all_goals
          go_wp2
          have x : Ext E w E _ := ((Ext.refl hE).alloc (.cells #[.int .i64 1, .int .i64 0, .int .i64 0, .slice none 0 0] 50)).alloc (.cells (ws.map Value.string).toArray 9)
          exact step_ret2 ((Blk.new w _ _).alloc _) rfl rfl (by
            unfold StepPost
            rw [HST.out, if_neg HNC.out, if_pos HL.out]
            exact ⟨none, 0, E, rfl, x, Rd.nil, (fun x hx => by cases hx), NewA.none⟩)
      · have t1 : (s.toList == [116, 105, 99, 107]) = false := by rw [hT]; exact decide_eq_false hL1
        have HN1 := Lib.hid hL1
        clear hL1
        by_cases hL2 : s.data.toList = sFlush
        · have t2 : (s.toList == [102, 108, 117, 115, 104]) = true := by rw [hT]; exact decide_eq_true hL2
          have HL := Lib.hid hL2
          clear hT hL2
          rcases hcond with c1 | ⟨c1, c1'⟩ <;> rcases hcond2 with c2 | ⟨c2, c2'⟩
          all_goals
            go_wp2
            have x : Ext E w E _ := ((Ext.refl hE).alloc (.cells #[.int .i64 3, .int .i64 0, .int .i64 0, .slice none 0 0] 50)).alloc (.cells (ws.map Value.string).toArray 9)
            exact step_ret2 ((Blk.new w _ _).alloc _) rfl rfl (by
              unfold StepPost
              rw [HST.out, if_neg HNC.out, if_neg HN1.out, if_pos HL.out]
              exact ⟨none, 0, E, rfl, x, Rd.nil, (fun x hx => by cases hx), NewA.none⟩)
        · have t2 : (s.toList == [102, 108, 117, 115, 104]) = false := by rw [hT]; exact decide_eq_false hL2
          have HN2 := Lib.hid hL2
          clear hL2
          by_cases hL3 : s.data.toList = sEnd
          · have t3 : (s.toList == [101, 110, 100]) = true := by rw [hT]; exact decide_eq_true hL3
            have HL := Lib.hid hL3
            clear hT hL3
            rcases hcond with c1 | ⟨c1, c1'⟩ <;> rcases hcond2 with c2 | ⟨c2, c2'⟩
            all_goals
              go_wp2
              have x : Ext E w E _ := ((Ext.refl hE).alloc (.cells #[.int .i64 4, .int .i64 0, .int .i64 0, .slice none 0 0] 50)).alloc (.cells (ws.map Value.string).toArray 9)
              exact step_ret2 ((Blk.new w _ _).alloc _) rfl rfl (by
                unfold StepPost
                rw [HST.out, if_neg HNC.out, if_neg HN1.out, if_neg HN2.out, if_pos HL.out]
                exact ⟨none, 0, E, rfl, x, Rd.nil, (fun x hx => by cases hx), NewA.none⟩)
          · have t3 : (s.toList == [101, 110, 100]) = false := by rw [hT]; exact decide_eq_false hL3
            have HN3 := Lib.hid hL3
            clear hL3
            clear hT
            rcases hcond with c1 | ⟨c1, c1'⟩ <;> rcases hcond2 with c2 | ⟨c2, c2'⟩
            all_goals
              go_wp2
              have x : Ext E w E _ := ((Ext.refl hE).alloc (.cells #[.int .i64 4, .int .i64 0, .int .i64 0, .slice none 0 0] 50)).alloc (.cells (ws.map Value.string).toArray 9)
              exact step_ret2 ((Blk.new w _ _).alloc _) rfl rfl (by
                unfold StepPost
                rw [HST.out, if_neg HNC.out, if_neg HN1.out, if_neg HN2.out, if_neg HN3.out]
                exact ⟨⟨4, 0, 0, none, 0, 0, rfl⟩, x.below⟩)
end Go.Proofs.YtdnglhcconnocaaDoor
