/- The call Order on a table of series. Conditions: the table in memory. -/
import Derived.Test.YtdnglhcconnocaaDoorSeW8
namespace Go.Proofs.YtdnglhcconnocaaDoor
open Go.RowKit Go.Maps Go.Sort

def encI {n : Nat} (j : Fin n) : Value := .int .i64 ((j.val : Int) + 1)
def cfI (ms : List Lab) (i k : Fin ms.length) : Int := labCmp ms[i] ms[k]
theorem swoI (ms : List Lab) : SWO (ltOf (cfI ms)) := labCmp_swo (fun i : Fin ms.length => ms[i])
theorem order1_lays (n0 : Nat) (E : Eh) (F : Nat → Prop) (tb bx g : Nat) (most : Int) (ms : List Lab) [Inhabited (Fin ms.length)] (W : World) (size : Nat) (hE : Et E W) (hT : TabS n0 E W F tb most ms) (hbx : Blk W bx 24 #[.pointer (some ⟨tb, 0, none⟩)]) (hne : bx ≠ g) (hgF : ¬ F g) (hgE : E g = none) (hml : ms.length ≤ 1000) :
    CmpLays1 Tryd.prog 30 #[.pointer (some ⟨bx, 0, none⟩)] encI (cfI ms) g 0 size W := by
  intro m os dk hs x y
  have hgw := grownBy_sortW encI W g m dk os
  have hlow := hT.low
  have hT' := hT.keep (w' := sortWorld encI W g 0 m dk os) (fun b hb => hgw.block b (hlow b hb).2.1 (fun e => hgF (by injection e with e; rw [← e]; exact hb))) hgw.size (Eh.le.refl E) (fun b hb => (hlow b hb).2.2)
  have hE' : Et E (sortWorld encI W g 0 m dk os) := hE.grown hgw (fun g' e => by injection e with e; rw [← e]; exact hgE)
  have hb' := hbx.grown hgw (fun e => hne (by injection e with e; exact e.symm))
  have hc := hb'.cell 0
  refine (order1_calls n0 E F tb bx most ms x.val y.val ms[x] ms[y] _ hE' hT' hc (List.getElem?_eq_getElem x.isLt) (List.getElem?_eq_getElem y.isLt) hml).mono ?_
  rintro e w' ⟨rfl, q, rfl⟩
  exact ⟨rfl, q, #[], by rw [grow_empty]⟩

theorem extract_all {α : Type} (a : Array α) (n : Nat) (h : a.size = n) : a.extract 0 n = a := by subst h; simp
theorem finR (n : Nat) : (List.finRange n).map (encI (n := n)) = (upF n).flatMap intC := by
  have hfl : ∀ l : List Int, l.flatMap intC = l.map (Value.int .i64) := fun l => by
    induction l with
    | nil => rfl
    | cons a l ih => rw [List.flatMap_cons, ih]; rfl
  rw [hfl]
  apply List.ext_getElem
  · simp [upF]
  · intro j h1 h2
    simp [upF, encI]
set_option maxHeartbeats 1000000 in
set_option maxRecDepth 100000 in
theorem order_calls (n0 : Nat) (E : Eh) (F : Nat → Prop) (tb : Nat) (most : Int) (ms : List Lab) (w : World) (hE : Et E w) (hT : TabS n0 E w F tb most ms) (hml : ms.length ≤ 1000) :
    Calls Tryd.prog 15 #[.pointer (some ⟨tb, 0, none⟩)] w fun e w' => ∃ v, ∃ d : List (Fin ms.length), e = .returned v ∧ Ext E w E w' ∧ Own w' w.heap.size 3 1 intC v (d.map fun j => (j.val : Int) + 1) ∧ d.Perm (List.finRange ms.length) ∧ (∀ i j (hi : i < j) (hj : j < d.length), ¬ labCmp ms[d[j]] ms[d[i]] < 0) := by
  go_enter Tryd.func15, Tryd.ntmps15
  go_wp2_with fail
  have x0 : Ext E w E (w.alloc (.cells #[.pointer (some ⟨tb, 0, none⟩)] 24)) := (Ext.refl hE).alloc _
  refine (len_calls _ _ _ _ _ _ _ (hT.ext x0)).mono ?_; rintro e w1 ⟨rfl, rfl⟩
  go_wp2_with fail
  go_loopw [3, 7] (fun out i wr => ∃ k : Nat, k ≤ ms.length ∧ i = .int .i64 k ∧ Ext E w E wr ∧ Own wr w.heap.size 3 1 intC out (upF k) ∧ Blk wr w.heap.size 24 #[.pointer (some ⟨tb, 0, none⟩)]) (fun _ i _ => ms.length - (intOf i).toNat)
  case atStart => exact ⟨0, by omega, rfl, x0, Own.nil _ _ _ _ _, Blk.new _ _ _⟩
  case round =>
    obtain ⟨k, hk, rfl, hext, hown, hbx⟩ := hrel
    by_cases hlt : k < ms.length
    · have hul := upF_len k
      go_wp2_with (at_builtin; refine app_own w.heap.size rfl _ _ 37 3 (.int .i64 0) 1 8 intC rfl Tryd.underlying37 infoInt rfl (by decide) (by decide) u3 (upF k) ((k : Int) + 1) _ rfl rfl rfl rfl ?c1 hown ?cb ?cl ?_)
      case c1 => intro u hu; simp only [List.mem_singleton] at hu; subst hu; rfl
      case cb => exact hext.below.size
      case cl => rw [hul]; omega
      intro v1 w1 ho1 hg1 hat1
      have hne := hown.ne hbx (by decide)
      have hlow := hown.lt
      go_wp2_with fail
      refine ⟨⟨k + 1, by omega, by go_num, hext.grown hg1 (fun g hg => ⟨(hlow g hg).1, hE.out (hlow g hg).1⟩), by rw [upF_succ]; exact ho1, hbx.grown hg1 hne⟩, by simp [intOf]; omega⟩
    · obtain rfl : k = ms.length := by omega
      by_cases h0 : ms.length = 0
      · obtain ⟨A, c, rfl⟩ := hown.slice
        rw [upF_len]
        have hcon := AnyF.slices_SortFunc_none (P := Tryd.prog) (ρ := Tryd.laysSF6_ren) { Tryd.laysSF6 with } A c (.func (.func 30) #[] #[.pointer (some ⟨w.heap.size, 0, none⟩)]) wr
        change Calls Tryd.prog 29 _ _ _ at hcon
        rw [h0]
        go_wp2_with fail
        refine hcon.mono ?_; rintro e w2 ⟨rfl, rfl⟩
        go_wp2_with fail
        go_ret
        refine ⟨.slice A 0 c, rfl, hext, [], ?_, ?_, fun i j _ hj => absurd hj (by simp)⟩
        · rw [h0] at hown
          exact hown
        · have : List.finRange ms.length = [] := List.eq_nil_of_length_eq_zero (by simp [h0])
          rw [this]
      · have hpos : 0 < ms.length := by omega
        haveI : Inhabited (Fin ms.length) := ⟨⟨0, hpos⟩⟩
        have hul := upF_len ms.length
        have hmapd := finR ms.length
        rcases hown.2 with ⟨_, hz⟩ | ⟨g, cap, cur, rfl, hbg, hg, hnc, hcm, hcs, htake⟩
        · omega
        · rw [hul, Nat.mul_one, ← hmapd] at htake
          rw [hul] at hnc
          obtain ⟨dd, hdd⟩ : ∃ dd : Array (Fin ms.length), dd = (List.finRange ms.length).toArray := ⟨_, rfl⟩
          have hds : dd.size = ms.length := by rw [hdd]; simp
          have hdl : dd.toList = List.finRange ms.length := by rw [hdd]
          have hH : Holds encI wr g 0 dd := holds_of_blockW encI hg (by rw [hds, hdl]; exact htake)
          have hgF : ¬ F g := fun h => by have := (hT.low g h).2.1; omega
          have hgE : E g = none := hE.out hbg
          have hneg : w.heap.size ≠ g := fun e => hown.ne hbx (by decide) (by simp [Value.ownBlock, e])
          have hcmp := order1_lays n0 E F tb w.heap.size g most ms wr dd.size hext.et (hT.ext hext) hbx hneg hgF hgE hml
          have eg : ∀ args w, (callFunc 30 args).run Tryd.prog w = .ok (.enter 30 args) w := enters_of Tryd.func30 (by kernel_rfl) rfl
          have hcon := Any.slices_SortFunc Tryd.laysSF6 encI (fun _ => rfl) (cfI ms) (swoI ms) 30 #[.pointer (some ⟨w.heap.size, 0, none⟩)] g 0 cap dd wr eg hcmp hH (Array.getElem?_eq_some_iff.1 hg).1 (by omega)
          change Calls Tryd.prog 29 _ _ _ at hcon
          rw [hds] at hcon
          rw [hul]
          clear hcmp hH hmapd
          go_wp2_with fail
          refine hcon.mono ?_; rintro e w2 ⟨rfl, d', m', os, hperm, hsort, rfl⟩
          clear hcon
          go_wp2_with fail
          go_ret
          have hd's : d'.size = ms.length := hperm.1.trans hds
          have hfl : (d'.toList.map fun j => (j.val : Int) + 1).flatMap intC = d'.toList.map encI := by
            generalize d'.toList = l
            induction l with
            | nil => rfl
            | cons a l ih => rw [List.map_cons, List.flatMap_cons, ih]; rfl
          refine ⟨_, rfl, hext.grown (grownBy_sortW encI wr g m' d' os) (fun b hb => by injection hb with hb; subst hb; exact ⟨hbg, hgE⟩), d'.toList, ?_, ?_, fun i j hi hj => ?_⟩
          · unfold Own
            rw [hfl]
            refine ⟨by simp, .inr ⟨g, cap, putCells encI 0 d' cur, by simp [hd's], hbg, heap_sortedW encI d' hg, by simp [hd's]; exact hnc, hcm, by simp [putCells, hcs], ?_⟩⟩
            have := take_putCellsW encI cur d' (by rw [hd's, hcs]; omega)
            simpa using this
          · have h := hperm.2.2
            rw [← hdl]
            have e1 : d'.extract 0 ms.length = d' := extract_all d' _ hd's
            have e2 : dd.extract 0 ms.length = dd := extract_all dd _ hds
            rw [e1, e2] at h
            exact h
          · have hj' : j < d'.size := by simpa using hj
            have h := hsort i j (Nat.zero_le _) hi (by rw [← hd's]; exact hj')
            unfold ltOf cfI at h
            rw [getElem!_pos d' j hj', getElem!_pos d' i (by omega)] at h
            have h2 := of_decide_eq_false h
            exact Int.not_lt.1 h2
end Go.Proofs.YtdnglhcconnocaaDoor
