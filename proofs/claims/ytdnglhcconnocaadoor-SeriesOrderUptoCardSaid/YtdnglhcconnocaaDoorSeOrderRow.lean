/- As long as there is room the series, in order, do not hang on the order in which they came; three lists of labels are in order as the document has it; no table answers as it should: the statement of SeriesOrder, where what it reads is of bulk at most 1048576. -/
import Derived.Test.YtdnglhcconnocaaDoorSeL2
import Derived.Test.YtdnglhcconnocaaDoorSeRow0
import Derived.Test.YtdnglhcconnocaaDoorCards
import Derived.Test.YtdnglhcconnocaaDoorTie
import Derived.ProofKit
import Derived.OpenShut
import Derived.Below
import Derived.Stop.Joined
import Derived.SevenTiedAt
namespace Go.Proofs.YtdnglhcconnocaaDoor
open Go.ChangeShapes Go.WideShapes Go.ChangeAt Go.RowKit

theorem so_laid (os : Os) : laidMet Tryd.prog Rows.seriesOrderUptoRow.laid ((World.laidAll Tryd.prog os Rows.seriesOrderUptoRow.laid).forCall (fun _ _ => 0) ⟨#[], #[.slice none 0 0, .int .u8 0, .slice none 0 0, .slice none 0 0, .slice none 0 0], []⟩).memory :=
  laidMet_laidAll _ (by kernel_rfl) (by kernel_rfl)
theorem so_reads (os : Os) {H : Type} (enc : TypeId × Value → H) : ∃ places, DataW.whole enc Tryd.prog ((World.laidAll Tryd.prog os Rows.seriesOrderUptoRow.laid).forCall (fun _ _ => 0) ⟨#[], #[.slice none 0 0, .int .u8 0, .slice none 0 0, .slice none 0 0, .slice none 0 0], []⟩).memory Tryd.f4.params.toList Rows.seriesOrderSpec.vars false #[Value.slice none 0 0, .int .u8 0, .slice none 0 0, .slice none 0 0, .slice none 0 0].toList 8 = some ([.nil, .lit (.int .u8 0), .nil, .nil, .nil], [], places) :=
  ⟨[], by kernel_rfl⟩

set_option maxRecDepth 100000 in
theorem seriesOrder_lifted (os : Os) (started : os.Started) (H : Type) (enc : TypeId × Value → H) (F : Stop.Interp) :
    ReturnsInHanded {} Tryd.checked os 4 .any ((Rows.OpenSpec.upto Rows.seriesOrderSpec).preRow enc Tryd.prog Tryd.f4 Rows.seriesOrderUptoRow.domain false Rows.seriesOrderUptoRow.laid) (((Rows.OpenSpec.upto Rows.seriesOrderSpec).at F).post enc Tryd.prog Tryd.f4 false true false false) := by
  obtain ⟨places, hx⟩ := so_reads os enc
  refine returnsInHanded_of_row (C := Tryd.checked) (s := Rows.OpenSpec.upto Rows.seriesOrderSpec) own started (by kernel_rfl) Tryd.func4
    (witness_row_at (enc := enc) (C := Tryd.checked) false (World.laidAll Tryd.prog os Rows.seriesOrderUptoRow.laid) #[.slice none 0 0, .int .u8 0, .slice none 0 0, .slice none 0 0, .slice none 0 0] (World.laidAll_os _ _ _) (by kernel_rfl) (by kernel_rfl) (by kernel_rfl)
      (OpenSpec.preRow_of_cond 8 hx (by kernel_rfl) (fun k hk => by cases hk; kernel_rfl) (by kernel_rfl) (so_laid os))) ?_
  intro W base args ds gs before hval0 hW _ hcond _ hL _ _
  have hbd := upto_bound (hcond _ rfl)
  have hval : ∀ (j : Nat) t v, Tryd.f4.params[j]? = some t → args[j]? = some v → Value.okWide Tryd.prog W .any base t v := hval0
  have hW' := hW
  obtain ⟨p, q, hA0, hV, rfl, _, _⟩ := hW
  have hA : DataW.TrodAll enc Tryd.prog W 0 (fun _ => true) true Tryd.f4.params.toList args.toList ds p := hA0
  rw [Tryd.params4] at hA hval
  obtain ⟨v0, vs0, d0, ds0, p0, q0, hargs, rfl, rfl, h0, r0⟩ := trodAll_cons hA
  obtain ⟨v1, vs1, d1, ds1, p1, q1, rfl, rfl, rfl, h1, r1⟩ := trodAll_cons r0
  obtain ⟨v2, vs2, d2, ds2, p2, q2, rfl, rfl, rfl, h2, r2⟩ := trodAll_cons r1
  obtain ⟨v3, vs3, d3, ds3, p3, q3, rfl, rfl, rfl, h3, r3⟩ := trodAll_cons r2
  obtain ⟨v4, vs4, d4, ds4, p4, q4, rfl, rfl, rfl, h4, r4⟩ := trodAll_cons r3
  obtain ⟨rfl, rfl, rfl⟩ := trodAll_nil r4
  obtain rfl : args = #[v0, v1, v2, v3, v4] := by cases args; simp_all
  obtain ⟨rfl, rfl⟩ := trodVars_none hV
  have k0 := h0
  have k2 := h2
  have k3 := h3
  have k4 := h4
  have lt0 : ∀ x ∈ p0, x.block < W.heap.size := by obtain ⟨m, hm⟩ := k0; exact DataW.trod_lt m _ _ _ hm
  have lt2 : ∀ x ∈ p2, x.block < W.heap.size := by obtain ⟨m, hm⟩ := k2; exact DataW.trod_lt m _ _ _ hm
  have lt3 : ∀ x ∈ p3, x.block < W.heap.size := by obtain ⟨m, hm⟩ := k3; exact DataW.trod_lt m _ _ _ hm
  have lt4 : ∀ x ∈ p4, x.block < W.heap.size := by obtain ⟨m, hm⟩ := k4; exact DataW.trod_lt m _ _ _ hm
  obtain ⟨A, n, c, l, rfl, hl, hbk⟩ := labs_arg (okWide_slice Tryd.underlying22 (hval 0 22 v0 rfl rfl)) h0
  obtain ⟨by', rfl, rfl, rfl, hm⟩ := open_int Tryd.underlying5 (hval 1 5 v1 rfl rfl) h1
  obtain ⟨a, ha, hba⟩ := lab_arg (okWide_slice Tryd.underlying28 (hval 2 28 v2 rfl rfl)) h2
  obtain ⟨b, hb, hbb⟩ := lab_arg (okWide_slice Tryd.underlying28 (hval 3 28 v3 rfl rfl)) h3
  obtain ⟨d, hd, hbd'⟩ := lab_arg (okWide_slice Tryd.underlying28 (hval 4 28 v4 rfl rfl)) h4
  have hG := pow_of ((MakeChecks.laidMetH_plain _ _ _ (by kernel_rfl)).mp hL)
  have hb0 : Rows.uptoBulk d0 ≤ 1048576 := Nat.le_trans (bulk_part (by simp)) hbd
  have hb2 : Rows.uptoBulk d2 ≤ 1048576 := Nat.le_trans (bulk_part (by simp)) hbd
  have hb3 : Rows.uptoBulk d3 ≤ 1048576 := Nat.le_trans (bulk_part (by simp)) hbd
  have hb4 : Rows.uptoBulk d4 ≤ 1048576 := Nat.le_trans (bulk_part (by simp)) hbd
  replace hba : sumB a ≤ Rows.uptoBulk d2 := hba
  replace hbb : sumB b ≤ Rows.uptoBulk d3 := hbb
  replace hbd' : sumB d ≤ Rows.uptoBulk d4 := hbd'
  have e2 := sumB_len a
  have e3 := sumB_len b
  have e4 := sumB_len d
  have hw : 0 ≤ by' ∧ by' ≤ 255 := by
    have := hm
    simp [Lit.wf] at this
    have m0 : IntKind.u8.min = 0 := by decide
    have m1 : IntKind.u8.max = 255 := by decide
    omega
  clear hA0 hval0 hcond
  refine (seriesOrder_calls (World.all W) by' l A n c a b d v2 v3 v4 W (Et.all W) hG hl (fun y hy => Nat.le_trans (hbk y hy) hb0) ha hb hd (by omega) (by omega) (by omega) hw.1 hw.2).mono fun e W' ⟨he, bel⟩ => ?_
  subst he
  exact ⟨_, rfl, _, _, _, [], _, [], hW', trodAll_mk1 (shut_bool Tryd.underlying4 _), (trodAll_cons_mk (Below.trod laidOutS (by kernel_rfl) (of_decide_eq_true (by kernel_rfl)) k0 bel lt0) (trodAll_cons_mk (shut_int Tryd.underlying5 hm) (trodAll_cons_mk (Below.trod laidOutS (by kernel_rfl) (of_decide_eq_true (by kernel_rfl)) k2 bel lt2) (trodAll_cons_mk (Below.trod laidOutS (by kernel_rfl) (of_decide_eq_true (by kernel_rfl)) k3 bel lt3) (trodAll_cons_mk (Below.trod laidOutS (by kernel_rfl) (of_decide_eq_true (by kernel_rfl)) k4 bel lt4) trodAll_mk0))))), rfl, bel.frame _, fun h => by cases h⟩

theorem seriesOrder_upto : Rows.SeriesOrderUptoSaid :=
  OpenClaim.holds_of_cond 4 Tryd.f4 rfl rfl rfl rfl rfl rfl rfl ⟨rfl, rfl, rfl, rfl, rfl⟩ rfl rfl rfl rfl rfl (by kernel_rfl) Tryd.func4 (by kernel_rfl)
    (of_decide_eq_true (by kernel_rfl)) (by unfold Func.isWrapper; first | (rw [if_pos (by decide +kernel)]; kernel_rfl) | (rw [if_neg (by decide +kernel)]; exact ⟨rfl, rfl⟩))
    (fun os started H enc _ F => by rw [OpenClaim.pre_eq_preRow]; exact seriesOrder_lifted os started H enc F)

theorem seriesOrder_card : Rows.SeriesOrderUptoCardSaid :=
  Claim7.holds_tied_plain_at .later [] [.data, .data, .data] true Rows.seriesOrderUptoCard.stood.harness true
    seriesOrder_upto (fun _ h => by cases h) (by kernel_rfl) (fun _ h => by cases h) seriesOrderUpto_row_tie rfl ⟨rfl, rfl⟩ (by kernel_rfl) rfl
    (fun f fn hf hfn => by
      obtain rfl : f = 4 := Option.some.inj ((show Tryd.prog.funcNamed "tallyroom/tallyroomlaw20.SeriesOrder" = some 4 by kernel_rfl).symm.trans hf) |>.symm
      obtain rfl : fn = Tryd.f4 := (Option.some.inj (Tryd.func4.symm.trans hfn)).symm
      exact ⟨by kernel_rfl, fun j t ht => by
        rw [Tryd.params4] at ht
        have hm : t ∈ [22, 5, 28, 28, 28] := by simpa using Array.mem_of_getElem? ht
        have hall : ([22, 5, 28, 28, 28].all fun u => !Tryd.prog.wantsStandIn u) = true := by kernel_rfl
        exact (show Tryd.prog.wantsStandIn t = false by simpa using List.all_eq_true.1 hall t hm)⟩)
    (by kernel_rfl)
#print axioms seriesOrder_card
end Go.Proofs.YtdnglhcconnocaaDoor
