/- Any labels are numbered as the document numbers them, and told and put in order as it does: the statement of SeriesPlays, where what it reads is of bulk at most 1048576. -/
import Derived.Test.YtdnglhcconnocaaDoorSeL1
import Derived.Test.YtdnglhcconnocaaDoorSeRow0
import Derived.Test.YtdnglhcconnocaaDoorCards
import Derived.Test.YtdnglhcconnocaaDoorTie
import Derived.ProofKit
import Derived.OpenShut
import Derived.Below
import Derived.Stop.Joined
import Derived.SevenTiedAt
namespace Go.Proofs.YtdnglhcconnocaaDoor
open Go.ChangeShapes Go.WideShapes Go.ChangeAt Go.RowKit

theorem sp_laid (os : Os) : laidMet Tryd.prog Rows.seriesPlaysUptoRow.laid ((World.laidAll Tryd.prog os Rows.seriesPlaysUptoRow.laid).forCall (fun _ _ => 0) ⟨#[], #[.int .i64 0, .slice none 0 0, .int .i64 0], []⟩).memory :=
  laidMet_laidAll _ (by kernel_rfl) (by kernel_rfl)
theorem sp_reads (os : Os) {H : Type} (enc : TypeId × Value → H) : ∃ places, DataW.whole enc Tryd.prog ((World.laidAll Tryd.prog os Rows.seriesPlaysUptoRow.laid).forCall (fun _ _ => 0) ⟨#[], #[.int .i64 0, .slice none 0 0, .int .i64 0], []⟩).memory Tryd.f3.params.toList Rows.seriesPlaysSpec.vars false #[Value.int .i64 0, .slice none 0 0, .int .i64 0].toList 8 = some ([.lit (.int .i64 0), .nil, .lit (.int .i64 0)], [], places) :=
  ⟨[], by kernel_rfl⟩

set_option maxRecDepth 100000 in
theorem seriesPlays_lifted (os : Os) (started : os.Started) (H : Type) (enc : TypeId × Value → H) (F : Stop.Interp) :
    ReturnsInHanded {} Tryd.checked os 3 .any ((Rows.OpenSpec.upto Rows.seriesPlaysSpec).preRow enc Tryd.prog Tryd.f3 Rows.seriesPlaysUptoRow.domain false Rows.seriesPlaysUptoRow.laid) (((Rows.OpenSpec.upto Rows.seriesPlaysSpec).at F).post enc Tryd.prog Tryd.f3 false true false false) := by
  obtain ⟨places, hx⟩ := sp_reads os enc
  refine returnsInHanded_of_row (C := Tryd.checked) (s := Rows.OpenSpec.upto Rows.seriesPlaysSpec) own started (by kernel_rfl) Tryd.func3
    (witness_row_at (enc := enc) (C := Tryd.checked) false (World.laidAll Tryd.prog os Rows.seriesPlaysUptoRow.laid) #[.int .i64 0, .slice none 0 0, .int .i64 0] (World.laidAll_os _ _ _) (by kernel_rfl) (by kernel_rfl) (by kernel_rfl)
      (OpenSpec.preRow_of_cond 8 hx (by kernel_rfl) (fun k hk => by cases hk; kernel_rfl) (by kernel_rfl) (sp_laid os))) ?_
  intro W base args ds gs before hval0 hW _ hcond _ hL _ _
  have hbd := upto_bound (hcond _ rfl)
  have hval : ∀ (j : Nat) t v, Tryd.f3.params[j]? = some t → args[j]? = some v → Value.okWide Tryd.prog W .any base t v := hval0
  have hW' := hW
  obtain ⟨p, q, hA0, hV, rfl, _, _⟩ := hW
  have hA : DataW.TrodAll enc Tryd.prog W 0 (fun _ => true) true Tryd.f3.params.toList args.toList ds p := hA0
  rw [Tryd.params3] at hA hval
  obtain ⟨v0, vs0, d0, ds0, p0, q0, hargs, rfl, rfl, h0, r0⟩ := trodAll_cons hA
  obtain ⟨v1, vs1, d1, ds1, p1, q1, rfl, rfl, rfl, h1, r1⟩ := trodAll_cons r0
  obtain ⟨v2, vs2, d2, ds2, p2, q2, rfl, rfl, rfl, h2, r2⟩ := trodAll_cons r1
  obtain ⟨rfl, rfl, rfl⟩ := trodAll_nil r2
  obtain rfl : args = #[v0, v1, v2] := by cases args; simp_all
  obtain ⟨rfl, rfl⟩ := trodVars_none hV
  have k1 := h1
  have lt1 : ∀ x ∈ p1, x.block < W.heap.size := by obtain ⟨m, hm⟩ := k1; exact DataW.trod_lt m _ _ _ hm
  obtain ⟨most, rfl, rfl, rfl, hm⟩ := open_int Tryd.underlying3 (hval 0 3 v0 rfl rfl) h0
  obtain ⟨A, n, c, l, rfl, hl, hbk⟩ := labs_arg (okWide_slice Tryd.underlying22 (hval 1 22 v1 rfl rfl)) h1
  obtain ⟨i, rfl, rfl, rfl, hi⟩ := open_int Tryd.underlying3 (hval 2 3 v2 rfl rfl) h2
  have hG := pow_of ((MakeChecks.laidMetH_plain _ _ _ (by kernel_rfl)).mp hL)
  have hb1 : Rows.uptoBulk d1 ≤ 1048576 := by
    refine Nat.le_trans (bulk_part ?_) hbd
    simp
  clear hA0 hval0 hcond
  refine (seriesPlays_calls (World.all W) most i l A n c W (Et.all W) hG hl (fun y hy => Nat.le_trans (hbk y hy) hb1)).mono fun e W' ⟨he, bel⟩ => ?_
  subst he
  exact ⟨_, rfl, _, _, _, [], _, [], hW', trodAll_mk1 (shut_bool Tryd.underlying4 _), (trodAll_cons_mk (shut_int Tryd.underlying3 hm) (trodAll_cons_mk (Below.trod laidOutS (by kernel_rfl) (of_decide_eq_true (by kernel_rfl)) k1 bel lt1) (trodAll_cons_mk (shut_int Tryd.underlying3 hi) trodAll_mk0))), rfl, bel.frame _, fun h => by cases h⟩

theorem seriesPlays_upto : Rows.SeriesPlaysUptoSaid :=
  OpenClaim.holds_of_cond 3 Tryd.f3 rfl rfl rfl rfl rfl rfl rfl ⟨rfl, rfl, rfl, rfl, rfl⟩ rfl rfl rfl rfl rfl (by kernel_rfl) Tryd.func3 (by kernel_rfl)
    (of_decide_eq_true (by kernel_rfl)) (by unfold Func.isWrapper; first | (rw [if_pos (by decide +kernel)]; kernel_rfl) | (rw [if_neg (by decide +kernel)]; exact ⟨rfl, rfl⟩))
    (fun os started H enc _ F => by rw [OpenClaim.pre_eq_preRow]; exact seriesPlays_lifted os started H enc F)

theorem seriesPlays_card : Rows.SeriesPlaysUptoCardSaid :=
  Claim7.holds_tied_plain_at .later [] [.data, .data, .data] true Rows.seriesPlaysUptoCard.stood.harness true
    seriesPlays_upto (fun _ h => by cases h) (by kernel_rfl) (fun _ h => by cases h) seriesPlaysUpto_row_tie rfl ⟨rfl, rfl⟩ (by kernel_rfl) rfl
    (fun f fn hf hfn => by
      obtain rfl : f = 3 := Option.some.inj ((show Tryd.prog.funcNamed "tallyroom/tallyroomlaw20.SeriesPlays" = some 3 by kernel_rfl).symm.trans hf) |>.symm
      obtain rfl : fn = Tryd.f3 := (Option.some.inj (Tryd.func3.symm.trans hfn)).symm
      exact ⟨by kernel_rfl, fun j t ht => by
        rw [Tryd.params3] at ht
        have hm : t ∈ [3, 22, 3] := by simpa using Array.mem_of_getElem? ht
        have hall : ([3, 22, 3].all fun u => !Tryd.prog.wantsStandIn u) = true := by kernel_rfl
        exact (show Tryd.prog.wantsStandIn t = false by simpa using List.all_eq_true.1 hall t hm)⟩)
    (by kernel_rfl)
#print axioms seriesPlays_card
end Go.Proofs.YtdnglhcconnocaaDoor
