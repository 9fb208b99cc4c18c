/- Any bytes of any source are told and read again, and a line with something else on it is not read: the statement of ScriptBytes, for every input. No condition. -/
import Derived.Test.YtdnglhcconnocaaDoorScBytes
import Derived.Test.YtdnglhcconnocaaDoorGlobOf
import Derived.Test.YtdnglhcconnocaaDoorCards
import Derived.Test.YtdnglhcconnocaaDoorTie
import Derived.ProofKit
import Derived.OpenShut
import Derived.ShutString
import Derived.Below
import Derived.WalkKit
import Derived.Lay
import Derived.LaidMore
import Derived.ChangeSlices
import Derived.Stop.Joined
import Derived.SevenTiedAt
namespace Go.Proofs.YtdnglhcconnocaaDoor
open Go.ChangeShapes Go.WideShapes Go.ChangeAt Go.RowKit
open Go.ChangeMaps (open_string shut_string)

theorem laidOut : laidOutB Tryd.prog = true := by kernel_rfl
/-- An argument that is a slice of bytes, in the memory of the call's first world. -/
theorem bytes_arg {H : Type} {enc : TypeId × Value → H} {W : World} {base : Nat} {sp : Nat → Bool} {held : Bool} {v : Value} {x : DataW H × List MemPlace} (hv : ∃ a len cap, v = .slice a len cap)
    (h : ∃ fuel, DataW.trod enc Tryd.prog W base sp held fuel 48 v.cells.toList = some x) :
    ∃ A n c xs, v = .slice A n c ∧ Rd (World.all W) 1 byteC A n xs ∧ isBytes xs ∧ n ≤ 9223372036854775807 := by
  obtain ⟨a, len, cap, rfl⟩ := hv
  obtain ⟨fuel, hf⟩ := h
  rcases open_ints Tryd.underlying48 Tryd.underlying5 (by kernel_rfl) hf with ⟨hcs, _⟩ | ⟨x, l, c, zs, hcs, _, hl, hm, hz, _, hcell, hwz⟩
  · simp [Value.cells] at hcs
    obtain ⟨rfl, rfl, rfl⟩ := hcs
    exact ⟨none, 0, 0, [], rfl, Rd.nil, (fun x hx => by cases hx), by decide⟩
  · simp [Value.cells] at hcs
    obtain ⟨rfl, rfl, rfl⟩ := hcs
    have hzl : len ≤ zs.length := by rw [hz]; split <;> omega
    refine ⟨some x, len, cap, zs.take len, rfl, ⟨by rw [List.length_take]; omega, by unfold maxLen at hm; omega, fun h0 => ?_⟩, fun y hy => ?_, by unfold maxLen at hm; omega⟩
    · obtain ⟨g, off, spot⟩ := x
      have g0 := hcell 0 (by omega)
      have hspot : spot = none := by simpa [Addr.add] using World.cell?_spot g0
      subst hspot
      refine ⟨g, off, rfl, fun i y j u hy hu => ?_⟩
      have hi : i < len := by
        have := (List.getElem?_eq_some_iff.1 hy).1
        rw [List.length_take] at this
        omega
      rw [List.getElem?_take_of_lt hi] at hy
      have hc := hcell i (by omega)
      rw [List.getD_eq_getElem?_getD, hy, Option.getD_some] at hc
      obtain ⟨rfl, rfl⟩ : j = 0 ∧ u = .int .u8 y := by
        match j, hu with
        | 0, hu => simp [byteC] at hu; exact ⟨rfl, hu.symm⟩
        | j + 1, hu => simp [byteC] at hu
      have hadd : (⟨g, off, none⟩ : Addr).add i = ⟨g, off + i, none⟩ := by unfold Addr.add; split <;> simp_all
      rw [hadd] at hc
      rw [Nat.mul_one, Nat.add_zero]
      exact all_cell hc
    · have := hwz y (List.mem_of_mem_take hy)
      simp [Lit.wf] at this
      have m0 : IntKind.u8.min = 0 := by decide
      have m1 : IntKind.u8.max = 255 := by decide
      exact ⟨by omega, by omega⟩

set_option maxRecDepth 100000 in
theorem scriptBytes_lifted (os : Os) (started : os.Started) (H : Type) (enc : TypeId × Value → H) :
    ReturnsInHanded {} Tryd.checked os 7 .any (fun w args => (Rows.scriptBytesSpec.pre enc Tryd.prog Tryd.f7 Rows.scriptBytesRow.domain false w args ∧ laidMetH Tryd.prog Rows.scriptBytesRow.laid w) ∧ sizedMet enc Tryd.prog Tryd.f7 (OpenSpec.ofChange Rows.scriptBytesSpec) false w args)
      (Rows.scriptBytesSpec.post enc Tryd.prog Tryd.f7 false true false false) := by
  refine returns_laid_shaped (C := Tryd.checked) (X := fun w _ => laidMetH Tryd.prog Rows.scriptBytesRow.laid w) (fun _ _ _ hh h => h.of_heap hh) own started (by kernel_rfl) Tryd.func7
    (ChangeSpec.witness_shaped (enc := enc) (C := Tryd.checked) (os := os) (X := fun w _ => laidMetH Tryd.prog Rows.scriptBytesRow.laid w) false (World.laidAll Tryd.prog os Rows.scriptBytesRow.laid) #[.slice none 0 0, .int .u8 0, .string ByteArray.empty] 8 (World.laidAll_os _ _ _)
      (World.shaped_of_ZipB (by kernel_rfl) (by kernel_rfl)) (by kernel_rfl) (by kernel_rfl) (by kernel_rfl)
      (by rw [MakeChecks.laidMetH_plain _ _ _ (by kernel_rfl)]; exact laidMet_laidAll _ (by kernel_rfl) (by kernel_rfl))) ?_
  intro W base args ds gs before hval0 hW _ hsz0 hL hsh
  have hval : ∀ (j : Nat) t v, Tryd.f7.params[j]? = some t → args[j]? = some v → Value.okWide Tryd.prog W .any base t v := hval0
  have hW' := hW
  obtain ⟨p, q, hA0, hV, rfl, _, _⟩ := hW
  have hA : DataW.TrodAll enc Tryd.prog W 0 (fun _ => true) true Tryd.f7.params.toList args.toList ds p := hA0
  rw [Tryd.params7] at hA hval
  obtain ⟨v0, vs0, d0, ds0, p0, q0, hargs, rfl, rfl, h0, r0⟩ := trodAll_cons hA
  obtain ⟨v1, vs1, d1, ds1, p1, q1, rfl, rfl, rfl, h1, r1⟩ := trodAll_cons r0
  obtain ⟨v2, vs2, d2, ds2, p2, q2, rfl, rfl, rfl, h2, r2⟩ := trodAll_cons r1
  obtain ⟨rfl, rfl, rfl⟩ := trodAll_nil r2
  obtain rfl : args = #[v0, v1, v2] := by cases args; simp_all
  obtain ⟨rfl, rfl⟩ := trodVars_none hV
  have k0 := h0
  have lt0 : ∀ x ∈ p0, x.block < W.heap.size := by obtain ⟨m, hm⟩ := k0; exact DataW.trod_lt m _ _ _ hm
  obtain ⟨A, n, c, xs, rfl, hr, hb, hn⟩ := bytes_arg (okWide_slice Tryd.underlying48 (hval 0 48 v0 rfl rfl)) h0
  obtain ⟨so, rfl, rfl, rfl, w1⟩ := open_int Tryd.underlying5 (hval 1 5 v1 rfl rfl) h1
  obtain ⟨s, rfl, rfl, rfl, hs⟩ := open_string Tryd.underlying9 (hval 2 9 v2 rfl rfl) h2
  have hG := glob_of hsh ((MakeChecks.laidMetH_plain _ _ _ (by kernel_rfl)).mp hL)
  clear hA0 hval0
  have hso : 0 ≤ so ∧ so < 256 := by
    have := w1
    simp [Lit.wf] at this
    have m0 : IntKind.u8.min = 0 := by decide
    have m1 : IntKind.u8.max = 255 := by decide
    exact ⟨by omega, by omega⟩
  refine (scriptBytes_calls (World.all W) A n c xs so s W (Et.all W) hG hr hb hso.1 hso.2 hn (by unfold maxLen at hs; omega)).mono fun e W' ⟨he, bel⟩ => ?_
  subst he
  exact ⟨_, rfl, _, _, _, [], _, [], hW', trodAll_mk1 (shut_bool Tryd.underlying4 _), (trodAll_cons_mk (Below.trod laidOut (by kernel_rfl) (of_decide_eq_true (by kernel_rfl)) k0 bel lt0) (trodAll_cons_mk (shut_int Tryd.underlying5 w1) (trodAll_cons_mk (shut_string Tryd.underlying9 hs) trodAll_mk0))), rfl, bel.frame _, fun h => by cases h⟩

theorem scriptBytes_row : Rows.ScriptBytesSaid :=
  OpenClaim.holds_of_wide 7 Tryd.f7 rfl rfl rfl rfl rfl rfl rfl ⟨rfl, rfl, rfl, rfl, rfl⟩ rfl rfl rfl rfl rfl (by kernel_rfl) Tryd.func7 (by kernel_rfl)
    (of_decide_eq_true (by kernel_rfl)) (by unfold Func.isWrapper; first | (rw [if_pos (by decide +kernel)]; kernel_rfl) | (rw [if_neg (by decide +kernel)]; exact ⟨rfl, rfl⟩))
    (fun os started H enc _ => scriptBytes_lifted os started H enc)

theorem scriptBytes_card : Rows.ScriptBytesCardSaid :=
  Claim7.holds_tied_plain_at .later [] [.data, .data, .data, .data, .sentinel, .sentinel, .pinned] true Rows.scriptBytesCard.stood.harness true
    scriptBytes_row (fun _ h => by cases h) (by kernel_rfl) (fun _ h => by cases h) scriptBytes_row_tie rfl ⟨rfl, rfl⟩ (by kernel_rfl) rfl
    (fun f fn hf hfn => by
      obtain rfl : f = 7 := Option.some.inj ((show Tryd.prog.funcNamed "tallyroom/tallyroomlaw29.ScriptBytes" = some 7 by kernel_rfl).symm.trans hf) |>.symm
      obtain rfl : fn = Tryd.f7 := (Option.some.inj (Tryd.func7.symm.trans hfn)).symm
      exact ⟨by kernel_rfl, fun j t ht => by
        rw [Tryd.params7] at ht
        have hm : t ∈ [48, 5, 9] := by simpa using Array.mem_of_getElem? ht
        have hall : ([48, 5, 9].all fun u => !Tryd.prog.wantsStandIn u) = true := by kernel_rfl
        exact (show Tryd.prog.wantsStandIn t = false by simpa using List.all_eq_true.1 hall t hm)⟩)
    (by kernel_rfl)
#print axioms scriptBytes_card
end Go.Proofs.YtdnglhcconnocaaDoor
