/- The call of script's Parse: what it returns. Conditions: the library's variables; the length. -/
import Derived.Test.YtdnglhcconnocaaDoorScW3
namespace Go.Proofs.YtdnglhcconnocaaDoor
open Go.RowKit

abbrev pC (p : Stp × Value) : List Value := stpC p.1 p.2
/-- A step's bytes in memory that is not written. -/
def Hdr (E : Eh) (b : List Int) (v : Value) : Prop := ∃ A c, v = .slice A b.length c ∧ Rd E 1 byteC A b.length b ∧ isBytes b
theorem Hdr.up {E E' : Eh} {b : List Int} {v : Value} (h : Hdr E b v) (k : E.le E') : Hdr E' b v := by
  obtain ⟨A, c, hv, hr, hb⟩ := h
  exact ⟨A, c, hv, hr.up k, hb⟩
/-- The same, in a block of the call's own. -/
def HdrN (n0 : Nat) (E : Eh) (b : List Int) (v : Value) : Prop := ∃ A c, v = .slice A b.length c ∧ Rd E 1 byteC A b.length b ∧ isBytes b ∧ NewA n0 E 5 A
theorem HdrN.up {n0 : Nat} {E E' : Eh} {b : List Int} {v : Value} (h : HdrN n0 E b v) (k : E.le E') : HdrN n0 E' b v := by
  obtain ⟨A, c, hv, hr, hb, hn⟩ := h
  exact ⟨A, c, hv, hr.up k, hb, hn.up k⟩
theorem HdrN.hdr {n0 : Nat} {E : Eh} {b : List Int} {v : Value} (h : HdrN n0 E b v) : Hdr E b v := by
  obtain ⟨A, c, hv, hr, hb, _⟩ := h
  exact ⟨A, c, hv, hr, hb⟩
/-- A slice of steps. -/
def Steps (E : Eh) (A : Option Addr) (n : Nat) (l : List Stp) : Prop := ∃ ps : List (Stp × Value), ps.map (·.1) = l ∧ Rd E 4 pC A n ps ∧ ∀ p ∈ ps, Hdr E p.1.b p.2
/-- A slice of steps in blocks of the call's own. -/
def StepsN (n0 : Nat) (E : Eh) (A : Option Addr) (n : Nat) (l : List Stp) : Prop := ∃ ps : List (Stp × Value), ps.map (·.1) = l ∧ Rd E 4 pC A n ps ∧ (∀ p ∈ ps, HdrN n0 E p.1.b p.2) ∧ NewA n0 E 50 A
theorem StepsN.steps {n0 : Nat} {E : Eh} {A : Option Addr} {n : Nat} {l : List Stp} (h : StepsN n0 E A n l) : Steps E A n l := by
  obtain ⟨ps, h1, h2, h3, _⟩ := h
  exact ⟨ps, h1, h2, fun p hp => (h3 p hp).hdr⟩
def ParsePost (E : Eh) (l : List UInt8) (w : World) (e : Ending) (w' : World) : Prop :=
  match parseF l with
  | some ss => ∃ A c E', e = .returned (.tuple #[.slice A ss.length c, .int .i64 0]) ∧ Ext E w E' w' ∧ StepsN w.heap.size E' A ss.length ss
  | none => e = .returned (.tuple #[.slice none 0 0, .int .i64 11]) ∧ Below w.heap.size w w'
def strLen : Value → Nat | .string s => s.size | _ => 0

theorem cut_none (E : Eh) (r : ByteArray) (w : World) (hE : Et E w) (hG : Glob E) (hs : r.size ≤ 1000000) (h : lineCut r.data.toList = none) :
    Calls Tryd.prog 32 #[.string r, .string ⟨#[10]⟩] w fun e w' => e = .returned (.tuple #[.string r, .string ⟨#[]⟩, .bool false]) ∧ Below w.heap.size w w' := by
  obtain ⟨m, hm⟩ := hG.maxLen
  refine (Tryd.strings_Cut r ⟨#[10]⟩ m w (by omega) (hE.cell hm)).mono ?_
  rintro e w' ⟨rfl, hw⟩
  have hc := cut_eq r.data.toList
  rw [h] at hc
  have h1 : (⟨#[10]⟩ : ByteArray).data.toList = [10] := rfl
  rw [h1, hc]
  exact ⟨rfl, below_drews hw⟩
theorem cut_some (E : Eh) (r : ByteArray) (w : World) (hE : Et E w) (hG : Glob E) (hs : r.size ≤ 1000000) (x y : ByteArray) (h : lineCut r.data.toList = some (x.data.toList, y.data.toList)) :
    Calls Tryd.prog 32 #[.string r, .string ⟨#[10]⟩] w fun e w' => e = .returned (.tuple #[.string x, .string y, .bool true]) ∧ Below w.heap.size w w' := by
  obtain ⟨m, hm⟩ := hG.maxLen
  refine (Tryd.strings_Cut r ⟨#[10]⟩ m w (by omega) (hE.cell hm)).mono ?_
  rintro e w' ⟨rfl, hw⟩
  have hc := cut_eq r.data.toList
  rw [h] at hc
  have h1 : (⟨#[10]⟩ : ByteArray).data.toList = [10] := rfl
  rw [h1, hc]
  exact ⟨rfl, below_drews hw⟩
theorem infoStepZ : (Tryd.prog.info? 50).map (fun i => (i.zero, i.size, i.bytes)) = some (some (.agg #[.int .i64 0, .int .i64 0, .int .i64 0, .slice none 0 0]), 4, 48) := by kernel_rfl

set_option maxHeartbeats 1000000 in
set_option maxRecDepth 100000 in
theorem parse_calls (E : Eh) (s : ByteArray) (w : World) (hE : Et E w) (hG : Glob E) (hs : s.size ≤ 1000000) :
    Calls Tryd.prog 19 #[.string s] w (ParsePost E s.data.toList w) := by
  go_enter Tryd.func19, Tryd.ntmps19
  go_wp2
  go_loopw [0, 4] (fun x l wr => ∃ (r : ByteArray) (ps : List (Stp × Value)) (Er : Eh), x = .string r ∧ r.size + ps.length ≤ s.size ∧ parseF s.data.toList = (parseF r.data.toList).map (ps.map (·.1) ++ ·) ∧
      Ext E w Er wr ∧ Own wr w.heap.size 50 4 pC l ps ∧ (∀ p ∈ ps, HdrN w.heap.size Er p.1.b p.2) ∧ (∀ g, l.ownBlock = some g → Er g = none)) (fun x _ _ => strLen x)
  case atStart => exact ⟨s, [], E, rfl, by simp, by cases parseF s.data.toList <;> simp, Ext.refl hE, Own.nil _ _ _ _ _, (fun p hp => by cases hp), (fun g hg => by cases hg)⟩
  case round =>
    obtain ⟨r, ps, Er, rfl, hsz, hpf, hext, hown, hdr, hfree⟩ := hrel
    have HPF := Lib.hid hpf
    clear hpf
    by_cases hemp : r.data.toList = []
    · have he : (r.toList == []) = true := by rw [Lib.toList_data, hemp]; rfl
      have hr0 : parseF r.data.toList = some [] := by rw [hemp]; rfl
      have HR0 := Lib.hid hr0
      clear hr0 hemp
      go_wp2
      go_ret2
      unfold ParsePost
      rw [HPF.out, HR0.out]
      obtain ⟨E2, A, c, x2, hle, rfl, hrd, _, hnew⟩ := Own.freeze (k := 4) (cs := pC) (fun _ => rfl) hown hext (Nat.le_refl _) hfree
      simp only [Option.map_some, List.append_nil]
      exact ⟨A, c, E2, by rw [List.length_map]; rfl, x2, ps, rfl, by rw [List.length_map]; exact hrd, (fun p hp => (hdr p hp).up hle), hnew⟩
    · have he : (r.toList == []) = false := by rw [Lib.toList_data, beq_eq_false_iff_ne]; exact hemp
      have hG' := hG.up hext.le
      have hcons := parseF_cons r.data.toList hemp
      cases hlc : lineCut r.data.toList with
      | none =>
        rw [hlc] at hcons
        have HC := Lib.hid hcons
        clear hcons hemp
        go_wp2_with fail
        refine (cut_none Er r _ hext.et hG' (by omega) hlc).mono ?_; rintro e w1 ⟨rfl, hb1⟩
        have hx1 := hext.step hb1
        clear hlc hb1
        go_wp2_with fail
        refine (step_calls Er r _ hx1.et hG' (by omega)).mono ?_; intro e w2 hp2
        unfold StepPost at hp2
        cases hst : stepF r.data.toList with
        | none =>
          rw [hst] at hp2
          obtain ⟨⟨a, b, c, A, n, cp, rfl⟩, hb2⟩ := hp2
          have hbel := Lib.hid ((hx1.below.trans (hb2.mono hx1.below.size)).alloc (by have := hx1.below.size; have := hb2.size; omega) (.cells #[.int .i64 a, .int .i64 b, .int .i64 c, .slice A n cp] 50))
          clear hst
          go_wp2
          go_ret2
          unfold ParsePost
          rw [HPF.out, HC.out]
          exact ⟨rfl, hbel.out⟩
        | some st =>
          rw [hst] at hp2
          obtain ⟨A, c, E3, rfl, x3, hrd3, hbb3⟩ := hp2
          have hbel := Lib.hid ((hx1.below.trans (x3.below.mono hx1.below.size)).alloc (by have := hx1.below.size; have := x3.below.size; omega) (.cells #[.int .i64 st.kind, .int .i64 st.source, .int .i64 st.shard, .slice A st.b.length c] 50))
          clear hst
          go_wp2
          go_ret2
          unfold ParsePost
          rw [HPF.out, HC.out]
          exact ⟨rfl, hbel.out⟩
      | some q =>
        obtain ⟨x, y⟩ := q
        rw [hlc] at hcons
        obtain ⟨X, rfl⟩ : ∃ X : ByteArray, X.data.toList = x := ⟨⟨x.toArray⟩, by simp⟩
        obtain ⟨Y, rfl⟩ : ∃ Y : ByteArray, Y.data.toList = y := ⟨⟨y.toArray⟩, by simp⟩
        have hlen := lineCut_len _ _ hlc
        have hl2 : X.size + 1 + Y.size = r.size := by
          have := congrArg List.length hlen.2
          simp only [List.length_append, List.length_cons] at this
          have e1 : r.data.toList.length = r.size := rfl
          have e2 : X.data.toList.length = X.size := rfl
          have e3 : Y.data.toList.length = Y.size := rfl
          omega
        have HC := Lib.hid hcons
        clear hcons hemp hlen
        go_wp2_with fail
        refine (cut_some Er r _ hext.et hG' (by omega) X Y hlc).mono ?_; rintro e w1 ⟨rfl, hb1⟩
        have hx1 := hext.step hb1
        have hown1 := hown.step hb1
        clear hlc hb1 hown
        go_wp2_with fail
        refine (step_calls Er X _ hx1.et hG' (by omega)).mono ?_; intro e w2 hp2
        unfold StepPost at hp2
        cases hst : stepF X.data.toList with
        | none =>
          rw [hst] at hp2
          obtain ⟨⟨a, b, c, A, n, cp, rfl⟩, hb2⟩ := hp2
          have hbel := Lib.hid ((hx1.below.trans (hb2.mono hx1.below.size)).alloc (by have := hx1.below.size; have := hb2.size; omega) (.cells #[.int .i64 a, .int .i64 b, .int .i64 c, .slice A n cp] 50))
          have HST := Lib.hid hst
          clear hst
          go_wp2
          go_ret2
          unfold ParsePost
          rw [HPF.out, HC.out]
          simp only []
          rw [HST.out]
          exact ⟨rfl, hbel.out⟩
        | some st =>
          rw [hst] at hp2
          obtain ⟨A, c, E3, rfl, x3, hrd3, hbb3⟩ := hp2
          have hx3 := (hx1.trans x3).alloc (.cells #[.int .i64 st.kind, .int .i64 st.source, .int .i64 st.shard, .slice A st.b.length c] 50)
          have hown3 := (hown1.step x3.below).alloc (.cells #[.int .i64 st.kind, .int .i64 st.source, .int .i64 st.shard, .slice A st.b.length c] 50)
          have hB3 := Blk.new w2 50 #[.int .i64 st.kind, .int .i64 st.source, .int .i64 st.shard, .slice A st.b.length c]
          have hfr3 : ∀ g, u4.ownBlock = some g → E3 g = none := fun g hg => Ext.free x3 (hfree g hg) (hown1.lt g hg).2
          have hbn3 := hbb3.2.mono hx1.below.size
          have hdr3 : ∀ p ∈ ps, HdrN w.heap.size E3 p.1.b p.2 := fun p hp => (hdr p hp).up x3.le
          have HST := Lib.hid hst
          clear hst hown1 hfree hdr hx1
          have x3le := x3.le
          clear x3
          go_wp2_with fail
          refine (check_calls st A st.b.length c _ rfl).mono ?_; rintro e w4 ⟨rfl, hb4⟩
          have hx4 := hx3.step hb4
          have hown4 := hown3.step hb4
          have hB4 := hB3.step hb4
          clear hb4 hown3 hB3 hx3
          by_cases hck : checkF st = 0
          · have b0 := hB4.cell 0
            have b1 := hB4.cell 1
            have b2 := hB4.cell 2
            have b3 := hB4.cell 3
            simp only [List.getElem?_toArray, List.getElem?_cons_zero, List.getElem?_cons_succ] at b0 b1 b2 b3
            have hne0 : (checkF st != 0) = false := by rw [hck]; rfl
            have HCK := Lib.hid hck
            clear hck
            go_wp2_with (at_builtin; refine app_own w.heap.size rfl _ _ 42 50 _ 4 48 pC rfl Tryd.underlying42 infoStepZ rfl (by decide) (by decide) u4 ps (st, .slice A st.b.length c) _ rfl rfl rfl rfl ?c1 hown4 ?cb ?cl ?_)
            case c1 => intro u hu; simp only [pC, stpC, List.mem_cons, List.not_mem_nil, or_false] at hu; rcases hu with rfl | rfl | rfl | rfl <;> rfl
            case cb => exact hx4.below.size
            case cl => omega
            intro v1 w5 ho5 hg5 hat5
            go_wp2_with fail
            refine ⟨⟨Y, ps ++ [(st, .slice A st.b.length c)], E3, rfl, by rw [List.length_append]; simp; omega, ?_, hx4.grown hg5 (fun g hg => ⟨(hown4.lt g hg).1, hfr3 g hg⟩), ho5, ?_, ?_⟩, by simp only [strLen]; omega⟩
            · rw [HPF.out, HC.out]
              simp only [HST.out]
              rw [if_pos HCK.out]
              cases parseF Y.data.toList <;> simp
            · intro p hp
              rcases List.mem_append.1 hp with hp | hp
              · exact hdr3 p hp
              · simp only [List.mem_singleton] at hp
                subst hp
                exact ⟨A, c, rfl, hrd3, hbb3.1, hbn3⟩
            · intro g hg
              rcases hat5 with h | h
              · exact hfr3 g (h.symm.trans hg)
              · rw [hg] at h
                injection h with h
                exact hx4.et.out (by omega)
          · have hne0 : (checkF st != 0) = true := by rw [bne_iff_ne]; exact hck
            have b0 := hB4.cell 0
            have HCK := Lib.hid hck
            have hbel := Lib.hid hx4.below
            clear hck
            go_wp2
            go_ret2
            unfold ParsePost
            rw [HPF.out, HC.out]
            simp only [HST.out]
            rw [if_neg HCK.out]
            exact ⟨rfl, hbel.out⟩
end Go.Proofs.YtdnglhcconnocaaDoor
