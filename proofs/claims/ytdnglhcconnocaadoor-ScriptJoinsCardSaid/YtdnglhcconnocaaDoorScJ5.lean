/- The law ScriptJoins: what it returns. Conditions: the library's variables; the steps in memory that is not written. -/
import Derived.Test.YtdnglhcconnocaaDoorScJ3
import Derived.Test.YtdnglhcconnocaaDoorScJ4
namespace Go.Proofs.YtdnglhcconnocaaDoor
open Go.RowKit

theorem lineF_len3 {s : Stp} (h : checkF s = 0) (hb : s.b.length ≤ 3000) : (lineF s).length ≤ 6100 := by
  have hbd : 0 ≤ s.source ∧ s.source ≤ 15 ∧ 0 ≤ s.shard ∧ s.shard ≤ 63 ∧ s.b.length ≤ 65536 := by
    unfold checkF at h
    repeat' split at h
    all_goals omega
  have h1 := itoa_small hbd.1 (by omega)
  have h2 := itoa_small hbd.2.2.1 (by omega)
  have h3 : (hexF s.b).length ≤ 6001 := by
    unfold hexF
    split
    · simp
    · rw [hexL_len]; omega
  unfold lineF
  simp only [sDeliver, sTick, sClose, sFlush, sEnd]
  repeat' split
  all_goals simp only [List.length_append, List.length_cons, List.length_nil]
  all_goals omega
theorem textF_len3 : ∀ (l : List Stp), (∀ s ∈ l, checkF s = 0 ∧ s.b.length ≤ 3000) → (textF l).length ≤ 6101 * l.length
  | [], _ => by simp [textF]
  | a :: l, h => by
    have ih := textF_len3 l (fun s hs => h s (by simp [hs]))
    have h1 := lineF_len3 (h a (by simp)).1 (h a (by simp)).2
    simp only [textF, List.flatMap_cons, List.length_append, List.length_cons, List.length_nil] at ih ⊢
    omega
theorem infoRefStepZ : (Tryd.prog.info? 53).map (fun i => (i.zero, i.size, i.bytes)) = some (some (.agg #[.int .i64 0, .int .i64 0, .int .i64 0, .slice none 0 0]), 4, 48) := by kernel_rfl
theorem pC_len (p : Stp × Value) : (pC p).length = 4 := rfl
theorem Steps.up {E E' : Eh} {A : Option Addr} {n : Nat} {l : List Stp} (h : Steps E A n l) (k : E.le E') : Steps E' A n l := by
  obtain ⟨ps, h1, h2, h3⟩ := h
  exact ⟨ps, h1, h2.up k, fun p hp => (h3 p hp).up k⟩
theorem StepsZ.one {E : Eh} {ps : List (Stp × Value)} (h : ∀ p ∈ ps, HdrZ E p.1.b p.2) : ∀ y ∈ ps, ∀ u ∈ pC y, u.oneCell' = true := fun y hy u hu => by
  obtain ⟨A, c, hv, _⟩ := h y hy
  simp only [pC, stpC, List.mem_cons, List.not_mem_nil, or_false] at hu
  rcases hu with rfl | rfl | rfl | rfl
  · rfl
  · rfl
  · rfl
  · rw [hv]; rfl

/-- What holds while the law writes into the bytes that it was handed. -/
def Sev (W0 w6 : World) (A6 : Option Addr) (ps : List (Stp × Value)) (wr : World) : Prop :=
  Below W0.heap.size W0 wr ∧ (∀ a, A6 = some a → wr.heap[a.block]? = w6.heap[a.block]?) ∧
  ∀ p ∈ ps, ∀ A c, p.2 = .slice A p.1.b.length c → ∀ a, A = some a → ∃ cc, Blk wr a.block 5 cc ∧ (0 < p.1.b.length → a.off + p.1.b.length ≤ cc.size)
theorem Sev.set {W0 w6 wr : World} {A6 : Option Addr} {ps : List (Stp × Value)} (h : Sev W0 w6 A6 ps wr) {B : Nat} (o : Nat) (v : Value) (hB : W0.heap.size ≤ B) (hA6 : ∀ a, A6 = some a → a.block ≠ B) : Sev W0 w6 A6 ps (wr.setCell ⟨B, o, none⟩ v) := by
  refine ⟨h.1.setCell (p := ⟨B, o, none⟩) hB v, fun a ha => ?_, fun p hp A c hv a ha => ?_⟩
  · rw [Below.heap_setCell wr ⟨B, o, none⟩ v a.block (hA6 a ha)]
    exact h.2.1 a ha
  · obtain ⟨cc, hc, hl⟩ := h.2.2 p hp A c hv a ha
    by_cases e : a.block = B
    · subst e
      exact ⟨_, hc.set_ o v, by simpa using hl⟩
    · exact ⟨cc, hc.far e v, hl⟩

set_option maxHeartbeats 1000000 in
set_option maxRecDepth 100000 in
theorem scriptJoins_calls (E : Eh) (la lb : List Stp) (A B : Option Addr) (n m c d : Nat) (w : World) (hE : Et E w) (hG : Glob E) (ha : StepsZ E A n la) (hb : StepsZ E B m lb) (hAc : A = none → c = 0) (hBd : B = none → d = 0)
    (hn : n ≤ 9223372036854775807) (hm : m ≤ 9223372036854775807) :
    Calls Tryd.prog 6 #[.slice A n c, .slice B m d] w fun e w' => e = .returned (.bool true) ∧ Below w.heap.size w w' := by
  by_cases hbn : 20 < n
  · go_enter Tryd.func6, Tryd.ntmps6
    go_wp2_with fail
    refine (alive_calls E _ hE hG).mono ?_; rintro e w1 ⟨rfl, hb1⟩
    go_wp2_with fail
    go_ret
    exact ⟨rfl, hb1⟩
  · by_cases hbm : 20 < m
    · go_enter Tryd.func6, Tryd.ntmps6
      go_wp2_with fail
      refine (alive_calls E _ hE hG).mono ?_; rintro e w1 ⟨rfl, hb1⟩
      go_wp2_with fail
      go_ret
      exact ⟨rfl, hb1⟩
    · obtain ⟨pa, hpa, hra, hda⟩ := ha
      obtain ⟨pb, hpb, hrb, hdb⟩ := hb
      have hla := hra.1
      have hlb := hrb.1
      have HPA := Lib.hid hpa
      have HPB := Lib.hid hpb
      clear hpa hpb
      go_enter Tryd.func6, Tryd.ntmps6
      go_wp2_with fail
      refine (alive_calls E _ hE hG).mono ?_; rintro e w1 ⟨rfl, hb1⟩
      go_wp2_with fail
      go_loopw [5] (fun i wr => ∃ k : Nat, k ≤ n + m ∧ i = .int .i64 k ∧ Below w.heap.size w wr ∧ (∀ s ∈ ((pa ++ pb).take k).map (·.1), checkF s = 0 ∧ s.b.length ≤ 3000)) (fun i _ => n + m - (intOf i).toNat)
      case atStart => exact ⟨0, by omega, rfl, hb1, (fun s hs => by cases hs)⟩
      case round =>
        obtain ⟨k, hk, rfl, hbr, hall⟩ := hrel
        by_cases hlt : k < n + m
        · have hEr := hE.below hbr
          have onea := StepsZ.one hda
          have oneb := StepsZ.one hdb
          have hsa : Src (wr.alloc (.cells #[] 53)) 4 pC A n c pa := Src.of_rd (hEr.alloc _) hra (fun _ => rfl) (by decide) hAc
          have hown0 : Own (wr.alloc (.cells #[] 53)) wr.heap.size 53 4 pC (.slice (some ⟨wr.heap.size, 0, none⟩) 0 0) [] := Own.empty wr wr.heap.size 53 4 pC (Nat.le_refl _)
          have x0 : Ext E wr E (wr.alloc (.cells #[] 53)) := (Ext.refl hEr).alloc _
          go_wp2_with (at_builtin; refine app_list wr.heap.size rfl _ _ 52 53 _ 4 48 pC rfl Tryd.underlying52 infoRefStepZ rfl (by decide) (by decide) _ [] A n c pa rfl rfl hsa (fun _ => rfl) onea hown0 ?cb ?cl ?_)
          case cb => simp
          case cl => simp; omega
          intro v1 w1 ho1 hg1 hat1
          replace ho1 : Own w1 wr.heap.size 53 4 pC v1 pa := ho1
          have x1 := x0.grown hg1 (fun b hb => by have : b = wr.heap.size := by (injection hb with hb; exact hb.symm)
                                                  subst this; exact ⟨Nat.le_refl _, hEr.out (Nat.le_refl _)⟩)
          have hsb : Src w1 4 pC B m d pb := Src.of_rd x1.et hrb (fun _ => rfl) (by decide) hBd
          have hv1 := ho1.lt
          clear hsa hown0 hg1 hat1 x0
          go_wp2_with (at_builtin; refine app_list wr.heap.size rfl _ _ 52 53 _ 4 48 pC rfl Tryd.underlying52 infoRefStepZ rfl (by decide) (by decide) _ pa B m d pb rfl rfl hsb (fun _ => rfl) oneb ho1 ?cb ?cl ?_)
          case cb => exact x1.below.size
          case cl => omega
          intro v2 w2 ho2 hg2 hat2
          have x2 := x1.grown hg2 (fun b hb => ⟨(hv1 b hb).1, hEr.out (hv1 b hb).1⟩)
          have hv2 := ho2.lt
          obtain ⟨E3, A3, c3, x3, _, rfl, hrd3, _, _⟩ := Own.freeze (k := 4) (cs := pC) (fun _ => rfl) ho2 x2 (Nat.le_refl _) (fun b hb => hEr.out (hv2 b hb).1)
          have hl3 : (pa ++ pb).length = n + m := by rw [List.length_append, hla, hlb]
          rw [hl3] at hrd3
          obtain ⟨g, off, p, rfl, hp, hcell⟩ := hrd3.at_ hlt
          obtain ⟨st, v⟩ := p
          have hmem := List.mem_of_getElem? hp
          have hdr : HdrZ E st.b v := by
            rcases List.mem_append.1 hmem with h | h
            · exact hda _ h
            · exact hdb _ h
          obtain ⟨A4, c4, hv, hb4, hbb4, _⟩ := hdr
          subst hv
          have q0 := hcell 0 _ rfl _ x3.et
          have q1 := hcell 1 _ rfl _ x3.et
          have q2 := hcell 2 _ rfl _ x3.et
          have q3 := hcell 3 _ rfl _ x3.et
          simp only [Nat.add_zero, ← Nat.add_assoc] at q0 q1 q2 q3
          have hbel2 := hbr.trans (x3.below.mono hbr.size)
          rw [hl3]
          have hb4l := hb4.2.1
          clear hcell ho1 ho2 hg2 hat2 x1 x2 hrd3 hv1 hv2 hsb onea oneb hmem
          have hbel3 := hbel2.alloc hbel2.size (.cells #[.int .i64 st.kind, .int .i64 st.source, .int .i64 st.shard, .slice A4 st.b.length c4] 53)
          by_cases hbig : 3000 < st.b.length
          · go_wp2_with fail
            go_ret
            exact ⟨rfl, hbel3⟩
          · by_cases hck : refCheckF st = 0
            · have HCK := Lib.hid hck
              clear hck
              go_wp2_with fail
              refine (refCheck_calls st A4 st.b.length c4 _ rfl hb4l).mono ?_; rintro e w5 ⟨rfl, hb5⟩
              rw [HCK.out]
              have hbel5 := hbel3.trans (hb5.mono hbel3.size)
              go_wp2_with fail
              refine ⟨⟨k + 1, by omega, by go_num, hbel5, fun s hs => ?_⟩, by simp [intOf]; omega⟩
              rw [List.take_add_one, hp, List.map_append] at hs
              rcases List.mem_append.1 hs with hs | hs
              · exact hall s hs
              · simp only [Option.toList_some, List.map_cons, List.map_nil, List.mem_singleton] at hs
                subst hs
                exact ⟨refCheck_zero HCK.out, by omega⟩
            · have hck' : (refCheckF st != 0) = true := by rw [bne_iff_ne]; exact hck
              go_wp2_with fail
              refine (refCheck_calls st A4 st.b.length c4 _ rfl hb4l).mono ?_; rintro e w5 ⟨rfl, hb5⟩
              have hbel5 := hbel3.trans (hb5.mono hbel3.size)
              go_wp2_with fail
              go_ret
              exact ⟨rfl, hbel5⟩
        · obtain rfl : k = n + m := by omega
          have hall' : ∀ s ∈ la ++ lb, checkF s = 0 ∧ s.b.length ≤ 3000 := by
            rw [List.take_of_length_le (by rw [List.length_append]; omega), List.map_append, HPA.out, HPB.out] at hall
            exact hall
          have haZ : StepsZ E A n la := ⟨pa, HPA.out, hra, hda⟩
          have hbZ : StepsZ E B m lb := ⟨pb, HPB.out, hrb, hdb⟩
          have hEr := hE.below hbr
          have hlaa : la.length = n := by rw [← HPA.out, List.length_map, hla]
          have hlbb : lb.length = m := by rw [← HPB.out, List.length_map, hlb]
          have hta := textF_len3 la (fun s hs => hall' s (by simp [hs]))
          have htb := textF_len3 lb (fun s hs => hall' s (by simp [hs]))
          clear hall
          go_wp2_with fail
          refine (of_calls E la A n c _ hEr haZ (by omega) (fun s hs => by have := (hall' s (by simp [hs])).2; omega)).mono ?_; rintro e w2 ⟨A2, c2, E2, rfl, x2, hs2⟩
          go_wp2_with fail
          refine (print_calls E2 la A2 n c2 _ x2.et (hG.up x2.le) hs2 (fun s hs => (hall' s (by simp [hs])).1) (by omega) (by omega)).mono ?_; rintro e w3 ⟨rfl, hb3⟩
          have x3 := x2.step hb3
          go_wp2_with fail
          refine (of_calls E lb B m d _ (x3.et.sub x3.le) hbZ (by omega) (fun s hs => by have := (hall' s (by simp [hs])).2; omega)).mono ?_; rintro e w4 ⟨A4, c4, E4, rfl, x4, hs4⟩
          go_wp2_with fail
          refine (print_calls E4 lb A4 m c4 _ x4.et (hG.up x4.le) hs4 (fun s hs => (hall' s (by simp [hs])).1) (by omega) (by omega)).mono ?_; rintro e w5 ⟨rfl, hb5⟩
          have hbel5 : Below w.heap.size w w5 := by
            have h3 := hbr.trans (x3.below.mono hbr.size)
            have h4 := h3.trans (x4.below.mono h3.size)
            exact h4.trans (hb5.mono h4.size)
          have hE5 := hE.below hbel5
          clear hb5 x4 hs4 x3 hs2 hb3 x2
          have hbytes : ∀ s ∈ la ++ lb, okStp s := by
            intro s hs
            refine ⟨(hall' s hs).1, ?_⟩
            rcases List.mem_append.1 hs with h | h
            · rw [← HPA.out] at h
              obtain ⟨p, hp, rfl⟩ := List.mem_map.1 h
              obtain ⟨_, _, _, _, hbb, _⟩ := hda p hp
              exact hbb
            · rw [← HPB.out] at h
              obtain ⟨p, hp, rfl⟩ := List.mem_map.1 h
              obtain ⟨_, _, _, _, hbb, _⟩ := hdb p hp
              exact hbb
          have hP : parseF (textF la ++ textF lb) = some (la ++ lb) := by rw [← textF_append]; exact text_back _ hbytes
          have hPa : parseF (textF la) = some la := text_back _ (fun s hs => hbytes s (by simp [hs]))
          have HP := Lib.hid hP
          have HPa := Lib.hid hPa
          have HALL := Lib.hid hall'
          clear hP hPa hbytes hall'
          go_wp2_with fail
          rw [ba_append]
          refine (parse_calls E ⟨(textF la ++ textF lb).toArray⟩ _ hE5 hG (by show (textF la ++ textF lb).toArray.size ≤ _; rw [List.size_toArray, List.length_append]; omega)).mono ?_; intro e w6 hp6
          unfold ParsePost at hp6
          simp only [HP.out] at hp6
          obtain ⟨A6, c6, E6, rfl, x6, hsN⟩ := hp6
          have hll : (la ++ lb).length = n + m := by rw [List.length_append, hlaa, hlbb]
          rw [hll] at hsN ⊢
          have hbel6 := hbel5.trans (x6.below.mono hbel5.size)
          have hE6 := hE.below hbel6
          have onea := StepsZ.one hda
          have oneb := StepsZ.one hdb
          have hsa : Src (w6.alloc (.cells #[] 53)) 4 pC A n c pa := Src.of_rd (hE6.alloc _) hra (fun _ => rfl) (by decide) hAc
          have hown0 : Own (w6.alloc (.cells #[] 53)) w6.heap.size 53 4 pC (.slice (some ⟨w6.heap.size, 0, none⟩) 0 0) [] := Own.empty w6 w6.heap.size 53 4 pC (Nat.le_refl _)
          have x7 : Ext E6 w6 E6 (w6.alloc (.cells #[] 53)) := (Ext.refl x6.et).alloc _
          go_wp2_with (at_builtin; refine app_listG w6.heap.size rfl _ _ 52 53 _ 4 48 pC rfl Tryd.underlying52 infoRefStepZ rfl (by decide) (by decide) _ [] A n c pa rfl rfl hsa (fun _ => rfl) onea hown0 ?cb ?cl ?_)
          case cb => simp
          case cl => simp; omega
          intro v1 w7 ho1 hg1 hat1
          replace ho1 : Own w7 w6.heap.size 53 4 pC v1 pa := ho1
          have x8 := x7.grown hg1 (fun b hb => by have : b = w6.heap.size := by (injection hb with hb; exact hb.symm)
                                                  subst this; exact ⟨Nat.le_refl _, x6.et.out (Nat.le_refl _)⟩)
          have hbl7 : Below w6.heap.size w6 w7 := x8.below
          have hsb : Src w7 4 pC B m d pb := Src.of_rd (hE6.below hbl7) hrb (fun _ => rfl) (by decide) hBd
          have hv1 := ho1.lt
          clear hsa hown0 hg1 hat1 x7
          go_wp2_with (at_builtin; refine app_listG w6.heap.size rfl _ _ 52 53 _ 4 48 pC rfl Tryd.underlying52 infoRefStepZ rfl (by decide) (by decide) _ pa B m d pb rfl rfl hsb (fun _ => rfl) oneb ho1 ?cb ?cl ?_)
          case cb => exact hbl7.size
          case cl => omega
          intro v2 w8 ho2 hg2 hat2
          have x9 := x8.grown hg2 (fun b hb => ⟨(hv1 b hb).1, x6.et.out (hv1 b hb).1⟩)
          have hv2 := ho2.lt
          obtain ⟨E9, A9, c9, x10, _, rfl, hrd9, _, _⟩ := Own.freeze (k := 4) (cs := pC) (fun _ => rfl) ho2 x9 (Nat.le_refl _) (fun b hb => x6.et.out (hv2 b hb).1)
          have hl3 : (pa ++ pb).length = n + m := by rw [List.length_append, hla, hlb]
          have hs9 : Steps E9 A9 (n + m) (la ++ lb) := by
            rw [hl3] at hrd9
            refine ⟨pa ++ pb, by rw [List.map_append, HPA.out, HPB.out], hrd9, fun p hp => ?_⟩
            have hz : HdrZ E p.1.b p.2 := by
              rcases List.mem_append.1 hp with h | h
              · exact hda _ h
              · exact hdb _ h
            obtain ⟨A4, c4, hv, hb4, hbb4, _⟩ := hz
            refine ⟨A4, c4, hv, ?_, hbb4⟩
            exact hb4.up (x6.le.trans x10.le)
          rw [hl3]
          clear ho1 ho2 hg2 hat2 x8 x9 hrd9 hv1 hv2 hsb onea oneb
          go_wp2_with fail
          refine (same_calls E9 (la ++ lb) A6 A9 (n + m) (n + m) c6 c9 _ x10.et (hsN.steps.up x10.le) hs9).mono ?_; rintro e w10 ⟨rfl, hb10⟩
          go_wp2_with fail
          have hb610 : Below w6.heap.size w6 w10 := x10.below.trans (hb10.mono x10.below.size)
          obtain ⟨ps, hps, hr6, hdr6, hnew6⟩ := hsN
          have hpl := hr6.1
          have h56 := x6.below.size
          have h65 : w.heap.size ≤ w5.heap.size := hbel5.size
          have hsev : Sev w w6 A6 ps w10 := by
            refine ⟨hbel6.trans (hb610.mono hbel6.size), fun a ha => ?_, fun p hp A c hv a ha => ?_⟩
            · obtain ⟨_, cc, hc⟩ := hnew6 a ha
              exact hb610.block _ (x6.et.lt hc)
            · obtain ⟨A', c', hv', hrb', hbb', hn'⟩ := hdr6 p hp
              rw [hv] at hv'
              injection hv' with e1 _ e2
              subst e1 e2
              obtain ⟨_, cc, hc⟩ := hn' a ha
              refine ⟨cc, (hb610.block _ (x6.et.lt hc)).trans (x6.et _ _ hc), fun h0 => ?_⟩
              obtain ⟨g, off, y, ha', hy, hcell⟩ := hrb'.at_ (i := p.1.b.length - 1) (by omega)
              rw [ha] at ha'
              injection ha' with ha'
              subst ha'
              have h1 := hcell 0 _ rfl w6 x6.et
              rw [cell_of_row _ _ _ _ _ _ (x6.et _ _ hc)] at h1
              have := (Array.getElem?_eq_some_iff.1 h1).1
              simp only [Nat.mul_one, Nat.add_zero] at this
              show off + p.1.b.length ≤ cc.size
              omega
          have hdiff : ∀ p ∈ ps, ∀ A c, p.2 = .slice A p.1.b.length c → ∀ a, A = some a → w.heap.size ≤ a.block ∧ ∀ a6, A6 = some a6 → a6.block ≠ a.block := by
            intro p hp A c hv a ha
            obtain ⟨A', c', hv', hrb', hbb', hn'⟩ := hdr6 p hp
            rw [hv] at hv'
            injection hv' with e1 _ e2
            subst e1 e2
            obtain ⟨hge, cc, hc⟩ := hn' a ha
            refine ⟨by omega, fun a6 ha6 e => ?_⟩
            obtain ⟨_, cc6, hc6⟩ := hnew6 a6 ha6
            rw [e, hc] at hc6
            simp at hc6
          clear hb610 x10 hb10 hs9
          go_loopw [13] (fun i wr => ∃ k : Nat, k ≤ n + m ∧ i = .int .i64 k ∧ Sev w w6 A6 ps wr) (fun i _ => n + m - (intOf i).toNat)
          case atStart => exact ⟨0, by omega, rfl, hsev⟩
          case round =>
            obtain ⟨k, hk, rfl, hsv⟩ := hrel
            by_cases hlt : k < n + m
            · obtain ⟨g, off, p, rfl, hp, hcell⟩ := hr6.at_ hlt
              obtain ⟨st, v⟩ := p
              have hmem := List.mem_of_getElem? hp
              obtain ⟨A7, c7, hv, hr7, hb7, hn7⟩ := hdr6 _ hmem
              simp only [] at hv hr7
              subst hv
              have z3 : ∀ W, Sev w w6 (some ⟨g, off, none⟩) ps W → W.cell? ⟨g, off + k * 4 + 3, none⟩ = some (.slice A7 st.b.length c7) := by
                intro W hW
                have h1 := hcell 3 _ rfl w6 x6.et
                rw [Nat.add_assoc]
                unfold World.cell? at h1 ⊢
                rw [hW.2.1 ⟨g, off, none⟩ rfl]
                exact h1
              have hst7' := fun W (hW : Sev w w6 (some ⟨g, off, none⟩) ps W) => hW.2.2 _ hmem A7 c7 rfl
              have hd7 := hdiff _ hmem A7 c7 rfl
              have hl7 := hr7.2.1
              have q3 := z3 _ hsv
              clear hcell
              go_wp2_with fail
              go_loopw [14] (fun i wr => ∃ j : Nat, j ≤ st.b.length ∧ i = .int .i64 j ∧ Sev w w6 (some ⟨g, off, none⟩) ps wr) (fun i _ => st.b.length - (intOf i).toNat)
              case atStart => exact ⟨0, by omega, rfl, hsv⟩
              case round =>
                obtain ⟨j, hj, rfl, hsj⟩ := hrel
                have q3j := z3 _ hsj
                by_cases hjl : j < st.b.length
                · obtain ⟨g7, off7, y, rfl, hy, hc7⟩ := hr7.at_ hjl
                  obtain ⟨cc, hcc, hsz7⟩ := hst7' wr hsj ⟨g7, off7, none⟩ rfl
                  have hin : off7 + j < cc.size := by have := hsz7 (by omega); simp only [] at this; omega
                  have hdd := hd7 ⟨g7, off7, none⟩ rfl
                  have f0 := hcc.cell (off7 + j)
                  rw [Array.getElem?_eq_getElem hin] at f0
                  have f1 := hcc.frozen (off7 + j)
                  simp only [] at f0 f1
                  have hset := hsj.set (off7 + j) (.int .u8 7) hdd.1 hdd.2
                  clear hc7
                  go_wp2_with fail
                  exact ⟨⟨j + 1, by omega, by go_num, hset⟩, by simp [intOf]; omega⟩
                · go_wp2_with fail
                  exact ⟨⟨k + 1, by omega, by go_num, hsj⟩, by simp [intOf]; omega⟩
            · have hbel := hsv.1
              have hEk := hE.below hbel
              go_wp2_with fail
              refine (parse_calls E ⟨(textF la).toArray⟩ _ hEk hG (by show (textF la).toArray.size ≤ _; rw [List.size_toArray]; omega)).mono ?_; intro e w11 hp11
              unfold ParsePost at hp11
              simp only [HPa.out] at hp11
              obtain ⟨A11, c11, E11, rfl, x11, hs11⟩ := hp11
              replace hs11 := hs11.steps
              rw [hlaa] at hs11 ⊢
              have hbel11 := hbel.trans (x11.below.mono hbel.size)
              go_wp2_with fail
              refine (same_calls E11 la A11 A n n c11 c _ x11.et hs11 (haZ.steps.up x11.le)).mono ?_; rintro e w12 ⟨rfl, hb12⟩
              have hE12 := x11.et.below hb12
              have hbel12 := hbel11.trans (hb12.mono hbel11.size)
              go_wp2_with fail
              refine (ends_calls E11 la A11 n c11 _ hE12 hs11).mono ?_; rintro e w13 ⟨rfl, rfl⟩
              by_cases h0 : n = 0
              · subst h0
                have hle := List.eq_nil_of_length_eq_zero hlaa
                have hen : endsF la = false := by rw [hle]; rfl
                rw [hen]
                go_wp2_with fail
                go_ret
                exact ⟨rfl, hbel12⟩
              · obtain ⟨ga, offa, pl, rfl, hpl', hcella⟩ := hra.at_ (i := n - 1) (by omega)
                have hen : endsF la = (pl.1.kind == 4) := by
                  unfold endsF
                  rw [List.getLast?_eq_getElem?, hlaa, ← HPA.out, List.getElem?_map, hpl']
                  simp only [Option.map_some]
                  rw [Bool.eq_iff_iff, beq_iff_eq, decide_eq_true_iff]
                have qa := hcella 0 _ rfl _ (hE.below hbel12)
                rw [hen]
                obtain ⟨n', rfl⟩ : ∃ n', n = n' + 1 := ⟨n - 1, by omega⟩
                simp only [Nat.add_zero, Nat.add_sub_cancel] at qa
                have hkk : ((pl.1.kind == 4) == (pl.1.kind == 4)) = true := by simp
                clear hcella
                go_wp2_with fail
                go_ret
                refine ⟨?_, hbel12⟩
                simp
end Go.Proofs.YtdnglhcconnocaaDoor
