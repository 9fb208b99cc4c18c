/- The law ScriptBytes: what it returns. Conditions: the library's variables; the bytes in memory that is not written. -/
import Derived.Test.YtdnglhcconnocaaDoorScW6
import Derived.Test.YtdnglhcconnocaaDoorScBack
namespace Go.Proofs.YtdnglhcconnocaaDoor
open Go.RowKit

theorem bytesEq_same (A B : Option Addr) (n m c d : Nat) (xs : List Int) (w : World) (hx : BytesAre w A n xs) (hy : BytesAre w B m xs) (bx : isBytes xs) :
    Calls Tryd.prog 26 #[.slice A n c, .slice B m d] w fun e w' => e = .returned (.bool true) ∧ w' = w :=
  (bytesEq_calls A B n m c d xs xs w hx hy bx bx).mono fun e w' h => ⟨by rw [h.1, decide_eq_true rfl], h.2⟩

/-- A whole block that reads as a list. -/
theorem Rd.of_block {α : Type} {E : Eh} {k : Nat} {cs : α → List Value} (hk : ∀ x, (cs x).length = k) {b : Nat} {t : TypeId} {fr : Nat × Nat} (l : List α) (h : E b = some (.cells (l.flatMap cs).toArray t fr)) (hn : l.length ≤ 9223372036854775807) : Rd E k cs (some ⟨b, 0, none⟩) l.length l :=
  ⟨rfl, hn, fun _ => ⟨b, 0, rfl, fun i x j v hi hj => by
    have := flat_get cs k hk l i x j v hi hj
    unfold Eh.cell
    rw [h, Nat.zero_add]
    simpa using this⟩⟩

set_option maxHeartbeats 1000000 in
set_option maxRecDepth 100000 in
theorem scriptBytes_calls (E : Eh) (A : Option Addr) (n c : Nat) (xs : List Int) (so : Int) (odd : ByteArray) (w : World) (hE : Et E w) (hG : Glob E) (hr : Rd E 1 byteC A n xs) (hb : isBytes xs)
    (h0 : 0 ≤ so) (h1 : so < 256) (hn : n ≤ 9223372036854775807) (hodd : odd.size ≤ 9223372036854775807) :
    Calls Tryd.prog 7 #[.slice A n c, .int .u8 so, .string odd] w fun e w' => e = .returned (.bool true) ∧ Below w.heap.size w w' := by
  by_cases hbn : 2000 < n
  · go_enter Tryd.func7, Tryd.ntmps7
    go_wp2_with fail
    refine (alive_calls E _ hE hG).mono ?_; rintro e w1 ⟨rfl, hb1⟩
    go_wp2_with fail
    go_ret
    exact ⟨rfl, hb1⟩
  · by_cases hbo : 200 < odd.size
    · go_enter Tryd.func7, Tryd.ntmps7
      go_wp2_with fail
      refine (alive_calls E _ hE hG).mono ?_; rintro e w1 ⟨rfl, hb1⟩
      go_wp2_with fail
      go_ret
      exact ⟨rfl, hb1⟩
    · have hlen := hr.1
      have hck : ∀ s ∈ ([⟨0, so % 16, 0, xs⟩, ⟨1, 0, 0, []⟩] : List Stp), okStp s := by
        intro s hs
        simp only [List.mem_cons, List.not_mem_nil, or_false] at hs
        rcases hs with rfl | rfl
        · refine ⟨?_, hb⟩
          unfold checkF
          simp only []
          repeat' split
          all_goals omega
        · exact ⟨by decide, fun x hx => by cases hx⟩
      have hback := text_back _ hck
      have htl := textF_len _ (fun s hs => (hck s hs).1)
      simp only [List.length_cons, List.length_nil] at htl
      have hck' : ∀ s ∈ ([⟨0, so % 16, 0, xs⟩, ⟨1, 0, 0, []⟩] : List Stp), checkF s = 0 := fun s hs => (hck s hs).1
      have HT := Lib.hid (show (textF ([⟨0, so % 16, 0, xs⟩, ⟨1, 0, 0, []⟩] : List Stp)).length ≤ 400002 by omega)
      have HB := Lib.hid hback
      clear hback htl hck
      have t0 : Int.tmod so 16 = so % 16 := Int.tmod_eq_emod_of_nonneg h0
      go_enter Tryd.func7, Tryd.ntmps7
      go_wp2_with fail
      refine (alive_calls E _ hE hG).mono ?_; rintro e w1 ⟨rfl, hb1⟩
      go_wp2_with fail
      have x0 := ((Ext.of_below hE hb1).alloc (.cells #[.int .i64 0, .int .i64 (so % 16), .int .i64 0, .slice A n c] 50)).alloc (.cells #[.int .i64 0, .int .i64 (so % 16), .int .i64 0, .slice A n c, .int .i64 1, .int .i64 0, .int .i64 0, .slice none 0 0] 50)
      have hE1 := hE.below hb1
      have hnE : E (w1.heap.size + 1) = none := hE1.out (by omega)
      have hblk : Blk (w1.alloc (.cells #[.int .i64 0, .int .i64 (so % 16), .int .i64 0, .slice A n c] 50)) w1.heap.size 50 #[.int .i64 0, .int .i64 (so % 16), .int .i64 0, .slice A n c] := Blk.new _ _ _
      have hsz1 : (w1.alloc (.cells #[.int .i64 0, .int .i64 (so % 16), .int .i64 0, .slice A n c] 50)).heap.size = w1.heap.size + 1 := by simp
      generalize hW1 : w1.alloc (.cells #[.int .i64 0, .int .i64 (so % 16), .int .i64 0, .slice A n c] 50) = W1 at x0 hblk hsz1 ⊢
      have hnew := heap_alloc_new W1 (.cells #[.int .i64 0, .int .i64 (so % 16), .int .i64 0, .slice A n c, .int .i64 1, .int .i64 0, .int .i64 0, .slice none 0 0] 50)
      rw [hsz1] at hnew
      have x1 := x0.freeze hnew hnE (by have := hb1.size; omega)
      have hblk2 := hblk.alloc (.cells #[.int .i64 0, .int .i64 (so % 16), .int .i64 0, .slice A n c, .int .i64 1, .int .i64 0, .int .i64 0, .slice none 0 0] 50)
      generalize hW2 : W1.alloc (.cells #[.int .i64 0, .int .i64 (so % 16), .int .i64 0, .slice A n c, .int .i64 1, .int .i64 0, .int .i64 0, .slice none 0 0] 50) = W2 at x1 hblk2 ⊢
      generalize hE2 : E.put (w1.heap.size + 1) (.cells #[.int .i64 0, .int .i64 (so % 16), .int .i64 0, .slice A n c, .int .i64 1, .int .i64 0, .int .i64 0, .slice none 0 0] 50) = E2 at x1
      have hst : Steps E2 (some ⟨w1.heap.size + 1, 0, none⟩) 2 [⟨0, so % 16, 0, xs⟩, ⟨1, 0, 0, []⟩] := by
        refine ⟨[(⟨0, so % 16, 0, xs⟩, .slice A n c), (⟨1, 0, 0, []⟩, .slice none 0 0)], rfl, Rd.of_block (E := E2) (k := 4) (cs := pC) (t := 50) (fr := (0, 0)) (fun _ => rfl) [((⟨0, so % 16, 0, xs⟩ : Stp), Value.slice A n c), ((⟨1, 0, 0, []⟩ : Stp), Value.slice none 0 0)] (by rw [← hE2]; unfold Eh.put; rw [if_pos rfl]; rfl) (by simp), fun p hp => ?_⟩
        simp only [List.mem_cons, List.not_mem_nil, or_false] at hp
        rcases hp with rfl | rfl
        · exact ⟨A, c, by simp only []; rw [hlen], by simp only []; rw [hlen]; exact hr.up x1.le, hb⟩
        · exact ⟨none, 0, rfl, Rd.nil, fun x hx => by cases hx⟩
      clear hW1 hW2 hE2 hnew x0 hnE hblk
      have hB2 : w1.heap.size < W2.heap.size := hblk2.lt
      refine (print_calls E2 [⟨0, so % 16, 0, xs⟩, ⟨1, 0, 0, []⟩] _ 2 2 _ x1.et (hG.up x1.le) hst hck' (by decide) (by have := HT.out; omega)).mono ?_; rintro e w3 ⟨rfl, hb3⟩
      have hblk3 := hblk2.step hb3
      have x3 := x1.step hb3
      have hT := HT.out
      generalize htx : textF [⟨0, so % 16, 0, xs⟩, ⟨1, 0, 0, []⟩] = tx at hT ⊢
      have hpf : parseF tx = some [⟨0, so % 16, 0, xs⟩, ⟨1, 0, 0, []⟩] := by rw [← htx]; exact HB.out
      clear htx hb3
      go_wp2_with fail
      refine (parse_calls E2 ⟨tx.toArray⟩ _ x3.et (hG.up x3.le) (by show tx.toArray.size ≤ _; rw [List.size_toArray]; omega)).mono ?_; intro e w4 hp4
      unfold ParsePost at hp4
      simp only [hpf] at hp4
      obtain ⟨A4, c4, E4, rfl, x4', hst4⟩ := hp4
      replace hst4 := hst4.steps
      have x4 := x3.trans x4'
      have hblk4 := hblk3.step x4'.below
      obtain ⟨ps, hps, hrd, hdr⟩ := hst4
      clear hpf
      obtain ⟨g, off, p, rfl, hp0, hcell⟩ := hrd.at_ (i := 0) (by simp)
      obtain ⟨g', off', p', hA', hp1, hcell'⟩ := hrd.at_ (i := 1) (by simp)
      injection hA' with hA'
      injection hA' with e1 e2
      subst e1 e2
      have q0 : p.1 = ⟨0, so % 16, 0, xs⟩ := by
        have := congrArg (fun l => l[0]?) hps
        simpa [hp0] using this
      have q1 : p'.1 = ⟨1, 0, 0, []⟩ := by
        have := congrArg (fun l => l[1]?) hps
        simpa [hp1] using this
      obtain ⟨A5, c5, hv, hr5, hb5⟩ := hdr p (List.mem_of_getElem? hp0)
      rw [q0] at hv hr5 hb5
      have z1 := hcell 1 _ rfl
      have z3 := hcell 3 p.2 rfl
      have z4 := hcell' 0 _ rfl
      rw [q0] at z1
      rw [hv] at z3
      rw [q1] at z4
      simp only [Nat.zero_mul, Nat.zero_add, Nat.add_zero, Nat.one_mul] at z1 z3 z4
      clear hcell hcell' hdr hrd hps hp0 hp1 hv
      have y1 := hblk4.cell 1
      simp only [List.getElem?_toArray, List.getElem?_cons_zero, List.getElem?_cons_succ] at y1
      have hr5' : Rd E4 1 byteC A5 n xs := by rw [hlen] at hr5; exact hr5
      simp only [List.length_cons, List.length_nil]
      go_wp2_with fail
      go_region_held3 (fun w' => Et E4 w' ∧ w'.cell? ⟨w1.heap.size, 1, none⟩ = some (.int .i64 (so % 16)) ∧ w'.cell? ⟨g, off + 1, none⟩ = some (.int .i64 (so % 16)) ∧ w'.cell? ⟨g, off + 3, none⟩ = some (.slice A5 xs.length c5) ∧ w'.cell? ⟨g, off + 4, none⟩ = some (.int .i64 1))
        (exact ⟨x4.et, y1, z1 _ x4.et, z3 _ x4.et, z4 _ x4.et⟩)
        (first | (go_at_call 26; refine (bytesEq_same A5 A n n c5 c xs _ (BytesAre.of x4.et.drew hr5') (BytesAre.of x4.et.drew (hr.up x4.le)) hb).mono ?_; rintro e w5 ⟨rfl, rfl⟩))
      clear z1 z3 z4 y1
      go_wp2_with fail
      have ht : (({ data := #[116, 105, 99, 107] } ++ odd ++ { data := #[10] } : ByteArray)).data.toList = sTick ++ odd.data.toList ++ [10] := by simp [sTick]
      have hts : (({ data := #[116, 105, 99, 107] } ++ odd ++ { data := #[10] } : ByteArray)).size ≤ 1000000 := by rw [ByteArray.size_append, ByteArray.size_append]; show 4 + odd.size + 1 ≤ _; omega
      have hbx := x4.below
      refine (parse_calls E4 _ _ x4.et.drew (hG.up x4.le) hts).mono ?_; intro e w6 hp6
      rw [ht] at hp6
      clear hts ht hr5 hr5' hst
      cases ho : odd.data.toList with
      | nil =>
        rw [ho] at hp6
        unfold ParsePost at hp6
        simp only [odd_tick] at hp6
        obtain ⟨A6, c6, E6, rfl, x6, _⟩ := hp6
        have hem : (odd.toList == []) = true := by rw [Lib.toList_data, ho]; rfl
        simp only [List.length_cons, List.length_nil]
        go_wp2_with fail
        go_ret
        exact ⟨rfl, hbx.drew.trans (x6.below.mono hbx.size)⟩
      | cons a r =>
        have hem : (odd.toList == []) = false := by rw [Lib.toList_data, ho]; rfl
        have hos : 0 < odd.size := by show 0 < odd.data.size; rw [← Array.length_toList, ho]; simp
        rw [ho] at hp6
        unfold ParsePost at hp6
        cases hq : parseF (sTick ++ a :: r ++ [10]) with
        | none =>
          simp only [hq] at hp6
          obtain ⟨rfl, hb6⟩ := hp6
          go_wp2_with fail
          go_ret
          exact ⟨rfl, hbx.drew.trans (hb6.mono hbx.size)⟩
        | some ss =>
          have ha : a = 10 := Classical.byContradiction fun hne => by
            have := odd_none hne (r ++ [10])
            rw [show sTick ++ a :: (r ++ [10]) = sTick ++ a :: r ++ [10] from by simp, hq] at this
            cases this
          subst ha
          simp only [hq] at hp6
          obtain ⟨A6, c6, E6, rfl, x6, _⟩ := hp6
          go_wp2_with fail
          go_ret
          have h10 : (odd[0]'hos).toNat = 10 := by
            have h1 : (odd[0]'hos) = odd.data.toList[0]'(by rw [ho]; simp) := by simp [ByteArray.getElem_eq_getElem_data]
            have h2 : odd.data.toList[0]'(by rw [ho]; simp) = 10 := by simp [ho]
            rw [h1, h2]
            rfl
          refine ⟨?_, hbx.drew.trans (x6.below.mono hbx.size)⟩
          rw [h10]
          rfl
end Go.Proofs.YtdnglhcconnocaaDoor
