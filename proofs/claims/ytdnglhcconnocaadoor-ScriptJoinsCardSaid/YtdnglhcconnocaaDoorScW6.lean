/- The calls of the law's own helpers on steps. Conditions: the library's variables; memory that reads as said. -/
import Derived.Test.YtdnglhcconnocaaDoorScW5
import Derived.Laws.BytesArg
namespace Go.Proofs.YtdnglhcconnocaaDoor
open Go.RowKit

/-- A slice of bytes, in a world. -/
def BytesAre (w : World) (A : Option Addr) (n : Nat) (xs : List Int) : Prop :=
  xs.length = n ∧ (0 < n → ∃ g off, A = some ⟨g, off, none⟩ ∧ ∀ i x, xs[i]? = some x → w.cell? ⟨g, off + i, none⟩ = some (.int .u8 x))
theorem BytesAre.of {E : Eh} {w : World} {A : Option Addr} {n : Nat} {xs : List Int} (hE : Et E w) (h : Rd E 1 byteC A n xs) : BytesAre w A n xs :=
  ⟨h.1, fun hn => by
    obtain ⟨g, off, ha, hc⟩ := h.2.2 hn
    exact ⟨g, off, ha, fun i x hx => by have := hE.cell (hc i x 0 _ hx rfl); simpa using this⟩⟩
theorem conv_bytes {w : World} {A : Option Addr} {n c : Nat} {xs : List Int} (h : BytesAre w A n xs) :
    (convert 48 9 (.slice A n c)).run Tryd.prog w = .ok (.string (strOfNums xs)) w := by
  cases A with
  | none =>
    have hn : n = 0 := by
      rcases Nat.eq_zero_or_pos n with h0 | h0
      · exact h0
      · obtain ⟨g, off, ha, _⟩ := h.2 h0
        cases ha
    have hx : xs = [] := List.eq_nil_of_length_eq_zero (h.1.trans hn)
    subst hx
    exact run_convert_bytes_nil w 48 5 Tryd.underlying48 Tryd.underlying5 n c _ Tryd.underlying9
  | some ad =>
    have hl : (loadCells ad n).run Tryd.prog w = .ok (xs.map (Value.int .u8)).toArray w := by
      have := run_loadCells_list (P := Tryd.prog) w ad (xs.map (Value.int .u8)) (fun j v hj => by
        rw [List.getElem?_map] at hj
        obtain ⟨x, hx, rfl⟩ := Option.map_eq_some_iff.1 hj
        have hlt := (List.getElem?_eq_some_iff.1 hx).1
        obtain ⟨g, off, ha, hc⟩ := h.2 (by have := h.1; omega)
        injection ha with ha
        subst ha
        have hplain : (⟨g, off, none⟩ : Addr).add j = ⟨g, off + j, none⟩ := by unfold Addr.add; split <;> simp_all
        rw [hplain]
        exact hc j x hx)
      simpa [h.1] using this
    rw [run_convert_bytes_string w _ _ 5 _ n c Tryd.underlying48 Tryd.underlying5 Tryd.underlying9, run_bytesToString w _ n c xs hl, foldl_push_bytes]
    simp [strOfNums, ByteArray.empty, ByteArray.emptyWithCapacity]
    rfl
theorem strOf_inj : ∀ {xs ys : List Int}, isBytes xs → isBytes ys → ((strOfNums xs).toList == (strOfNums ys).toList) = decide (xs = ys) := by
  intro xs ys hx hy
  rw [Lib.toList_data, Lib.toList_data, strOfNums_data, strOfNums_data, Bool.eq_iff_iff, beq_iff_eq, decide_eq_true_iff]
  constructor
  · intro h
    induction xs generalizing ys with
    | nil => cases ys with
      | nil => rfl
      | cons y ys => simp at h
    | cons x xs ih => cases ys with
      | nil => simp at h
      | cons y ys =>
        simp only [List.map_cons, List.cons.injEq] at h
        have h1 := ih (fun z hz => hx z (by simp [hz])) (fun z hz => hy z (by simp [hz])) h.2
        have h2 := congrArg UInt8.toNat h.1
        rw [UInt8.toNat_ofNat', UInt8.toNat_ofNat'] at h2
        have bx := hx x (by simp)
        have b_y := hy y (by simp)
        rw [h1, show x = y from by omega]
  · intro h; rw [h]

set_option maxHeartbeats 400000 in
theorem bytesEq_calls (A B : Option Addr) (n m c d : Nat) (xs ys : List Int) (w : World) (hx : BytesAre w A n xs) (hy : BytesAre w B m ys) (bx : isBytes xs) (b_y : isBytes ys) :
    Calls Tryd.prog 26 #[.slice A n c, .slice B m d] w fun e w' => e = .returned (.bool (decide (xs = ys))) ∧ w' = w := by
  have h1 := conv_bytes (c := c) hx
  have h2 := conv_bytes (c := d) hy
  have h3 := strOf_inj bx b_y
  go_enter Tryd.func26, Tryd.ntmps26
  go_wp2
  go_ret
  exact ⟨rfl, rfl⟩

def endsF (l : List Stp) : Bool := match l.getLast? with | some s => decide (s.kind = 4) | none => false
set_option maxHeartbeats 400000 in
theorem ends_calls (E : Eh) (l : List Stp) (A : Option Addr) (n c : Nat) (w : World) (hE : Et E w) (h : Steps E A n l) :
    Calls Tryd.prog 25 #[.slice A n c] w fun e w' => e = .returned (.bool (endsF l)) ∧ w' = w := by
  obtain ⟨ps, rfl, hrd, _⟩ := h
  have hl := hrd.1
  by_cases h0 : n = 0
  · subst h0
    have hp := List.eq_nil_of_length_eq_zero hl
    subst hp
    go_enter Tryd.func25, Tryd.ntmps25
    go_wp2
    go_ret
    exact ⟨rfl, rfl⟩
  · obtain ⟨g, off, p, rfl, hp, hcell⟩ := hrd.at_ (i := n - 1) (by omega)
    have q0 := hcell 0 _ rfl w hE
    have he : endsF (ps.map (·.1)) = (p.1.kind == 4) := by
      unfold endsF
      rw [List.getLast?_eq_getElem?, List.length_map, hl, List.getElem?_map, hp]
      simp only [Option.map_some]
      rw [Bool.eq_iff_iff, beq_iff_eq, decide_eq_true_iff]
    obtain ⟨k, rfl⟩ : ∃ k, n = k + 1 := ⟨n - 1, by omega⟩
    simp only [Nat.add_zero, Nat.add_sub_cancel] at q0
    have hn1 := hrd.2.1
    clear hcell hp hrd
    go_enter Tryd.func25, Tryd.ntmps25
    go_wp2
    go_ret
    exact ⟨by rw [he]; rfl, rfl⟩

def tAlive : ByteArray := ⟨#[100, 101, 108, 105, 118, 101, 114, 32, 48, 32, 48, 97, 102, 102, 10, 101, 110, 100, 10]⟩
theorem alive_parse : parseF [100, 101, 108, 105, 118, 101, 114, 32, 48, 32, 48, 97, 102, 102, 10, 101, 110, 100, 10] = some [⟨0, 0, 0, [10, 255]⟩, ⟨4, 0, 0, []⟩] := by decide +kernel
theorem alive_end : parseF [101, 110, 100] = none := by decide +kernel

set_option maxHeartbeats 1000000 in
set_option maxRecDepth 100000 in
theorem alive_calls (E : Eh) (w : World) (hE : Et E w) (hG : Glob E) :
    Calls Tryd.prog 18 #[] w fun e w' => e = .returned (.bool true) ∧ Below w.heap.size w w' := by
  go_enter Tryd.func18, Tryd.ntmps18
  go_wp2_with fail
  refine (parse_calls E _ _ hE hG (by decide)).mono ?_; intro e w1 hp
  unfold ParsePost at hp
  simp only [alive_parse] at hp
  obtain ⟨A, c, E1, rfl, x1, hst⟩ := hp
  replace hst := hst.steps
  go_wp2_with fail
  refine (parse_calls E1 _ _ x1.et (hG.up x1.le) (by decide)).mono ?_; intro e w2 hp2
  unfold ParsePost at hp2
  simp only [alive_end] at hp2
  obtain ⟨rfl, hb2⟩ := hp2
  have hE2 := x1.et.below hb2
  have hst' := hst
  obtain ⟨ps, hps, hrd, hdr⟩ := hst
  obtain ⟨g, off, p, rfl, hp0, hcell⟩ := hrd.at_ (i := 0) (by simp)
  have hp1 : p.1 = ⟨0, 0, 0, [10, 255]⟩ := by
    have := congrArg (fun l => l[0]?) hps
    simp only [List.getElem?_map, hp0, Option.map_some, List.getElem?_cons_zero, Option.some.injEq] at this
    exact this
  obtain ⟨A1, c1, hv, hr1, hb1⟩ := hdr p (List.mem_of_getElem? hp0)
  rw [hp1] at hv hr1 hb1
  have q3 := hcell 3 p.2 rfl w2 hE2
  rw [hv] at q3
  simp only [Nat.zero_mul, Nat.zero_add, List.length_cons, List.length_nil] at q3 hr1
  have hbel := x1.below.trans (hb2.mono x1.below.size)
  clear hcell hp0 hps hrd hdr hp1 hv
  go_wp2_with fail
  have hy : BytesAre (w2.alloc (.cells #[.int .u8 10, .int .u8 255] 5)) (some ⟨w2.heap.size, 0, none⟩) 2 [10, 255] :=
    ⟨rfl, fun _ => ⟨w2.heap.size, 0, rfl, fun i x hx => by
      rw [Nat.zero_add, cell_of_row _ _ _ _ _ _ (heap_alloc_new w2 _)]
      match i, hx with
      | 0, hx => simp at hx; subst hx; rfl
      | 1, hx => simp at hx; subst hx; rfl⟩⟩
  refine (bytesEq_calls A1 _ 2 2 c1 2 [10, 255] [10, 255] _ (BytesAre.of (hE2.alloc _) hr1) hy hb1 hb1).mono ?_; rintro e w3 ⟨rfl, rfl⟩
  have hd : decide (([10, 255] : List Int) = [10, 255]) = true := by decide
  rw [hd]
  go_wp2_with fail
  refine (ends_calls E1 _ _ 2 c _ (hE2.alloc _) hst').mono ?_; rintro e w4 ⟨rfl, rfl⟩
  have he : endsF [⟨0, 0, 0, [10, 255]⟩, ⟨4, 0, 0, []⟩] = true := by decide
  rw [he]
  go_wp2
  go_ret
  exact ⟨rfl, hbel.alloc hbel.size _⟩

set_option maxHeartbeats 1000000 in
set_option maxRecDepth 100000 in
/-- The law: what is read of any text is told as that text. -/
theorem scriptParses_calls (E : Eh) (s : ByteArray) (w : World) (hE : Et E w) (hG : Glob E) (hs : s.size ≤ 9223372036854775807) :
    Calls Tryd.prog 5 #[.string s] w fun e w' => e = .returned (.bool true) ∧ Below w.heap.size w w' := by
  by_cases hbig : 3000 < s.size
  · go_enter Tryd.func5, Tryd.ntmps5
    go_wp2_with fail
    refine (alive_calls E _ hE hG).mono ?_; rintro e w1 ⟨rfl, hb1⟩
    go_wp2_with fail
    go_ret
    exact ⟨rfl, hb1⟩
  · cases hpf : parseF s.data.toList with
    | none =>
      go_enter Tryd.func5, Tryd.ntmps5
      go_wp2_with fail
      refine (alive_calls E _ hE hG).mono ?_; rintro e w1 ⟨rfl, hb1⟩
      go_wp2_with fail
      refine (parse_calls E s _ (hE.below hb1) hG (by omega)).mono ?_; intro e w2 hp
      unfold ParsePost at hp
      simp only [hpf] at hp
      obtain ⟨rfl, hb2⟩ := hp
      clear hpf
      go_wp2
      go_ret
      exact ⟨rfl, hb1.trans (hb2.mono hb1.size)⟩
    | some ss =>
      obtain ⟨hck, htx⟩ := parse_text _ _ _ hpf
      have hlen : ss.length ≤ s.size := by
        have := text_long ss
        rw [htx] at this
        exact this
      have hsl : s.data.toList.length = s.size := rfl
      have hts : (⟨(textF ss).toArray⟩ : ByteArray) = s := by rw [htx]
      have HTX := Lib.hid htx
      have HTS := Lib.hid hts
      clear hts htx
      go_enter Tryd.func5, Tryd.ntmps5
      go_wp2_with fail
      refine (alive_calls E _ hE hG).mono ?_; rintro e w1 ⟨rfl, hb1⟩
      go_wp2_with fail
      refine (parse_calls E s _ (hE.below hb1) hG (by omega)).mono ?_; intro e w2 hp
      unfold ParsePost at hp
      simp only [hpf] at hp
      obtain ⟨A, c, E2, rfl, x2, hst⟩ := hp
      replace hst := hst.steps
      clear hpf
      have hbl2 := hb1.trans (x2.below.mono hb1.size)
      go_wp2_with fail
      refine (print_calls E2 ss A _ c _ x2.et (hG.up x2.le) hst hck (by omega) (by rw [HTX.out]; omega)).mono ?_; rintro e w3 ⟨rfl, hb3⟩
      rw [HTS.out]
      have hE3 := x2.et.below hb3
      have hbl3 := hbl2.trans (hb3.mono hbl2.size)
      obtain ⟨ps, hps, hrd, hdr⟩ := hst
      have hpl := hrd.1
      have HPS := Lib.hid hps
      clear hps hb3
      go_wp2_with fail
      obtain ⟨w0, hw0⟩ : ∃ w0, w3 = w0 := ⟨w3, rfl⟩
      subst hw0
      go_loopw [7] (fun i wr => ∃ k : Nat, k ≤ ss.length ∧ i = .int .i64 k ∧ Below w3.heap.size w3 wr) (fun i _ => ss.length - (intOf i).toNat)
      case atStart => exact ⟨0, by omega, rfl, Below.refl _ _⟩
      case round =>
        obtain ⟨k, hk, rfl, hbr⟩ := hrel
        by_cases hlt : k < ss.length
        · obtain ⟨g, off, p, rfl, hp, hcell⟩ := hrd.at_ hlt
          obtain ⟨st, v⟩ := p
          have hmem := List.mem_of_getElem? hp
          obtain ⟨A1, c1, hv, hb1', hbb⟩ := hdr _ hmem
          simp only [] at hv hb1' hbb
          subst hv
          have hcs := hck st (by rw [← HPS.out]; exact List.mem_map.2 ⟨_, hmem, rfl⟩)
          have hEr := hE3.below hbr
          have q0 := hcell 0 _ rfl wr hEr
          have q1 := hcell 1 _ rfl wr hEr
          have q2 := hcell 2 _ rfl wr hEr
          have q3 := hcell 3 _ rfl wr hEr
          simp only [Nat.add_zero, ← Nat.add_assoc] at q0 q1 q2 q3
          have HCS := Lib.hid hcs
          clear hcs hcell hp hmem
          go_wp2_with fail
          refine (check_calls st A1 st.b.length c1 _ rfl).mono ?_; rintro e w5 ⟨rfl, hb5⟩
          rw [HCS.out]
          have hbr5 := hbr.trans (hb5.mono hbr.size)
          clear hb5
          go_wp2_with fail
          exact ⟨⟨k + 1, by omega, by go_num, hbr5⟩, by simp [intOf]; omega⟩
        · go_wp2
          go_ret
          exact ⟨rfl, hbl3.trans (hbr.mono hbl3.size)⟩
end Go.Proofs.YtdnglhcconnocaaDoor
