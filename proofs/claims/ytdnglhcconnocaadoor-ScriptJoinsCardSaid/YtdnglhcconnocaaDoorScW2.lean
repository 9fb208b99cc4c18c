/- The calls of script's reading functions: what each returns. Conditions: the library's variables; lengths. -/
import Derived.Test.YtdnglhcconnocaaDoorGlob
import Derived.Test.YtdnglhcconnocaaDoorScF2
import Derived.Test.YtdnglhcconnocaaDoorScW1
import Derived.Laws.RangeAny
import Derived.Lib.OthersKept
namespace Go.Proofs.YtdnglhcconnocaaDoor
open Go.RowKit

theorem nibs_take (l : List UInt8) : ∀ (k : Nat) (ns : List Int) (c : UInt8) (x : Int), nibs (l.take k) = some ns → l[k]? = some c → nib c = some x → nibs (l.take (k + 1)) = some (ns ++ [x]) := by
  induction l with
  | nil => intro k ns c x _ hc; simp at hc
  | cons a r ih =>
    intro k ns c x h hc hx
    cases k with
    | zero =>
      simp only [List.take_zero, nibs, Option.some.injEq] at h
      subst h
      simp only [List.getElem?_cons_zero, Option.some.injEq] at hc
      subst hc
      simp [nibs, hx]
    | succ k =>
      simp only [List.take_succ_cons, nibs] at h ⊢
      simp only [List.getElem?_cons_succ] at hc
      cases hn : nib a with
      | none => rw [hn] at h; cases h
      | some y =>
        rw [hn] at h
        simp only [] at h ⊢
        obtain ⟨q, hq, rfl⟩ := Option.map_eq_some_iff.1 h
        rw [ih k q c x hq hc hx]
        rfl
theorem nibs_none (l : List UInt8) : ∀ (k : Nat) (c : UInt8), l[k]? = some c → nib c = none → nibs l = none := by
  induction l with
  | nil => intro k c hc; simp at hc
  | cons a r ih =>
    intro k c hc hx
    cases k with
    | zero =>
      simp only [List.getElem?_cons_zero, Option.some.injEq] at hc
      subst hc
      simp [nibs, hx]
    | succ k =>
      simp only [List.getElem?_cons_succ] at hc
      unfold nibs
      cases nib a with
      | none => rfl
      | some y => simp only []; rw [ih k c hc hx]; rfl
theorem nib_bd {c : UInt8} {x : Int} (h : nib c = some x) : 0 ≤ x ∧ x < 16 := by
  unfold nib at h
  split at h
  · injection h; omega
  · split at h
    · injection h; omega
    · cases h
theorem pairUp_even : ∀ (ns : List Int) (x : Int), ns.length % 2 = 0 → pairUp (ns ++ [x]) = pairUp ns
  | [], x, _ => rfl
  | [a], x, h => by simp at h
  | a :: b :: r, x, h => by
    simp only [List.cons_append, pairUp]
    rw [pairUp_even r x (by simp only [List.length_cons] at h; omega)]
theorem pairUp_odd : ∀ (ns : List Int) (y x : Int), ns.length % 2 = 0 → pairUp (ns ++ [y] ++ [x]) = pairUp ns ++ [16 * y + x]
  | [], y, x, _ => rfl
  | [a], y, x, h => by simp at h
  | a :: b :: r, y, x, h => by
    have ih := pairUp_odd r y x (by simp only [List.length_cons] at h; omega)
    simp only [List.cons_append, pairUp] at ih ⊢
    rw [ih]
theorem nibs_len : ∀ (l : List UInt8) (ns : List Int), nibs l = some ns → ns.length = l.length
  | [], ns, h => by simp only [nibs, Option.some.injEq] at h; subst h; rfl
  | a :: r, ns, h => by
    unfold nibs at h
    cases hn : nib a with
    | none => rw [hn] at h; cases h
    | some y =>
      rw [hn] at h
      simp only [] at h
      obtain ⟨q, hq, rfl⟩ := Option.map_eq_some_iff.1 h
      simp [nibs_len r q hq]
theorem nibs_bd : ∀ (l : List UInt8) (ns : List Int), nibs l = some ns → ∀ x ∈ ns, 0 ≤ x ∧ x < 16
  | [], ns, h => by simp only [nibs, Option.some.injEq] at h; subst h; simp
  | a :: r, ns, h => by
    unfold nibs at h
    cases hn : nib a with
    | none => rw [hn] at h; cases h
    | some y =>
      rw [hn] at h
      simp only [] at h
      obtain ⟨q, hq, rfl⟩ := Option.map_eq_some_iff.1 h
      intro x hx
      rcases List.mem_cons.1 hx with rfl | hx
      · exact nib_bd hn
      · exact nibs_bd r q hq x hx
theorem pairUp_bytes : ∀ ns : List Int, (∀ x ∈ ns, 0 ≤ x ∧ x < 16) → isBytes (pairUp ns)
  | [], _ => fun x hx => by simp [pairUp] at hx
  | [a], _ => fun x hx => by simp [pairUp] at hx
  | a :: b :: r, h => fun x hx => by
    simp only [pairUp, List.mem_cons] at hx
    rcases hx with rfl | hx
    · have := h a (by simp); have := h b (by simp); omega
    · exact pairUp_bytes r (fun y hy => h y (by simp [hy])) x hx
theorem pairUp_len : ∀ ns : List Int, (pairUp ns).length = ns.length / 2
  | [] => rfl
  | [a] => by simp [pairUp]
  | a :: b :: r => by simp only [pairUp, List.length_cons, pairUp_len r]; omega

theorem atoi_bd {l : List UInt8} {v : Int} (h : Lib.atoiAll l = .ok v) : -9223372036854775808 ≤ v ∧ v ≤ 9223372036854775807 := by
  unfold Lib.atoiAll at h
  split at h
  · cases h
  · simp only [] at h
    split at h
    · cases h
    · cases h
    · split at h
      · cases h
      · split at h
        · cases h
        · injection h with h
          subst h
          split <;> omega

/-- What small answers. -/
def SmallPost (l : List UInt8) (w : World) (e : Ending) (w' : World) : Prop :=
  ∃ n, e = .returned (.tuple #[.int .i64 n, .bool (smallF l).isSome]) ∧ (∀ v, smallF l = some v → n = v) ∧ Below w.heap.size w w'

set_option maxHeartbeats 1000000 in
theorem small_calls (E : Eh) (s : ByteArray) (w : World) (hE : Et E w) (hG : Glob E) (hs : s.size ≤ 281474976710656) :
    Calls Tryd.prog 45 #[.string s] w (SmallPost s.data.toList w) := by
  rcases ha : Lib.atoiAll s.data.toList with v | _ | _
  ·
    obtain ⟨b0, b1⟩ := atoi_bd ha
    go_enter Tryd.func45, Tryd.ntmps45
    go_wp2_with fail
    refine (Tryd.strconv_Atoi_ok s (by omega) v ha _).mono ?_; rintro e w1 ⟨rfl, hw1⟩
    have hb1 := below_bytes hw1
    clear hw1
    go_wp2_with fail
    refine (Tryd.strconv_Itoa v b0 b1 _ (hG.pow _ (hE.below hb1))).mono ?_; rintro e w2 ⟨rfl, hw2⟩
    have hb2 := below_grows hw2
    clear hw2
    go_wp2_with fail
    go_ret2
    refine ⟨v, ?_, fun u hu => ?_, hb1.trans (hb2.mono hb1.size)⟩
    · have : (Lib.itoa v == s.toList) = (smallF s.data.toList).isSome := by
        rw [Lib.toList_data]
        unfold smallF
        rw [ha]
        by_cases hi : Lib.itoa v = s.data.toList
        · simp [hi]
        · simp [hi]
      simp only [this]
      rfl
    · unfold smallF at hu
      rw [ha] at hu
      simp only [] at hu
      split at hu
      · injection hu
      · cases hu
  ·
    obtain ⟨ev, hev, hev'⟩ := hG.esyn
    have hn : smallF s.data.toList = none := by unfold smallF; rw [ha]
    have HN := Lib.hid hn
    clear hn
    go_enter Tryd.func45, Tryd.ntmps45
    go_wp2_with fail
    refine (Any.strconv_Atoi_syntax Tryd.laysC172 s hs ha ev _ (hE.cell hev) hev').mono ?_; rintro e w1 ⟨N, rfl, hN, hc, hb1⟩
    clear hN hc
    go_wp2_with fail
    go_ret2
    exact ⟨0, by rw [HN.out]; rfl, (fun u hu => by rw [HN.out] at hu; cases hu), hb1⟩
  ·
    obtain ⟨ev, hev, hev'⟩ := hG.erng
    have hn : smallF s.data.toList = none := by unfold smallF; rw [ha]
    have HN := Lib.hid hn
    clear hn
    go_enter Tryd.func45, Tryd.ntmps45
    go_wp2_with fail
    refine (Tryd.strconv_Atoi_range s hs ha ev _ (hE.cell hev) hev').mono ?_; rintro e w1 ⟨N, rfl, hN, hc, hb1⟩
    clear hN hc
    go_wp2_with fail
    go_ret2
    exact ⟨_, by rw [HN.out]; rfl, (fun u hu => by rw [HN.out] at hu; cases hu), hb1⟩

/-- What a string's iterator has ahead of it. -/
def iterLeft (w : World) (b : Nat) : Nat := match w.heap[b]? with | some (.stringIter s p) => s.size - p | _ => 0
theorem iterLeft_of {w : World} {b : Nat} {s : ByteArray} {p : Nat} (h : w.heap[b]? = some (.stringIter s p)) : iterLeft w b = s.size - p := by unfold iterLeft; rw [h]
theorem grown_iter (w : World) (b : Nat) (s : ByteArray) (p : Nat) : w.grownBy (w.iterAt b s p) (some b) :=
  ⟨rfl, rfl, rfl, by rw [Lib.iterAt_size]; exact Nat.le_refl _, fun k _ hk => Lib.iterAt_other w b k s p (fun e => hk (by rw [e]))⟩
theorem Own.iter {α : Type} {w : World} {base : Nat} {t : TypeId} {k : Nat} {cs : α → List Value} {v : Value} {l : List α} (h : Own w base t k cs v l) {b : Nat} {s : ByteArray} {p : Nat} (hit : w.heap[b]? = some (.stringIter s p)) (p' : Nat) : Own (w.iterAt b s p') base t k cs v l := by
  refine World.ownsRow.kept h (grown_iter w b s p') ?_
  rcases h.2 with ⟨rfl, _⟩ | ⟨g', cap, cur, rfl, _, hh, _⟩
  · exact .inl rfl
  · refine .inr fun he => ?_
    have : g' = b := by simpa [Value.ownBlock] using he
    subst this
    rw [hit] at hh
    cases hh
theorem Ext.iter {E E1 : Eh} {w w1 : World} (h : Ext E w E1 w1) {b : Nat} {s : ByteArray} (hb : w.heap.size ≤ b) (hn : E1 b = none) (p' : Nat) : Ext E w E1 (w1.iterAt b s p') :=
  h.grown (grown_iter w1 b s p') (fun g e => by cases e; exact ⟨hb, hn⟩)

theorem or_nibs_fin : ∀ (a b : Fin 16), bits .or .u8 ((a.val : Int) * 16) (b.val : Int) = 16 * (a.val : Int) + b.val := by decide +kernel
theorem or_nibs {h x : Int} (h0 : 0 ≤ h) (h1 : h < 16) (x0 : 0 ≤ x) (x1 : x < 16) : bits .or .u8 (h * 16) x = 16 * h + x := by
  have := or_nibs_fin ⟨h.toNat, by omega⟩ ⟨x.toNat, by omega⟩
  simpa [Int.toNat_of_nonneg h0, Int.toNat_of_nonneg x0] using this

/-- What bytes answers. -/
def BytesPost (E : Eh) (l : List UInt8) (w : World) (e : Ending) (w' : World) : Prop :=
  match bytesF l with
  | some b => ∃ A c E', e = .returned (.tuple #[.slice A b.length c, .bool true]) ∧ Ext E w E' w' ∧ Rd E' 1 byteC A b.length b ∧ isBytes b ∧ NewA w.heap.size E' 5 A
  | none => (∃ A n c, e = .returned (.tuple #[.slice A n c, .bool false])) ∧ Below w.heap.size w w'

set_option maxHeartbeats 1000000 in
set_option maxRecDepth 100000 in
theorem bytes_calls (E : Eh) (s : ByteArray) (w : World) (hE : Et E w) (hs : s.size ≤ 1000000) :
    Calls Tryd.prog 46 #[.string s] w (BytesPost E s.data.toList w) := by
  by_cases h45 : s.data.toList = [45]
  · have e45 : (s.toList == [45]) = true := by rw [Lib.toList_data, h45]; rfl
    go_enter Tryd.func46, Tryd.ntmps46
    go_wp2
    go_ret2
    have hb : bytesF s.data.toList = some [] := by unfold bytesF; rw [if_pos h45]
    unfold BytesPost
    rw [hb]
    exact ⟨none, 0, E, rfl, Ext.refl hE, Rd.nil, (fun x hx => by cases hx), NewA.none⟩
  · have e45 : (s.toList == [45]) = false := by rw [Lib.toList_data, beq_eq_false_iff_ne]; exact h45
    go_enter Tryd.func46, Tryd.ntmps46
    go_wp2
    go_loopw [4, 5] (fun v hf wr => ∃ (k : Nat) (ns : List Int) (h : Int), k ≤ s.size ∧ nibs (s.data.toList.take k) = some ns ∧ hf = .int .u8 h ∧ 0 ≤ h ∧ h < 16 ∧ (k % 2 = 1 → ∃ ms, ns = ms ++ [h]) ∧
        wr.heap[w.heap.size]? = some (.stringIter s k) ∧ Ext E w E wr ∧ Own wr w.heap.size 5 1 byteC v (pairUp ns)) (fun _ _ wr => iterLeft wr w.heap.size)
    case atStart => exact ⟨0, [], 0, Nat.zero_le _, rfl, rfl, by omega, by omega, by omega, World.iter_heap _ _ _, (Ext.refl hE).alloc _, Own.nil _ _ _ _ _⟩
    case round =>
      obtain ⟨k, ns, h, hk, hns, rfl, h0, h16, hodd, hit, hext, hown⟩ := hrel
      have hnN : E w.heap.size = none := hE.out (Nat.le_refl _)
      have hnl := nibs_len _ _ hns
      have hsl : s.data.toList.length = s.size := rfl
      rw [List.length_take, hsl, Nat.min_eq_left hk] at hnl
      by_cases hlt : k < s.size
      · by_cases hc : (s[k]'hlt).toNat < 128
        · have hnx := fun ty => Lib.run_next_ascii_at (P := Tryd.prog) wr w.heap.size s k ty hit hlt hc
          have hit' := Lib.iterAt_heap wr w.heap.size s k (k + 1) hit
          have hext' := hext.iter (s := s) (Nat.le_refl _) hnN (k + 1)
          have hown' := hown.iter hit (k + 1)
          have hk1 : s.data.toList[k]? = some (s[k]'hlt) := by
            rw [List.getElem?_eq_getElem (by rw [hsl]; exact hlt)]; rfl
          have hne : ∀ g, u4.ownBlock = some g → E g = none := fun g hg => hE.out (hown.lt g hg).1
          have hmeas := iterLeft_of hit
          have hmeas' := iterLeft_of hit'
          have HM := Lib.hid hmeas
          have HM' := Lib.hid hmeas'
          clear hmeas hmeas'
          have HK := Lib.hid hk1
          clear hk1
          generalize hcc : s[k]'hlt = ch at *
          clear hcc
          generalize hW : wr.iterAt w.heap.size s (k + 1) = W1 at *
          clear hW hext hown
          have HIT := Lib.hid hit'
          clear hit' hit
          cases hnb : nib ch with
          | none =>
            have hnone : bytesF s.data.toList = none := by
              unfold bytesF
              rw [if_neg h45, nibs_none _ k ch HK.out hnb]
            have HNO := Lib.hid hnone
            clear hnone
            have hn1 : ¬ (48 ≤ ch.toNat ∧ ch.toNat ≤ 57) := fun e => by unfold nib at hnb; rw [if_pos e] at hnb; cases hnb
            have hn2 : ¬ (97 ≤ ch.toNat ∧ ch.toNat ≤ 102) := fun e => by unfold nib at hnb; rw [if_neg hn1, if_pos e] at hnb; cases hnb
            clear hnb
            have hbel := Lib.hid hext'.below
            go_wp2
            all_goals
              go_ret2
              unfold BytesPost
              rw [HNO.out]
              exact ⟨⟨none, 0, 0, rfl⟩, hbel.out⟩
          | some x =>
            obtain ⟨x0, x1⟩ := nib_bd hnb
            have HN := Lib.hid (nibs_take _ k ns ch x hns HK.out hnb)
            have HNS := Lib.hid hns
            have HNL := Lib.hid hnl
            clear hns hnl hsl
            have hcls : (((48 ≤ ch.toNat ∧ ch.toNat ≤ 57) ∧ (ch.toNat : Int) = x + 48) ∨ ((97 ≤ ch.toNat ∧ ch.toNat ≤ 102) ∧ (ch.toNat : Int) = x + 87)) := by
              unfold nib at hnb
              split at hnb
              · rename_i hd; injection hnb with hx; exact .inl ⟨hd, by omega⟩
              · split at hnb
                · rename_i hd; injection hnb with hx; exact .inr ⟨hd, by omega⟩
                · cases hnb
            clear hnb
            rcases hcls with ⟨⟨d0, d1⟩, hx'⟩ | ⟨⟨d0, d1⟩, hx'⟩
            all_goals
              by_cases hk2 : k % 2 = 0
              · have hk2' : ((k : Int) % 2 == 0) = true := by rw [beq_iff_eq]; omega
                go_wp2_with fail
                refine ⟨⟨k + 1, ns ++ [x], x, by omega, HN.out, by go_num, by omega, by omega, fun _ => ⟨ns, rfl⟩, HIT.out, hext', ?_⟩, by rw [HM.out, HM'.out]; omega⟩
                rw [pairUp_even ns x (by rw [HNL.out]; omega)]
                exact hown'
              · have hk2' : ((k : Int) % 2 == 0) = false := by rw [beq_eq_false_iff_ne]; omega
                obtain ⟨ms, hms⟩ := hodd (by omega)
                have HMS := Lib.hid hms
                clear hms hodd
                go_wp2_with (at_builtin; refine app_own w.heap.size rfl _ _ 48 5 (.int .u8 0) 1 1 byteC rfl Tryd.underlying48 infoByte rfl (by decide) (by decide) u4 (pairUp ns) (16 * h + x) _ rfl rfl ?cy rfl ?c1 hown' ?cb ?cl ?_)
                case cy => (try rw [show x + 87 - 97 + 10 = x from by omega]); rw [or_nibs h0 h16 x0 x1]
                case c1 => intro u hu; simp only [List.mem_singleton] at hu; subst hu; rfl
                case cb => exact hext'.below.size
                case cl => rw [pairUp_len, HNL.out]; omega
                intro v1 w1 ho1 hg1 hat1
                go_wp2_with fail
                have hnit : u4.ownBlock ≠ some w.heap.size := fun e => by
                  rcases hown'.2 with ⟨rfl, _⟩ | ⟨g', cap, cur, rfl, _, hh, _⟩
                  · cases e
                  · have : g' = w.heap.size := by simpa [Value.ownBlock] using e
                    subst this
                    rw [HIT.out] at hh
                    cases hh
                have hit1 : w1.heap[w.heap.size]? = some (.stringIter s (k + 1)) := (hg1.block _ (Array.getElem?_eq_some_iff.1 HIT.out).1 (fun e => hnit e.symm)).trans HIT.out
                have hlast : h :: [] = [h] := rfl
                refine ⟨⟨k + 1, ns ++ [x], h, by omega, HN.out, rfl, h0, h16, fun e => by omega, hit1, hext'.grown hg1 (fun g hg => ⟨(hown'.lt g hg).1, hne g hg⟩), ?_⟩, by rw [HM.out, iterLeft_of hit1]; omega⟩
                have hms := HMS.out
                have hml : ms.length % 2 = 0 := by have := HNL.out; rw [hms] at this; simp at this; omega
                rw [hms, pairUp_odd ms h x hml]
                rw [hms, pairUp_even ms h hml] at ho1
                exact ho1
        · obtain ⟨r0, _⟩ := decode_high s k hlt (by omega)
          have hnx := fun ty => Lib.run_next_any_at (P := Tryd.prog) wr w.heap.size s k ty hit hlt
          have hext' := hext.iter (s := s) (Nat.le_refl _) hnN (k + (Utf8.decode s k).2)
          have hk1 : s.data.toList[k]? = some (s[k]'hlt) := by
            rw [List.getElem?_eq_getElem (by rw [hsl]; exact hlt)]; rfl
          have hnone : bytesF s.data.toList = none := by
            unfold bytesF
            rw [if_neg h45, nibs_none _ k _ hk1 (by unfold nib; rw [if_neg (by omega), if_neg (by omega)])]
          have HNO := Lib.hid hnone
          clear hnone hk1 hns hnl
          generalize (Utf8.decode s k).1 = r at *
          generalize k + (Utf8.decode s k).2 = k' at *
          generalize hW : wr.iterAt w.heap.size s k' = W1 at *
          have hbel := Lib.hid hext'.below
          clear hW hext hown hit hext'
          go_wp2
          all_goals
            go_ret2
            unfold BytesPost
            rw [HNO.out]
            exact ⟨⟨none, 0, 0, rfl⟩, hbel.out⟩
      · obtain rfl : k = s.size := by omega
        have hnx := fun ty => Lib.run_next_end_at (P := Tryd.prog) wr w.heap.size s s.size ty hit (by omega)
        rw [List.take_of_length_le (by omega)] at hns
        have hne : ∀ g, u4.ownBlock = some g → E g = none := fun g hg => hE.out (hown.lt g hg).1
        by_cases hev : s.size % 2 = 0 ∧ 0 < s.size
        · obtain ⟨e0, e1⟩ := hev
          have e0' : ((s.size : Int) % 2 == 0) = true := by rw [beq_iff_eq]; omega
          have hb : bytesF s.data.toList = some (pairUp ns) := by
            unfold bytesF
            rw [if_neg h45, hns]
            simp only []
            rw [if_pos ⟨by rw [hsl]; exact e0, by rw [hsl]; exact e1⟩]
          have HB := Lib.hid hb
          have HNS := Lib.hid hns
          clear hb hns hnl e0
          go_wp2
          go_ret2
          unfold BytesPost
          rw [HB.out]
          obtain ⟨E2, A, c, x2, _, rfl, hrd, _, hnew⟩ := Own.freeze (k := 1) (cs := byteC) (fun _ => rfl) hown hext (Nat.le_refl _) hne
          exact ⟨A, c, E2, rfl, x2, hrd, pairUp_bytes _ (nibs_bd _ _ HNS.out), hnew⟩
        · have hb : bytesF s.data.toList = none := by
            unfold bytesF
            rw [if_neg h45, hns]
            simp only []
            rw [if_neg (by rw [hsl]; exact hev)]
          have HB := Lib.hid hb
          have hbel := Lib.hid hext.below
          obtain ⟨A, c, hv⟩ := hown.slice
          subst hv
          clear hb hns hnl hext hown hne
          by_cases e0 : s.size % 2 = 0
          · have e0' : ((s.size : Int) % 2 == 0) = true := by rw [beq_iff_eq]; omega
            have e1 : s.size = 0 := by omega
            clear hev
            go_wp2
            go_ret2
            unfold BytesPost
            rw [HB.out]
            exact ⟨⟨_, _, _, rfl⟩, hbel.out⟩
          · have e0' : ((s.size : Int) % 2 == 0) = false := by rw [beq_eq_false_iff_ne]; omega
            clear hev
            go_wp2
            go_ret2
            unfold BytesPost
            rw [HB.out]
            exact ⟨⟨_, _, _, rfl⟩, hbel.out⟩
end Go.Proofs.YtdnglhcconnocaaDoor
