/- A call's first world gives the library's variables; the row's builder over listed variables and the world's shape. No condition. -/
import Derived.Test.YtdnglhcconnocaaDoorGlob
import Derived.Test.YtdnglhcconnocaaDoorRows
import Derived.Stop.LaidErr
import Derived.Shelf.Vars
import Derived.Handed
import Derived.HandedShaped
import Derived.LaidLaws
import Derived.SizedLaws
namespace Go.Proofs.YtdnglhcconnocaaDoor
open Go.RowKit Go.ChangeShapes Go.WideShapes

theorem own : ownKnob Tryd.prog.godebug = none := by kernel_rfl
theorem gPow : Tryd.prog.globalNamed "internal/strconv.uint64pow10" = some 1 := by kernel_rfl
theorem tPow : (Tryd.prog.globals[1]?).map (·.type) = some 139 := by kernel_rfl
theorem gSyn : Tryd.prog.globalNamed "strconv.ErrSyntax" = some 2 := by kernel_rfl
theorem tSyn : (Tryd.prog.globals[2]?).map (·.type) = some 77 := by kernel_rfl
theorem gRng : Tryd.prog.globalNamed "strconv.ErrRange" = some 3 := by kernel_rfl
theorem tRng : (Tryd.prog.globals[3]?).map (·.type) = some 77 := by kernel_rfl
theorem star : ("*" ++ "errors.errorString") = "*errors.errorString" := by decide
theorem rowES (u : TypeId) (h : Tryd.prog.typeName? 3 u = some "*errors.errorString") : u = 152 :=
  typeName_ptr_named (nm := "errors.errorString") (by rw [star]; kernel_rfl) (by kernel_rfl) (by decide) u (by rw [star]; exact h)
/-- A world's blocks, all of them. -/
def World.all (W : World) : Eh := fun b => W.heap[b]?
theorem Et.all (W : World) : Et (World.all W) W := fun _ _ h => h
theorem all_cell {W : World} {b o : Nat} {v : Value} (h : W.cell? ⟨b, o, none⟩ = some v) : (World.all W).cell b o = some v := by
  unfold Eh.cell World.all
  unfold World.cell? at h
  simp only [] at h
  cases hb : W.heap[b]? with
  | none => rw [hb] at h; cases h
  | some x => rw [hb] at h; cases x <;> simp_all
theorem tab_all {W : World} {name : String} {g : Nat} {k : IntKind} {zs : List Int} (hg : Tryd.prog.globalNamed name = some g) (h : Lib.TabIs Tryd.prog W name k zs) : ∀ W', Et (World.all W) W' → Lib.TabIs Tryd.prog W' name k zs := by
  intro W' hE
  unfold Lib.TabIs World.var? at h ⊢
  rw [hg] at h ⊢
  simp only [Option.bind_some] at h ⊢
  cases hb : W.heap[g]? with
  | none => rw [hb] at h; cases h
  | some x => rw [hE g x hb]; rw [hb] at h; exact h
theorem glob_of {W : World} (hs : W.ShapedOpen Tryd.prog) (h : laidMet Tryd.prog Rows.scriptParsesRow.laid W) : Glob (World.all W) where
  maxLen := by
    obtain ⟨m, hm⟩ := cell_of_shapedOpen_int (P := Tryd.prog) (g := 0) (t := 3) (zero := #[.int .i64 0]) (k := .i64) hs (of_decide_eq_true (by kernel_rfl)) (by kernel_rfl) rfl (by kernel_rfl) (by kernel_rfl) Tryd.underlying3
    exact ⟨m, all_cell hm⟩
  pow := by
    have h2 : laidMet Tryd.prog (("internal/strconv.uint64pow10", Lib.tabData .u64 Lib.pow10Tab) :: Rows.scriptParsesRow.laid.drop 3) W := h.tail.tail
    exact tab_all gPow (Lib.tabIs_of_head gPow tPow Tryd.underlying139 Tryd.underlying104 (by kernel_rfl) (by kernel_rfl) h2)
  esyn := by
    obtain ⟨a0, s0, hv0, -, -, -⟩ := laid_sentinel h.tail.tail.tail.tail.tail gSyn tSyn Tryd.underlying77 rowES Tryd.underlying152 Tryd.underlying154 rfl rfl Tryd.underlying9 (by kernel_rfl) (by kernel_rfl)
    have h0 := World.var?_cell gSyn hv0 0
    exact ⟨_, all_cell (by simpa using h0), .inr ⟨_, _, rfl⟩⟩
  erng := by
    obtain ⟨a0, s0, hv0, -, -, -⟩ := laid_sentinel h.tail.tail.tail.tail gRng tRng Tryd.underlying77 rowES Tryd.underlying152 Tryd.underlying154 rfl rfl Tryd.underlying9 (by kernel_rfl) (by kernel_rfl)
    have h0 := World.var?_cell gRng hv0 0
    exact ⟨_, all_cell (by simpa using h0), .inr ⟨_, _, rfl⟩⟩

variable {H : Type} {enc : TypeId × Value → H}
theorem returns_laid_shaped {a : Assume} {C : Checked} {os : Os} {f : FuncId} {fn : Func} {s : ChangeSpec} {conds : List PathCond} {apart fresh handsOn again : Bool} {X : World → Array Value → Prop}
    (hX : ∀ (w w' : World) (args : Array Value), w.heap = w'.heap → X w args → X w' args)
    (own : ownKnob C.prog.godebug = none) (started : os.Started) (noInit : C.prog.inits.idxOf? f = none) (hfn : C.prog.funcs[f]? = some fn)
    (witness : ∃ (w : World) (tape : Tape) (i : Input), w.os = os ∧ (w.forCall tape i).Shaped C.prog ∧ i.vars = [] ∧ Input.okWide C.prog (w.forCall tape i) .any w.heap.size f i ∧
      ((s.pre enc C.prog fn conds apart (w.forCall tape i).memory i.args ∧ X (w.forCall tape i).memory i.args) ∧ sizedMet enc C.prog fn (OpenSpec.ofChange s) apart (w.forCall tape i).memory i.args) ∧ a.holds C.prog (lone (Frame.enter C.prog f i.args .normal) [] (w.forCall tape i)))
    (contract : ∀ (W : World) (base : Nat) (args : Array Value) (ds gs : List (DataW H)) (before : List MemPlace),
      (∀ (j : Nat) t v, fn.params[j]? = some t → args[j]? = some v → Value.okWide C.prog W .any base t v) →
      DataW.Whole enc C.prog fn.params.toList s.vars apart W args.toList ds gs before →
      conds.all (PathCond.test C.prog ⟨fn.params.toList, ds, s.plain.varTypes C.prog, gs⟩) = true →
      (DataW.weightsEach C.prog (fn.params.toList ++ s.plain.varTypes C.prog) (ds ++ gs)).all (· ≤ reachBytes) = true → X W args → W.ShapedOpen C.prog →
      Calls C.prog f args W fun e W' => ∃ v, e = .returned v ∧ s.post enc C.prog fn apart fresh handsOn again W args v W') :
    ReturnsInHanded a C os f .any (fun w args => (s.pre enc C.prog fn conds apart w args ∧ X w args) ∧ sizedMet enc C.prog fn (OpenSpec.ofChange s) apart w args) (s.post enc C.prog fn apart fresh handsOn again) := by
  refine returnsInHanded_of_calls own started noInit witness ?_
  intro w tape i _ hsh _ hok hpre hholds
  obtain ⟨_, _, _, fn', hfn', _, _, _, _, hval⟩ := hok
  have e : fn' = fn := Option.some.inj (hfn'.symm.trans hfn)
  subst e
  obtain ⟨⟨⟨ds, gs, before, hw, hc⟩, hx⟩, hz⟩ := hpre
  have hw' := DataW.Whole.of_heap (w' := w.forCall tape i) (by rfl) hw
  refine (contract (w.forCall tape i) w.heap.size i.args ds gs before hval hw' hc (hz.weights hw) (hX _ _ _ (by rfl) hx) hsh).mono fun e W' ⟨v, he, hp⟩ => ?_
  subst he
  exact ChangeSpec.post_blind hp
end Go.Proofs.YtdnglhcconnocaaDoor
