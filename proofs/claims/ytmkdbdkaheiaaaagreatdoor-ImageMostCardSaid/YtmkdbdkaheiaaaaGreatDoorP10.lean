/- For every n the law ImageMost returns true, and its argument reads as before; no condition beside the row's own cells (the table of signs is laid as the program's text lays it). -/
import Derived.Test.YtmkdbdkaheiaaaaGreatDoorP9
import Derived.Test.YtmkdbdkaheiaaaaGreatDoorP8
import Derived.Test.YtmkdbdkaheiaaaaGreatDoorCards
import Derived.Test.YtmkdbdkaheiaaaaGreatDoorTie
import Derived.WalkKit
import Derived.ProofKit
import Derived.OpenShut
import Derived.Deep.DeepHandedRow
import Derived.Lib.LaidTab
import Derived.Stop.LaidErr
set_option linter.all false
namespace Go.Proofs.YtmkdbdkaheiaaaaGreatDoor
open Go Go.Sl Go.ChangeShapes Go.WideShapes Go.ChangeAt Go.RowKit
set_option maxRecDepth 100000

theorem own : ownKnob Tryz.prog.godebug = none := by kernel_rfl
theorem gSigns : Tryz.prog.globalNamed "interrex/op.signs" = some 0 := by kernel_rfl
theorem gSignsType : (Tryz.prog.globals[0]?).map (·.type) = some 262 := by kernel_rfl
theorem cellsArr : Tryz.prog.cellsOf 262 = 17 := by kernel_rfl
theorem cellsStr : Tryz.prog.cellsOf 9 = 1 := by kernel_rfl
/-- an array of texts, as a row lists it -/
def strsData {H : Type} (l : List Str) : DataW H := .agg (l.map fun s => .lit (.string s))
theorem cells_of_strs {H : Type} {enc : TypeId × Value → H} {P : Program} {w : World} {base : Nat} {sp : Nat → Bool} {held : Bool} {fuel : Nat} {t e : TypeId} {n : Nat} {cs : List Value} {l : List Str} {p : List MemPlace}
    (ht : P.underlying t = some (.array n e)) (he : P.underlying e = some .string) (hce : P.cellsOf e = 1) (hct : P.cellsOf t = n)
    (h : DataW.trod enc P w base sp held fuel t cs = some (strsData l, p)) : cs = strsV l := by
  cases fuel with
  | zero => simp [DataW.trod] at h
  | succ fuel =>
    simp only [DataW.trod, ht, hce, hct, Nat.mul_one] at h
    split at h
    · rename_i hl
      obtain ⟨xs, hm, hx⟩ := Option.map_eq_some_iff.1 h
      have hxs : xs.map (·.1) = l.map fun s => (DataW.lit (.string s) : DataW H) := by
        have := congrArg Prod.fst hx
        simpa [strsData] using this
      have hxl : xs.length = n := by simpa using Lib.mapM_length hm
      have hzl : l.length = n := by
        have := congrArg List.length hxs
        simp at this
        omega
      unfold strsV
      apply List.ext_getElem?
      intro i
      by_cases hi : i < n
      · obtain ⟨b, hb, hf⟩ := Lib.mapM_at hm i i (by simp [hi])
        obtain ⟨s, hc, rfl, _⟩ := DataW.trod_string he hf
        have h1 : cs[i]? = some (.string s) := by
          have := congrArg (·[0]?) hc
          simpa [List.getElem?_take, List.getElem?_drop] using this
        have h2 : (xs.map (·.1))[i]? = some (DataW.lit (.string s.data.toList) : DataW H) := by simp [hb]
        rw [hxs] at h2
        simp only [List.getElem?_map, Option.map_eq_some_iff, DataW.lit.injEq, Lit.string.injEq] at h2
        obtain ⟨z', hz', rfl⟩ := h2
        simp [h1, hz', sv]
      · rw [List.getElem?_eq_none (by omega), List.getElem?_eq_none (by simp; omega)]
    · cases h
theorem signs_of_laid {W : World} {d0 : DataW Unit} {n0 : String} {r : List (String × DataW Unit)} (h : laidMet Tryz.prog ((n0, d0) :: ("interrex/op.signs", Rows.laid_interrex_op_signs) :: r) W) :
    ∃ t fr, W.heap[0]? = some (.cells ⟨strsV signL⟩ t fr) := by
  obtain ⟨ps, ⟨g', t', cs, fuel, p, q, hg', ht', hvar, hd, _, _⟩, _⟩ := laidMet.tail h
  obtain rfl := Option.some.inj (gSigns.symm.trans hg')
  obtain rfl := Option.some.inj (gSignsType.symm.trans ht')
  have hcs := cells_of_strs (l := signL) Tryz.underlying262 Tryz.underlying9 cellsStr cellsArr hd
  unfold World.var? at hvar
  rw [gSigns] at hvar
  simp only [Option.bind_some] at hvar
  split at hvar
  · rename_i cs' t fr hb
    cases hvar
    refine ⟨t, fr, ?_⟩
    rw [hb, ← hcs]
  · cases hvar
/-- a variable's cells -/
def layG (g : Nat) (cs : List Value) (h : Array Obj) : Array Obj := h.modify g fun o => match o with
  | .cells _ t frozen => .cells ⟨cs⟩ t frozen
  | o => o
def u8s (l : List Nat) : List Value := l.map fun z : Nat => .int .u8 (z : Int)
def accRanges : List Value := u8s [128, 191, 160, 191, 128, 159, 144, 191, 128, 143, 0, 0, 0, 0, 0, 0, 0, 0, 0, 0, 0, 0, 0, 0, 0, 0, 0, 0, 0, 0, 0, 0]
/-- a world for the witness -/
noncomputable def laidWorld (os : Os) : World :=
  { World.holding Tryz.prog os ⟨#[], #[], []⟩ with heap := layG 3 accRanges (layG 2 (u8s Go.Pinned.utf8FirstZ) (layG 0 (strsV signL) (World.holding Tryz.prog os ⟨#[], #[], []⟩).heap)) }
theorem andT {a b : Bool} (h : a = true) (h' : b = true) : (a && b) = true := by rw [h, h']; rfl
namespace M1
theorem laid_met (os : Os) : laidMet Tryz.prog Rows.imageMostRow.laid ((laidWorld os).forCall (fun _ _ => 0) ⟨#[], #[.int .i64 0], []⟩).memory :=
  laidMet_of_run' 8 (by kernel_rfl) (by kernel_rfl)
theorem reads (os : Os) {H : Type} (enc : TypeId × Value → H) : ∃ places, DataW.whole enc Tryz.prog ((laidWorld os).forCall (fun _ _ => 0) ⟨#[], #[.int .i64 0], []⟩).memory Tryz.f3.params.toList Rows.imageMostSpec.vars false #[Value.int .i64 0].toList 8 = some ([.lit (.int .i64 0)], [], places) :=
  ⟨[], by kernel_rfl⟩
theorem contract (H : Type) (enc : TypeId × Value → H) (W : World) (base : Nat) (args : Array Value) (ds gs : List (DataW H)) (before : List MemPlace)
    (hval : ∀ (j : Nat) t v, Tryz.f3.params[j]? = some t → args[j]? = some v → Value.okWide Tryz.prog W .any base t v)
    (hW : DataW.Whole enc Tryz.prog Tryz.f3.params.toList Rows.imageMostSpec.vars false W args.toList ds gs before) (hL : laidMetH Tryz.prog Rows.imageMostRow.laid W) :
    Calls Tryz.prog 3 args W fun e W' => ∃ v, e = .returned v ∧ Rows.imageMostSpec.post enc Tryz.prog Tryz.f3 false true false false W args v W' := by
  have hW' := hW
  obtain ⟨p, q, hA0, hV, rfl, hfz, hnd⟩ := hW
  have hA : DataW.TrodAll enc Tryz.prog W 0 (fun _ => true) true Tryz.f3.params.toList args.toList ds p := hA0
  rw [Tryz.params3] at hA hval
  obtain ⟨v0, vs0, d0, ds0, p0, q0, hargs, rfl, rfl, h0, r0⟩ := trodAll_cons hA
  obtain ⟨rfl, rfl, rfl⟩ := trodAll_nil r0
  obtain rfl : args = #[v0] := by cases args; simp_all
  obtain ⟨rfl, rfl⟩ := trodVars_none hV
  obtain ⟨n, rfl, rfl, rfl, hn⟩ := open_int Tryz.underlying3 (hval 0 3 v0 rfl rfl) h0
  clear hA0
  simp only [List.append_nil] at hW'
  obtain ⟨t, fr, hb⟩ := signs_of_laid hL
  have walk := Con.keeps W (@imageMost ⟨W.os, W.output⟩ t fr n) (fun O I h => h 0 _ hb)
  refine walk.mono fun e W' ⟨v, B, he, hv, hk, _, _⟩ => ?_
  subst hv
  exact ⟨_, he, _, _, _, [], [], [], hW', trodAll_cons_mk (shut_bool Tryz.underlying4 _) trodAll_mk0, trodAll_cons_mk (shut_int Tryz.underlying3 hn) trodAll_mk0, rfl, World.keptBut_mono (fun _ f => f.elim) hk, fun h => by cases h⟩
theorem lifted (os : Os) (started : os.Started) (H : Type) (enc : TypeId × Value → H) (F : Stop.Interp) :
    ReturnsInHanded {} Tryz.checked os 3 .any ((OpenSpec.ofChange Rows.imageMostSpec).preRow enc Tryz.prog Tryz.f3 Rows.imageMostRow.domain false Rows.imageMostRow.laid) (((OpenSpec.ofChange Rows.imageMostSpec).at F).post enc Tryz.prog Tryz.f3 false true false false) := by
  obtain ⟨places, hx⟩ := reads os enc
  refine returnsInHanded_of_row (C := Tryz.checked) (s := OpenSpec.ofChange Rows.imageMostSpec) own started (by kernel_rfl) Tryz.func3
    (witness_row_at (enc := enc) (C := Tryz.checked) false (laidWorld os) #[.int .i64 0] rfl (by kernel_rfl) (by kernel_rfl) (by kernel_rfl)
      (OpenSpec.preRow_of_cond 8 hx (by kernel_rfl) (fun k hk => by cases hk) (by kernel_rfl) (laid_met os))) ?_
  intro W base args ds gs before hval hW _ _ _ hL _ _
  exact contract H enc W base args ds gs before hval hW hL
abbrev sp : ChangeSpec := (OpenSpec.ofChange Rows.imageMostSpec).bare
theorem k1 : (Rows.imageMostRow.wf (OpenSpec.ofChange sp)) = true := by kernel_rfl
theorem k2 : (laidOutB Tryz.prog) = true := by kernel_rfl
theorem k3 : (mapsRowed Tryz.prog) = true := by kernel_rfl
theorem k4 : (Tryz.f3.params.all (Tryz.prog.readableRec ·)) = true := by kernel_rfl
theorem k5 : (namedTie Tryz.prog Rows.imageMostRow.named sp.vars) = true := by kernel_rfl
theorem k6 : ((Rows.imageMostRow.stops == [])) = true := by kernel_rfl
theorem k7 : ((Tryz.prog.stops == [])) = true := by kernel_rfl
theorem k8 : ((Rows.imageMostRow.knobs == [])) = true := by kernel_rfl
theorem k9 : ((Tryz.prog.stopKnobs == [])) = true := by kernel_rfl
theorem k10 : ((Rows.imageMostRow.inPlace == Tryz.prog.inPlace 3)) = true := by kernel_rfl
theorem k11 : ((Rows.imageMostRow.unfollowed == Tryz.prog.unfollowed 3)) = true := by kernel_rfl
theorem k12 : ((Rows.imageMostRow.recurses == Tryz.prog.recurses 3)) = true := by kernel_rfl
theorem k13 : ((Rows.imageMostRow.named == Tryz.prog.varsNamed 3)) = true := by kernel_rfl
theorem k14 : ((Rows.imageMostRow.maps == (Tryz.f3.params.toList ++ sp.plain.varTypes Tryz.prog).any (Tryz.prog.mapsRec ·))) = true := by kernel_rfl
theorem k15 : ((Rows.imageMostRow.ifaces == (Tryz.f3.params.toList ++ sp.plain.varTypes Tryz.prog).any (Tryz.prog.ifacesRec ·))) = true := by kernel_rfl
theorem k16 : ((Rows.imageMostRow.mapsOut == Tryz.prog.mapsAmong Tryz.f3.resultTypes.toList)) = true := by kernel_rfl
theorem k17 : ((Rows.imageMostRow.loops == (Tryz.f3.params.toList ++ sp.plain.varTypes Tryz.prog).any (Tryz.prog.loopsFrom ·))) = true := by kernel_rfl
theorem k17b : ((Rows.imageMostRow.wideKeys == (Tryz.f3.params.toList ++ sp.plain.varTypes Tryz.prog ++ Tryz.f3.resultTypes.toList).any (Tryz.prog.wideKeysFrom ·))) = true := by kernel_rfl
theorem k18 : (sp.vars.all (Tryz.prog.varReadable ·)) = true := by kernel_rfl
theorem k19 : (Tryz.f3.resultTypes.all (fun t => Tryz.prog.readableRec t && decide (t < Tryz.prog.types.size))) = true := by kernel_rfl
theorem k20 : ((Rows.imageMostRow.ifacesOut == Tryz.f3.resultTypes.toList.any (Tryz.prog.ifacesRec ·))) = true := by kernel_rfl
theorem k21 : ((Rows.imageMostRow.loopsOut == Tryz.f3.resultTypes.toList.any (Tryz.prog.loopsFrom ·))) = true := by kernel_rfl
theorem k22 : ((Rows.imageMostRow.plainKeys == Tryz.prog.plainKeys)) = true := by kernel_rfl
theorem k23 : (Rows.imageMostRow.shortTexts.isNone) = true := by kernel_rfl
theorem k23b : (Tryz.prog.stopsHeard) = true := by kernel_rfl
theorem k24 : (Tryz.prog.mayEnter) = true := by kernel_rfl
theorem k24b : ((Rows.imageMostRow.lifted == Tryz.prog.liftsFinal)) = true := by kernel_rfl
theorem k24c : ((Tryz.prog.make == some Rows.imageMostRow.make)) = true := by kernel_rfl
theorem k25 : ((Rows.imageMostRow.kinds == (if Rows.imageMostRow.domain.isEmpty then [] else Tryz.f3.params.toList.map fun t => match Tryz.prog.underlying t with | some (.int k) => some k | _ => Option.none))) = true := by kernel_rfl
theorem k26 : ((Rows.imageMostRow.pinned == Rows.imageMostRow.pinnedBy)) = true := by kernel_rfl
theorem k27 : ((Rows.imageMostRow.veiled == (Tryz.f3.params.toList ++ sp.plain.varTypes Tryz.prog ++ Tryz.f3.resultTypes.toList).any (Tryz.prog.veiledRec ·))) = true := by kernel_rfl
theorem k28 : (Rows.imageMostRow.veiledFits Tryz.prog Tryz.f3.params.toList (Tryz.f3.params.toList ++ sp.plain.varTypes Tryz.prog ++ Tryz.f3.resultTypes.toList)) = true := by kernel_rfl
theorem closed : joinedFacts Tryz.prog 3 Tryz.f3 (OpenSpec.ofChange Rows.imageMostSpec).bare Rows.imageMostRow = true := (andT (andT (andT (andT (andT (andT (andT (andT (andT (andT (andT (andT (andT (andT (andT (andT (andT (andT (andT (andT (andT (andT (andT (andT (andT (andT (andT (andT (andT (andT (andT k1 k2) k3) k4) k5) k6) k7) k8) k9) k10) k11) k12) k13) k14) k15) k16) k17) k17b) k18) k19) k20) k21) k22) k23) k23b) k24) k24b) k24c) k25) k26) k27) k28)
theorem fnamed : Tryz.prog.funcNamed Rows.imageMostRow.func = some 3 := by kernel_rfl
theorem finst : Tryz.f3.isInstance Tryz.prog Rows.imageMostRow.origin Rows.imageMostRow.targs := of_decide_eq_true (by kernel_rfl)
theorem fwrap : Tryz.f3.isWrapper Tryz.prog Rows.imageMostRow.wrapper Rows.imageMostRow.mainSum := by unfold Func.isWrapper; first | (rw [if_pos (by decide +kernel)]; kernel_rfl) | (rw [if_neg (by decide +kernel)]; exact ⟨rfl, rfl⟩)
theorem flooks : Tryz.prog.looks [] = true := by kernel_rfl
theorem fstand : Tryz.prog.wantsStandIn 3 = false := by kernel_rfl
theorem said : Rows.ImageMostSaid :=
  OpenClaim.holds_of_cond 3 Tryz.f3 rfl rfl rfl rfl rfl rfl rfl ⟨rfl, rfl, rfl, rfl, rfl⟩ rfl rfl rfl rfl rfl fnamed Tryz.func3 closed finst fwrap
    (fun os started H enc _ F => by rw [OpenClaim.pre_eq_preRow]; exact lifted os started H enc F)
theorem plain (f : FuncId) (fn : Func) (hf : Tryz.pinned.checked.prog.funcNamed "interrex/interrexlaw18.ImageMost" = some f) (hfn : Tryz.pinned.checked.prog.funcs[f]? = some fn) :
    true = Tryz.pinned.checked.prog.looks [] ∧ ∀ (j : Nat) t, fn.params[j]? = some t → Tryz.pinned.checked.prog.wantsStandIn t = false := by
  obtain rfl : f = 3 := Option.some.inj (fnamed.symm.trans hf) |>.symm
  obtain rfl : fn = Tryz.f3 := (Option.some.inj (Tryz.func3.symm.trans hfn)).symm
  refine ⟨flooks.symm, fun j t ht => ?_⟩
  rw [Tryz.params3] at ht
  obtain rfl : t = 3 := by simpa using Array.mem_of_getElem? ht
  exact fstand
end M1
/-- the card of ImageMost -/
theorem imageMost_holds : Rows.ImageMostCardSaid :=
  Claim7.holds_tied_plain_at .later [] _ _ _ _ M1.said (fun _ h => by cases h) (by kernel_rfl) (fun _ h => by cases h) imageMost_row_tie rfl ⟨rfl, rfl⟩ (by kernel_rfl) rfl M1.plain (by kernel_rfl)
#print axioms imageMost_holds
end Go.Proofs.YtmkdbdkaheiaaaaGreatDoor
