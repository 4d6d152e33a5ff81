/- Helpers for the claim (a logic of assertions over the heap, contracts of the program's functions): no condition beyond each theorem's own premises. -/
import Derived.Test.YtmkdbdkaheiaaaaGreatDoorP4
import Derived.RangeFuncLeaves
import Derived.RangeFuncRecord
set_option linter.all false
namespace Go.Sl
open Go
variable [Amb]

/- ---------- ranges over functions ---------- -/
abbrev WR (l : Nat) : Fence := Fence.wide.inRound l

theorem callsIn_WR {l n : Nat} {P : Program} {f : FuncId} {args : Array Value} {w : World} {R : Ending → World → Prop} (h : Calls P f args w R) : CallsIn (WR l) n P f args w R := (callsIn_wide (n := n)).2 h
theorem rowsIn_WR {l n : Nat} {P : Program} {row : String} {args : Array Value} {w : World} {R : Value → World → Prop} (h : Rows P row args w R) : RowsIn (WR l) n P row args w R :=
  fun c cs _ => let ⟨v, w', r, s⟩ := h c cs; ⟨v, w', r, (stepsIn_wide (P := P)).2 s⟩

def noDefer (ops : Array Oper) : Bool := ops.toList.all fun o => match o.op with | .defer _ => false | _ => true
theorem opIn {l : Nat} {P : Program} {o : Oper} {a : Act} {w : World} {K K' : Act → World → Prop} {Q : Exit → Act → World → Prop} (hd : ∀ c, o.op ≠ .defer c) (h : o.wp P a w K Q) (q : ∀ a w, K a w → K' a w) : o.wpIn (WR l) 0 P a w K' Q := by
  refine ⟨fun _ _ => trivial, ?_⟩
  have hs : Oper.semAt (WR l).round a.eval o = execOp a.eval o := Oper.semAt_eq _ _ _ hd
  rw [hs]
  unfold Oper.wp at h
  generalize (execOp a.eval o).run P w = r at *
  cases r with
  | ok n w' =>
    cases n
    case value v => exact q _ _ h
    case skip => exact q _ _ h
    case defer d => exact q _ _ h
    case enter f args =>
      refine ⟨fun h => (by cases h), callsIn_WR (Calls.mono h fun e w'' he => ?_)⟩
      cases e with
      | returned v => exact q _ _ he
      | panicked c => exact he
      | outgrown => exact he
    case row row args => exact ⟨fun h => (by cases h), rowsIn_WR (Rows.mono h fun v w'' hv => q _ _ hv)⟩
    all_goals exact h.elim
  | halt x w' => cases x <;> exact h
theorem opsIn {l : Nat} {P : Program} {ops : Array Oper} {Q : Exit → Act → World → Prop} (hd : noDefer ops = true) (hQ : ∀ a w, ¬ Q .outgrown a w) (os : List Oper) : ∀ (k : Nat), ops.toList.drop k = os →
    ∀ a w, wpL P ops Q os a w → wpOpsIn (WR l) 0 P ops Q (List.range' k os.length) a w := by
  induction os with
  | nil => intro k _ a w h; exact h
  | cons o rest ih =>
    intro k hk a w h
    have hk' : ops.toList.drop (k + 1) = rest := by
      have : ops.toList.drop (k + 1) = (ops.toList.drop k).drop 1 := by rw [List.drop_drop]
      rw [this, hk]; rfl
    have ho : ops[k]? = some o := by
      have := congrArg (fun l => l[0]?) hk
      simpa using this
    have hod : ∀ c, o.op ≠ .defer c := by
      intro c hc
      have := List.all_eq_true.1 hd o (by simpa using Array.mem_of_getElem? ho)
      rw [hc] at this
      cases this
    have ih' := ih (k + 1) hk'
    show wpOpsIn (WR l) 0 P ops Q (k :: List.range' (k + 1) rest.length) a w
    unfold wpOpsIn
    simp only [ho]
    simp only [wpL] at h
    split at h
    · rename_i hw
      simp only [hw, if_true]
      rcases h with h | ⟨_, a, w, h⟩
      · exact opIn hod h ih'
      · exact absurd h (hQ a w)
    · rename_i hw
      simp only [hw]
      exact ⟨fun _ _ => trivial, ih' _ _ h⟩

/-- code in a round's frame -/
def sR (P : Program) (n l : Nat) (c : Code) (E : Env) (H : HProp) (Q : Post) : Prop :=
  ∀ a w G, EnvOk n E a → MW w ((star (H) (G))) → c.wpIn (WR l) 0 P (lift n G Q) a w
section
variable {P : Program} {n l : Nat} {E : Env} {H : HProp} {Q : Post}
theorem sR_region {id : Nat} {ops : Array Oper} (h : sL P n ops ops.toList E H Q) (hd : noDefer ops = true) (hQ : ∀ E H, ¬ Q .outgrown E H) : sR P n l (.region id ops false) E H Q := by
  intro a w G he hm
  refine wpIn_region ?_
  have := opsIn (l := l) (P := P) (Q := lift n G Q) hd (fun a w ⟨E, H, _, _, hq⟩ => hQ E H hq) ops.toList 0 (by simp) a w (h a w G he hm)
  rw [List.range_eq_range']
  simpa using this
theorem sR_seq {x y : Code} (h : sR P n l x E H (thenP (fun E H => sR P n l y E H Q) Q)) : sR P n l (x.seq y) E H Q := by
  intro a w G he hm
  refine wpIn_seq (wpIn_mono (h a w G he hm) ?_)
  rintro e a' w' ⟨E', H', he', hm', hq⟩
  cases e with
  | normal => exact hq a' w' G he' hm'
  | _ => exact ⟨E', H', he', hm', hq⟩
theorem sR_block {id : Nat} {c : Code} (h : sR P n l c E H (blockP id Q)) : sR P n l (.block id c) E H Q := by
  intro a w G he hm
  refine wpIn_block (wpIn_mono (h a w G he hm) ?_)
  rintro e a' w' ⟨E', H', he', hm', hq⟩
  cases e with
  | exit i =>
    simp only [blockP] at hq
    simp only [Exit.inBlock]
    split <;> rename_i hi <;> simp only [hi, if_true, if_false] at hq <;> exact ⟨E', H', he', hm', hq⟩
  | _ => exact ⟨E', H', he', hm', hq⟩
end

/-- what a call of yield does -/
def YieldM (P : Program) (l : Nat) (vs : List Value) (A B : HProp) : Prop :=
  ∀ W G, MW W ((star (A) (G))) → ∃ fn tmps assign body, (Instr.yield l ⟨vs⟩).run P W = .ok (.round l fn tmps assign body) W ∧ RoundIn Fence.wide 0 P l fn tmps assign body W fun e W' => e = .returned (.bool true) ∧ MW W' ((star (B) (G)))
/-- an iterator's contract: the keys come, each once, in some order -/
def IterM (P : Program) (f : FuncId) (caps : List Value) (A : HProp) (keys : List BStr) : Prop :=
  ∀ (l : Nat) (J : List BStr → HProp), (∀ pre k, pre.length < keys.length → YieldM P l [sval k] (J pre) (J (pre ++ [k]))) →
    Tr P f ⟨.func (.yield l) #[] #[] :: caps⟩ ((star (A) (J []))) fun _ B => ∃ ss : List BStr, ss.Perm keys ∧ B = ((star (A) (J ss)))

/-- the world with a block put -/
theorem putObj_heap {w : World} {l : Nat} {o₀ : Obj} (h : w.heap[l]? = some o₀) (o : Obj) : Upd w (w.putObj l o) l o := set_heap h o

theorem rangeFunc_wp {P : Program} {n gf p : Nat} {g : Operand} {caps : List Value} {assign body : Code} {E : Env} {a : Act} {w : World} {A G : HProp} {keys : List BStr} {J : List BStr → HProp} {Q : Exit → Act → World → Prop}
    (he : EnvOk n E a) (hp : Nat.blt p n = true) (hg : ev E g = some (.func (.func gf) #[] ⟨caps⟩)) (hfn : isFn P gf = true) (hI : IterM P gf caps A keys) (hm : MW w ((star (((star (A) (J [])))) (G))))
    (hround : ∀ l pre k, pre.length < keys.length → sR P n l assign ((p, sval k) :: E) (J pre) fun e E' H' => e = .normal ∧ sR P n l body E' H' fun e _ H'' => e = .normal ∧ ((ent (H'') (J (pre ++ [k])))))
    (hdone : ∀ D ss w', ss.Perm keys → MW w' ((star (((star (A) (J ss)))) (((star (blk D (.deferred (some []))) (G)))))) → Q .normal { a with defers := [{ target := .collected D, args := #[] }] } w') :
    (Code.rangeFunc g #[p] assign body).wpIn Fence.wide 0 P Q a w := by
  refine wpIn_rangeFunc ?_
  intro fn _
  obtain ⟨rec, hrec⟩ : ∃ rec : LoopState → Loop, rec = fun st => { state := st, pending := none, fn, tmps := a.tmps, params := #[p], assign, body, defers := w.heap.size } := ⟨_, rfl⟩
  obtain ⟨w1, hw1⟩ : ∃ w1, (w.alloc (.deferred (some []))).alloc (.loop (rec .ready)) = w1 := ⟨_, rfl⟩
  have hm1 : MW w1 ((star (blk (w.heap.size + 1) (.loop (rec .ready))) (((star (blk w.heap.size (.deferred (some []))) (((star (((star (A) (J [])))) (G))))))))) := by
    have h1 := hm.push (.deferred (some []))
    have h2 := h1.push (.loop (rec .ready))
    have hs : (w.heap.push (.deferred (some []))).size = w.heap.size + 1 := by simp
    rw [hs] at h2
    rw [← hw1]
    exact h2.heap_eq rfl
  refine ⟨w.heap.size + 1, [{ target := .collected w.heap.size, args := #[] }], w1, { target := .fn (.func gf) ⟨caps⟩, args := #[.func (.yield (w.heap.size + 1)) #[] #[]] }, w1, gf,
    ⟨.func (.yield (w.heap.size + 1)) #[] #[] :: caps⟩, w1, ?_, ?_, fun _ _ => trivial, ?_, fun h => (by cases h), ?_⟩
  · exact (run_enterLoop_outer (P := P) (w := w) fn a.tmps #[p] assign body).trans (by rw [← hw1, hrec])
  · have hev := he.ev hg
    simp only [resolve, rangeCall, hev, Deferred.ofValue, Sem.run_bind, Sem.run_pure, Result.andThen_ok]
    simp [Act.eval]
  · simp only [invoke]
    rw [callFunc_run hfn]
    simp
  · refine (callsIn_wide (n := 0)).2 ?_
    have hY : ∀ pre k, pre.length < keys.length → YieldM P (w.heap.size + 1) [sval k] ((star (blk (w.heap.size + 1) (.loop (rec .ready))) (J pre))) ((star (blk (w.heap.size + 1) (.loop (rec .ready))) (J (pre ++ [k])))) := by
      intro pre k hlen W G' hW
      have hl := (hW.mono (star_assoc _ _ _)).blk
      have hy := run_yield (P := P) (args := ⟨[sval k]⟩) hl (by rw [hrec]; rfl)
      rw [hrec] at hy
      refine ⟨_, _, _, _, hy, roundIn_of_wpIn trivial ?_⟩
      have hput : EnvOk n ((p, sval k) :: E) { tmps := ((#[p].zip (⟨[sval k]⟩ : Array Value)).foldl (fun tmps (t, a) => tmps.setIfInBounds t a) a.tmps), defers := [] } := by
        have h1 := he.putE (dst := some p) hp (sval k)
        have h2 : (#[p].zip (⟨[sval k]⟩ : Array Value)).foldl (fun tmps (t, a) => tmps.setIfInBounds t a) a.tmps = (a.put (some p) (sval k)).tmps := by simp [Act.put]
        rw [h2]
        exact ⟨h1.size, rfl, h1.known⟩
      have hWJ : MW W ((star (J pre) (((star (blk (w.heap.size + 1) (.loop (rec .ready))) (G')))))) := hW.mono (ent_trans (star_mono (star_comm _ _) (ent_refl _)) (star_assoc _ _ _))
      refine wpIn_mono (hround (w.heap.size + 1) pre k hlen _ W _ hput hWJ) ?_
      rintro e a1 W1 ⟨E1, H1, he1, hm1, rfl, hb⟩
      have hm1' : MW W1 ((star (blk (w.heap.size + 1) (.loop (rec .ready))) (((star (H1) (G')))))) := hm1.mono (ent_trans (star_assoc' _ _ _) (ent_trans (star_mono (star_comm _ _) (ent_refl _)) (star_assoc _ _ _)))
      have hst : (rec .ready).state = .ready := by rw [hrec]
      refine ⟨_, run_beginRound hm1'.blk hst, ?_⟩
      have hm2 := hm1'.set (.loop { rec .ready with state := .busy }) _ (putObj_heap hm1'.blk _)
      have hm2' : MW _ ((star (H1) (((star (blk (w.heap.size + 1) (.loop { rec .ready with state := .busy })) (G')))))) := hm2.mono (ent_trans (star_assoc' _ _ _) (ent_trans (star_mono (star_comm _ _) (ent_refl _)) (star_assoc _ _ _)))
      refine wpIn_mono (hb a1 _ _ he1 hm2') ?_
      rintro e a3 W3 ⟨E3, H3, he3, hm3, rfl, hJ⟩
      have hm3' : MW W3 ((star (blk (w.heap.size + 1) (.loop { rec .ready with state := .busy })) (((star (H3) (G')))))) := hm3.mono (ent_trans (star_assoc' _ _ _) (ent_trans (star_mono (star_comm _ _) (ent_refl _)) (star_assoc _ _ _)))
      refine ⟨_, _, run_endRound none hm3'.blk, rfl, ?_⟩
      have hm4 := hm3'.set _ _ (putObj_heap hm3'.blk (.loop { { rec .ready with state := .busy } with state := if (none : Option Code).isNone then .ready else .done, pending := none }))
      have hsame : ({ { rec .ready with state := .busy } with state := if (none : Option Code).isNone then .ready else .done, pending := none } : Loop) = rec .ready := by rw [hrec]; rfl
      rw [hsame] at hm4 ⊢
      exact hm4.mono (ent_trans (star_mono (ent_refl _) (star_mono hJ (ent_refl _))) (star_assoc' _ _ _))
    have hcall := hI (w.heap.size + 1) (fun ss => (star (blk (w.heap.size + 1) (.loop (rec .ready))) (J ss))) hY _ ((star (blk w.heap.size (.deferred (some []))) (G))) (hm1.mono (by
      refine ent_trans ?_ (star_mono (ent_trans (star_assoc' _ _ _) (ent_trans (star_mono (star_comm _ _) (ent_refl _)) (star_assoc _ _ _))) (ent_refl _))
      refine ent_trans ?_ (star_assoc' _ _ _)
      refine star_mono (ent_refl _) ?_
      refine ent_trans (star_assoc' _ _ _) (ent_trans (star_mono (star_comm _ _) (ent_refl _)) (star_assoc _ _ _)))
    )
    refine Calls.mono hcall ?_
    rintro e W2 ⟨v, B, rfl, ⟨ss, hss, rfl⟩, hm2⟩
    have hm3 : MW W2 ((star (blk (w.heap.size + 1) (.loop (rec .ready))) (((star (((star (A) (J ss)))) (((star (blk w.heap.size (.deferred (some []))) (G))))))))) := hm2.mono (by
      refine ent_trans (star_mono (ent_trans (star_assoc' _ _ _) (ent_trans (star_mono (star_comm _ _) (ent_refl _)) (star_assoc _ _ _))) (ent_refl _)) (star_assoc _ _ _))
    refine ⟨none, W2.putObj (w.heap.size + 1) (.loop { rec .ready with state := .exhausted }), ?_, ?_⟩
    · have := run_endLoop (P := P) hm3.blk (by rw [hrec]; simp)
      rw [this, hrec]
    · have hm4 := hm3.set _ _ (putObj_heap hm3.blk (.loop { rec .ready with state := .exhausted }))
      have hd := he.defers
      have := hdone w.heap.size ss _ hss (hm4.mono (star_right _ _))
      simp only [hd, List.append_nil]
      exact this
end Go.Sl
namespace Go.Sl
open Go
variable [Amb]

/- ---------- regions that call yield ---------- -/
def wpLI (P : Program) (ops : Array Oper) (Q : Exit → Act → World → Prop) : List Oper → Act → World → Prop
  | [], a, w => Q .normal a w
  | o :: rest, a, w =>
    if Region.wanted o (yielded ops a.tmps) then o.wpIn Fence.wide 0 P a w (wpLI P ops Q rest) Q
    else wpLI P ops Q rest (a.put o.dst undef) w
theorem wpLI_range {P : Program} {ops : Array Oper} {Q : Exit → Act → World → Prop} (os : List Oper) : ∀ (k : Nat), ops.toList.drop k = os →
    ∀ a w, wpLI P ops Q os a w → wpOpsIn Fence.wide 0 P ops Q (List.range' k os.length) a w := by
  induction os with
  | nil => intro k _ a w h; exact h
  | cons o rest ih =>
    intro k hk a w h
    have hk' : ops.toList.drop (k + 1) = rest := by
      have : ops.toList.drop (k + 1) = (ops.toList.drop k).drop 1 := by rw [List.drop_drop]
      rw [this, hk]; rfl
    have ho : ops[k]? = some o := by
      have := congrArg (fun l => l[0]?) hk
      simpa using this
    have ih' := ih (k + 1) hk'
    show wpOpsIn Fence.wide 0 P ops Q (k :: List.range' (k + 1) rest.length) a w
    unfold wpOpsIn
    simp only [ho]
    simp only [wpLI] at h
    split at h
    · rename_i hw
      simp only [hw, if_true]
      refine ⟨h.1, ?_⟩
      have h2 := h.2
      generalize (Oper.semAt Fence.wide.round a.eval o).run P w = r at *
      cases r with
      | ok n w' =>
        cases n
        case value v => exact ih' _ _ h2
        case skip => exact ih' _ _ h2
        case defer d => exact ih' _ _ h2
        case enter f args =>
          refine ⟨h2.1, ⟨h2.2.1, fun cs hr => ?_⟩⟩
          obtain ⟨e, w'', fr, hR, hrest⟩ := h2.2.2 cs hr
          refine ⟨e, w'', fr, ?_, hrest⟩
          cases e with
          | returned v => exact ih' _ _ hR
          | panicked c => exact hR
          | outgrown => exact hR
        case row row args => exact ⟨h2.1, h2.2.mono fun v w'' hv => ih' _ _ hv⟩
        case round l f tmps asg body =>
          refine ⟨h2.1, h2.2.mono fun e w'' he => ?_⟩
          cases e with
          | returned v => exact ih' _ _ he
          | panicked c => exact he
          | outgrown => exact he
        all_goals exact h2.elim
      | halt x w' => cases x <;> exact h2
    · rename_i hw
      simp only [hw]
      exact ⟨fun _ _ => trivial, ih' _ _ h⟩

def sY (P : Program) (n : Nat) (ops : Array Oper) (os : List Oper) (E : Env) (H : HProp) (Q : Post) : Prop :=
  ∀ a w G, EnvOk n E a → MW w ((star (H) (G))) → wpLI P ops (lift n G Q) os a w
section
variable {P : Program} {n : Nat} {ops : Array Oper} {rest : List Oper} {E : Env} {H Rem : HProp} {Q : Post} {pos : String} {after : Array Edge} {g : Option (Nat × Bool)} {ty : TypeId} {dst : Option Tmp}
theorem sW_regionY {id : Nat} (h : sY P n ops ops.toList E H Q) : sW P n (.region id ops false) E H Q := by
  intro a w G he hm
  refine (wpIn_wide (n := 0)).1 (wpIn_region ?_)
  have := wpLI_range (P := P) (Q := lift n G Q) ops.toList 0 (by simp) a w (h a w G he hm)
  rw [List.range_eq_range']
  simpa using this
theorem sY_nil (h : Q .normal E H) : sY P n ops [] E H Q := fun _ _ _ he hm => ⟨E, H, he, hm, h⟩
def nextY (P : Program) (n : Nat) (ops : Array Oper) (rest : List Oper) (Q : Post) : Post
  | .normal, E, H => sY P n ops rest E H Q
  | _, _, _ => False
theorem sY_op {o : Oper} (h : sL P n ops [o] E H (nextY P n ops rest Q)) : sY P n ops (o :: rest) E H Q := by
  intro a w G he hm
  have h1 := h a w G he hm
  simp only [wpL] at h1
  unfold wpLI
  split
  · rename_i hw
    simp only [hw, if_true] at h1
    rcases h1 with h1 | ⟨_, a, w, E', H', _, _, h1⟩
    · refine ⟨fun _ _ => trivial, ?_⟩
      rw [show Oper.semAt Fence.wide.round a.eval o = execOp a.eval o from rfl]
      unfold Oper.wp at h1
      generalize (execOp a.eval o).run P w = r at *
      cases r with
      | ok n w' =>
        cases n
        case value v => obtain ⟨E', H', he', hm', hq⟩ := h1; exact hq _ _ G he' hm'
        case skip => obtain ⟨E', H', he', hm', hq⟩ := h1; exact hq _ _ G he' hm'
        case defer d => obtain ⟨E', H', he', hm', hq⟩ := h1; exact hq _ _ G he' hm'
        case enter f args =>
          refine ⟨fun h => (by cases h), (callsIn_wide (n := 0)).2 (Calls.mono h1 fun e w'' he => ?_)⟩
          cases e with
          | returned v => obtain ⟨E', H', he', hm', hq⟩ := he; exact hq _ _ G he' hm'
          | panicked c => obtain ⟨E', H', he', hm', hq⟩ := he; exact hq.elim
          | outgrown => obtain ⟨_, _, E', H', he', hm', hq⟩ := he; exact hq.elim
        case row row args => exact ⟨fun h => (by cases h), fun c cs _ => by
          obtain ⟨v, w'', hr, hs⟩ := h1 c cs
          obtain ⟨E', H', he', hm', hq⟩ := hr
          exact ⟨v, w'', hq _ _ G he' hm', stepsIn_wide.2 hs⟩⟩
        all_goals exact h1.elim
      | halt x w' =>
        cases x
        case panic v => obtain ⟨E', H', he', hm', hq⟩ := h1; exact hq.elim
        all_goals exact h1.elim
    · exact h1.elim
  · rename_i hw
    simp only [hw] at h1
    obtain ⟨E', H', he', hm', hq⟩ := h1
    exact hq _ _ G he' hm'
theorem sY_nilO (h : sY P n ops rest E H Q) : sL P n ops [] E H (nextY P n ops rest Q) := sL_nil h
/-- a call of yield -/
theorem sY_yield {l : Nat} {fx : Operand} {args : Array Operand} {ats : Array TypeId} {vs : List Value} {A B : HProp} (C : YieldM P l vs A B) (hf : ev E fx = some (.func (.yield l) #[] #[])) (ha : evs E args.toList = some vs) [tk : TakeA A H Rem]
    (k : sY P n ops rest (putE dst (.bool true) E) ((star (B) (Rem))) Q) (hg : gdV ops g E = some true := by rfl) (hd : okD n dst = true := by rfl) :
    sY P n ops (⟨dst, .call ⟨.value fx, args, ats⟩, ty, pos, after, g⟩ :: rest) E H Q := by
  intro a w G he hm
  unfold wpLI
  have hw := gd_eq (o := ⟨dst, .call ⟨.value fx, args, ats⟩, ty, pos, after, g⟩) he hg
  simp only [hw, if_true]
  refine ⟨fun _ _ => trivial, ?_⟩
  rw [show Oper.semAt Fence.wide.round a.eval ⟨dst, .call ⟨.value fx, args, ats⟩, ty, pos, after, g⟩ = execOp a.eval ⟨dst, .call ⟨.value fx, args, ats⟩, ty, pos, after, g⟩ from rfl]
  obtain ⟨fn, tmps, asg, body, hy, hr⟩ := C w ((star (Rem) (G))) ((hm.mono (star_mono tk.eqv (ent_refl _))).mono (star_assoc _ _ _))
  have hrun : (execOp a.eval ⟨dst, .call ⟨.value fx, args, ats⟩, ty, pos, after, g⟩).run P w = .ok (.round l fn tmps asg body) w := by
    simp only [execOp, resolve, he.ev hf, evs_arr he ha, Deferred.ofValue, Sem.run_bind, Sem.run_pure, Result.andThen_ok, invoke]
    simpa using hy
  rw [hrun]
  refine ⟨fun h => (by cases h), hr.mono ?_⟩
  rintro e W' ⟨rfl, hm'⟩
  exact k _ W' G (he.putE hd _) (hm'.mono (star_assoc' _ _ _))
end

/- ---------- behind a range over a function ---------- -/
theorem eval_defers (a : Act) (ds : List Deferred) : ({ a with defers := ds } : Act).eval = a.eval := by
  funext x; cases x <;> rfl
theorem put_defers (a : Act) (ds : List Deferred) (d : Option Tmp) (v : Value) : ({ a with defers := ds } : Act).put d v = { a.put d v with defers := ds } := by
  cases d <;> rfl
def markP (ds : List Deferred) (Q : Exit → Act → World → Prop) : Exit → Act → World → Prop := fun e a w => ∃ a0, a = { a0 with defers := ds } ∧ Q e a0 w
def plainOps (ops : Array Oper) : Bool := ops.toList.all fun o => match o.op with | .move _ | .assign _ | .load .. | .fieldAddr .. => true | _ => false
theorem bind_value {P : Program} {s : Sem Value} {w w' : World} {d : Deferred} : (do Pure.pure (Next.value (← s)) : Sem Next).run P w ≠ .ok (.defer d) w' := by
  intro h
  rw [Sem.run_bind] at h
  cases hs : s.run P w with
  | ok v w1 => rw [hs] at h; simp [Result.andThen] at h
  | halt x w1 => rw [hs] at h; cases h
theorem wpL_defers {P : Program} {ops : Array Oper} {Q : Exit → Act → World → Prop} (ds : List Deferred) (hd : plainOps ops = true) (os : List Oper) (hos : ∀ o ∈ os, o ∈ ops.toList) : ∀ a w, wpL P ops Q os a w → wpL P ops (markP ds Q) os { a with defers := ds } w := by
  induction os with
  | nil => intro a w h; exact ⟨a, rfl, h⟩
  | cons o rest ih =>
    intro a w h
    have ih' := ih fun x hx => hos x (List.mem_cons_of_mem _ hx)
    have hop := List.all_eq_true.1 hd o (hos o List.mem_cons_self)
    simp only [wpL] at h ⊢
    split at h
    · rename_i hw
      simp only [hw, if_true]
      rcases h with h | ⟨h, hl⟩
      · left
        unfold Oper.wp at h ⊢
        rw [eval_defers]
        have hnd : ∀ d w', (execOp a.eval o).run P w ≠ .ok (.defer d) w' := by
          intro d w' hr
          unfold execOp at hr
          cases ho : o.op <;> rw [ho] at hop hr <;> simp only [Bool.false_eq_true] at hop <;> first | exact bind_value hr | (simp [Sem.run] at hr)
        generalize (execOp a.eval o).run P w = r at *
        cases r with
        | ok n w' =>
          cases n
          case value v => show wpL _ _ _ _ _ _; rw [put_defers]; exact ih' _ _ h
          case skip => show wpL _ _ _ _ _ _; rw [put_defers]; exact ih' _ _ h
          case defer d => exact absurd rfl (hnd d w')
          case enter f args =>
            refine Calls.mono h fun e w'' he => ?_
            cases e with
            | returned v => show wpL _ _ _ _ _ _; rw [put_defers]; exact ih' _ _ he
            | panicked c => exact ⟨_, rfl, he⟩
            | outgrown => obtain ⟨a, w, he⟩ := he; exact ⟨_, w, a, rfl, he⟩
          case row row args => exact Rows.mono h fun v w'' hv => by show wpL _ _ _ _ _ _; rw [put_defers]; exact ih' _ _ hv
          all_goals exact h.elim
        | halt x w' =>
          cases x
          case panic v => exact ⟨_, rfl, h⟩
          all_goals exact h.elim
      · right
        refine ⟨?_, ?_⟩
        · unfold Oper.asks at *; rw [eval_defers]; exact h
        · obtain ⟨a, w, hl⟩ := hl; exact ⟨_, w, a, rfl, hl⟩
    · rename_i hw
      simp only [hw]
      rw [put_defers]
      exact ih' _ _ h

/-- code behind the loop: the activation bears a mark -/
def sM (P : Program) (n : Nat) (ds : List Deferred) (c : Code) (E : Env) (H : HProp) (Q : Post) : Prop :=
  ∀ a w G, EnvOk n E a → MW w ((star (H) (G))) → c.wp P (markP ds (lift n G Q)) { a with defers := ds } w
section
variable {P : Program} {n : Nat} {ds : List Deferred} {E : Env} {H : HProp} {Q : Post}
theorem sM_region {id : Nat} {ops : Array Oper} (h : sL P n ops ops.toList E H Q) (hd : plainOps ops = true := by rfl) : sM P n ds (.region id ops false) E H Q := by
  intro a w G he hm
  refine wp_region ?_
  have := wpL_range (P := P) (Q := markP ds (lift n G Q)) ops.toList 0 (by simp) _ w (wpL_defers ds hd ops.toList (fun _ h => h) a w (h a w G he hm))
  rw [List.range_eq_range']
  simpa using this
theorem sM_seq {x y : Code} (h : sM P n ds x E H (thenP (fun E H => sM P n ds y E H Q) Q)) : sM P n ds (x.seq y) E H Q := by
  intro a w G he hm
  refine wp_seq (wp_mono (h a w G he hm) ?_)
  rintro e a' w' ⟨a0, rfl, E', H', he', hm', hq⟩
  cases e with
  | normal => exact hq a0 w' G he' hm'
  | _ => exact ⟨a0, rfl, E', H', he', hm', hq⟩
theorem sM_ret (h : Q .ret E H) : sM P n ds .ret E H Q := fun a _ _ he hm => wp_ret ⟨a, rfl, E, H, he, hm, h⟩
end

/-- a body that ends in a range over a function, and what is behind it -/
theorem Con.of_range {P : Program} {T : Tab} [hTT : HasTab P T] {f n gf p id : Nat} {g : Operand} {caps : List Value} {fn : Func} {front front2 assign body tail : Code} {args : List Value} {A A₀ : HProp} {keys : List BStr} {R : Value → HProp → Prop} {rs : List ResultVar}
    (hf : P.funcs[f]? = some fn) (hb : fn.body = some (front.seq ((front2.seq (Code.block id (.rangeFunc g #[p] assign body))).seq tail))) (hok : (!(fn.name == "runtime.NumGoroutine")) = true) (hnn : fn.ntmps = n) (hres : fn.results = ⟨rs⟩) (hn : Nat.ble args.length n = true)
    (hp : Nat.blt p n = true) (hfn : isFn P gf = true) (hI : IterM P gf caps A keys)
    (h : sW P n front (argE 0 args) A₀ fun e E H => e = .normal ∧ sW P n front2 E H fun e E H => e = .normal ∧ ev E g = some (.func (.func gf) #[] ⟨caps⟩) ∧ ∃ J : List BStr → HProp, ((ent (H) (((star (A) (J [])))))) ∧
      (∀ l pre k, pre.length < keys.length → sR P n l assign ((p, sval k) :: E) (J pre) fun e E' H' => e = .normal ∧ sR P n l body E' H' fun e _ H'' => e = .normal ∧ ((ent (H'') (J (pre ++ [k]))))) ∧
      (∀ ds ss, ss.Perm keys → sM P n ds tail E ((star (A) (J ss))) (retP T rs R))) : Con P f args A₀ R := by
  subst hnn
  have hn' : args.length ≤ fn.ntmps := Nat.le_of_ble_eq_true hn
  refine ⟨by simp only [isFn, hf, hb, Option.isSome_some, Bool.true_and]; exact hok, ?_⟩
  intro w G hm
  refine (callsIn_wide (n := 0)).1 (callsIn_of_wp_marks hf hb trivial ?_)
  refine wpIn_seq (wpIn_wide.2 (wp_mono (h _ w G ⟨?_, rfl, ?_⟩ hm) ?_))
  · simp; omega
  · intro t v e
    obtain ⟨_, h2⟩ := look_argE args 0 t v e
    simp only [Nat.sub_zero] at h2
    have hlt : t < args.length := by
      rcases Nat.lt_or_ge t args.length with h | h
      · exact h
      · rw [List.getElem?_eq_none h] at h2; cases h2
    rw [Array.getD_eq_getD_getElem?, Array.getElem?_append_left (by simpa using hlt)]
    simp only [List.getElem?_toArray, h2, Option.getD_some]
  · rintro e a'' w'' ⟨E'', H'', he'', hm'', rfl, h2⟩
    refine wpIn_seq (wpIn_seq (wpIn_wide.2 (wp_mono (h2 a'' w'' G he'' hm'') ?_)))
    rintro e a' w' ⟨E', H', he', hm', rfl, hg, J, hH, hrd, htl⟩
    refine wpIn_block ?_
    refine rangeFunc_wp he' hp hg hfn hI (hm'.mono (star_mono hH (ent_refl _))) hrd ?_
    intro D ss w2 hss hm2
    show tail.wpIn Fence.wide 0 P _ _ w2
    refine wpIn_wide.2 (wp_mono (htl _ ss hss a' w2 _ he' hm2) ?_)
    rintro e a3 w3 ⟨a0, rfl, E3, H3, he3, hm3, hq⟩
    have hmD : MW w3 ((star (blk D (.deferred (some []))) (((star (H3) (G)))))) := hm3.mono (ent_trans (star_assoc' _ _ _) (ent_trans (star_mono (star_comm _ _) (ent_refl _)) (star_assoc _ _ _)))
    have fin : ∀ (vs : List Value) (H4 : HProp), Res T E3 H3 rs vs → ((ent (H3) (H4))) → R (tupV vs) H4 → LeavesInM Fence.wide 0 P fn a0.tmps (fun e w' => ∃ v B, e = .returned v ∧ R v B ∧ MW w' ((star (B) (G)))) [{ target := .collected D, args := #[] }] .returning w3 := by
      intro vs H4 h1 h2 h3
      have hm5 := (hmD.set _ _ (putObj_heap hmD.blk (.deferred none))).mono (star_right _ _)
      exact ⟨by simp, .inl ⟨D, _, rfl, run_takeDeferred hmD.blk, tupV vs, results_run hTT.ok he3 hm5 hres h1, tupV vs, H4, rfl, h3, hm5.mono (star_mono h2 (ent_refl _))⟩⟩
    cases e <;> simp only [retP] at hq
    all_goals
      obtain ⟨vs, H4, h1, h2, h3⟩ := hq
      exact fin vs H4 h1 h2 h3
end Go.Sl
namespace Go.Sl
open Go
variable [Amb]
section
variable {P : Program} {n : Nat} {ops : Array Oper} {K : HProp} {Q : Env → HProp → Prop} {T : Tab} {d ty : Nat} {pos : String} {after : Array Edge} {g : Option (Nat × Bool)} {rest : List (Tg × Oper)} {E : Env} {H R : HProp}
theorem loadO_run (hT : TabOk P T) {t El k : Nat} {b0 : Addr} {j sn sc : Nat} {cs : List Value} {i : TI} {v : Value} {w : World} {G : HProp} (hm : MW w ((star (own El k (some b0) (sn, sc, cs)) (G)))) (hv : ldV i cs j = some v) (ht : T t = some i) (hz : 0 < i.size) :
    (Instr.loadAt t (elemP (some b0) j)).run P w = .ok v w := by
  obtain ⟨h1, h2, h⟩ := own_cases hm
  rcases h with ⟨h, _⟩ | ⟨b, cur, h, h3, h4, h5, h6, hmb⟩
  · cases h
  · cases h
    exact elem_run hT (c := cur.toList) hmb.blk (m := sn * k) (by simpa using h6) ht hz hv
theorem sF_loadO [hTT : HasTab P T] {t El k : Nat} {x : Operand} {b0 : Addr} {j sn sc : Nat} {cs : List Value} {i : TI} {v : Value} [tk : Take (own El k) (some b0) K (sn, sc, cs) R] (kk : sF P n ops K Q rest ((d, v) :: E) H)
    (hx : ev E x = some (elemP (some b0) j)) (hv : ldV i cs j = some v) (ht : T t = some i := by rfl) (hz : Nat.blt 0 i.size = true := by rfl) (hg : gdV ops g E = some true := by rfl) (hd : Nat.blt d n = true := by rfl) :
    sF P n ops K Q ((.v, ⟨some d, .load t x, ty, pos, after, g⟩) :: rest) E H :=
  sF_val kk hd fun _ he => .inl ⟨gd_eq he hg, fun w G hm => by
    simp only [execOp, he.ev hx]
    exact run_value (loadO_run hTT.ok ((hm.mono (star_mono tk.eqv (ent_refl _))).mono (star_assoc _ _ _)) hv ht (Nat.le_of_ble_eq_true hz))⟩
theorem sF_loadOr [hTT : HasTab P T] {t El k : Nat} {x : Operand} {b0 : Addr} {j sn sc : Nat} {cs : List Value} {i : TI} {v : Value} [tk : Take (own El k) (some b0) ((star (K) (H))) (sn, sc, cs) R] (kk : sF P n ops K Q rest ((d, v) :: E) H)
    (hx : ev E x = some (elemP (some b0) j)) (hv : ldV i cs j = some v) (ht : T t = some i := by rfl) (hz : Nat.blt 0 i.size = true := by rfl) (hg : gdV ops g E = some true := by rfl) (hd : Nat.blt d n = true := by rfl) :
    sF P n ops K Q ((.r, ⟨some d, .load t x, ty, pos, after, g⟩) :: rest) E H :=
  sF_rd kk hd fun _ he => .inl ⟨gd_eq he hg, fun w G hm => by
    simp only [execOp, he.ev hx]
    exact run_value (loadO_run hTT.ok ((hm.mono (star_mono tk.eqv (ent_refl _))).mono (star_assoc _ _ _)) hv ht (Nat.le_of_ble_eq_true hz))⟩
end
end Go.Sl
