/- Helpers for the claim (a logic of assertions over the heap, contracts of the program's functions): no condition beyond each theorem's own premises. -/
import Derived.Test.YtmkdbdkaheiaaaaGreatDoorP2
set_option linter.all false
namespace Go.Sl
open Go
variable [Amb]

/- ---------- regions whose order is drawn ---------- -/
abbrev noQ : Exit → Act → World → Prop := fun _ _ _ => False
/-- what an operation gives, and the world behind it -/
def upU (P : Program) (N : Value → World → Prop) : Result Next → Prop
  | .ok (.value v) w' => N v w'
  | .ok .skip w' => N undef w'
  | .ok (.enter f args) w' => Calls P f args w' fun e w'' => ∃ v, e = .returned v ∧ N v w''
  | .ok (.row row args) w' => Rows P row args w' N
  | _ => False
def wpU (P : Program) (ops : Array Oper) (o : Oper) (N : Value → World → Prop) (a : Act) (w : World) : Prop :=
  if Region.wanted o (yielded ops a.tmps) then upU P N ((execOp a.eval o).run P w) else N undef w

theorem upU_mono {P : Program} {N N' : Value → World → Prop} {r : Result Next} (h : upU P N r) (q : ∀ v w, N v w → N' v w) : upU P N' r := by
  cases r with
  | ok n w' =>
    cases n
    case value v => exact q _ _ h
    case skip => exact q _ _ h
    case enter f args => exact Calls.mono h fun e w'' ⟨v, he, hn⟩ => ⟨v, he, q _ _ hn⟩
    case row row args => exact Rows.mono h fun v w'' hn => q _ _ hn
    all_goals exact h.elim
  | halt x w' => exact h.elim
theorem wpU_mono {P : Program} {ops : Array Oper} {o : Oper} {a : Act} {w : World} {N N' : Value → World → Prop} (h : wpU P ops o N a w) (q : ∀ v w, N v w → N' v w) : wpU P ops o N' a w := by
  unfold wpU at *
  split
  · rename_i hw; simp only [hw, if_true] at h; exact upU_mono h q
  · rename_i hw; simp only [hw] at h; exact q _ _ h
theorem upU_ex {P : Program} {N : Value → World → Prop} {r : Result Next} (h : upU P N r) : ∃ v w', N v w' := by
  cases r with
  | ok n w' =>
    cases n
    case value v => exact ⟨_, _, h⟩
    case skip => exact ⟨_, _, h⟩
    case enter f args => obtain ⟨e, w'', fr, ⟨v, _, hn⟩, _⟩ := h []; exact ⟨_, _, hn⟩
    case row row args => obtain ⟨v, w'', hr, _⟩ := h (Frame.enter P 0 #[] .normal) []; exact ⟨_, _, hr⟩
    all_goals exact h.elim
  | halt x w' => exact h.elim
theorem wpU_ex {P : Program} {ops : Array Oper} {o : Oper} {a : Act} {w : World} {N : Value → World → Prop} (h : wpU P ops o N a w) : ∃ v w', N v w' := by
  unfold wpU at h
  split at h
  · exact upU_ex h
  · exact ⟨_, _, h⟩
theorem wpU_put {P : Program} {ops : Array Oper} {o : Oper} {dst : Option Tmp} {v : Value} {a : Act} {w : World} {N : Value → World → Prop} (hs : ∀ cs b, o.op ≠ .select cs b) (h1 : ∀ d, dst = some d → d ∉ o.looksAt ops) :
    wpU P ops o N (a.put dst v) w ↔ wpU P ops o N a w := by
  unfold wpU
  rw [wanted_put o a dst v h1, execOp_put o hs a dst v h1]
theorem wpU_op {P : Program} {ops : Array Oper} {Q : Exit → Act → World → Prop} {i : Nat} {o : Oper} {a : Act} {w : World} {N : Value → World → Prop} {Kt : Act → World → Prop} (hi : ops[i]? = some o) (h : wpU P ops o N a w) (q : ∀ v w', N v w' → Kt (a.put o.dst v) w') : wpOp P ops Q i Kt a w := by
  unfold wpOp wpU at *
  simp only [hi]
  split
  · rename_i hw
    simp only [hw, if_true] at h
    left
    unfold Oper.wp
    generalize (execOp a.eval o).run P w = r at *
    cases r with
    | ok n w' =>
      cases n
      case value v => exact q _ _ h
      case skip => exact q _ _ h
      case enter f args => exact Calls.mono h fun e w'' ⟨v, he, hn⟩ => by subst he; exact q _ _ hn
      case row row args => exact Rows.mono h fun v w'' hn => q _ _ hn
      all_goals exact h.elim
    | halt x w' => exact h.elim
  · rename_i hw
    simp only [hw] at h
    exact q _ _ h
theorem wpU_of {P : Program} {ops : Array Oper} {o : Oper} {a : Act} {w : World} {Kt : Act → World → Prop} {Q : Exit → Act → World → Prop} (hd : ∀ a w, Kt a w → a.defers = []) (hQ : ∀ e a w, e ≠ .normal → ¬ Q e a w) (h : wpL P ops Q [o] a w) (hN : ∀ a w, Q .normal a w → Kt a w) :
    wpU P ops o (fun v w' => Kt (a.put o.dst v) w') a w := by
  simp only [wpL] at h
  unfold wpU
  split
  · rename_i hw
    simp only [hw, if_true] at h
    rcases h with h | ⟨_, a, w, h⟩
    · unfold Oper.wp at h
      generalize (execOp a.eval o).run P w = r at *
      cases r with
      | ok n w' =>
        cases n
        case value v => exact hN _ _ h
        case skip => exact hN _ _ h
        case enter f args =>
          refine Calls.mono h fun e w'' he => ?_
          cases e with
          | returned v => exact ⟨v, rfl, hN _ _ he⟩
          | panicked c => exact absurd he (hQ _ _ _ (by simp))
          | outgrown => obtain ⟨a, w, he⟩ := he; exact absurd he (hQ _ _ _ (by simp))
        case row row args => exact Rows.mono h fun v w'' hn => hN _ _ hn
        case defer d =>
          have := hd _ _ (hN _ _ h)
          cases hd : o.dst <;> rw [hd] at this <;> cases this
        all_goals exact h.elim
      | halt x w' =>
        cases x
        case panic v => exact absurd h (hQ _ _ _ (by simp))
        all_goals exact h.elim
    · exact absurd h (hQ _ _ _ (by simp))
  · rename_i hw
    simp only [hw] at h
    exact hN _ _ h

/-- what an operation is: a value (of what is kept alone), a reading, a deed -/
inductive Tg where
  | v | r | d

section
variable (P : Program) (n : Nat) (ops : Array Oper) (K : HProp)

def Yld (E : Env) (o : Oper) (v : Value) : Prop :=
  ∀ a, EnvOk n E a → (Region.wanted o (yielded ops a.tmps) = true ∧ ∀ w G, MW w ((star (K) (G))) → (execOp a.eval o).run P w = .ok (.value v) w) ∨ (Region.wanted o (yielded ops a.tmps) = false ∧ v = undef)
def Stp (E : Env) (H : HProp) (o : Oper) (N : Value → HProp → Prop) : Prop :=
  ∀ a w G, EnvOk n E a → MW w ((star (((star (K) (H)))) (G))) → wpU P ops o (fun u w' => ∃ H', MW w' ((star (((star (K) (H')))) (G))) ∧ N u H') a w
/-- the operations in their textual order: values that need the kept part alone, and deeds -/
def sF (Q : Env → HProp → Prop) : List (Tg × Oper) → Env → HProp → Prop
  | [], E, H => ∃ E', (∀ t v, look t E' = some v → look t E = some v) ∧ Q E' H
  | (.v, o) :: rest, E, H => okD n o.dst = true ∧ ∃ v, Yld P n ops K E o v ∧ sF Q rest (putE o.dst v E) H
  | (.r, o) :: rest, E, H => okD n o.dst = true ∧ ∃ v, Yld P n ops ((star (K) (H))) E o v ∧ sF Q rest (putE o.dst v E) H
  | (.d, o) :: rest, E, H => okD n o.dst = true ∧ Stp P n ops K E H o fun u H' => sF Q rest (putE o.dst u E) H'
end

def Env.le (E' E : Env) : Prop := ∀ t v, look t E' = some v → look t E = some v
theorem Env.le_put {E' E : Env} (h : Env.le E' E) (d : Option Tmp) (v : Value) : Env.le (putE d v E') (putE d v E) := by
  cases d with
  | none => exact h
  | some d =>
    intro t u e
    simp only [putE, look] at e ⊢
    cases hb : Nat.beq d t <;> rw [hb] at e <;> simp only [cond_true, cond_false] at e ⊢
    · exact h t u e
    · exact e
theorem Env.le_comm {E : Env} {x y : Option Tmp} {u v : Value} (h : ∀ d, x = some d → y ≠ some d) : Env.le (putE x u (putE y v E)) (putE y v (putE x u E)) := by
  cases x with
  | none => exact fun _ _ e => e
  | some d => cases y with
    | none => exact fun _ _ e => e
    | some c =>
      intro t w e
      have hne : d ≠ c := fun e => h d rfl (by rw [e])
      simp only [putE, look] at e ⊢
      cases hb : Nat.beq d t <;> cases hc : Nat.beq c t <;> rw [hb, hc] at e <;> simp only [cond_true, cond_false] at e ⊢ <;> try exact e
      exact absurd ((Nat.eq_of_beq_eq_true hb).trans (Nat.eq_of_beq_eq_true hc).symm) hne

section
variable {P : Program} {n : Nat} {ops : Array Oper} {K : HProp} {Q : Env → HProp → Prop}

theorem Yld.weak {E E' : Env} {o : Oper} {v : Value} (h : Yld P n ops K E' o v) (e : Env.le E' E) : Yld P n ops K E o v := fun a he => h a (he.weak e)
theorem Stp.weak {E E' : Env} {H : HProp} {o : Oper} {N : Value → HProp → Prop} (h : Stp P n ops K E' H o N) (e : Env.le E' E) : Stp P n ops K E H o N := fun a w G he hm => h a w G (he.weak e) hm
theorem Stp.mono {E : Env} {H : HProp} {o : Oper} {N N' : Value → HProp → Prop} (h : Stp P n ops K E H o N) (e : ∀ u H, N u H → N' u H) : Stp P n ops K E H o N' :=
  fun a w G he hm => wpU_mono (h a w G he hm) fun _ _ ⟨H', h2, h3⟩ => ⟨H', h2, e _ _ h3⟩
theorem sF_env {os : List (Tg × Oper)} {E E' : Env} {H : HProp} (h : sF P n ops K Q os E' H) (e : Env.le E' E) : sF P n ops K Q os E H := by
  induction os generalizing E E' H with
  | nil => obtain ⟨E'', h1, h2⟩ := h; exact ⟨E'', fun t v x => e t v (h1 t v x), h2⟩
  | cons x os ih =>
    obtain ⟨b, o⟩ := x
    cases b with
    | v => obtain ⟨hd, v, hy, hs⟩ := h; exact ⟨hd, v, hy.weak e, ih hs (Env.le_put e _ _)⟩
    | r => obtain ⟨hd, v, hy, hs⟩ := h; exact ⟨hd, v, hy.weak e, ih hs (Env.le_put e _ _)⟩
    | d => obtain ⟨hd, hs⟩ := h; exact ⟨hd, (hs.weak e).mono fun u H' x => ih x (Env.le_put e _ _)⟩
theorem EnvOk.unput {E : Env} {a : Act} {d : Option Tmp} {v : Value} (h : EnvOk n (Sl.putE d v E) a) (hd : okD n d = true) : ∃ a₀, EnvOk n E a₀ ∧ a = a₀.put d v := by
  cases d with
  | none => exact ⟨a, h, rfl⟩
  | some d =>
    have hlt : d < n := Nat.lt_of_succ_le (by simpa [okD, Nat.blt] using hd)
    refine ⟨a.put (some d) ((look d E).getD v), ⟨by simp [Act.put, h.size], h.defers, fun t u e => ?_⟩, ?_⟩
    · by_cases ht : d = t
      · subst ht
        simp [Act.put, h.size, hlt, e]
      · have := h.known t u (by
          simp only [Sl.putE, look]
          have hb : Nat.beq d t = false := by
            cases hh : Nat.beq d t with
            | false => rfl
            | true => exact absurd (Nat.eq_of_beq_eq_true hh) ht
          simpa [hb] using e)
        simpa [Act.put, Array.getElem?_setIfInBounds_ne ht] using this
    · have hk := h.known d v (by simp [Sl.putE, look])
      have : a.tmps = (a.tmps.setIfInBounds d ((look d E).getD v)).setIfInBounds d v := by
        apply Array.ext
        · simp
        · intro i h1 h2
          by_cases hi : d = i
          · subst hi
            rw [Array.getD_eq_getD_getElem?, Array.getElem?_eq_getElem h1] at hk
            simpa using hk
          · rw [Array.getElem_setIfInBounds_ne (by simpa using h1) hi, Array.getElem_setIfInBounds_ne h1 hi]
      obtain ⟨tm, df⟩ := a
      exact congrArg (fun x => (⟨x, df⟩ : Act)) this

/-- apart, both ways -/
structure Apt (ops : Array Oper) (x y : Oper) : Prop where
  xy : ∀ d, x.dst = some d → d ∉ y.looksAt ops
  yx : ∀ d, y.dst = some d → d ∉ x.looksAt ops
  ne : ∀ d, x.dst = some d → y.dst ≠ some d
  ne' : ∀ d, y.dst = some d → x.dst ≠ some d
  sx : ∀ cs b, x.op ≠ .select cs b
  sy : ∀ cs b, y.op ≠ .select cs b

theorem Yld.unput {E : Env} {x y : Oper} {u v : Value} (A : Apt ops x y) (hd : okD n x.dst = true) (h : Yld P n ops K (putE x.dst u E) y v) : Yld P n ops K E y v := by
  intro a he
  have := h (a.put x.dst u) (he.putE hd u)
  rw [wanted_put y a x.dst u A.xy, execOp_put y A.sy a x.dst u A.xy] at this
  exact this
theorem Yld.put {E : Env} {x y : Oper} {u v : Value} (A : Apt ops x y) (hd : okD n x.dst = true) (h : Yld P n ops K E y v) : Yld P n ops K (putE x.dst u E) y v := by
  intro a he
  obtain ⟨a₀, he₀, rfl⟩ := he.unput hd
  rw [wanted_put y a₀ x.dst u A.xy, execOp_put y A.sy a₀ x.dst u A.xy]
  exact h a₀ he₀
theorem Yld.uniq {E : Env} {o : Oper} {u v : Value} (h : Yld P n ops K E o u) (h' : Yld P n ops K E o v) {a : Act} {w : World} {G : HProp} (he : EnvOk n E a) (hm : MW w ((star (K) (G)))) : u = v := by
  rcases h a he with ⟨h1, h2⟩ | ⟨h1, h2⟩ <;> rcases h' a he with ⟨h3, h4⟩ | ⟨h3, h4⟩
  · have := (h2 w G hm).symm.trans (h4 w G hm); simpa using this
  · rw [h1] at h3; cases h3
  · rw [h1] at h3; cases h3
  · rw [h2, h4]

def Mod (n : Nat) (K : HProp) (E : Env) (H : HProp) : Prop := ∃ a w G, EnvOk n E a ∧ MW w ((star (((star (K) (H)))) (G)))
theorem MW.toH {w : World} {K H G : HProp} (h : MW w ((star (((star (K) (H)))) (G)))) : MW w ((star (H) (((star (K) (G)))))) :=
  h.mono (ent_trans (star_mono (star_comm _ _) (ent_refl _)) (star_assoc _ _ _))
theorem MW.ofH {w : World} {K H G : HProp} (h : MW w ((star (H) (((star (K) (G))))))) : MW w ((star (((star (K) (H)))) (G))) :=
  h.mono (ent_trans (star_assoc' _ _ _) (star_mono (star_comm _ _) (ent_refl _)))
theorem MW.toK {w : World} {K H G : HProp} (h : MW w ((star (((star (K) (H)))) (G)))) : MW w ((star (K) (((star (H) (G)))))) := h.mono (star_assoc _ _ _)

/-- a value comes first -/
theorem sF_first {o : Oper} {post : List (Tg × Oper)} : ∀ (pre : List (Tg × Oper)) {E : Env} {H : HProp}, (∀ p ∈ pre, Apt ops p.2 o) → sF P n ops K Q (pre ++ (.v, o) :: post) E H → Mod n K E H →
    ∃ v, okD n o.dst = true ∧ Yld P n ops K E o v ∧ sF P n ops K Q (pre ++ post) (putE o.dst v E) H := by
  intro pre
  induction pre with
  | nil => rintro E H _ ⟨hd, v, hy, hs⟩ _; exact ⟨v, hd, hy, hs⟩
  | cons x pre ih =>
    obtain ⟨b, p⟩ := x
    intro E H hA h hM
    have hA' : ∀ q ∈ pre, Apt ops q.2 o := fun q hq => hA q (List.mem_cons_of_mem _ hq)
    have A : Apt ops p o := hA (b, p) List.mem_cons_self
    have A' : Apt ops o p := ⟨A.yx, A.xy, A.ne', A.ne, A.sy, A.sx⟩
    cases b with
    | v =>
      obtain ⟨hd, u, hy, hs⟩ := h
      obtain ⟨a, w, G, he, hm⟩ := hM
      obtain ⟨v, hdo, hyo, hs'⟩ := ih hA' hs ⟨a.put p.dst u, w, G, he.putE hd u, hm⟩
      exact ⟨v, hdo, hyo.unput A hd, hd, u, hy.put A' hdo, sF_env hs' (Env.le_comm A.ne')⟩
    | r =>
      obtain ⟨hd, u, hy, hs⟩ := h
      obtain ⟨a, w, G, he, hm⟩ := hM
      obtain ⟨v, hdo, hyo, hs'⟩ := ih hA' hs ⟨a.put p.dst u, w, G, he.putE hd u, hm⟩
      exact ⟨v, hdo, hyo.unput A hd, hd, u, hy.put A' hdo, sF_env hs' (Env.le_comm A.ne')⟩
    | d =>
      obtain ⟨hd, st⟩ := h
      obtain ⟨a, w, G, he, hm⟩ := hM
      obtain ⟨u, w', H', hm', hs⟩ := wpU_ex (st a w G he hm)
      obtain ⟨v, hdo, hyo, hs'⟩ := ih hA' hs ⟨_, w', G, he.putE hd u, hm'⟩
      have hyE := hyo.unput A hd
      refine ⟨v, hdo, hyE, hd, ?_⟩
      intro a₁ w₁ G₁ he₁ hm₁
      obtain ⟨a₂, he₂, rfl⟩ := he₁.unput hdo
      rw [wpU_put A.sx A.yx]
      refine wpU_mono (st a₂ w₁ G₁ he₂ hm₁) ?_
      rintro u₁ w₂ ⟨H₁, hm₂, hs₁⟩
      obtain ⟨v₁, _, hy₁, hs₂⟩ := ih hA' hs₁ ⟨_, w₂, G₁, he₂.putE hd u₁, hm₂⟩
      have hv : v₁ = v := (hy₁.unput A hd).uniq hyE he₂ hm₁.toK
      subst hv
      exact ⟨H₁, hm₂, sF_env hs₂ (Env.le_comm A.ne')⟩

/-- a reading comes ahead of values and readings -/
theorem sF_read {o : Oper} {post : List (Tg × Oper)} : ∀ (pre : List (Tg × Oper)) {E : Env} {H : HProp}, (∀ p ∈ pre, p.1 ≠ .d ∧ Apt ops p.2 o) → sF P n ops K Q (pre ++ (.r, o) :: post) E H →
    ∃ v, okD n o.dst = true ∧ Yld P n ops ((star (K) (H))) E o v ∧ sF P n ops K Q (pre ++ post) (putE o.dst v E) H := by
  intro pre
  induction pre with
  | nil => rintro E H _ ⟨hd, v, hy, hs⟩; exact ⟨v, hd, hy, hs⟩
  | cons x pre ih =>
    obtain ⟨b, p⟩ := x
    intro E H hA h
    have hA' : ∀ q ∈ pre, q.1 ≠ .d ∧ Apt ops q.2 o := fun q hq => hA q (List.mem_cons_of_mem _ hq)
    obtain ⟨hb, A⟩ := hA (b, p) List.mem_cons_self
    have A' : Apt ops o p := ⟨A.yx, A.xy, A.ne', A.ne, A.sy, A.sx⟩
    cases b with
    | v =>
      obtain ⟨hd, u, hy, hs⟩ := h
      obtain ⟨v, hdo, hyo, hs'⟩ := ih hA' hs
      exact ⟨v, hdo, hyo.unput A hd, hd, u, hy.put A' hdo, sF_env hs' (Env.le_comm A.ne')⟩
    | r =>
      obtain ⟨hd, u, hy, hs⟩ := h
      obtain ⟨v, hdo, hyo, hs'⟩ := ih hA' hs
      exact ⟨v, hdo, hyo.unput A hd, hd, u, hy.put A' hdo, sF_env hs' (Env.le_comm A.ne')⟩
    | d => exact absurd rfl hb

/-- a deed comes ahead of values -/
theorem sF_deed {o : Oper} {post : List (Tg × Oper)} : ∀ (pre : List (Tg × Oper)) {E : Env} {H : HProp}, (∀ p ∈ pre, p.1 = .v ∧ Apt ops p.2 o) → sF P n ops K Q (pre ++ (.d, o) :: post) E H →
    okD n o.dst = true ∧ Stp P n ops K E H o fun u H' => sF P n ops K Q (pre ++ post) (putE o.dst u E) H' := by
  intro pre
  induction pre with
  | nil => rintro E H _ ⟨hd, hs⟩; exact ⟨hd, hs⟩
  | cons x pre ih =>
    obtain ⟨b, p⟩ := x
    intro E H hA h
    have hA' : ∀ q ∈ pre, q.1 = .v ∧ Apt ops q.2 o := fun q hq => hA q (List.mem_cons_of_mem _ hq)
    obtain ⟨hb, A⟩ := hA (b, p) List.mem_cons_self
    have A' : Apt ops o p := ⟨A.yx, A.xy, A.ne', A.ne, A.sy, A.sx⟩
    simp only at hb
    subst hb
    obtain ⟨hd, v, hy, hs⟩ := h
    obtain ⟨hdo, st⟩ := ih hA' hs
    refine ⟨hdo, fun a w G he hm => ?_⟩
    have h1 := st (a.put p.dst v) w G (he.putE hd v) hm
    rw [wpU_put A.sy A.xy] at h1
    refine wpU_mono h1 ?_
    rintro u w' ⟨H', hm', hs'⟩
    exact ⟨H', hm', hd, v, hy.put A' hdo, sF_env hs' (Env.le_comm A.ne')⟩

/- the certificate -/
def direct (o : Oper) : List Nat := (o.after.toList.filter (Region.binds .any)).map (·.on)
def isSel (o : Oper) : Bool := match o.op with | .select .. => true | _ => false
theorem isSel_spec {o : Oper} (h : isSel o = false) (cs : Array SelectCase) (b : Bool) : o.op ≠ .select cs b := by
  intro he; simp [isSel, he] at h
def aptB (ops : Array Oper) (x y : Oper) : Bool := x.apart ops y && !isSel x && !isSel y
theorem aptB_spec {x y : Oper} (h : aptB ops x y = true) : Apt ops x y := by
  simp only [aptB, Bool.and_eq_true, Bool.not_eq_true'] at h
  obtain ⟨⟨h1, h2⟩, h3⟩ := h
  obtain ⟨a, b, c⟩ := Oper.apart_spec h1
  exact ⟨a, c, b, fun d hy hx => b d hx hy, isSel_spec h2, isSel_spec h3⟩

/-- which operations are values -/
def isVal (o : Oper) : Bool := match o.op with
  | .move .. | .assign .. | .pick .. | .nilCheck .. | .binOp .. | .unOp .. | .convert .. | .fieldAddr .. | .field .. | .indexAddr .. | .extract .. | .build .. | .makeInterface .. | .makeFunc .. => true
  | .call ⟨.builtin _, _, _⟩ => false
  | _ => false
def tagO (fl rd : List Nat) (i : Nat) (o : Oper) : Tg := bif isVal o || fl.elem i then .v else bif rd.elem i then .r else .d
def tagL (fl rd : List Nat) : Nat → List Oper → List (Tg × Oper)
  | _, [] => []
  | i, o :: os => (tagO fl rd i o, o) :: tagL fl rd (i + 1) os
/-- may they be changed about? -/
def Tg.free : Tg → Tg → Bool
  | .v, _ => true
  | _, .v => true
  | .r, .r => true
  | _, _ => false

/-- of two operations: the first one is ahead by an edge, or they are apart, and no deed is changed about -/
def pairB (ops : Array Oper) (i : Nat) (x : Tg × Oper) (anc : List Nat) (y : Tg × Oper) : Bool :=
  anc.elem i || (x.1.free y.1 && aptB ops x.2 y.2)
def rowB (ops : Array Oper) (anc : List Nat) (y : Tg × Oper) : Nat → List (Tg × Oper) → Bool
  | _, [] => true
  | i, x :: xs => pairB ops i x anc y && rowB ops anc y (i + 1) xs
/-- `done`: those ahead; each with its ancestors -/
def certB (ops : Array Oper) : List (Tg × Oper) → List (Tg × Oper) → List (List Nat) → Bool
  | _, [], _ => true
  | done, y :: ys, acc =>
    let anc := (direct y.2) ++ (direct y.2).flatMap fun k => acc.getD k []
    (direct y.2).all (fun k => Nat.blt k done.length) && rowB ops anc y 0 done && certB ops (done ++ [y]) ys (acc ++ [anc])

structure Cert (ops : Array Oper) (L : List (Tg × Oper)) where
  anc : Nat → List Nat
  low : ∀ j y, L[j]? = some y → ∀ k ∈ direct y.2, k < j
  up : ∀ j y, L[j]? = some y → ∀ i ∈ anc j, i ∈ direct y.2 ∨ ∃ k ∈ direct y.2, i ∈ anc k
  pair : ∀ i j x y, i < j → L[i]? = some x → L[j]? = some y → i ∈ anc j ∨ (x.1.free y.1 = true ∧ Apt ops x.2 y.2)

theorem rowB_spec {anc : List Nat} {y : Tg × Oper} : ∀ (xs : List (Tg × Oper)) (s : Nat), rowB ops anc y s xs = true → ∀ i x, xs[i]? = some x → pairB ops (s + i) x anc y = true := by
  intro xs
  induction xs with
  | nil => intro s _ i x h; simp at h
  | cons z xs ih =>
    intro s h i x hx
    simp only [rowB, Bool.and_eq_true] at h
    cases i with
    | zero => simp at hx; subst hx; exact h.1
    | succ i =>
      have := ih (s + 1) h.2 i x (by simpa using hx)
      rwa [Nat.add_assoc, Nat.add_comm 1 i] at this
theorem certB_spec : ∀ (ys done : List (Tg × Oper)) (acc : List (List Nat)), certB ops done ys acc = true → acc.length = done.length →
    ∃ acc' : List (List Nat), (∀ k, k < acc.length → acc'.getD k [] = acc.getD k []) ∧ ∀ j, done.length ≤ j → ∀ y, (done ++ ys)[j]? = some y →
      (∀ k ∈ direct y.2, k < j) ∧ (∀ i ∈ acc'.getD j [], i ∈ direct y.2 ∨ ∃ k ∈ direct y.2, i ∈ acc'.getD k []) ∧
      ∀ i x, i < j → (done ++ ys)[i]? = some x → i ∈ acc'.getD j [] ∨ (x.1.free y.1 = true ∧ Apt ops x.2 y.2) := by
  intro ys
  induction ys with
  | nil =>
    intro done acc _ hl
    refine ⟨acc, fun _ _ => rfl, fun j hj y hy => ?_⟩
    simp at hy
    have := (List.getElem?_eq_some_iff.1 hy).1
    omega
  | cons z ys ih =>
    intro done acc h hl
    simp only [certB, Bool.and_eq_true] at h
    obtain ⟨⟨h1, h2⟩, h3⟩ := h
    obtain ⟨acc', hp, hj⟩ := ih _ _ h3 (by simp [hl])
    have hanc : acc'.getD done.length [] = direct z.2 ++ (direct z.2).flatMap fun k => acc.getD k [] := by
      rw [hp _ (by simp [hl])]
      simp [← hl]
    have hpre : ∀ k, k < acc.length → acc'.getD k [] = acc.getD k [] := fun k hk => by
      rw [hp k (by simp; omega)]
      simp [List.getElem?_append_left hk]
    refine ⟨acc', hpre, fun j hjl y hy => ?_⟩
    rcases Nat.lt_or_ge done.length j with hlt | hge
    · have := hj j (by simp; omega) y (by simpa using hy)
      simpa using this
    · have he : j = done.length := by omega
      subst he
      have hz : z = y := by simpa using hy
      subst hz
      have hlow : ∀ k ∈ direct z.2, k < done.length := fun k hk => by
        have := List.all_eq_true.1 h1 k hk
        exact Nat.lt_of_succ_le (by simpa [Nat.blt] using this)
      refine ⟨hlow, ?_, ?_⟩
      · intro i hi
        rw [hanc] at hi
        rcases List.mem_append.1 hi with hi | hi
        · exact .inl hi
        · obtain ⟨k, hk, hik⟩ := List.mem_flatMap.1 hi
          exact .inr ⟨k, hk, by rw [hpre k (by have := hlow k hk; omega)]; exact hik⟩
      · intro i x hij hx
        have hx' : done[i]? = some x := by rw [List.getElem?_append_left hij] at hx; exact hx
        have := rowB_spec done 0 h2 i x hx'
        simp only [Nat.zero_add, pairB, Bool.or_eq_true, Bool.and_eq_true] at this
        rcases this with h | ⟨h, h'⟩
        · left; rw [hanc]; exact List.elem_iff.1 h
        · exact .inr ⟨h, aptB_spec h'⟩
theorem cert_of {L : List (Tg × Oper)} (h : certB ops [] L [] = true) : ∃ C : Cert ops L, True := by
  obtain ⟨acc', _, hj⟩ := certB_spec L [] [] h rfl
  exact ⟨⟨fun j => acc'.getD j [], fun j y hy => (hj j (Nat.zero_le _) y (by simpa using hy)).1, fun j y hy => (hj j (Nat.zero_le _) y (by simpa using hy)).2.1,
    fun i j x y hij hx hy => (hj j (Nat.zero_le _) y (by simpa using hy)).2.2 i x hij (by simpa using hx)⟩, trivial⟩

theorem tagL_get (fl rd : List Nat) (os : List Oper) : ∀ (s i : Nat), (tagL fl rd s os)[i]? = (os[i]?).map fun o => (tagO fl rd (s + i) o, o) := by
  induction os with
  | nil => intro s i; simp [tagL]
  | cons o os ih =>
    intro s i
    cases i with
    | zero => simp [tagL]
    | succ i => simp [tagL, ih, Nat.add_assoc, Nat.add_comm 1 i]

theorem any_of_sF {L : List (Tg × Oper)} (C : Cert ops L) (hL : ∀ i : Nat, (L[i]?).map (·.2) = ops[i]?) {Qe : Exit → Act → World → Prop} {G : HProp}
    (hQ : ∀ E H a w, Q E H → EnvOk n E a → MW w ((star (((star (K) (H)))) (G))) → Qe .normal a w) :
    ∀ (m : Nat) (U : List Nat) (listed : Array Bool) (E : Env) (H : HProp) (a : Act) (w : World), U.length = m → U.Pairwise (· < ·) → (∀ i ∈ U, i < ops.size) → (∀ i, i < ops.size → (listed.getD i true = false ↔ i ∈ U)) → listed.size = ops.size →
      (∀ j y, L[j]? = some y → j ∉ U → ∀ k ∈ direct y.2, k ∉ U) → sF P n ops K Q (U.filterMap fun i => L[i]?) E H → EnvOk n E a → MW w ((star (((star (K) (H)))) (G))) → wpAny P .any ops Qe m listed a w := by
  intro m
  induction m with
  | zero =>
    intro U listed E H a w hm hs hU hl hsz hc h he hmw
    have : U = [] := List.length_eq_zero_iff.1 hm
    subst this
    obtain ⟨E', hE, hq⟩ := h
    refine ⟨?_, hQ E' H a w hq (he.weak hE) hmw⟩
    rw [List.eq_nil_iff_forall_not_mem]
    intro j hj
    obtain ⟨h0, o, ho, _⟩ := mem_ready.1 hj
    have := (hl j (Array.getElem?_eq_some_iff.1 ho).1).1 h0
    simp at this
  | succ m ih =>
    intro U listed E H a w hm hs hU hl hsz hc h he hmw
    have hlisted : ∀ k, k < ops.size → k ∉ U → listed.getD k false = true := fun k hk hkU => by
      have h1 := mt (hl k hk).1 hkU
      have hlt : k < listed.size := by omega
      simp [hlt] at h1 ⊢
      exact h1
    refine ⟨fun hr => ?_, fun j hj => ?_⟩
    · exfalso
      cases U with
      | nil => simp at hm
      | cons u U =>
        have hu := hU u List.mem_cons_self
        obtain ⟨y, hy⟩ : ∃ y, L[u]? = some y := by
          have := hL u
          rw [Array.getElem?_eq_getElem hu] at this
          cases hh : L[u]? with
          | none => rw [hh] at this; cases this
          | some y => exact ⟨y, rfl⟩
        have hou : ops[u]? = some y.2 := by rw [← hL u, hy]; rfl
        have : u ∈ Region.ready .any ops listed := by
          refine mem_ready.2 ⟨(hl u hu).2 List.mem_cons_self, y.2, hou, fun e hea heb => ?_⟩
          have hk : e.on ∈ direct y.2 := List.mem_map.2 ⟨e, List.mem_filter.2 ⟨by simpa using hea, heb⟩, rfl⟩
          have hlt := C.low u y hy _ hk
          refine hlisted _ (by omega) fun hin => ?_
          rcases List.mem_cons.1 hin with hin | hin
          · omega
          · have := List.rel_of_pairwise_cons hs hin
            omega
        rw [hr] at this
        cases this
    · obtain ⟨h0, o, ho, hall⟩ := mem_ready.1 hj
      have hjlt := (Array.getElem?_eq_some_iff.1 ho).1
      have hjU := (hl j hjlt).1 h0
      obtain ⟨y, hy⟩ : ∃ y, L[j]? = some y := by
        have := hL j
        rw [ho] at this
        cases hh : L[j]? with
        | none => rw [hh] at this; cases this
        | some y => exact ⟨y, rfl⟩
      have hyo : y.2 = o := by have := hL j; rw [hy, ho] at this; simpa using this
      have hdir : ∀ k ∈ direct y.2, k ∉ U := by
        intro k hk hkU
        obtain ⟨e, hee, rfl⟩ := List.mem_map.1 hk
        obtain ⟨he1, he2⟩ := List.mem_filter.1 hee
        rw [hyo] at he1
        have h1 := hall e (by simpa using he1) he2
        have h2 := (hl _ (hU _ hkU)).2 hkU
        have hlt : e.on < listed.size := by have := hU _ hkU; omega
        simp [hlt] at h1 h2
        rw [h1] at h2; cases h2
      have hanc : ∀ (b j : Nat) (y : Tg × Oper), j < b → L[j]? = some y → (∀ k ∈ direct y.2, k ∉ U) → ∀ i ∈ C.anc j, i ∉ U := by
        intro b
        induction b with
        | zero => intro j y hb; omega
        | succ b ihb =>
          intro j y hb hy hd i hi
          rcases C.up j y hy i hi with h | ⟨k, hk, hik⟩
          · exact hd i h
          · have hkj := C.low j y hy k hk
            obtain ⟨z, hz⟩ : ∃ z, L[k]? = some z := by
              have hlen := (List.getElem?_eq_some_iff.1 hy).1
              exact ⟨L[k]'(by omega), List.getElem?_eq_getElem (by omega)⟩
            exact ihb k z (by omega) hz (hc k z hz (hd k hk)) i hik
      have hancj := hanc (j + 1) j y (by omega) hy hdir
      obtain ⟨U1, U2, rfl⟩ := List.append_of_mem hjU
      have hsp := List.pairwise_append.1 hs
      have hs2 := List.pairwise_cons.1 hsp.2.1
      have hjn : j ∉ U1 ++ U2 := fun hin => by
        rcases List.mem_append.1 hin with hin | hin
        · have := hsp.2.2 j hin j List.mem_cons_self; omega
        · have := hs2.1 j hin; omega
      have hsub : ∀ i, i ∈ U1 ++ U2 ↔ (i ∈ U1 ++ j :: U2 ∧ i ≠ j) := by
        intro i
        constructor
        · intro hi
          refine ⟨?_, fun e => hjn (e ▸ hi)⟩
          rcases List.mem_append.1 hi with h | h
          · exact List.mem_append_left _ h
          · exact List.mem_append_right _ (List.mem_cons_of_mem _ h)
        · rintro ⟨hi, hne⟩
          rcases List.mem_append.1 hi with h | h
          · exact List.mem_append_left _ h
          · rcases List.mem_cons.1 h with h | h
            · exact absurd h hne
            · exact List.mem_append_right _ h
      have hpairs : ∀ p ∈ U1.filterMap (fun i => L[i]?), p.1.free y.1 = true ∧ Apt ops p.2 y.2 := by
        intro p hp
        obtain ⟨i, hi, hip⟩ := List.mem_filterMap.1 hp
        have hij := hsp.2.2 i hi j List.mem_cons_self
        rcases C.pair i j p y hij hip hy with h | h
        · exact absurd (List.mem_append_left _ hi) (hancj i h)
        · exact h
      have hnext : ∀ (E' : Env) (H' : HProp) (a' : Act) (w' : World), sF P n ops K Q ((U1 ++ U2).filterMap fun i => L[i]?) E' H' → EnvOk n E' a' → MW w' ((star (((star (K) (H')))) (G))) →
          wpAny P .any ops Qe m (listed.setIfInBounds j true) a' w' := by
        intro E' H' a' w' hsF he' hm'
        refine ih (U1 ++ U2) _ E' H' a' w' (by simp at hm ⊢; omega) ?_ (fun i hi => hU i ((hsub i).1 hi).1) ?_ (by simp [hsz]) ?_ hsF he' hm'
        · exact List.pairwise_append.2 ⟨hsp.1, hs2.2, fun x hx z hz => hsp.2.2 x hx z (List.mem_cons_of_mem _ hz)⟩
        · intro i hi
          by_cases hij : j = i
          · subst hij
            have hlt : j < listed.size := by omega
            constructor
            · intro h; simp [hlt] at h
            · intro h; exact absurd h hjn
          · rw [getD_set_ne true hij, hl i hi, hsub i]
            exact ⟨fun h => ⟨h, fun e => hij e.symm⟩, fun h => h.1⟩
        · intro i z hz hni k hk hin
          have hin' := ((hsub k).1 hin).1
          by_cases hij : i = j
          · subst hij
            rw [hy] at hz; cases hz
            exact hdir k hk hin'
          · exact hc i z hz (fun h => hni ((hsub i).2 ⟨h, hij⟩)) k hk hin'
      have hfm : (U1 ++ j :: U2).filterMap (fun i => L[i]?) = U1.filterMap (fun i => L[i]?) ++ y :: U2.filterMap (fun i => L[i]?) := by
        rw [List.filterMap_append, List.filterMap_cons, hy]
      rw [hfm] at h
      obtain ⟨b, o'⟩ := y
      simp only at hyo
      subst hyo
      cases b with
      | v =>
        obtain ⟨v, hd, hyl, hs'⟩ := sF_first _ (fun p hp => (hpairs p hp).2) h ⟨a, w, G, he, hmw⟩
        have hk := hnext _ H (a.put o'.dst v) w (by rw [List.filterMap_append]; exact hs') (he.putE hd v) hmw
        unfold wpOp
        simp only [ho]
        rcases hyl a he with ⟨h1, h2⟩ | ⟨h1, rfl⟩
        · simp only [h1, if_true, Oper.wp, h2 w ((star (H) (G))) hmw.toK, Oper.upon]; exact .inl hk
        · simp only [h1, Bool.false_eq_true, if_false]; exact hk
      | r =>
        obtain ⟨v, hd, hyl, hs'⟩ := sF_read _ (fun p hp => ⟨fun hpd => (by have := (hpairs p hp).1; rw [hpd] at this; cases this), (hpairs p hp).2⟩) h
        have hk := hnext _ H (a.put o'.dst v) w (by rw [List.filterMap_append]; exact hs') (he.putE hd v) hmw
        unfold wpOp
        simp only [ho]
        rcases hyl a he with ⟨h1, h2⟩ | ⟨h1, rfl⟩
        · simp only [h1, if_true, Oper.wp, h2 w G hmw, Oper.upon]; exact .inl hk
        · simp only [h1, Bool.false_eq_true, if_false]; exact hk
      | d =>
        obtain ⟨hd, st⟩ := sF_deed _ (fun p hp => ⟨(by have := (hpairs p hp).1; cases hp1 : p.1 <;> rw [hp1] at this <;> first | rfl | cases this), (hpairs p hp).2⟩) h
        refine wpU_op ho (st a w G he hmw) ?_
        rintro v w' ⟨H', hm', hs'⟩
        exact hnext _ H' _ w' (by rw [List.filterMap_append]; exact hs') (he.putE hd v) hm'

theorem range_filterMap {α : Type} (L : List α) : (List.range L.length).filterMap (fun i => L[i]?) = L := by
  induction L with
  | nil => rfl
  | cons x L ih =>
    rw [List.length_cons, List.range_succ_eq_map, List.filterMap_cons]
    simp only [List.getElem?_cons_zero, List.filterMap_map]
    congr 1

/-- a region whose order is drawn: `fl` are the loads that come from the kept part -/
def endP (K : HProp) (Qp : Post) : Env → HProp → Prop := fun E H => ∃ H', ((ent (((star (K) (H)))) (H'))) ∧ Qp .normal E H'
theorem sW_drawn {id : Nat} {E : Env} {H H' : HProp} {Qp : Post} (fl rd : List Nat) (e : (ent (H) (((star (K) (H')))))) (h : sF P n ops K (endP K Qp) (tagL fl rd 0 ops.toList) E H')
    (hm : P.follows .mixedOrders = true) (hc : certB ops [] (tagL fl rd 0 ops.toList) [] = true) : sW P n (.region id ops true) E H Qp := by
  intro a w G he hmw
  obtain ⟨C, _⟩ := cert_of hc
  refine wp_region_any hm ?_
  have hL : ∀ i : Nat, ((tagL fl rd 0 ops.toList)[i]?).map (·.2) = ops[i]? := fun i => by
    rw [tagL_get]; cases h : ops[i]? <;> simp [h]
  have hlen : (tagL fl rd 0 ops.toList).length = ops.size := by
    have : ∀ (os : List Oper) (s : Nat), (tagL fl rd s os).length = os.length := by
      intro os; induction os with
      | nil => intro s; rfl
      | cons o os ih => intro s; simp [tagL, ih]
    rw [this]; simp
  refine any_of_sF (K := K) (Q := endP K Qp) (G := G) C hL ?_ ops.size (List.range ops.size) _ E H' a _ (by simp) List.pairwise_lt_range (fun i hi => List.mem_range.1 hi) ?_ (by simp) ?_ ?_ he ?_
  · rintro E₁ H₁ a₁ w₁ ⟨H₂, hle, hq⟩ he₁ hm₁
    exact ⟨E₁, _, he₁, hm₁.mono (star_mono hle (ent_refl _)), hq⟩
  · intro i hi; simp [hi]
  · intro j y hj hn
    have := (List.getElem?_eq_some_iff.1 hj).1
    exact absurd (List.mem_range.2 (by omega)) hn
  · rw [← hlen, range_filterMap]; exact h
  · exact (hmw.mono (star_mono e (ent_refl _))).heap_eq rfl
/-- nothing is kept -/
theorem sW_drawn0 {id : Nat} {E : Env} {H : HProp} {Qp : Post} (rd : List Nat) (h : sF P n ops emp (endP emp Qp) (tagL [] rd 0 ops.toList) E H) (hm : P.follows .mixedOrders = true) (hc : certB ops [] (tagL [] rd 0 ops.toList) [] = true) : sW P n (.region id ops true) E H Qp :=
  sW_drawn [] rd (star_emp H) h hm hc
/-- one thing is kept -/
theorem sW_drawn1 {κ α : Type} {p : κ → α → HProp} (b : κ) {x : α} {id : Nat} {E : Env} {H H' : HProp} {Qp : Post} [t : Take p b H x H'] (fl : List Nat) (rd : List Nat) (h : sF P n ops (p b x) (endP (p b x) Qp) (tagL fl rd 0 ops.toList) E H')
    (hm : P.follows .mixedOrders = true) (hc : certB ops [] (tagL fl rd 0 ops.toList) [] = true) : sW P n (.region id ops true) E H Qp :=
  sW_drawn fl rd t.eqv h hm hc
theorem sW_drawn2 {κ α : Type} {p : κ → α → HProp} (b : κ) {x : α} {κ' α' : Type} {p' : κ' → α' → HProp} (b' : κ') {x' : α'} {id : Nat} {E : Env} {H H' H'' : HProp} {Qp : Post} [t : Take p b H x H'] [t' : Take p' b' H' x' H''] (fl : List Nat) (rd : List Nat)
    (h : sF P n ops ((star (p b x) (p' b' x'))) (endP ((star (p b x) (p' b' x'))) Qp) (tagL fl rd 0 ops.toList) E H'') (hm : P.follows .mixedOrders = true) (hc : certB ops [] (tagL fl rd 0 ops.toList) [] = true) : sW P n (.region id ops true) E H Qp :=
  sW_drawn fl rd (ent_trans t.eqv (ent_trans (star_mono (ent_refl _) t'.eqv) (star_assoc' _ _ _))) h hm hc

/- the steps -/
theorem sF_nil {E : Env} {H : HProp} (h : Q E H) : sF P n ops K Q [] E H := ⟨E, fun _ _ e => e, h⟩
theorem sF_end0 {E : Env} {H : HProp} {Qp : Post} (h : Qp .normal E H) : sF P n ops emp (endP emp Qp) [] E H := sF_nil ⟨H, star_right _ _, h⟩
theorem sF_end {E : Env} {H : HProp} {Qp : Post} (h : Qp .normal E ((star (K) (H)))) : sF P n ops K (endP K Qp) [] E H := sF_nil ⟨_, ent_refl _, h⟩
theorem sF_end2 {A B : HProp} {E : Env} {H : HProp} {Qp : Post} (h : Qp .normal E ((star (A) (((star (B) (H))))))) : sF P n ops ((star (A) (B))) (endP ((star (A) (B))) Qp) [] E H := sF_nil ⟨_, star_assoc _ _ _, h⟩
theorem sF_split {os : List (Tg × Oper)} {d : Nat} {b : Bool} {E : Env} {H : HProp} (ht : b = true → sF P n ops K Q os ((d, .bool true) :: E) H) (hf : b = false → sF P n ops K Q os ((d, .bool false) :: E) H) (hb : look d E = some (.bool b) := by rfl) : sF P n ops K Q os E H := by
  have key : ∀ b', b = b' → Env.le ((d, .bool b') :: E) E := by
    intro b' hbb t v h
    subst hbb
    simp only [look] at h
    cases hk : Nat.beq d t <;> rw [hk] at h <;> simp only [cond_true, cond_false] at h
    · exact h
    · rw [← Nat.eq_of_beq_eq_true hk, hb]; exact h
  cases hbb : b with
  | true => exact sF_env (ht hbb) (key true hbb)
  | false => exact sF_env (hf hbb) (key false hbb)
theorem sF_guard {o : Oper} {tg : Tg} {rest : List (Tg × Oper)} {j d : Nat} {want b : Bool} {E : Env} {H : HProp} (hgd : o.guard = some (j, want)) (hj : dstAt ops.toList j = some d) (hb : look d E = some (.bool b)) (ht : b = true → sF P n ops K Q ((tg, o) :: rest) ((d, .bool true) :: E) H) (hf : b = false → sF P n ops K Q ((tg, o) :: rest) ((d, .bool false) :: E) H) : sF P n ops K Q ((tg, o) :: rest) E H :=
  sF_split ht hf hb
theorem sF_guardD {o : Oper} {tg : Tg} {rest : List (Tg × Oper)} {j d : Nat} {want : Bool} {p : Prop} {dp : Decidable p} {E : Env} {H : HProp} (hgd : o.guard = some (j, want)) (hj : dstAt ops.toList j = some d) (hb : look d E = some (.bool (@decide p dp))) (ht : p → sF P n ops K Q ((tg, o) :: rest) ((d, .bool true) :: E) H) (hf : ¬ p → sF P n ops K Q ((tg, o) :: rest) ((d, .bool false) :: E) H) : sF P n ops K Q ((tg, o) :: rest) E H :=
  sF_split (fun e => ht (of_decide_eq_true e)) (fun e => hf (of_decide_eq_false e)) hb
def opP (P : Program) (n : Nat) (ops : Array Oper) (K : HProp) (Q : Env → HProp → Prop) (o : Oper) (E₀ : Env) (rest : List (Tg × Oper)) : Post
  | .normal, E, H => (∃ u, Env.le E (putE o.dst u E₀)) ∧ sF P n ops K Q rest E H
  | _, _, _ => False
theorem sF_op {o : Oper} {rest : List (Tg × Oper)} {E : Env} {H : HProp} (h : sL P n ops [o] E H (opP P n ops K Q o E rest)) (hd : okD n o.dst = true := by rfl) : sF P n ops K Q ((.d, o) :: rest) E H := by
  refine ⟨hd, fun a w G he hm => ?_⟩
  have h1 := h a w ((star (K) (G))) he hm.toH
  have h2 := wpU_of (Kt := fun a' w' => ∃ E' H', EnvOk n E' a' ∧ MW w' ((star (H') (((star (K) (G)))))) ∧ opP P n ops K Q o E rest .normal E' H') (fun a w ⟨_, _, he, _⟩ => he.defers)
    (fun e a w hne ⟨E', H', _, _, hq⟩ => by cases e <;> first | exact absurd rfl hne | exact hq) h1 (fun a w hq => hq)
  refine wpU_mono h2 ?_
  rintro u w' ⟨E', H', he', hm', ⟨u', hle⟩, hs⟩
  refine ⟨H', hm'.ofH, sF_env hs ?_⟩
  intro t v ht
  have h3 := hle t v ht
  cases hdst : o.dst with
  | none => rw [hdst] at h3; exact h3
  | some d =>
    rw [hdst] at h3
    simp only [putE, look] at h3 ⊢
    cases hb : Nat.beq d t <;> rw [hb] at h3 <;> simp only [cond_true, cond_false] at h3 ⊢
    · exact h3
    · have hdt := Nat.eq_of_beq_eq_true hb
      subst hdt
      have hk := he'.known d v ht
      rw [hdst] at hk hd
      have hlt : d < n := Nat.lt_of_succ_le (by simpa [okD, Nat.blt] using hd)
      rw [← hk]
      simp [Act.put, he.size, hlt]
theorem sF_nilO {o : Oper} {rest : List (Tg × Oper)} {E E₀ : Env} {H : HProp} {u : Value} (h : sF P n ops K Q rest E H) (he : E = putE o.dst u E₀ := by rfl) : sL P n ops [] E H (opP P n ops K Q o E₀ rest) :=
  sL_nil ⟨⟨u, fun _ _ e => he ▸ e⟩, h⟩
theorem sF_val {o : Oper} {rest : List (Tg × Oper)} {E : Env} {H : HProp} {v : Value} (h : sF P n ops K Q rest (putE o.dst v E) H) (hd : okD n o.dst = true) (hy : Yld P n ops K E o v) : sF P n ops K Q ((.v, o) :: rest) E H := ⟨hd, v, hy, h⟩
theorem sF_off {o : Oper} {b : Tg} {rest : List (Tg × Oper)} {E : Env} {H : HProp} (h : sF P n ops K Q rest (putE o.dst undef E) H) (hg : gdV ops o.guard E = some false := by rfl) (hd : okD n o.dst = true := by rfl) : sF P n ops K Q ((b, o) :: rest) E H := by
  cases b with
  | v => exact ⟨hd, undef, fun a he => .inr ⟨gd_eq he hg, rfl⟩, h⟩
  | r => exact ⟨hd, undef, fun a he => .inr ⟨gd_eq he hg, rfl⟩, h⟩
  | d =>
    refine ⟨hd, fun a w G he hm => ?_⟩
    unfold wpU
    rw [gd_eq he hg]
    exact ⟨H, hm, h⟩
theorem sF_rd {o : Oper} {rest : List (Tg × Oper)} {E : Env} {H : HProp} {v : Value} (h : sF P n ops K Q rest (putE o.dst v E) H) (hd : okD n o.dst = true) (hy : Yld P n ops ((star (K) (H))) E o v) : sF P n ops K Q ((.r, o) :: rest) E H := ⟨hd, v, hy, h⟩
theorem sF_pure {T : Tab} [hTT : HasTab P T] {v : Value} {d ty : Nat} {op : Op} {pos : String} {after : Array Edge} {g : Option (Nat × Bool)} {rest : List (Tg × Oper)} {E : Env} {H : HProp} (k : sF P n ops K Q rest ((d, v) :: E) H) (hg : gdV ops g E = some true := by rfl) (hd : Nat.blt d n = true := by rfl) (hv : evalPure T E op = some v := by rfl) : sF P n ops K Q ((.v, ⟨some d, op, ty, pos, after, g⟩) :: rest) E H :=
  sF_val k hd fun _ he => .inl ⟨gd_eq he hg, fun w _ _ => pure_run hTT.ok he (o := ⟨some d, op, ty, pos, after, g⟩) hv w⟩
theorem sF_load {T : Tab} [hTT : HasTab P T] {v : Value} {d ty t b off El : Nat} {x : Operand} {c : List Value} {fr : Nat × Nat} {i : TI} {R : HProp} {pos : String} {after : Array Edge} {g : Option (Nat × Bool)} {rest : List (Tg × Oper)} {E : Env} {H : HProp} [tk : Take blk b K (.cells ⟨c⟩ El fr) R] (k : sF P n ops K Q rest ((d, v) :: E) H)
    (hx : ev E x = some (.pointer (some ⟨b, off, none⟩))) (hg : gdV ops g E = some true := by rfl) (hd : Nat.blt d n = true := by rfl) (ht : T t = some i := by rfl) (hv : ldV i c off = some v := by rfl) : sF P n ops K Q ((.v, ⟨some d, .load t x, ty, pos, after, g⟩) :: rest) E H :=
  sF_val k hd fun _ he => .inl ⟨gd_eq he hg, fun w G hm => by
    simp only [execOp, he.ev hx, Instr.loadAt, Instr.sureAddr]
    refine run_value ?_
    simp only [Sem.run_bind, Sem.run_pure, Result.andThen_ok]
    exact loadVar_run hTT.ok ((hm.mono (star_mono tk.eqv (ent_refl _))).mono (star_assoc _ _ _)).blk ht hv⟩
theorem sF_loadI {T : Tab} [hTT : HasTab P T] {v : Value} {d ty t b off El : Nat} {x : Operand} {c : List Value} {fr : Nat × Nat} {i : TI} {pos : String} {after : Array Edge} {g : Option (Nat × Bool)} {rest : List (Tg × Oper)} {E : Env} {H : HProp} [tk : Look imm b K (.cells ⟨c⟩ El fr)] (k : sF P n ops K Q rest ((d, v) :: E) H)
    (hx : ev E x = some (.pointer (some ⟨b, off, none⟩))) (hg : gdV ops g E = some true := by rfl) (hd : Nat.blt d n = true := by rfl) (ht : T t = some i := by rfl) (hv : ldV i c off = some v := by rfl) : sF P n ops K Q ((.v, ⟨some d, .load t x, ty, pos, after, g⟩) :: rest) E H :=
  sF_val k hd fun _ he => .inl ⟨gd_eq he hg, fun w G hm => by
    simp only [execOp, he.ev hx, Instr.loadAt, Instr.sureAddr]
    refine run_value ?_
    simp only [Sem.run_bind, Sem.run_pure, Result.andThen_ok]
    exact loadVar_run hTT.ok ((hm.mono (star_left _ _)).imm tk.eqv) ht hv⟩
end
section
variable {P : Program} {T : Tab} {n : Nat} {ops : Array Oper} {os : List (Tg × Oper)} {E : Env} {K H : HProp} {Q : Env → HProp → Prop} {d ty t t' : Nat} {pos : String} {after : Array Edge} {g : Option (Nat × Bool)} {x y : Operand} {k : IntKind} {a b : Int}
theorem sF_add [hTT : HasTab P T] (kk : sF P n ops K Q os ((d, .int k (a + b)) :: E) H) (hg : gdV ops g E = some true := by rfl) (hd : Nat.blt d n = true := by rfl) (hx : ev E x = some (.int k a) := by rfl) (hy : ev E y = some (.int k b) := by rfl) (hf : Fits k (a + b) := by simp only [Fits]; omega) : sF P n ops K Q ((.v, ⟨some d, .binOp .add t x y t', ty, pos, after, g⟩) :: os) E H :=
  sF_pure (v := .int k (a + b)) kk hg hd (by simp [evalPure, hx, hy, binV, wrap_fits hf])
theorem sF_sub [hTT : HasTab P T] (kk : sF P n ops K Q os ((d, .int k (a - b)) :: E) H) (hg : gdV ops g E = some true := by rfl) (hd : Nat.blt d n = true := by rfl) (hx : ev E x = some (.int k a) := by rfl) (hy : ev E y = some (.int k b) := by rfl) (hf : Fits k (a - b) := by simp only [Fits]; omega) : sF P n ops K Q ((.v, ⟨some d, .binOp .sub t x y t', ty, pos, after, g⟩) :: os) E H :=
  sF_pure (v := .int k (a - b)) kk hg hd (by simp [evalPure, hx, hy, binV, wrap_fits hf])
theorem sF_mul [hTT : HasTab P T] (kk : sF P n ops K Q os ((d, .int k (a * b)) :: E) H) (hg : gdV ops g E = some true := by rfl) (hd : Nat.blt d n = true := by rfl) (hx : ev E x = some (.int k a) := by rfl) (hy : ev E y = some (.int k b) := by rfl) (hf : Fits k (a * b) := by simp only [Fits]; omega) : sF P n ops K Q ((.v, ⟨some d, .binOp .mul t x y t', ty, pos, after, g⟩) :: os) E H :=
  sF_pure (v := .int k (a * b)) kk hg hd (by simp [evalPure, hx, hy, binV, wrap_fits hf])
theorem sF_conv [hTT : HasTab P T] {k' : IntKind} {s1 s2 b1 b2 : Nat} {z1 z2 : List Value} (kk : sF P n ops K Q os ((d, .int k' a) :: E) H) (hg : gdV ops g E = some true := by rfl) (hd : Nat.blt d n = true := by rfl) (hx : ev E x = some (.int k a) := by rfl) (hs : T t = some ⟨.int k, s1, b1, z1⟩ := by rfl) (ht : T t' = some ⟨.int k', s2, b2, z2⟩ := by rfl) (hf : Fits k' a := by simp only [Fits]; omega) : sF P n ops K Q ((.v, ⟨some d, .convert t t' x, ty, pos, after, g⟩) :: os) E H :=
  sF_pure (v := .int k' a) kk hg hd (by simp [evalPure, hx, hs, ht, wrap_fits hf])
theorem sF_as {v v' : Value} {E' : Env} (h : v = v') (kk : sF P n ops K Q os ((d, v') :: E') H) : sF P n ops K Q os ((d, v) :: E') H := h ▸ kk
end
section
variable {P : Program} {n : Nat} {ops : Array Oper} {K : HProp} {Q : Env → HProp → Prop} {T : Tab} {d ty : Nat} {pos : String} {after : Array Edge} {g : Option (Nat × Bool)} {rest : List (Tg × Oper)} {E : Env} {H R : HProp}
/-- a reading, of what lies now -/
theorem sF_loadr [hTT : HasTab P T] {v : Value} {t b off El : Nat} {x : Operand} {c : List Value} {fr : Nat × Nat} {i : TI} [tk : Take blk b ((star (K) (H))) (.cells ⟨c⟩ El fr) R] (k : sF P n ops K Q rest ((d, v) :: E) H)
    (hx : ev E x = some (.pointer (some ⟨b, off, none⟩))) (hg : gdV ops g E = some true := by rfl) (hd : Nat.blt d n = true := by rfl) (ht : T t = some i := by rfl) (hv : ldV i c off = some v := by rfl) : sF P n ops K Q ((.r, ⟨some d, .load t x, ty, pos, after, g⟩) :: rest) E H :=
  sF_rd k hd fun _ he => .inl ⟨gd_eq he hg, fun w G hm => by
    simp only [execOp, he.ev hx, Instr.loadAt, Instr.sureAddr]
    refine run_value ?_
    simp only [Sem.run_bind, Sem.run_pure, Result.andThen_ok]
    exact loadVar_run hTT.ok ((hm.mono (star_mono tk.eqv (ent_refl _))).mono (star_assoc _ _ _)).blk ht hv⟩
end
end Go.Sl
namespace Go.Sl
open Go
variable [Amb]

/- ---------- what may be had twice ---------- -/
class Pers (A : HProp) : Prop where
  dup : ∀ O I, A.holds O I → A.holds Hp.emp I
instance {k : Nat} {a : Option Addr} {x : Nat × Nat × List Value} : Pers (ro k a x) := ⟨fun _ _ h => h⟩
instance {p : Prop} : Pers (pure p) := ⟨fun _ _ h => h⟩
instance {b : Nat} {o : Obj} : Pers (imm b o) := ⟨fun _ _ h => h⟩
instance : Pers emp := ⟨fun _ _ h => h⟩
instance {A B : HProp} [a : Pers A] [b : Pers B] : Pers ((star (A) (B))) :=
  ⟨fun _ I ⟨O₁, O₂, _, _, _, h₁, h₂⟩ => ⟨Hp.emp, Hp.emp, fun _ => .inl rfl, Hp.emp_le _, Hp.emp_le _, a.dup O₁ I h₁, b.dup O₂ I h₂⟩⟩
instance {α : Type} {A : α → HProp} [a : ∀ x, Pers (A x)] : Pers (ex A) := ⟨fun O I ⟨x, h⟩ => ⟨x, (a x).dup O I h⟩⟩
theorem pers_dup {A H : HProp} [a : Pers A] (h : (ent (H) (A))) : (ent (H) (((star (A) (H))))) :=
  fun O I hh => ⟨Hp.emp, O, fun _ => .inl rfl, Hp.emp_le _, Hp.le_refl _, a.dup O I (h O I hh), hh⟩

section
variable {P : Program} {n : Nat} {ops : Array Oper} {rest : List Oper} {E : Env} {H Rem : HProp} {Q : Post} {T : Tab} {pos : String} {after : Array Edge} {g : Option (Nat × Bool)} {ty : TypeId} {dst : Option Tmp}
/-- a call of a function that looks at something that stays -/
theorem sL_callR {κ α : Type} {p : κ → α → HProp} {b : κ} {x : α} {fx : Operand} {args : Array Operand} {ats : Array TypeId} {f : FuncId} {us cs vs : List Value} {φ : α → Prop} {R : α → Value → HProp → Prop} [lk : Look p b H x] [pr : Pers (p b x)] (k : ∀ v B, R x v B → sL P n ops rest (putE dst v E) ((star (B) (H))) Q)
    (hf : ev E fx = some (.func (.func f) ⟨us⟩ ⟨cs⟩)) (ha : evs E args.toList = some vs) (C : ∀ x, φ x → Con P f (us ++ vs ++ cs) (p b x) (R x)) (hφ : φ x := by first | trivial | omega | (simp only [List.length_append, List.length_cons, List.length_nil]; omega)) (hg : gdV ops g E = some true := by rfl) (hd : okD n dst = true := by rfl) :
    sL P n ops (⟨dst, .call ⟨.value fx, args, ats⟩, ty, pos, after, g⟩ :: rest) E H Q :=
  sL_call hg hd hf ha (C x hφ) (pers_dup lk.eqv) k
end
theorem Con.pre {P : Program} {f : FuncId} {args : List Value} {A A' : HProp} {R : Value → HProp → Prop} (h : Con P f args A' R) (e : (ent (A) (A'))) : Con P f args A R :=
  ⟨h.fn, fun w G hm => h.tr w G (hm.mono (star_mono e (ent_refl _)))⟩
theorem Con.post {P : Program} {f : FuncId} {args : List Value} {A : HProp} {R R' : Value → HProp → Prop} (h : Con P f args A R) (q : ∀ v B, R v B → R' v B) : Con P f args A R' :=
  ⟨h.fn, fun w G hm => (h.tr w G hm).mono fun _ _ ⟨v, B, h1, h2, h3⟩ => ⟨v, B, h1, q v B h2, h3⟩⟩

end Go.Sl
namespace Go.Sl
open Go
variable [Amb]
theorem getL_map {α : Type} (f : α → Value) (l : List α) (i : Nat) (h : i < l.length) : getL (l.map f) i = some (f l[i]) := by
  induction l generalizing i with
  | nil => simp at h
  | cons x l ih =>
    cases i with
    | zero => rfl
    | succ i => simpa [getL] using ih i (by simpa using h)
end Go.Sl
namespace Go.Sl
open Go
variable [Amb]

theorem setL_app {l r : List Value} {j : Nat} {v : Value} (sp : List Value) (h : setL l j v = some r) : setL (l ++ sp) j v = some (r ++ sp) := by
  induction l generalizing j r with
  | nil => cases h
  | cons x l ih =>
    cases j with
    | zero => simp only [setL] at h ⊢; cases h; rfl
    | succ j =>
      simp only [setL, List.cons_append] at h ⊢
      split at h
      · rename_i q hq
        cases h
        rw [ih hq]; rfl
      · cases h
theorem setL_inv {l r : List Value} {j : Nat} {v : Value} (h : setL l j v = some r) (hv : isCell v = true) (hl : l.all isCell = true) : r.length = l.length ∧ r.all isCell = true := by
  induction l generalizing j r with
  | nil => cases h
  | cons x l ih =>
    simp only [List.all_cons, Bool.and_eq_true] at hl
    cases j with
    | zero => simp only [setL] at h; cases h; simp [hv, hl.2]
    | succ j =>
      simp only [setL] at h
      split at h
      · rename_i q hq
        cases h
        obtain ⟨h1, h2⟩ := ih hq hl.2
        simp [h1, h2, hl.1]
      · cases h
theorem putC_app (sp : List Value) : ∀ (vs : List Value) {l r : List Value} {j : Nat}, putC l j vs = some r → putC (l ++ sp) j vs = some (r ++ sp) := by
  intro vs
  induction vs with
  | nil => intro l r j h; cases h; rfl
  | cons v vs ih =>
    intro l r j h
    simp only [putC] at h ⊢
    cases hv : isCell v <;> rw [hv] at h <;> simp only [cond_true, cond_false] at h ⊢
    · cases h
    · split at h
      · rename_i q hq
        rw [setL_app sp hq]
        exact ih h
      · cases h
theorem putC_inv : ∀ (vs : List Value) {l r : List Value} {j : Nat}, putC l j vs = some r → l.all isCell = true → r.length = l.length ∧ r.all isCell = true := by
  intro vs
  induction vs with
  | nil => intro l r j h hl; cases h; exact ⟨rfl, hl⟩
  | cons v vs ih =>
    intro l r j h hl
    simp only [putC] at h
    cases hv : isCell v <;> rw [hv] at h <;> simp only [cond_true, cond_false] at h
    · cases h
    · split at h
      · rename_i q hq
        obtain ⟨h1, h2⟩ := setL_inv hq hv hl
        obtain ⟨h3, h4⟩ := ih h h2
        exact ⟨by rw [h3, h1], h4⟩
      · cases h
theorem stV_app {i : TI} {c r : List Value} {off : Nat} {v : Value} (sp : List Value) (h : stV i c off v = some r) : stV i (c ++ sp) off v = some (r ++ sp) := by
  unfold stV at *
  split at h
  · rename_i vs hvs
    cases hl : lenIs vs i.size <;> rw [hl] at h <;> simp only [cond_true, cond_false] at h ⊢
    · cases h
    · exact putC_app sp vs h
  · cases h
theorem stV_inv {i : TI} {c r : List Value} {off : Nat} {v : Value} (h : stV i c off v = some r) (hl : c.all isCell = true) : r.length = c.length ∧ r.all isCell = true := by
  unfold stV at h
  split at h
  · rename_i vs hvs
    cases hl' : lenIs vs i.size <;> rw [hl'] at h <;> simp only [cond_true, cond_false] at h
    · cases h
    · exact putC_inv vs h hl
  · cases h
theorem stV_nil {i : TI} {off : Nat} {v : Value} {r : List Value} (hz : 0 < i.size) (h : stV i [] off v = some r) : False := by
  unfold stV at h
  split at h
  · rename_i vs hvs
    cases hl' : lenIs vs i.size <;> rw [hl'] at h <;> simp only [cond_true, cond_false] at h
    · cases h
    · have := lenIs_eq hl'
      cases vs with
      | nil => simp at this; omega
      | cons x vs =>
        simp only [putC] at h
        cases hv : isCell x <;> rw [hv] at h <;> simp only [cond_true, cond_false] at h
        · cases h
        · cases off <;> cases h
  · cases h

section
variable {P : Program} {T : Tab} {n : Nat} {ops : Array Oper} {rest : List Oper} {E : Env} {H R : HProp} {Q : Post} {pos : String} {after : Array Edge} {g : Option (Nat × Bool)} {ty : TypeId} {d : Nat} {dst : Option Tmp}

theorem idxA_run {st N El : Nat} {si ei : TI} (hT : TabOk P T) (hst : T st = some si) (hsk : si.k = .array N El) (hei : T El = some ei) {b off : Nat} {ik : IntKind} {i : Int} (h0 : 0 ≤ i) (h1 : i < N) (w : World) :
    (Instr.indexAt st (.pointer (some ⟨b, off, none⟩)) (.int ik i)).run P w = .ok (.pointer (some ⟨b, off + i.toNat * ei.size, none⟩)) w := by
  have hu := underlying_run (und_array (hT _ _ hst) hsk) w
  have hz := size_of (hT _ _ hei) w
  simp [Instr.indexAt, asIntOf, hu, hz, h0, h1, Instr.sureAddr, add_none]
/-- an element's address, of an array that lies in a block -/
theorem sL_idxA [hTT : HasTab P T] {st N El k eb : Nat} {ek : TK} {ez : List Value} {si : TI} {sx ix : Operand} {b off : Nat} {ik : IntKind} {i : Int}
    (kk : sL P n ops rest ((d, .pointer (some ⟨b, off + i.toNat * k, none⟩)) :: E) H Q)
    (hs : ev E sx = some (.pointer (some ⟨b, off, none⟩))) (hi : ev E ix = some (.int ik i)) (hst : T st = some si) (hsk : si.k = .array N El) (hei : T El = some ⟨ek, k, eb, ez⟩) (h0 : 0 ≤ i := by omega) (h1 : i < N := by omega)
    (hg : gdV ops g E = some true := by rfl) (hd : Nat.blt d n = true := by rfl) :
    sL P n ops (⟨some d, .indexAddr st sx ix, ty, pos, after, g⟩ :: rest) E H Q :=
  sL_op hg hd fun ac w G he hm => by
    refine ⟨_, w, H, .inl ?_, hm, kk⟩
    simp only [execOp, he.ev hs, he.ev hi]
    exact run_value (idxA_run hTT.ok hst hsk hei h0 h1 w)
theorem sF_idxA {K : HProp} {Q : Env → HProp → Prop} {rest : List (Tg × Oper)} [hTT : HasTab P T] {st N El k eb : Nat} {ek : TK} {ez : List Value} {si : TI} {sx ix : Operand} {b off : Nat} {ik : IntKind} {i : Int}
    (kk : sF P n ops K Q rest ((d, .pointer (some ⟨b, off + i.toNat * k, none⟩)) :: E) H)
    (hs : ev E sx = some (.pointer (some ⟨b, off, none⟩))) (hi : ev E ix = some (.int ik i)) (hst : T st = some si) (hsk : si.k = .array N El) (hei : T El = some ⟨ek, k, eb, ez⟩) (h0 : 0 ≤ i := by omega) (h1 : i < N := by omega)
    (hg : gdV ops g E = some true := by rfl) (hd : Nat.blt d n = true := by rfl) :
    sF P n ops K Q ((.v, ⟨some d, .indexAddr st sx ix, ty, pos, after, g⟩) :: rest) E H :=
  sF_val kk hd fun _ he => .inl ⟨gd_eq he hg, fun w _ _ => by
    simp only [execOp, he.ev hs, he.ev hi]
    exact run_value (idxA_run hTT.ok hst hsk hei h0 h1 w)⟩
theorem sF_idx {K : HProp} {Q : Env → HProp → Prop} {rest : List (Tg × Oper)} [hTT : HasTab P T] {st El k eb : Nat} {ek : TK} {ez : List Value} {si : TI} {sx ix : Operand} {b : Addr} {sn sc : Nat} {ik : IntKind} {i : Int}
    (kk : sF P n ops K Q rest ((d, elemP (some b) (i.toNat * k)) :: E) H)
    (hs : ev E sx = some (.slice (some b) sn sc)) (hi : ev E ix = some (.int ik i)) (hst : T st = some si) (hsk : si.k = .slice El) (hei : T El = some ⟨ek, k, eb, ez⟩) (h0 : 0 ≤ i := by omega) (h1 : i < sn := by omega)
    (hg : gdV ops g E = some true := by rfl) (hd : Nat.blt d n = true := by rfl) :
    sF P n ops K Q ((.v, ⟨some d, .indexAddr st sx ix, ty, pos, after, g⟩) :: rest) E H :=
  sF_val kk hd fun _ he => .inl ⟨gd_eq he hg, fun w _ _ => by
    simp only [execOp, he.ev hs, he.ev hi]
    exact run_value (idx_run hTT.ok hst hsk hei h0 h1 w)⟩
def okK : TK → Bool
  | .other => false
  | _ => true
/-- an element of an array that is a value -/
theorem sL_index [hTT : HasTab P T] {st N El k eb : Nat} {ek : TK} {ez : List Value} {si : TI} {sx ix : Operand} {cs : List Value} {v : Value} {ik : IntKind} {i : Int}
    (kk : sL P n ops rest ((d, v) :: E) H Q)
    (hs : ev E sx = some (.agg ⟨cs⟩)) (hi : ev E ix = some (.int ik i)) (hst : T st = some si) (hsk : si.k = .array N El) (hei : T El = some ⟨ek, k, eb, ez⟩) (hv : partV (i.toNat * k) k ek.agg cs = some v) (hk : Nat.blt 0 k = true := by rfl) (hko : okK ek = true := by rfl) (h0 : 0 ≤ i := by omega) (h1 : i < N := by omega)
    (hg : gdV ops g E = some true := by rfl) (hd : Nat.blt d n = true := by rfl) :
    sL P n ops (⟨some d, .index st sx ix, ty, pos, after, g⟩ :: rest) E H Q :=
  sL_op hg hd fun ac w G he hm => by
    refine ⟨v, w, H, .inl ?_, hm, kk⟩
    simp only [execOp, he.ev hs, he.ev hi]
    refine run_value ?_
    have hei' := hTT.ok _ _ hei
    have hno : ek ≠ .other := by intro h; rw [h] at hko; cases hko
    have hu := underlying_run (und_array (hTT.ok _ _ hst) hsk) w
    have hz := size_of hei' w
    obtain ⟨du, hdu⟩ := und_some hei' hno
    obtain ⟨jj, hjj, hjs, _⟩ := info_of hei'
    have hk' : 0 < k := Nat.le_of_ble_eq_true hk
    obtain ⟨k', rfl⟩ : ∃ k', k = k' + 1 := ⟨k - 1, by omega⟩
    have hfs : fsize P El = k' + 1 := by simp only [fsize, hdu, hjj, Option.map_some, Option.getD_some, hjs]
    have hp := part_run (P := P) hfs (tk_agg hei' hno).symm hv w
    simp [Instr.index, asIntOf, hu, hz, h0, h1, hp]

/-- into an element of a slice that is owned -/
theorem sL_storeO [hTT : HasTab P T] {t El k : Nat} {x y : Operand} {a : Option Addr} {j sn sc : Nat} {cs r : List Value} {i : TI} {v : Value} [tk : Take (own El k) a H (sn, sc, cs) R] (kk : sL P n ops rest (putE dst undef E) ((star (own El k a (sn, sc, r)) (R))) Q)
    (hx : ev E x = some (elemP a j)) (hy : ev E y = some v) (ht : T t = some i) (hv : stV i cs j v = some r) (hz : Nat.blt 0 i.size = true := by rfl) (hg : gdV ops g E = some true := by rfl) (hd : okD n dst = true := by rfl) :
    sL P n ops (⟨dst, .store t x y, ty, pos, after, g⟩ :: rest) E H Q :=
  sL_op hg hd fun ac w G he hm => by
    have hz' : 0 < i.size := Nat.le_of_ble_eq_true hz
    obtain ⟨h1, h2, h⟩ := own_cases ((hm.mono (star_mono tk.eqv (ent_refl _))).mono (star_assoc _ _ _))
    rcases h with ⟨rfl, rfl, _⟩ | ⟨b, cur, rfl, h3, h4, h5, h6, hmb⟩
    · have : cs = [] := List.eq_nil_of_length_eq_zero (by simpa using h1)
      subst this
      exact (stV_nil hz' hv).elim
    · obtain ⟨cl⟩ := cur
      have hsplit : cl = cs ++ cl.drop (sn * k) := by rw [← h6]; exact (List.take_append_drop _ _).symm
      have hst := stV_app (cl.drop (sn * k)) hv
      rw [← hsplit] at hst
      obtain ⟨w', hw1, hw2⟩ := storeVar_run hTT.ok (Nat.le_refl 0) hmb.blk ht hst
      obtain ⟨hr1, hr2⟩ := stV_inv hv h2
      refine ⟨undef, w', (star (own El k (some ⟨b, 0, none⟩) (sn, sc, r)) (R)), .inr ⟨?_, rfl⟩, ?_, kk⟩
      · simp only [execOp, he.ev hx, he.ev hy, Instr.storeAt, Instr.sureAddr, elemP, Option.map_some, add_none, Nat.zero_add, Sem.run_bind, Sem.run_pure, Result.andThen_ok, hw1]
      · refine ((hmb.set _ w' hw2).mono (star_mono (own_of_blk hr2 (by rw [hr1, h1]) h3 h4 ?_) (ent_refl _))).mono (star_assoc' _ _ _)
        have : cl.length = sc * k := by simpa using h5
        rw [hr1, ← List.length_append, ← hsplit]; exact this
end
end Go.Sl
namespace Go.Sl
open Go
variable [Amb]
section
variable {P : Program} {T : Tab} {n : Nat} {ops : Array Oper} {rest : List Oper} {E : Env} {H R R2 : HProp} {Q : Post} {pos : String} {after : Array Edge} {g : Option (Nat × Bool)} {ty : TypeId} {d : Nat} {dst : Option Tmp}
theorem own_none {El k n c : Nat} {cs : List Value} : (ent (own El k none (n, c, cs)) (pure (n = 0 ∧ c = 0 ∧ cs = []))) := by
  rintro O I ⟨h1, h3, h | ⟨b, off, h, _⟩⟩
  · obtain ⟨_, hn, hc⟩ := h
    simp only at hn hc h1
    subst hn hc
    exact ⟨rfl, rfl, List.eq_nil_of_length_eq_zero (by simpa using h1)⟩
  · cases h
/-- append of an owned slice's elements -/
theorem sL_appendO [hTT : HasTab P T] {st xt El El2 k eb : Nat} {ek : TK} {ez : List Value} {si xti : TI} {sx xx : Operand} {a a2 : Option Addr} {sn sc m mc mc' : Nat} {xs cs : List Value} [tk : Take (own El k) a H (sn, sc, xs) R] [tk2 : Take (own El2 k) a2 R (m, mc', cs) R2] (kk : ∀ a' c', sL P n ops rest (putE dst (.slice a' (sn + m) c') E) ((star (own El k a' (sn + m, c', xs ++ cs)) (((star (own El2 k a2 (m, mc', cs)) (R2)))))) Q) (hs : ev E sx = some (.slice a sn sc)) (hx : ev E xx = some (.slice a2 m mc)) (hst : T st = some si) (hsk : si.k = .slice El) (hei : T El = some ⟨ek, k, eb, ez⟩) (hg : gdV ops g E = some true := by rfl) (hd : okD n dst = true := by rfl) (hxt : T xt = some xti := by rfl) (hxk' : seqK xti.k = true := by rfl) (hzl : lenIs ez k = true := by rfl) (hby : Nat.ble eb 16384 = true := by rfl) (hbig : sn + m ≤ 4294967296 := by first | omega | (simp only [List.length_append]; omega)) :
    sL P n ops (⟨dst, .call ⟨.builtin .append, ⟨[sx, xx]⟩, ⟨[st, xt]⟩⟩, ty, pos, after, g⟩ :: rest) E H Q := by
  refine sL_append (R := R) (m := m) (news := cs) hg hd hs hx hst hsk hei hxt hxk' rfl (lenIs_eq hzl) hby (fun w G hm => ?_) hbig fun a' c' => sL_pre (kk a' c') (star_mono (ent_refl _) tk2.eqv)
  exact brings_own ((hm.mono (star_mono tk2.eqv (ent_refl _))).mono (star_assoc _ _ _)) mc
end
end Go.Sl
namespace Go.Sl
open Go
variable [Amb]
/- ---------- one assertion out of others, as it stands ---------- -/
class TakeA (A H : HProp) (R : outParam HProp) : Prop where
  eqv : (ent (H) (((star (A) (R)))))
instance (priority := 1100) takeAHead {A R : HProp} : TakeA A ((star (A) (R))) R := ⟨ent_refl _⟩
instance (priority := 1020) takeAAll {A : HProp} : TakeA A A emp := ⟨fun O _ h => ⟨O, Hp.emp, fun _ => .inr rfl, Hp.le_refl _, Hp.emp_le _, h, trivial⟩⟩
instance (priority := 1010) takeARight {A B H R : HProp} [h : TakeA A H R] : TakeA A ((star (B) (H))) ((star (B) (R))) :=
  ⟨ent_trans (star_mono (ent_refl _) h.eqv) (ent_trans (star_assoc' _ _ _) (ent_trans (star_mono (star_comm _ _) (ent_refl _)) (star_assoc _ _ _)))⟩
instance (priority := 1000) takeALeft {A B H R : HProp} [h : TakeA A H R] : TakeA A ((star (H) (B))) ((star (R) (B))) := ⟨ent_trans (star_mono h.eqv (ent_refl _)) (star_assoc _ _ _)⟩
theorem ent_atom {A H R K : HProp} [t : TakeA A H R] (h : (ent (R) (K))) : (ent (H) (((star (A) (K))))) := ent_trans t.eqv (star_mono (ent_refl _) h)
theorem ent_atomL {A H R : HProp} [t : TakeA A H R] : (ent (H) (A)) := ent_trans t.eqv (star_left _ _)
theorem ent_asc {A B C H : HProp} (h : (ent (H) (((star (A) (((star (B) (C))))))))) : (ent (H) (((star (((star (A) (B)))) (C))))) := ent_trans h (star_assoc' _ _ _)
theorem ent_purL {p : Prop} {H : HProp} (h : p) : (ent (H) (pure p)) := ent_trans (star_pure h) (star_left _ _)
/-- what stays may be handed out twice -/
theorem ent_pers {A H K : HProp} [Pers A] (h' : (ent (H) (A))) (h : (ent (H) (K))) : (ent (H) (((star (A) (K))))) := ent_trans (pers_dup h') (star_mono (ent_refl _) h)
end Go.Sl
namespace Go.Sl
open Go
variable [Amb]
theorem th_exit {N : Env → HProp → Prop} {Q : Post} {i : Nat} {E : Env} {H : HProp} (h : Q (.exit i) E H) : thenP N Q (.exit i) E H := h
theorem bl_exit {Q : Post} {i : Nat} {E : Env} {H : HProp} (h : Q .normal E H) : blockP i Q (.exit i) E H := by simpa [blockP] using h
theorem bl_normal {Q : Post} {i : Nat} {E : Env} {H : HProp} (h : Q .normal E H) : blockP i Q .normal E H := h
end Go.Sl
namespace Go.Sl
open Go
variable [Amb]

/- ---------- maps whose keys are strings ---------- -/
abbrev BStr := List UInt8
def sval (l : BStr) : Value := .string ⟨⟨l⟩⟩
theorem sval_inj {a b : BStr} (h : sval a = sval b) : a = b := by simpa [sval] using h
def entM (es : List MapEntry) : List (Value × Value) := es.map fun e => (e.key, e.val)
def modM (m : List (BStr × Value)) : List (Value × Value) := m.map fun p => (sval p.1, p.2)
structure MapOk (es : List MapEntry) (ck : Nat) (m : List (BStr × Value)) : Prop where
  perm : (entM es).Perm (modM m)
  keys : (m.map (·.1)).Nodup
  born : (es.map (·.born)).Nodup
  low : ∀ e ∈ es, e.born < ck
def mapH (r : Nat) (m : List (BStr × Value)) : HProp := ex fun es : List MapEntry => ex fun ck : Nat => (star (blk r (.map ⟨es⟩ ck)) (pure (MapOk es ck m)))

/-- what a key has -/
def getM (k : BStr) : List (BStr × Value) → Option Value
  | [] => none
  | (a, v) :: m => if a = k then some v else getM k m

theorem beq_str (a b : BStr) : ((⟨⟨a⟩⟩ : ByteArray) == ⟨⟨b⟩⟩) = decide (a = b) := by
  show ((⟨a⟩ : Array UInt8) == ⟨b⟩) = decide (a = b)
  rw [beq_decide]
  exact decide_eq_decide.2 ⟨fun h => by simpa using h, fun h => by rw [h]⟩
/-- is a value this key? -/
def isKey (k : BStr) : Value → Bool
  | .string b => decide (b.data.toList = k)
  | _ => false
theorem isKey_iff {k : BStr} {v : Value} : isKey k v = true ↔ v = sval k := by
  unfold isKey sval
  cases v <;> simp
  constructor
  · rintro rfl; simp
  · rintro rfl; rfl
theorem isKey_sval (k a : BStr) : isKey k (sval a) = decide (a = k) := rfl
/-- where a key is, in the entries -/
def posM (k : BStr) : List MapEntry → Nat → Option (Nat × Value)
  | [], _ => none
  | e :: es, i => bif isKey k e.key then some (i, e.val) else posM k es (i + 1)
theorem findNow_eq (k : BStr) (es : List MapEntry) (h : ∀ e ∈ es, ∃ a, e.key = sval a) : ∀ i, Instr.findNow .string (sval k) es i = some (posM k es i) := by
  induction es with
  | nil => intro i; rfl
  | cons e es ih =>
    intro i
    obtain ⟨a, ha⟩ := h e List.mem_cons_self
    have ih' := ih (fun x hx => h x (List.mem_cons_of_mem _ hx)) (i + 1)
    have hs : Instr.sameNow .string (sval k) e.key = some (decide (k = a)) := by rw [ha]; show some _ = _; rw [beq_str]
    have hk : isKey k e.key = decide (k = a) := by rw [ha, isKey_sval]; exact decide_eq_decide.2 ⟨Eq.symm, Eq.symm⟩
    simp only [Instr.findNow, hs, posM, hk]
    by_cases hka : k = a
    · simp [hka]
    · simp only [hka, decide_false, cond_false]
      exact ih'

theorem MapOk.str {es : List MapEntry} {ck : Nat} {m : List (BStr × Value)} (h : MapOk es ck m) : ∀ e ∈ es, ∃ a, e.key = sval a := by
  intro e he
  have : (e.key, e.val) ∈ modM m := h.perm.mem_iff.1 (List.mem_map.2 ⟨e, he, rfl⟩)
  obtain ⟨p, _, hp⟩ := List.mem_map.1 this
  exact ⟨p.1, (congrArg Prod.fst hp).symm⟩
theorem getM_iff {k : BStr} {v : Value} {m : List (BStr × Value)} (hn : (m.map (·.1)).Nodup) : getM k m = some v ↔ (k, v) ∈ m := by
  induction m with
  | nil => simp [getM]
  | cons p m ih =>
    obtain ⟨a, u⟩ := p
    simp only [List.map_cons, List.nodup_cons] at hn
    simp only [getM]
    by_cases ha : a = k
    · subst ha
      simp only [if_true, Option.some.injEq, List.mem_cons, Prod.mk.injEq, true_and]
      constructor
      · exact fun h => .inl h.symm
      · rintro (h | h)
        · exact h.symm
        · exact absurd (List.mem_map.2 ⟨_, h, rfl⟩) hn.1
    · simp only [ha, if_false, ih hn.2, List.mem_cons, Prod.mk.injEq]
      constructor
      · exact .inr
      · rintro (h | h)
        · exact absurd h.1.symm ha
        · exact h
theorem posM_none {k : BStr} {es : List MapEntry} : ∀ {i : Nat}, posM k es i = none ↔ ∀ e ∈ es, e.key ≠ sval k := by
  induction es with
  | nil => intro i; simp [posM]
  | cons e es ih =>
    intro i
    simp only [posM, List.mem_cons, forall_eq_or_imp]
    by_cases h : isKey k e.key = true
    · have := isKey_iff.1 h
      simp only [h, cond_true]
      simp [this]
    · have h' : isKey k e.key = false := by simpa using h
      simp only [h', cond_false, ih]
      exact ⟨fun h'' => ⟨fun x => h (isKey_iff.2 x), h''⟩, fun h'' => h''.2⟩
theorem posM_some {k : BStr} {v : Value} {es : List MapEntry} : ∀ {i j : Nat}, posM k es i = some (j, v) → ∃ l r e, es = l ++ e :: r ∧ j = i + l.length ∧ e.key = sval k ∧ e.val = v ∧ ∀ x ∈ l, x.key ≠ sval k := by
  induction es with
  | nil => intro i j h; cases h
  | cons e es ih =>
    intro i j h
    simp only [posM] at h
    by_cases hb : isKey k e.key = true
    · have hk := isKey_iff.1 hb
      simp only [hb, cond_true, Option.some.injEq, Prod.mk.injEq] at h
      exact ⟨[], es, e, rfl, by simp [h.1], hk, h.2, by simp⟩
    · have hb' : isKey k e.key = false := by simpa using hb
      have hk : ¬ e.key = sval k := fun x => hb (isKey_iff.2 x)
      simp only [hb', cond_false] at h
      obtain ⟨l, r, e', h1, h2, h3, h4, h5⟩ := ih h
      exact ⟨e :: l, r, e', by rw [h1]; rfl, by simp; omega, h3, h4, by
        intro x hx
        rcases List.mem_cons.1 hx with rfl | hx
        · exact hk
        · exact h5 x hx⟩
theorem MapOk.get {es : List MapEntry} {ck : Nat} {m : List (BStr × Value)} (h : MapOk es ck m) (k : BStr) : (posM k es 0).map (·.2) = getM k m := by
  cases hp : posM k es 0 with
  | none =>
    have h1 := posM_none.1 hp
    cases hg : getM k m with
    | none => rfl
    | some v =>
      have h2 := (getM_iff h.keys).1 hg
      have : (sval k, v) ∈ entM es := h.perm.mem_iff.2 (List.mem_map.2 ⟨_, h2, rfl⟩)
      obtain ⟨e, he, hee⟩ := List.mem_map.1 this
      exact absurd (congrArg Prod.fst hee) (h1 e he)
  | some jv =>
    obtain ⟨j, v⟩ := jv
    obtain ⟨l, r, e, rfl, _, h3, h4, _⟩ := posM_some hp
    have : (e.key, e.val) ∈ modM m := h.perm.mem_iff.1 (List.mem_map.2 ⟨e, by simp, rfl⟩)
    obtain ⟨p, hpm, hpe⟩ := List.mem_map.1 this
    have h5 : p.1 = k := sval_inj ((congrArg Prod.fst hpe).trans h3)
    have h6 : p.2 = v := (congrArg Prod.snd hpe).trans h4
    symm
    rw [Option.map_some, getM_iff h.keys]
    rw [← h5, ← h6]
    exact hpm
theorem MapOk.size {es : List MapEntry} {ck : Nat} {m : List (BStr × Value)} (h : MapOk es ck m) : es.length = m.length := by
  have := h.perm.length_eq
  simpa [entM, modM] using this

theorem checkKey_str {P : Program} {k : TypeId} (hk : P.underlying k = some .string) (b : Bool) (s : ByteArray) (w : World) : (Instr.checkKey b 10000 k (.string s)).run P w = .ok () w := by
  show (Instr.checkKey b (9999 + 1) k (.string s)).run P w = .ok () w
  unfold Instr.checkKey
  simp only [Sem.run_bind, underlying_run hk w, Result.andThen_ok]
  rfl
theorem findKey_run {P : Program} {kt : TypeId} (hk : P.underlying kt = some .string) {k : BStr} {es : List MapEntry} (h : ∀ e ∈ es, ∃ a, e.key = sval a) (w : World) : (Instr.findKey kt (sval k) es).run P w = .ok (posM k es 0) w := by
  simp only [Instr.findKey, Sem.run_bind, underlying_run hk w, Result.andThen_ok, findNow_eq k es h 0]
  rfl

section
variable {P : Program} {T : Tab} {n : Nat} {ops : Array Oper} {rest : List Oper} {E : Env} {H R R2 : HProp} {Q : Post} {pos : String} {after : Array Edge} {g : Option (Nat × Bool)} {ty : TypeId} {d : Nat} {dst : Option Tmp}

theorem map_open {w : World} {r : Nat} {m : List (BStr × Value)} {G : HProp} (hm : MW w ((star (mapH r m) (G)))) : ∃ es ck, MapOk es ck m ∧ MW w ((star (blk r (.map ⟨es⟩ ck)) (G))) := by
  obtain ⟨es, h⟩ := hm.ex
  obtain ⟨ck, h⟩ := h.ex
  have h2 : MW w ((star (pure (MapOk es ck m)) (((star (blk r (.map ⟨es⟩ ck)) (G)))))) := h.mono (ent_trans (star_mono (star_comm _ _) (ent_refl _)) (star_assoc _ _ _))
  obtain ⟨h3, h4⟩ := MW.pure h2
  exact ⟨es, ck, h3, h4⟩
theorem map_close {r : Nat} {es : List MapEntry} {ck : Nat} {m : List (BStr × Value)} {G : HProp} (h : MapOk es ck m) : (ent (((star (blk r (.map ⟨es⟩ ck)) (G)))) (((star (mapH r m) (G))))) :=
  star_mono (ent_ex es (ent_ex ck (ent_trans (star_pure h) (star_comm _ _)))) (ent_refl _)
theorem getObj_run {P : Program} {w : World} {r : Nat} {es : Array MapEntry} {ck : Nat} (h : w.heap[r]? = some (.map es ck)) : (getObj r).run P w = .ok (.map es ck) w := by
  simp [getObj, Sem.run, h]

theorem sL_makeMap {t : Nat} (kk : ∀ r, sL P n ops rest ((d, .map (some r)) :: E) ((star (mapH r []) (H))) Q) (hg : gdV ops g E = some true := by rfl) (hd : Nat.blt d n = true := by rfl) :
    sL P n ops (⟨some d, .makeMap t none, ty, pos, after, g⟩ :: rest) E H Q :=
  sL_op hg hd fun ac w G he hm => by
    refine ⟨_, _, _, .inl ?_, ((hm.push (.map #[] 0)).mono (map_close (m := []) (es := []) (ck := 0) ⟨List.Perm.refl _, List.nodup_nil, List.nodup_nil, by simp⟩)).mono (star_assoc' _ _ _), kk _⟩
    simp only [execOp]
    refine run_value ?_
    simp [Instr.makeMap, newObj, Sem.run]

/-- what a key has, or the zero value -/
def lookV (z : List Value) (agg : Bool) (o : Option Value) : Value := match o with
  | some v => v
  | none => bif agg then .agg ⟨z⟩ else z.headD undef
theorem lookup_run (hT : TabOk P T) {xt kt et : Nat} {xi ki ei : TI} {r : Nat} {k : BStr} {es : List MapEntry} {ck : Nat} {m : List (BStr × Value)} {w : World} (hx : T xt = some xi) (hxk : xi.k = .map kt et) (hk : T kt = some ki) (hkk : ki.k = .str) (he : T et = some ei) {zv : Value}
    (hz : ∀ w, (zeroValue et).run P w = .ok zv w) (hw : w.heap[r]? = some (.map ⟨es⟩ ck)) (hm : MapOk es ck m) (ok : Bool) :
    (Instr.lookup xt (.map (some r)) (sval k) ok).run P w = .ok (if ok then .tuple #[(getM k m).getD zv, .bool (getM k m).isSome] else (getM k m).getD zv) w := by
  have hu := underlying_run (und_map (hT _ _ hx) hxk) w
  have hks := und_str (hT _ _ hk) hkk
  have hf := findKey_run (P := P) hks (k := k) hm.str w
  have hg := hm.get k
  unfold sval at hf ⊢
  simp only [Instr.lookup, Sem.run_bind, hu, Result.andThen_ok, getObj_run hw, Sem.run_pure, checkKey_str hks, hf]
  cases hp : posM k es 0 with
  | none =>
    rw [hp] at hg
    simp only [Option.map_none] at hg
    simp only [Sem.run_bind, hz w, Result.andThen_ok, Sem.run_pure, ← hg, Option.getD_none, Option.isSome_none]
  | some jv =>
    obtain ⟨j, v⟩ := jv
    rw [hp] at hg
    simp only [Option.map_some] at hg
    simp only [Sem.run_bind, Sem.run_pure, Result.andThen_ok, ← hg, Option.getD_some, Option.isSome_some]

/- the model's deeds -/
def delM (k : BStr) (m : List (BStr × Value)) : List (BStr × Value) := m.filter fun p => !decide (p.1 = k)
def putM (k : BStr) (v : Value) (m : List (BStr × Value)) : List (BStr × Value) := (k, v) :: delM k m
def offK (k : BStr) (p : Value × Value) : Bool := !isKey k p.1
theorem modM_del (k : BStr) (m : List (BStr × Value)) : modM (delM k m) = (modM m).filter (offK k) := by
  induction m with
  | nil => rfl
  | cons p m ih =>
    simp only [delM, modM, List.map_cons, List.filter_cons, offK, isKey_sval] at ih ⊢
    split <;> simp_all
theorem del_keys {k : BStr} {m : List (BStr × Value)} (h : (m.map (·.1)).Nodup) : ((delM k m).map (·.1)).Nodup := by
  unfold delM
  exact List.Nodup.sublist (List.Sublist.map _ List.filter_sublist) h
theorem put_keys {k : BStr} {v : Value} {m : List (BStr × Value)} (h : (m.map (·.1)).Nodup) : ((putM k v m).map (·.1)).Nodup := by
  simp only [putM, List.map_cons, List.nodup_cons]
  refine ⟨fun hk => ?_, del_keys h⟩
  obtain ⟨p, hp, hpk⟩ := List.mem_map.1 hk
  have := (List.mem_filter.1 hp).2
  simp [hpk] at this
theorem filter_id {k : BStr} {l : List MapEntry} (h : ∀ x ∈ l, x.key ≠ sval k) : (entM l).filter (offK k) = entM l := by
  rw [List.filter_eq_self]
  intro p hp
  obtain ⟨e, he, rfl⟩ := List.mem_map.1 hp
  have : isKey k e.key = false := by
    cases hh : isKey k e.key with
    | false => rfl
    | true => exact absurd (isKey_iff.1 hh) (h e he)
  simp [offK, this]
theorem MapOk.keyN {es : List MapEntry} {ck : Nat} {m : List (BStr × Value)} (h : MapOk es ck m) : (es.map (·.key)).Nodup := by
  have h1 : (es.map (·.key)).Perm (m.map fun p => sval p.1) := by
    have := h.perm.map Prod.fst
    simpa [entM, modM, List.map_map, Function.comp_def] using this
  rw [h1.nodup_iff]
  have : (m.map fun p => sval p.1) = (m.map (·.1)).map sval := by simp [List.map_map, Function.comp_def]
  rw [this]
  exact List.Pairwise.map _ (fun a b hab hs => hab (sval_inj hs)) h.keys
theorem MapOk.around {es l r : List MapEntry} {e : MapEntry} {ck : Nat} {m : List (BStr × Value)} {k : BStr} (h : MapOk es ck m) (he : es = l ++ e :: r) (hk : e.key = sval k) :
    (∀ x ∈ l, x.key ≠ sval k) ∧ (∀ x ∈ r, x.key ≠ sval k) ∧ (entM (l ++ r)).Perm (modM (delM k m)) := by
  have hn := h.keyN
  rw [he, List.map_append, List.map_cons, List.nodup_append] at hn
  obtain ⟨h1, h2, h3⟩ := hn
  have h4 := List.nodup_cons.1 h2
  have hl : ∀ x ∈ l, x.key ≠ sval k := fun x hx hxk => h3 x.key (List.mem_map.2 ⟨x, hx, rfl⟩) e.key (by simp) (hxk.trans hk.symm)
  have hr : ∀ x ∈ r, x.key ≠ sval k := fun x hx hxk => h4.1 (List.mem_map.2 ⟨x, hx, hxk.trans hk.symm⟩)
  refine ⟨hl, hr, ?_⟩
  have hp := h.perm.filter (offK k)
  rw [← modM_del, he] at hp
  have : (entM (l ++ e :: r)).filter (offK k) = entM (l ++ r) := by
    have hek : offK k (e.key, e.val) = false := by rw [offK, hk]; simp [isKey_sval]
    simp only [entM, List.map_append, List.map_cons, List.filter_append, List.filter_cons, hek, Bool.false_eq_true, if_false]
    rw [show (l.map fun e => (e.key, e.val)).filter (offK k) = l.map (fun e => (e.key, e.val)) from filter_id hl, show (r.map fun e => (e.key, e.val)).filter (offK k) = r.map (fun e => (e.key, e.val)) from filter_id hr]
  rwa [this] at hp
theorem MapOk.put_old {es l r : List MapEntry} {e : MapEntry} {ck : Nat} {m : List (BStr × Value)} {k : BStr} (v : Value) (h : MapOk es ck m) (he : es = l ++ e :: r) (hk : e.key = sval k) : MapOk (l ++ { e with key := sval k, val := v } :: r) ck (putM k v m) := by
  obtain ⟨h1, h2, h3⟩ := h.around he hk
  subst he
  refine ⟨?_, put_keys h.keys, ?_, ?_⟩
  · show (entM (l ++ _ :: r)).Perm ((sval k, v) :: modM (delM k m))
    have : (entM (l ++ { e with key := sval k, val := v } :: r)).Perm ((sval k, v) :: entM (l ++ r)) := by
      simp only [entM, List.map_append, List.map_cons]
      exact List.perm_middle
    exact this.trans (h3.cons _)
  · simpa using h.born
  · intro x hx
    have hlow := h.low
    rcases List.mem_append.1 hx with hx | hx
    · exact hlow x (List.mem_append_left _ hx)
    · rcases List.mem_cons.1 hx with rfl | hx
      · exact hlow e (List.mem_append_right _ List.mem_cons_self)
      · exact hlow x (List.mem_append_right _ (List.mem_cons_of_mem _ hx))
theorem MapOk.off {es : List MapEntry} {ck : Nat} {m : List (BStr × Value)} {k : BStr} (h : MapOk es ck m) (hk : ∀ e ∈ es, e.key ≠ sval k) : (entM es).Perm (modM (delM k m)) := by
  have hp := h.perm.filter (offK k)
  rw [← modM_del, filter_id hk] at hp
  exact hp
theorem MapOk.put_new {es : List MapEntry} {ck : Nat} {m : List (BStr × Value)} {k : BStr} (v : Value) (h : MapOk es ck m) (hk : ∀ e ∈ es, e.key ≠ sval k) : MapOk (es ++ [{ key := sval k, val := v, born := ck }]) (ck + 1) (putM k v m) := by
  refine ⟨?_, put_keys h.keys, ?_, ?_⟩
  · show (entM (es ++ _)).Perm ((sval k, v) :: modM (delM k m))
    have : (entM (es ++ [{ key := sval k, val := v, born := ck }])).Perm ((sval k, v) :: entM es) := by
      simp only [entM, List.map_append, List.map_cons, List.map_nil]
      exact List.perm_append_singleton _ _
    exact this.trans ((h.off hk).cons _)
  · simp only [List.map_append, List.map_cons, List.map_nil]
    rw [List.nodup_append]
    refine ⟨h.born, by simp, ?_⟩
    intro a ha b hb
    obtain ⟨x, hx, rfl⟩ := List.mem_map.1 ha
    have := h.low x hx
    simp at hb
    omega
  · intro x hx
    rcases List.mem_append.1 hx with hx | hx
    · have := h.low x hx; omega
    · simp at hx; subst hx; simp
theorem MapOk.del_old {es l r : List MapEntry} {e : MapEntry} {ck : Nat} {m : List (BStr × Value)} {k : BStr} (h : MapOk es ck m) (he : es = l ++ e :: r) (hk : e.key = sval k) : MapOk (l ++ r) ck (delM k m) := by
  obtain ⟨h1, h2, h3⟩ := h.around he hk
  subst he
  refine ⟨h3, del_keys h.keys, ?_, fun x hx => ?_⟩
  · have := h.born
    exact List.Nodup.sublist (List.Sublist.map _ (List.Sublist.append_left (List.sublist_cons_self e r) l)) this
  · refine h.low x ?_
    rcases List.mem_append.1 hx with hx | hx
    · exact List.mem_append_left _ hx
    · exact List.mem_append_right _ (List.mem_cons_of_mem _ hx)
theorem MapOk.del_none {es : List MapEntry} {ck : Nat} {m : List (BStr × Value)} {k : BStr} (h : MapOk es ck m) (hk : ∀ e ∈ es, e.key ≠ sval k) : MapOk es ck (delM k m) :=
  ⟨h.off hk, del_keys h.keys, h.born, h.low⟩

theorem sameBits_str (s : ByteArray) : Instr.sameBits 10000 (.string s) (.string s) = true := by
  show Instr.sameBits (9999 + 1) (.string s) (.string s) = true
  obtain ⟨⟨l⟩⟩ := s
  show ((⟨⟨l⟩⟩ : ByteArray) == ⟨⟨l⟩⟩) = true
  rw [beq_str]; simp
theorem keyStays {P : Program} (k : BStr) (w : World) : (Instr.keyThatStays (sval k) (sval k)).run P w = .ok (sval k) w := by
  unfold Instr.keyThatStays sval
  rw [if_pos (sameBits_str _)]
  rfl
theorem setObj_run {P : Program} {w : World} {r : Nat} {es : Array MapEntry} {ck : Nat} (h : w.heap[r]? = some (.map es ck)) (o : Obj) : (setObj r o).run P w = .ok () { w with heap := w.heap.setIfInBounds r o } := by
  simp [setObj, Sem.run, h]
theorem set_heap {w : World} {r : Nat} {o₀ : Obj} (h : w.heap[r]? = some o₀) (o : Obj) : Upd w { w with heap := w.heap.setIfInBounds r o } r o := by
  have hlt : r < w.heap.size := by
    rcases Nat.lt_or_ge r w.heap.size with h' | h'
    · exact h'
    · rw [Array.getElem?_eq_none h'] at h; cases h
  refine ⟨fun j => ?_, rfl, rfl⟩
  by_cases hj : j = r
  · subst hj; simp [hlt]
  · simp only [hj, if_false]; exact Array.getElem?_setIfInBounds_ne (Ne.symm hj)
theorem modify_mid {α : Type} (l q : List α) (e : α) (f : α → α) : (l ++ e :: q).modify l.length f = l ++ f e :: q := by
  induction l with
  | nil => rfl
  | cons x l ih => simpa using ih
theorem erase_mid {α : Type} (l q : List α) (e : α) : (l ++ e :: q).eraseIdx l.length = l ++ q := by
  induction l with
  | nil => rfl
  | cons x l ih => simpa using ih
theorem mapUpdate_run (hT : TabOk P T) {xt kt et : Nat} {xi ki : TI} {r : Nat} {k : BStr} {v : Value} {es : List MapEntry} {ck : Nat} {m : List (BStr × Value)} {w : World} (hx : T xt = some xi) (hxk : xi.k = .map kt et) (hk : T kt = some ki) (hkk : ki.k = .str)
    (hw : w.heap[r]? = some (.map ⟨es⟩ ck)) (hm : MapOk es ck m) :
    ∃ w' es' ck', (Instr.mapUpdate xt (.map (some r)) (sval k) v).run P w = .ok () w' ∧ MapOk es' ck' (putM k v m) ∧ Upd w w' r (.map ⟨es'⟩ ck') := by
  have hu := underlying_run (und_map (hT _ _ hx) hxk) w
  have hks := und_str (hT _ _ hk) hkk
  have hf := findKey_run (P := P) hks (k := k) hm.str w
  have hck : (Instr.checkKey false 10000 kt (sval k)).run P w = .ok () w := checkKey_str hks _ _ w
  simp only [Instr.mapUpdate, Sem.run_bind, hu, Result.andThen_ok, getObj_run hw, hck, hf]
  cases hp : posM k es 0 with
  | none =>
    have hno := posM_none.1 hp
    have hpush : (⟨es⟩ : Array MapEntry).push { key := sval k, val := v, born := ck } = ⟨es ++ [{ key := sval k, val := v, born := ck }]⟩ := by simp
    exact ⟨_, _, _, by simp only [hpush]; exact setObj_run hw _, hm.put_new v hno, set_heap hw _⟩
  | some jv =>
    obtain ⟨j, u⟩ := jv
    obtain ⟨l, q, e, rfl, hj, h3, h4, h5⟩ := posM_some hp
    simp only [Nat.zero_add] at hj
    subst hj
    have hget : ((⟨l ++ e :: q⟩ : Array MapEntry)[l.length]?) = some e := by simp
    have hmod : (⟨l ++ e :: q⟩ : Array MapEntry).modify l.length (fun e => { e with key := sval k, val := v }) = ⟨l ++ { e with key := sval k, val := v } :: q⟩ := by
      apply Array.ext'
      rw [Array.toList_modify]
      exact modify_mid l q e _
    refine ⟨_, _, _, ?_, hm.put_old v rfl h3, set_heap hw _⟩
    simp only [hget, Option.map_some, Option.getD_some, h3, Sem.run_bind, keyStays, Result.andThen_ok, hmod]
    exact setObj_run hw _
theorem delete_run (hT : TabOk P T) {xt kt et dt ty : Nat} {xi ki : TI} {r : Nat} {k : BStr} {es : List MapEntry} {ck : Nat} {m : List (BStr × Value)} {w : World} (hx : T xt = some xi) (hxk : xi.k = .map kt et) (hk : T kt = some ki) (hkk : ki.k = .str)
    (hw : w.heap[r]? = some (.map ⟨es⟩ ck)) (hm : MapOk es ck m) :
    ∃ w' es', (Builtin.delete_ #[xt, dt] ty #[.map (some r), sval k]).run P w = .ok (.tuple #[]) w' ∧ MapOk es' ck (delM k m) ∧ Upd w w' r (.map ⟨es'⟩ ck) := by
  have hu := underlying_run (und_map (hT _ _ hx) hxk) w
  have hks := und_str (hT _ _ hk) hkk
  have hf := findKey_run (P := P) hks (k := k) hm.str w
  have hck : ∀ b, (Instr.checkKey b 10000 kt (sval k)).run P w = .ok () w := fun b => checkKey_str hks _ _ w
  have e0 : (#[xt, dt] : Array TypeId)[0]? = some xt := rfl
  have e1 : (#[.map (some r), sval k] : Array Value)[0]? = some (.map (some r)) := rfl
  have e2 : (#[.map (some r), sval k] : Array Value)[1]? = some (sval k) := rfl
  simp only [Builtin.delete_, e0, e1, e2, Sem.run_bind, hu, Result.andThen_ok, getObj_run hw, hck, hf]
  cases hp : posM k es 0 with
  | none =>
    have hno := posM_none.1 hp
    refine ⟨_, _, ?_, hm.del_none hno, set_heap hw _⟩
    simp only [Sem.run_bind, setObj_run hw, Result.andThen_ok]
    rfl
  | some jv =>
    obtain ⟨j, u⟩ := jv
    obtain ⟨l, q, e, rfl, hj, h3, h4, h5⟩ := posM_some hp
    simp only [Nat.zero_add] at hj
    subst hj
    have her : (⟨l ++ e :: q⟩ : Array MapEntry).eraseIdxIfInBounds l.length = ⟨l ++ q⟩ := by
      apply Array.ext'
      simp [Array.eraseIdxIfInBounds, erase_mid]
    refine ⟨_, _, ?_, hm.del_old rfl h3, set_heap hw _⟩
    simp only [her, Sem.run_bind, setObj_run hw, Result.andThen_ok]
    rfl

theorem zero_one {P : Program} {t : Nat} {i : TI} (h : tiOf P t = some i) (ha : aggT P t = false) : ∃ z, (∀ w, (zeroValue t).run P w = .ok z w) ∧ i.zero = [z] := by
  obtain ⟨j, z, hj, hz, hzo, _⟩ := tiOf_info h
  refine ⟨z, fun w => by simp [zeroValue, typeInfo, program, hj, hz, Sem.run], ?_⟩
  cases z <;> simp only [zeroOk, ha, Bool.false_eq_true, if_false] at hzo <;> first | exact (Option.some.inj hzo).symm | cases hzo
theorem sL_lookup [hTT : HasTab P T] {xt kt et : Nat} {xi ki : TI} {ek : TK} {es eb : Nat} {z : Value} {ez : List Value} {r : Nat} {k : BStr} {m : List (BStr × Value)} {mx kx : Operand} {ok : Bool} [tk : Take mapH r H m R]
    (kk : sL P n ops rest (putE dst (if ok then .tuple ⟨[(getM k m).getD z, .bool (getM k m).isSome]⟩ else (getM k m).getD z) E) H Q)
    (hmx : ev E mx = some (.map (some r))) (hkx : ev E kx = some (sval k)) (hx : T xt = some xi := by rfl) (hxk : xi.k = .map kt et := by rfl) (hk : T kt = some ki := by rfl) (hkk : ki.k = .str := by rfl) (he : T et = some ⟨ek, es, eb, ez⟩ := by rfl) (hz : (bif ek.agg then Value.agg ⟨ez⟩ else ez.headD undef) = z := by rfl) (hno : okK ek = true := by rfl)
    (hg : gdV ops g E = some true := by rfl) (hd : okD n dst = true := by rfl) : sL P n ops (⟨dst, .lookup xt mx kx ok, ty, pos, after, g⟩ :: rest) E H Q :=
  sL_op hg hd fun ac w G hE hm => by
    have hm' := (hm.mono (star_mono tk.eqv (ent_refl _))).mono (star_assoc _ _ _)
    obtain ⟨es', ck, hok, hm2⟩ := map_open hm'
    have hei := hTT.ok _ _ he
    have hnk : ek ≠ .other := by intro h; rw [h] at hno; cases hno
    have hag := tk_agg hei hnk
    have hzv : ∀ w, (zeroValue et).run P w = .ok z w := by
      rw [← hz]
      cases ha : ek.agg
      · obtain ⟨zv, h1, h2⟩ := zero_one hei (by rw [← hag, ha])
        simp only at h2
        rw [h2]
        exact h1
      · obtain ⟨zv, h1, _, h2⟩ := zero_of hei
        rw [h2 (by rw [← hag, ha])] at h1
        exact h1
    refine ⟨_, w, H, .inl ?_, hm, kk⟩
    simp only [execOp, hE.ev hmx, hE.ev hkx]
    refine run_value ?_
    exact lookup_run hTT.ok hx hxk hk hkk he hzv hm2.blk hok ok
theorem sL_mapUpdate [hTT : HasTab P T] {xt kt et : Nat} {xi ki : TI} {r : Nat} {k : BStr} {v : Value} {m : List (BStr × Value)} {mx kx vx : Operand} [tk : Take mapH r H m R] (kk : sL P n ops rest (putE dst undef E) ((star (mapH r (putM k v m)) (R))) Q)
    (hmx : ev E mx = some (.map (some r))) (hkx : ev E kx = some (sval k)) (hvx : ev E vx = some v) (hx : T xt = some xi := by rfl) (hxk : xi.k = .map kt et := by rfl) (hk : T kt = some ki := by rfl) (hkk : ki.k = .str := by rfl)
    (hg : gdV ops g E = some true := by rfl) (hd : okD n dst = true := by rfl) : sL P n ops (⟨dst, .mapUpdate xt mx kx vx, ty, pos, after, g⟩ :: rest) E H Q :=
  sL_op hg hd fun ac w G hE hm => by
    have hm' := (hm.mono (star_mono tk.eqv (ent_refl _))).mono (star_assoc _ _ _)
    obtain ⟨es, ck, hok, hm2⟩ := map_open hm'
    obtain ⟨w', es', ck', h1, h2, h3⟩ := mapUpdate_run hTT.ok hx hxk hk hkk (v := v) hm2.blk hok
    refine ⟨undef, w', _, .inr ⟨?_, rfl⟩, ((hm2.set _ w' h3).mono (map_close h2)).mono (star_assoc' _ _ _), kk⟩
    simp only [execOp, hE.ev hmx, hE.ev hkx, hE.ev hvx, Sem.run_bind, h1, Result.andThen_ok]
    rfl
end
end Go.Sl
namespace Go.Sl
open Go
variable [Amb]
section
variable {P : Program} {T : Tab} {n : Nat} {ops : Array Oper} {rest : List Oper} {E : Env} {H R R2 : HProp} {Q : Post} {pos : String} {after : Array Edge} {g : Option (Nat × Bool)} {ty : TypeId} {d : Nat} {dst : Option Tmp}

theorem sL_delete [hTT : HasTab P T] {xt dt kt et : Nat} {xi ki : TI} {r : Nat} {k : BStr} {m : List (BStr × Value)} {mx kx : Operand} [tk : Take mapH r H m R] (kk : sL P n ops rest (putE dst (.tuple ⟨[]⟩) E) ((star (mapH r (delM k m)) (R))) Q)
    (hmx : ev E mx = some (.map (some r))) (hkx : ev E kx = some (sval k)) (hx : T xt = some xi := by rfl) (hxk : xi.k = .map kt et := by rfl) (hk : T kt = some ki := by rfl) (hkk : ki.k = .str := by rfl)
    (hg : gdV ops g E = some true := by rfl) (hd : okD n dst = true := by rfl) : sL P n ops (⟨dst, .call ⟨.builtin .delete, ⟨[mx, kx]⟩, ⟨[xt, dt]⟩⟩, ty, pos, after, g⟩ :: rest) E H Q :=
  sL_op hg hd fun ac w G hE hm => by
    have hm' := (hm.mono (star_mono tk.eqv (ent_refl _))).mono (star_assoc _ _ _)
    obtain ⟨es, ck, hok, hm2⟩ := map_open hm'
    obtain ⟨w', es', h1, h2, h3⟩ := delete_run hTT.ok (dt := dt) (ty := ty) hx hxk hk hkk (k := k) hm2.blk hok
    refine ⟨.tuple ⟨[]⟩, w', _, .inl ?_, ((hm2.set _ w' h3).mono (map_close h2)).mono (star_assoc' _ _ _), kk⟩
    have ha : Array.map ac.eval ⟨[mx, kx]⟩ = ⟨[.map (some r), sval k]⟩ := by simp [hE.ev hmx, hE.ev hkx]
    simp only [execOp, resolve, Sem.run_bind, Sem.run_pure, Result.andThen_ok, invoke, builtin, ha]
    have h1' : (Builtin.delete_ ⟨[xt, dt]⟩ ty ⟨[.map (some r), sval k]⟩).run P w = .ok (.tuple ⟨[]⟩) w' := h1
    simp only [h1', Result.andThen_ok, Sem.run_pure]
theorem lenM_run (hT : TabOk P T) {xt kt et ty : Nat} {xi : TI} {r : Nat} {m : List (BStr × Value)} {w : World} {es : List MapEntry} {ck : Nat} (hx : T xt = some xi) (hxk : xi.k = .map kt et) (hw : w.heap[r]? = some (.map ⟨es⟩ ck)) (hm : MapOk es ck m) :
    (Builtin.len_ ⟨[xt]⟩ ty ⟨[.map (some r)]⟩).run P w = .ok (.int .i64 (m.length : Int)) w := by
  have hu := underlying_run (und_map (hT _ _ hx) hxk) w
  have e0 : (⟨[xt]⟩ : Array TypeId)[0]? = some xt := rfl
  have e1 : (⟨[.map (some r)]⟩ : Array Value)[0]? = some (.map (some r)) := rfl
  simp only [Builtin.len_, e0, e1, Sem.run_bind, hu, Result.andThen_ok, getObj_run hw]
  rw [← hm.size]
  rfl
theorem lenM_exec {ac : Act} {xt ty : Nat} {mx : Operand} {v v' : Value} {w : World} (hE : ac.eval mx = v) (h : (Builtin.len_ ⟨[xt]⟩ ty ⟨[v]⟩).run P w = .ok v' w) :
    (execOp ac.eval ⟨dst, .call ⟨.builtin .len, ⟨[mx]⟩, ⟨[xt]⟩⟩, ty, pos, after, g⟩).run P w = .ok (.value v') w := by
  have ha : Array.map ac.eval ⟨[mx]⟩ = ⟨[v]⟩ := by simp [hE]
  simp only [execOp, resolve, Sem.run_bind, Sem.run_pure, Result.andThen_ok, invoke, builtin, ha, h]
theorem sL_lenM [hTT : HasTab P T] {xt kt et : Nat} {xi : TI} {r : Nat} {m : List (BStr × Value)} {mx : Operand} [tk : Take mapH r H m R] (kk : sL P n ops rest (putE dst (.int .i64 (m.length : Int)) E) H Q)
    (hmx : ev E mx = some (.map (some r))) (hx : T xt = some xi := by rfl) (hxk : xi.k = .map kt et := by rfl)
    (hg : gdV ops g E = some true := by rfl) (hd : okD n dst = true := by rfl) : sL P n ops (⟨dst, .call ⟨.builtin .len, ⟨[mx]⟩, ⟨[xt]⟩⟩, ty, pos, after, g⟩ :: rest) E H Q :=
  sL_op hg hd fun ac w G hE hm => by
    obtain ⟨es, ck, hok, hm2⟩ := map_open ((hm.mono (star_mono tk.eqv (ent_refl _))).mono (star_assoc _ _ _))
    exact ⟨_, w, H, .inl (lenM_exec (hE.ev hmx) (lenM_run hTT.ok hx hxk hm2.blk hok)), hm, kk⟩
/-- a key looked up, as a value -/
theorem sF_lookup {K : HProp} {Q : Env → HProp → Prop} {rest : List (Tg × Oper)} [hTT : HasTab P T] {xt kt et : Nat} {xi ki : TI} {ek : TK} {es eb : Nat} {z : Value} {ez : List Value} {r : Nat} {k : BStr} {m : List (BStr × Value)} {mx kx : Operand} {ok : Bool} [tk : Take mapH r K m R]
    (kk : sF P n ops K Q rest ((d, (if ok then .tuple ⟨[(getM k m).getD z, .bool (getM k m).isSome]⟩ else (getM k m).getD z)) :: E) H)
    (hmx : ev E mx = some (.map (some r))) (hkx : ev E kx = some (sval k)) (hx : T xt = some xi := by rfl) (hxk : xi.k = .map kt et := by rfl) (hk : T kt = some ki := by rfl) (hkk : ki.k = .str := by rfl) (he : T et = some ⟨ek, es, eb, ez⟩ := by rfl) (hz : (bif ek.agg then Value.agg ⟨ez⟩ else ez.headD undef) = z := by rfl) (hno : okK ek = true := by rfl)
    (hg : gdV ops g E = some true := by rfl) (hd : Nat.blt d n = true := by rfl) : sF P n ops K Q ((.v, ⟨some d, .lookup xt mx kx ok, ty, pos, after, g⟩) :: rest) E H :=
  sF_val kk hd fun _ hE => .inl ⟨gd_eq hE hg, fun w G hm => by
    obtain ⟨es', ck, hok, hm2⟩ := map_open ((hm.mono (star_mono tk.eqv (ent_refl _))).mono (star_assoc _ _ _))
    have hei := hTT.ok _ _ he
    have hnk : ek ≠ .other := by intro h; rw [h] at hno; cases hno
    have hag := tk_agg hei hnk
    have hzv : ∀ w, (zeroValue et).run P w = .ok z w := by
      rw [← hz]
      cases ha : ek.agg
      · obtain ⟨zv, h1, h2⟩ := zero_one hei (by rw [← hag, ha])
        simp only at h2
        rw [h2]
        exact h1
      · obtain ⟨zv, h1, _, h2⟩ := zero_of hei
        rw [h2 (by rw [← hag, ha])] at h1
        exact h1
    simp only [execOp, hE.ev hmx, hE.ev hkx]
    exact run_value (lookup_run hTT.ok hx hxk hk hkk he hzv hm2.blk hok ok)⟩

theorem sL_lookup1 [hTT : HasTab P T] {xt kt et : Nat} {xi ki : TI} {ek : TK} {es eb : Nat} {z : Value} {ez : List Value} {r : Nat} {k : BStr} {m : List (BStr × Value)} {mx kx : Operand} [tk : Take mapH r H m R]
    (kk : sL P n ops rest (putE dst ((getM k m).getD z) E) H Q)
    (hmx : ev E mx = some (.map (some r))) (hkx : ev E kx = some (sval k)) (hx : T xt = some xi := by rfl) (hxk : xi.k = .map kt et := by rfl) (hk : T kt = some ki := by rfl) (hkk : ki.k = .str := by rfl) (he : T et = some ⟨ek, es, eb, ez⟩ := by rfl) (hz : (bif ek.agg then Value.agg ⟨ez⟩ else ez.headD undef) = z := by rfl) (hno : okK ek = true := by rfl)
    (hg : gdV ops g E = some true := by rfl) (hd : okD n dst = true := by rfl) : sL P n ops (⟨dst, .lookup xt mx kx false, ty, pos, after, g⟩ :: rest) E H Q :=
  sL_lookup (ok := false) kk hmx hkx hx hxk hk hkk he hz hno hg hd
theorem sL_lookup2 [hTT : HasTab P T] {xt kt et : Nat} {xi ki : TI} {ek : TK} {es eb : Nat} {z : Value} {ez : List Value} {r : Nat} {k : BStr} {m : List (BStr × Value)} {mx kx : Operand} [tk : Take mapH r H m R]
    (kk : sL P n ops rest (putE dst (.tuple ⟨[(getM k m).getD z, .bool (getM k m).isSome]⟩) E) H Q)
    (hmx : ev E mx = some (.map (some r))) (hkx : ev E kx = some (sval k)) (hx : T xt = some xi := by rfl) (hxk : xi.k = .map kt et := by rfl) (hk : T kt = some ki := by rfl) (hkk : ki.k = .str := by rfl) (he : T et = some ⟨ek, es, eb, ez⟩ := by rfl) (hz : (bif ek.agg then Value.agg ⟨ez⟩ else ez.headD undef) = z := by rfl) (hno : okK ek = true := by rfl)
    (hg : gdV ops g E = some true := by rfl) (hd : okD n dst = true := by rfl) : sL P n ops (⟨dst, .lookup xt mx kx true, ty, pos, after, g⟩ :: rest) E H Q :=
  sL_lookup (ok := true) kk hmx hkx hx hxk hk hkk he hz hno hg hd
theorem sF_lookup1 {K : HProp} {Q : Env → HProp → Prop} {rest : List (Tg × Oper)} [hTT : HasTab P T] {xt kt et : Nat} {xi ki : TI} {ek : TK} {es eb : Nat} {z : Value} {ez : List Value} {r : Nat} {k : BStr} {m : List (BStr × Value)} {mx kx : Operand} [tk : Take mapH r K m R]
    (kk : sF P n ops K Q rest ((d, ((getM k m).getD z)) :: E) H)
    (hmx : ev E mx = some (.map (some r))) (hkx : ev E kx = some (sval k)) (hx : T xt = some xi := by rfl) (hxk : xi.k = .map kt et := by rfl) (hk : T kt = some ki := by rfl) (hkk : ki.k = .str := by rfl) (he : T et = some ⟨ek, es, eb, ez⟩ := by rfl) (hz : (bif ek.agg then Value.agg ⟨ez⟩ else ez.headD undef) = z := by rfl) (hno : okK ek = true := by rfl)
    (hg : gdV ops g E = some true := by rfl) (hd : Nat.blt d n = true := by rfl) : sF P n ops K Q ((.v, ⟨some d, .lookup xt mx kx false, ty, pos, after, g⟩) :: rest) E H :=
  sF_lookup (ok := false) kk hmx hkx hx hxk hk hkk he hz hno hg hd
theorem sF_lookup2 {K : HProp} {Q : Env → HProp → Prop} {rest : List (Tg × Oper)} [hTT : HasTab P T] {xt kt et : Nat} {xi ki : TI} {ek : TK} {es eb : Nat} {z : Value} {ez : List Value} {r : Nat} {k : BStr} {m : List (BStr × Value)} {mx kx : Operand} [tk : Take mapH r K m R]
    (kk : sF P n ops K Q rest ((d, (.tuple ⟨[(getM k m).getD z, .bool (getM k m).isSome]⟩)) :: E) H)
    (hmx : ev E mx = some (.map (some r))) (hkx : ev E kx = some (sval k)) (hx : T xt = some xi := by rfl) (hxk : xi.k = .map kt et := by rfl) (hk : T kt = some ki := by rfl) (hkk : ki.k = .str := by rfl) (he : T et = some ⟨ek, es, eb, ez⟩ := by rfl) (hz : (bif ek.agg then Value.agg ⟨ez⟩ else ez.headD undef) = z := by rfl) (hno : okK ek = true := by rfl)
    (hg : gdV ops g E = some true := by rfl) (hd : Nat.blt d n = true := by rfl) : sF P n ops K Q ((.v, ⟨some d, .lookup xt mx kx true, ty, pos, after, g⟩) :: rest) E H :=
  sF_lookup (ok := true) kk hmx hkx hx hxk hk hkk he hz hno hg hd

/- ---------- ranges over maps ---------- -/
structure ItOk (es : List MapEntry) (ck : Nat) (m : List (BStr × Value)) (seen : List Nat) (left : List (BStr × Value)) (cur : Option (BStr × Value)) : Prop where
  ok : MapOk es ck m
  left : (entM (es.filter fun e => !seen.elem e.born)).Perm (modM left)
  cur : ∀ k v, cur = some (k, v) → ∃ b e, seen.getLast? = some b ∧ e ∈ es ∧ e.born = b ∧ e.key = sval k ∧ e.val = v
/-- an iterator over a map that nobody changes meanwhile: what is left, and what came last -/
def itH (q : Nat) (x : Nat × List (BStr × Value) × List (BStr × Value) × Option (BStr × Value)) : HProp :=
  ex fun es : List MapEntry => ex fun ck : Nat => ex fun seen : List Nat => (star (blk q (.mapIter (some x.1) ck ⟨seen⟩ ck)) (((star (blk x.1 (.map ⟨es⟩ ck)) (pure (ItOk es ck x.2.1 seen x.2.2.1 x.2.2.2))))))
theorem it_open {w : World} {q r : Nat} {m left : List (BStr × Value)} {cur : Option (BStr × Value)} {G : HProp} (hm : MW w ((star (itH q (r, m, left, cur)) (G)))) :
    ∃ es ck seen, ItOk es ck m seen left cur ∧ MW w ((star (blk q (.mapIter (some r) ck ⟨seen⟩ ck)) (((star (blk r (.map ⟨es⟩ ck)) (G)))))) := by
  obtain ⟨es, h⟩ := hm.ex
  obtain ⟨ck, h⟩ := h.ex
  obtain ⟨seen, h⟩ := h.ex
  have h2 : MW w ((star (pure (ItOk es ck m seen left cur)) (((star (blk q (.mapIter (some r) ck ⟨seen⟩ ck)) (((star (blk r (.map ⟨es⟩ ck)) (G))))))))) := h.mono (by
    refine ent_trans (star_mono (ent_trans (star_mono (ent_refl _) (star_comm _ _)) (star_assoc' _ _ _)) (ent_refl _)) ?_
    refine ent_trans (star_mono (star_mono (star_comm _ _) (ent_refl _)) (ent_refl _)) ?_
    refine ent_trans (star_assoc _ _ _) ?_
    refine ent_trans (star_assoc _ _ _) (star_mono (ent_refl _) (ent_refl _)))
  obtain ⟨h3, h4⟩ := MW.pure h2
  exact ⟨es, ck, seen, h3, h4⟩
theorem it_close {q r : Nat} {m left : List (BStr × Value)} {cur : Option (BStr × Value)} {es : List MapEntry} {ck : Nat} {seen : List Nat} {G : HProp} (h : ItOk es ck m seen left cur) :
    (ent (((star (blk q (.mapIter (some r) ck ⟨seen⟩ ck)) (((star (blk r (.map ⟨es⟩ ck)) (G))))))) (((star (itH q (r, m, left, cur)) (G))))) := by
  refine ent_trans (star_assoc' _ _ _) (star_mono ?_ (ent_refl _))
  exact ent_ex es (ent_ex ck (ent_ex seen (star_mono (ent_refl _) (ent_trans (star_pure h) (star_comm _ _)))))
/-- the iterator is let go -/
theorem it_end {q r : Nat} {m left : List (BStr × Value)} {cur : Option (BStr × Value)} : (ent (itH q (r, m, left, cur)) (mapH r m)) := by
  rintro O I ⟨es, ck, seen, O₁, O₂, d, l₁, l₂, _, O₃, O₄, d', l₃, l₄, h, hp⟩
  exact ⟨es, ck, O₃, O₄, d', Hp.le_trans l₃ l₂, Hp.le_trans l₄ l₂, h, hp.ok⟩

theorem sL_range [hTT : HasTab P T] {xt kt et : Nat} {xi : TI} {r : Nat} {m : List (BStr × Value)} {mx : Operand} [tk : Take mapH r H m R] (kk : ∀ q, sL P n ops rest ((d, .pointer (some ⟨q, 0, none⟩)) :: E) ((star (itH q (r, m, m, none)) (R))) Q)
    (hmx : ev E mx = some (.map (some r))) (hx : T xt = some xi := by rfl) (hxk : xi.k = .map kt et := by rfl)
    (hg : gdV ops g E = some true := by rfl) (hd : Nat.blt d n = true := by rfl) : sL P n ops (⟨some d, .range xt mx, ty, pos, after, g⟩ :: rest) E H Q :=
  sL_op hg hd fun ac w G hE hm => by
    obtain ⟨es, ck, hok, hm2⟩ := map_open ((hm.mono (star_mono tk.eqv (ent_refl _))).mono (star_assoc _ _ _))
    have hu := underlying_run (und_map (hTT.ok _ _ hx) hxk) w
    have hi : ItOk es ck m [] m none := ⟨hok, by
      have : es.filter (fun e => !([] : List Nat).elem e.born) = es := by rw [List.filter_eq_self]; intro e _; rfl
      rw [this]; exact hok.perm, fun _ _ h => by cases h⟩
    refine ⟨_, _, _, .inl ?_, ((hm2.push (.mapIter (some r) ck #[] ck)).mono (it_close hi)).mono (star_assoc' _ _ _), kk _⟩
    simp only [execOp, hE.ev hmx]
    refine run_value ?_
    simp only [Instr.range, Sem.run_bind, hu, Result.andThen_ok, getObj_run hm2.blk, Sem.run_pure]
    simp [newObj, Sem.run]

theorem ItOk.over {es : List MapEntry} {ck : Nat} {m : List (BStr × Value)} {seen : List Nat} {left : List (BStr × Value)} {cur : Option (BStr × Value)} (h : ItOk es ck m seen left cur) (he : es.filter (fun e => !seen.elem e.born) = []) : left = [] := by
  have := h.left.length_eq
  rw [he] at this
  simp only [entM, modM, List.map_nil, List.length_nil, List.length_map] at this
  exact List.eq_nil_of_length_eq_zero this.symm
theorem ItOk.step {es : List MapEntry} {ck : Nat} {m : List (BStr × Value)} {seen : List Nat} {left : List (BStr × Value)} {cur : Option (BStr × Value)} (h : ItOk es ck m seen left cur) {e : MapEntry} (he : e ∈ es.filter fun e => !seen.elem e.born) :
    ∃ k left', e.key = sval k ∧ left.Perm ((k, e.val) :: left') ∧ ItOk es ck m (seen ++ [e.born]) left' (some (k, e.val)) := by
  obtain ⟨hes, hse⟩ := List.mem_filter.1 he
  obtain ⟨k, hk⟩ := h.ok.str e hes
  have hmem : (sval k, e.val) ∈ modM left := h.left.mem_iff.1 (List.mem_map.2 ⟨e, he, by rw [hk]⟩)
  obtain ⟨p, hp, hpe⟩ := List.mem_map.1 hmem
  obtain ⟨l1, l2, rfl⟩ := List.append_of_mem hp
  have hpk : p = (k, e.val) := Prod.ext (sval_inj (congrArg Prod.fst hpe)) (show p.2 = e.val from congrArg (fun x : Value × Value => x.2) hpe)
  subst hpk
  obtain ⟨e1, e2, hsplit⟩ := List.append_of_mem he
  have hnd : ((es.filter fun e => !seen.elem e.born).map (·.born)).Nodup := List.Nodup.sublist (List.Sublist.map _ List.filter_sublist) h.ok.born
  have hfil : es.filter (fun x => !(seen ++ [e.born]).elem x.born) = e1 ++ e2 := by
    have h1 : es.filter (fun x => !(seen ++ [e.born]).elem x.born) = (es.filter fun x => !seen.elem x.born).filter fun x => !decide (x.born = e.born) := by
      rw [List.filter_filter]
      refine List.filter_congr fun x _ => ?_
      simp [List.elem_eq_mem, Bool.and_comm]
    rw [h1, hsplit]
    rw [hsplit, List.map_append, List.map_cons, List.nodup_append] at hnd
    obtain ⟨h2, h3, h4⟩ := hnd
    have h5 := (List.nodup_cons.1 h3).1
    rw [List.filter_append, List.filter_cons]
    simp only [decide_true, Bool.not_true, Bool.false_eq_true, if_false]
    rw [List.filter_eq_self.2, List.filter_eq_self.2]
    · intro x hx
      simp only [Bool.not_eq_true', decide_eq_false_iff_not]
      exact fun hb => h5 (List.mem_map.2 ⟨x, hx, hb⟩)
    · intro x hx
      simp only [Bool.not_eq_true', decide_eq_false_iff_not]
      exact fun hb => h4 x.born (List.mem_map.2 ⟨x, hx, rfl⟩) e.born (by simp) hb
  refine ⟨k, l1 ++ l2, hk, List.perm_middle, h.ok, ?_, ?_⟩
  · rw [hfil]
    have h1 := h.left
    rw [hsplit] at h1
    have h2 : (entM (e1 ++ e :: e2)).Perm ((sval k, e.val) :: entM (e1 ++ e2)) := by
      simp only [entM, List.map_append, List.map_cons, hk]
      exact List.perm_middle
    have h3 : (modM (l1 ++ (k, e.val) :: l2)).Perm ((sval k, e.val) :: modM (l1 ++ l2)) := by
      simp only [modM, List.map_append, List.map_cons]
      exact List.perm_middle
    exact ((h2.symm.trans h1).trans h3).cons_inv
  · rintro k' v' heq
    cases heq
    exact ⟨e.born, e, by simp, hes, rfl, hk, rfl⟩

theorem getIter_run {P : Program} {w : World} {q r since last : Nat} {seen : Array Nat} (h : w.heap[q]? = some (.mapIter (some r) since seen last)) : (getObj q).run P w = .ok (.mapIter (some r) since seen last) w := by
  simp [getObj, Sem.run, h]
theorem setIter_run {P : Program} {w : World} {q r since last : Nat} {seen : Array Nat} (h : w.heap[q]? = some (.mapIter (some r) since seen last)) (o : Obj) : (setObj q o).run P w = .ok () { w with heap := w.heap.setIfInBounds q o } := by
  simp [setObj, Sem.run, h]
theorem next_run {P : Program} {w : World} {q r : Nat} {es : List MapEntry} {ck ty : Nat} {seen : List Nat} {m left : List (BStr × Value)} {cur : Option (BStr × Value)} (hI : ItOk es ck m seen left cur)
    (hq : w.heap[q]? = some (.mapIter (some r) ck ⟨seen⟩ ck)) (hr : w.heap[r]? = some (.map ⟨es⟩ ck)) :
    (left = [] ∧ ∃ w', w' = w ∧ (Instr.next (.pointer (some ⟨q, 0, none⟩)) false ty).run P w = .ok (.tuple ⟨[.bool false]⟩) w') ∨
    ∃ e ∈ es.filter (fun e => !seen.elem e.born), ∃ w', Upd w w' q (.mapIter (some r) ck ⟨seen ++ [e.born]⟩ ck) ∧ (Instr.next (.pointer (some ⟨q, 0, none⟩)) false ty).run P w = .ok (.tuple ⟨[.bool true, e.key, e.val]⟩) w' := by
  have hall : ((!(⟨seen⟩ : Array Nat).isEmpty) && !(⟨es⟩ : Array MapEntry).isEmpty && (⟨es⟩ : Array MapEntry).all (·.born ≥ ck)) = false := by
    cases es with
    | nil => simp
    | cons e es =>
      have := hI.ok.low e List.mem_cons_self
      simp
      omega
  have hfil : (⟨es⟩ : Array MapEntry).filter (fun e => !(⟨seen⟩ : Array Nat).contains e.born) = ⟨es.filter fun e => !seen.elem e.born⟩ := by
    apply Array.ext'
    simp
  have hold : (⟨es.filter fun e => !seen.elem e.born⟩ : Array MapEntry).filter (·.born < ck) = ⟨es.filter fun e => !seen.elem e.born⟩ := by
    apply Array.ext'
    simp only [Array.toList_filter]
    rw [List.filter_eq_self]
    intro e he
    have := hI.ok.low e (List.mem_filter.1 he).1
    simpa using this
  have hnew : (⟨es.filter fun e => !seen.elem e.born⟩ : Array MapEntry).filter (·.born ≥ ck) = #[] := by
    apply Array.ext'
    simp only [Array.toList_filter]
    rw [List.filter_eq_nil_iff]
    intro e he
    have := hI.ok.low e (List.mem_filter.1 he).1
    simp; omega
  cases hl : es.filter (fun e => !seen.elem e.born) with
  | nil =>
    left
    refine ⟨hI.over hl, w, rfl, ?_⟩
    rw [hl] at hfil hold hnew
    simp only [Instr.next, Sem.run_bind, getIter_run hq, getObj_run hr, Result.andThen_ok, hall, hfil, hold, hnew]
    simp
    intro h
    exact absurd (show (Question.mapNext 1).forced = true from rfl) (by rw [h]; simp)
  | cons e0 L =>
    right
    have hc : ((if (⟨e0 :: L⟩ : Array MapEntry).isEmpty = true then #[none] else #[]) ++ ((⟨e0 :: L⟩ : Array MapEntry) ++ #[]).map some) = ⟨(e0 :: L).map some⟩ := by simp
    have fin : ∀ (i : Nat) (w1 : World), i < (e0 :: L).length → w1.heap = w.heap → w1.os = w.os → w1.output = w.output → ∃ e ∈ e0 :: L, ∃ w', Upd w w' q (.mapIter (some r) ck ⟨seen ++ [e.born]⟩ ck) ∧
        Sem.run (α := Value) P (match (⟨(e0 :: L).map some⟩ : Array (Option MapEntry))[i]? with
          | some (some e) => do
            setObj q (.mapIter (some r) ck ((⟨seen⟩ : Array Nat).push e.born) ck)
            Pure.pure (Value.tuple #[.bool true, e.key, e.val])
          | some none => Pure.pure (Value.tuple #[.bool false])
          | none => stuck "Next: no such candidate") w1 = .ok (.tuple ⟨[.bool true, e.key, e.val]⟩) w' := by
      intro i w1 hi hw hwo hwp
      have hq1 : w1.heap[q]? = some (.mapIter (some r) ck ⟨seen⟩ ck) := by rw [hw]; exact hq
      have hget : (⟨(e0 :: L).map some⟩ : Array (Option MapEntry))[i]? = some (some ((e0 :: L)[i])) := by
        simp only [List.getElem?_toArray, List.getElem?_map, List.getElem?_eq_getElem hi, Option.map_some]
      have hpush : (⟨seen⟩ : Array Nat).push ((e0 :: L)[i]).born = ⟨seen ++ [((e0 :: L)[i]).born]⟩ := by simp
      refine ⟨(e0 :: L)[i], List.getElem_mem hi, { w1 with heap := w1.heap.setIfInBounds q (.mapIter (some r) ck ⟨seen ++ [((e0 :: L)[i]).born]⟩ ck) }, ?_, ?_⟩
      · have := set_heap hq1 (.mapIter (some r) ck ⟨seen ++ [((e0 :: L)[i]).born]⟩ ck)
        refine ⟨fun j => ?_, hwo, hwp⟩
        have h2 := this.heap j
        rw [hw] at h2 ⊢
        exact h2
      · rw [hget]
        simp only [Sem.run_bind, hpush, setIter_run hq1, Result.andThen_ok]
        rfl
    rw [hl] at hfil hold hnew
    simp only [Instr.next, Sem.run_bind, getIter_run hq, getObj_run hr, Result.andThen_ok, hall, hfil, hold, hnew, hc]
    simp only [Bool.false_eq_true, if_false, Sem.run_pure, Sem.run_bind, Result.andThen_ok, run_choose_drew]
    by_cases hf : (Question.mapNext (⟨(e0 :: L).map some⟩ : Array (Option MapEntry)).size).forced = true
    · rw [if_pos hf]
      exact fin 0 w (by simp) rfl rfl rfl
    · rw [if_neg hf]
      refine fin _ w.drew ?_ rfl rfl rfl
      have : ∀ (k t : Nat), 0 < k → (Question.mapNext k).cut t < k := fun k t hk => Nat.mod_lt t hk
      have h2 := this ((⟨(e0 :: L).map some⟩ : Array (Option MapEntry)).size) (w.tape w.drawn (Question.mapNext (⟨(e0 :: L).map some⟩ : Array (Option MapEntry)).size)) (by simp)
      simpa using h2

/-- the next entry, if one is left -/
theorem sL_next {q r : Nat} {m left : List (BStr × Value)} {cur : Option (BStr × Value)} {ix : Operand} [tk : Take itH q H (r, m, left, cur) R]
    (k0 : left = [] → sL P n ops rest (putE dst (.tuple ⟨[.bool false]⟩) E) ((star (itH q (r, m, left, cur)) (R))) Q)
    (k1 : ∀ k v left', left.Perm ((k, v) :: left') → sL P n ops rest (putE dst (.tuple ⟨[.bool true, sval k, v]⟩) E) ((star (itH q (r, m, left', some (k, v))) (R))) Q)
    (hix : ev E ix = some (.pointer (some ⟨q, 0, none⟩))) (hg : gdV ops g E = some true := by rfl) (hd : okD n dst = true := by rfl) : sL P n ops (⟨dst, .next ix false, ty, pos, after, g⟩ :: rest) E H Q :=
  sL_op hg hd fun ac w G hE hm => by
    obtain ⟨es, ck, seen, hI, hm2⟩ := it_open ((hm.mono (star_mono tk.eqv (ent_refl _))).mono (star_assoc _ _ _))
    have hrun : ∀ v w', (Instr.next (.pointer (some ⟨q, 0, none⟩)) false ty).run P w = .ok v w' → (execOp ac.eval ⟨dst, .next ix false, ty, pos, after, g⟩).run P w = .ok (.value v) w' := by
      intro v w' h
      simp only [execOp, hE.ev hix]
      exact run_value h
    have hmr : MW w ((star (blk r (.map ⟨es⟩ ck)) (((star (blk q (.mapIter (some r) ck ⟨seen⟩ ck)) (((star (R) (G))))))))) := hm2.mono (ent_trans (star_assoc' _ _ _) (ent_trans (star_mono (star_comm _ _) (ent_refl _)) (star_assoc _ _ _)))
    rcases next_run hI (ty := ty) hm2.blk hmr.blk with ⟨h0, w', hw, hr⟩ | ⟨e, he, w', hw, hr⟩
    · subst hw; exact ⟨_, _, _, .inl (hrun _ _ hr), (hm2.mono (it_close hI)).mono (star_assoc' _ _ _), k0 h0⟩
    · obtain ⟨k, left', h1, h2, h3⟩ := hI.step he
      rw [h1] at hr
      exact ⟨_, w', _, .inl (hrun _ _ hr), ((hm2.set _ w' hw).mono (it_close h3)).mono (star_assoc' _ _ _), k1 k e.val left' h2⟩
theorem find_born {es : List MapEntry} {e : MapEntry} (hn : (es.map (·.born)).Nodup) (he : e ∈ es) : es.find? (·.born == e.born) = some e := by
  induction es with
  | nil => cases he
  | cons x es ih =>
    simp only [List.map_cons, List.nodup_cons] at hn
    rw [List.find?_cons]
    rcases List.mem_cons.1 he with rfl | he
    · simp
    · have : (x.born == e.born) = false := by
        rw [beq_eq_false_iff_ne]
        exact fun hb => hn.1 (List.mem_map.2 ⟨e, he, hb.symm⟩)
      rw [this]
      exact ih hn.2 he
/-- the entry that came last -/
theorem sL_entry {q r : Nat} {m left : List (BStr × Value)} {k : BStr} {v : Value} {ix : Operand} [tk : Take itH q H (r, m, left, some (k, v)) R]
    (kk : sL P n ops rest (putE dst (.tuple ⟨[sval k, v]⟩) E) H Q)
    (hix : ev E ix = some (.pointer (some ⟨q, 0, none⟩))) (hg : gdV ops g E = some true := by rfl) (hd : okD n dst = true := by rfl) : sL P n ops (⟨dst, .entry ix, ty, pos, after, g⟩ :: rest) E H Q :=
  sL_op hg hd fun ac w G hE hm => by
    obtain ⟨es, ck, seen, hI, hm2⟩ := it_open ((hm.mono (star_mono tk.eqv (ent_refl _))).mono (star_assoc _ _ _))
    have hmr : MW w ((star (blk r (.map ⟨es⟩ ck)) (((star (blk q (.mapIter (some r) ck ⟨seen⟩ ck)) (((star (R) (G))))))))) := hm2.mono (ent_trans (star_assoc' _ _ _) (ent_trans (star_mono (star_comm _ _) (ent_refl _)) (star_assoc _ _ _)))
    obtain ⟨b, e, h1, h2, h3, h4, h5⟩ := hI.cur k v rfl
    have hback : (⟨seen⟩ : Array Nat).back? = some b := by simpa using h1
    have hfind : (⟨es⟩ : Array MapEntry).find? (·.born == b) = some e := by
      rw [← h3]; simpa using find_born hI.ok.born h2
    refine ⟨_, w, H, .inl ?_, hm, kk⟩
    simp only [execOp, hE.ev hix]
    refine run_value ?_
    simp only [Instr.entry, Sem.run_bind, getIter_run hm2.blk, hback, getObj_run hmr.blk, Result.andThen_ok, Sem.run_pure, hfind, h4, h5]
    simp
end
end Go.Sl
