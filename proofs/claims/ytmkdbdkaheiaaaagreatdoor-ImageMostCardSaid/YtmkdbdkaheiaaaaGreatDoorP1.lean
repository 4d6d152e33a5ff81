/- Helpers for the claim (a logic of assertions over the heap, contracts of the program's functions): no condition beyond each theorem's own premises. -/
import Derived.Calls
import Derived.Laws.Sem
import Derived.Orders
import Derived.Laws.Strings
set_option linter.all false
namespace Go.Sl
open Go

abbrev Hp := Nat → Option Obj

def Hp.le (A B : Hp) : Prop := ∀ b o, A b = some o → B b = some o
def Hp.dis (A B : Hp) : Prop := ∀ b, A b = none ∨ B b = none
def Hp.un (A B : Hp) : Hp := fun b => match A b with | some o => some o | none => B b
def Hp.emp : Hp := fun _ => none
def Hp.one (b : Nat) (o : Obj) : Hp := fun c => if c = b then some o else none

theorem Hp.emp_le (A : Hp) : Hp.emp.le A := fun _ _ h => by cases h
theorem Hp.le_refl (A : Hp) : A.le A := fun _ _ h => h
theorem Hp.le_trans {A B C : Hp} (h : A.le B) (h' : B.le C) : A.le C := fun b o x => h' b o (h b o x)
theorem Hp.le_un_left (A B : Hp) : A.le (A.un B) := fun b o h => by simp [Hp.un, h]
theorem Hp.le_un_right {A B : Hp} (d : A.dis B) : B.le (A.un B) := fun b o h => by
  rcases d b with x | x
  · simp [Hp.un, x, h]
  · simp [x] at h
theorem Hp.un_le {A B C : Hp} (h : A.le C) (h' : B.le C) : (A.un B).le C := fun b o x => by
  unfold Hp.un at x
  split at x
  · cases x; exact h b o ‹_›
  · exact h' b o x
theorem Hp.dis_symm {A B : Hp} (d : A.dis B) : B.dis A := fun b => (d b).symm
theorem Hp.dis_mono {A B A' B' : Hp} (d : A.dis B) (h : A'.le A) (h' : B'.le B) : A'.dis B' := fun b => by
  rcases d b with x | x
  · left
    cases e : A' b with
    | none => rfl
    | some o => rw [h b o e] at x; cases x
  · right
    cases e : B' b with
    | none => rfl
    | some o => rw [h' b o e] at x; cases x
theorem Hp.dis_un {A B C : Hp} (h : A.dis C) (h' : B.dis C) : (A.un B).dis C := fun b => by
  rcases h b with x | x
  · rcases h' b with y | y
    · left; simp [Hp.un, x, y]
    · right; exact y
  · right; exact x
theorem Hp.dis_of_un_left {A B C : Hp} (h : (A.un B).dis C) : A.dis C := Hp.dis_mono h (Hp.le_un_left A B) (Hp.le_refl C)
theorem Hp.dis_of_un_right {A B C : Hp} (d : A.dis B) (h : (A.un B).dis C) : B.dis C := Hp.dis_mono h (Hp.le_un_right d) (Hp.le_refl C)

/-- an assertion: of blocks that are owned, and of blocks that nobody changes any more -/
structure HProp where
  holds : Hp → Hp → Prop
  mono : ∀ {O O' I I' : Hp}, O.le O' → I.le I' → holds O I → holds O' I'

def emp : HProp := ⟨fun _ _ => True, fun _ _ h => h⟩
def pure (p : Prop) : HProp := ⟨fun _ _ => p, fun _ _ h => h⟩
def star (A B : HProp) : HProp :=
  ⟨fun O I => ∃ O₁ O₂ : Hp, O₁.dis O₂ ∧ O₁.le O ∧ O₂.le O ∧ A.holds O₁ I ∧ B.holds O₂ I,
   fun hO hI ⟨O₁, O₂, d, l₁, l₂, a, b⟩ => ⟨O₁, O₂, d, Hp.le_trans l₁ hO, Hp.le_trans l₂ hO, A.mono (Hp.le_refl _) hI a, B.mono (Hp.le_refl _) hI b⟩⟩
def ex {α : Type} (A : α → HProp) : HProp := ⟨fun O I => ∃ x, (A x).holds O I, fun hO hI ⟨x, h⟩ => ⟨x, (A x).mono hO hI h⟩⟩
def blk (b : Nat) (o : Obj) : HProp := ⟨fun O _ => O b = some o, fun hO _ h => hO _ _ h⟩
def imm (b : Nat) (o : Obj) : HProp := ⟨fun _ I => I b = some o, fun _ hI h => hI _ _ h⟩
/-- what holds of the unchanging blocks alone -/
def per (p : Hp → Prop) (hp : ∀ {I I' : Hp}, I.le I' → p I → p I') : HProp := ⟨fun _ I => p I, fun _ hI h => hp hI h⟩


def ent (A B : HProp) : Prop := ∀ O I, A.holds O I → B.holds O I

theorem ent_refl (A : HProp) : (ent (A) (A)) := fun _ _ h => h
theorem ent_trans {A B C : HProp} (h : (ent (A) (B))) (h' : (ent (B) (C))) : (ent (A) (C)) := fun O I x => h' O I (h O I x)
theorem ent_emp (A : HProp) : (ent (A) (emp)) := fun _ _ _ => trivial
theorem star_mono {A B A' B' : HProp} (h : (ent (A) (A'))) (h' : (ent (B) (B'))) : (ent (((star (A) (B)))) (((star (A') (B'))))) :=
  fun _ I ⟨O₁, O₂, d, l₁, l₂, a, b⟩ => ⟨O₁, O₂, d, l₁, l₂, h O₁ I a, h' O₂ I b⟩
theorem star_comm (A B : HProp) : (ent (((star (A) (B)))) (((star (B) (A))))) := fun _ _ ⟨O₁, O₂, d, l₁, l₂, a, b⟩ => ⟨O₂, O₁, Hp.dis_symm d, l₂, l₁, b, a⟩
theorem star_assoc (A B C : HProp) : (ent (((star (((star (A) (B)))) (C)))) (((star (A) (((star (B) (C)))))))) := by
  rintro O I ⟨O₁, O₂, d, l₁, l₂, ⟨O₃, O₄, d', l₃, l₄, a, b⟩, c⟩
  refine ⟨O₃, O₄.un O₂, ?_, Hp.le_trans l₃ l₁, Hp.un_le (Hp.le_trans l₄ l₁) l₂, a, O₄, O₂, Hp.dis_mono d l₄ (Hp.le_refl _), Hp.le_un_left _ _, Hp.le_un_right (Hp.dis_mono d l₄ (Hp.le_refl _)), b, c⟩
  exact Hp.dis_symm (Hp.dis_un (Hp.dis_symm d') (Hp.dis_symm (Hp.dis_mono d l₃ (Hp.le_refl _))))
theorem star_assoc' (A B C : HProp) : (ent (((star (A) (((star (B) (C))))))) (((star (((star (A) (B)))) (C))))) := by
  refine ent_trans (star_comm _ _) ?_
  refine ent_trans (star_mono (star_comm _ _) (ent_refl _)) ?_
  refine ent_trans (star_assoc _ _ _) ?_
  refine ent_trans (star_comm _ _) ?_
  exact star_mono (star_comm _ _) (ent_refl _)
theorem star_left (A B : HProp) : (ent (((star (A) (B)))) (A)) := fun _ I ⟨_, _, _, l₁, _, a, _⟩ => A.mono l₁ (Hp.le_refl I) a
theorem star_right (A B : HProp) : (ent (((star (A) (B)))) (B)) := fun _ I ⟨_, _, _, _, l₂, _, b⟩ => B.mono l₂ (Hp.le_refl I) b
theorem star_pure {p : Prop} {A : HProp} (h : p) : (ent (A) (((star (pure p) (A))))) :=
  fun O _ a => ⟨Hp.emp, O, fun _ => .inl rfl, Hp.emp_le _, Hp.le_refl _, h, a⟩
theorem star_emp (A : HProp) : (ent (A) (((star (emp) (A))))) :=
  fun O _ a => ⟨Hp.emp, O, fun _ => .inl rfl, Hp.emp_le _, Hp.le_refl _, trivial, a⟩
theorem star_per {p : Hp → Prop} {hp} {A : HProp} (h : (ent (A) (per p hp))) : (ent (A) (((star (per p hp) (A))))) :=
  fun O I a => ⟨Hp.emp, O, fun _ => .inl rfl, Hp.emp_le _, Hp.le_refl _, h O I a, a⟩
theorem imm_dup {b : Nat} {o : Obj} {A : HProp} (h : (ent (A) (imm b o))) : (ent (A) (((star (imm b o) (A))))) :=
  fun O I a => ⟨Hp.emp, O, fun _ => .inl rfl, Hp.emp_le _, Hp.le_refl _, h O I a, a⟩

/-- what no code of these touches -/
class Amb where
  os : Os
  out : Array (Nat × ByteArray)
variable [Amb]
/-- one block is another one, and nothing else -/
structure Upd (w w' : World) (b : Nat) (o : Obj) : Prop where
  heap : ∀ c, w'.heap[c]? = if c = b then some o else w.heap[c]?
  os : w'.os = w.os
  out : w'.output = w.output
/-- a world of which an assertion holds -/
def MW (w : World) (A : HProp) : Prop :=
  ∃ O I : Hp, (O.dis I ∧ (w.os = Amb.os ∧ w.output = Amb.out)) ∧ (∀ b o, O b = some o → w.heap[b]? = some o) ∧ (∀ b o, I b = some o → w.heap[b]? = some o) ∧ A.holds O I

theorem MW.mono {w : World} {A B : HProp} (h : MW w A) (e : (ent (A) (B))) : MW w B :=
  let ⟨O, I, d, ho, hi, a⟩ := h; ⟨O, I, d, ho, hi, e O I a⟩
theorem MW.heap_eq {w w' : World} {A : HProp} (h : MW w A) (e : w'.heap = w.heap) (s : w'.os = w.os := by rfl) (s' : w'.output = w.output := by rfl) : MW w' A := by
  obtain ⟨O, I, d, ho, hi, a⟩ := h
  exact ⟨O, I, ⟨d.1, s.trans d.2.1, s'.trans d.2.2⟩, by rw [e]; exact ho, by rw [e]; exact hi, a⟩

theorem MW.blk {w : World} {b : Nat} {o : Obj} {A : HProp} (h : MW w ((star (blk b o) (A)))) : w.heap[b]? = some o := by
  obtain ⟨O, I, d, ho, hi, a⟩ := h
  exact ho b o (star_left _ _ O I a)
theorem MW.imm {w : World} {b : Nat} {o : Obj} {A : HProp} (h : MW w A) (e : (ent (A) (imm b o))) : w.heap[b]? = some o := by
  obtain ⟨O, I, d, ho, hi, a⟩ := h
  exact hi b o (e O I a)

theorem MW.push {w : World} {A : HProp} (h : MW w A) (o : Obj) : MW { w with heap := w.heap.push o } ((star (Sl.blk w.heap.size o) (A))) := by
  obtain ⟨O, I, d, ho, hi, a⟩ := h
  have hO : O w.heap.size = none := by
    cases e : O w.heap.size with
    | none => rfl
    | some o' => have := ho _ _ e; simp at this
  have hI : I w.heap.size = none := by
    cases e : I w.heap.size with
    | none => rfl
    | some o' => have := hi _ _ e; simp at this
  have lt : ∀ {b : Nat} {o' : Obj}, w.heap[b]? = some o' → (w.heap.push o)[b]? = some o' := by
    intro b o' e
    have hb : b < w.heap.size := by
      rcases Nat.lt_or_ge b w.heap.size with h | h
      · exact h
      · simp [Array.getElem?_eq_none h] at e
    rw [Array.getElem?_push_lt hb, ← e]; simp [hb]
  have dd : (Hp.one w.heap.size o).dis O := fun b => by
    by_cases hb : b = w.heap.size
    · right; rw [hb]; exact hO
    · left; simp [Hp.one, hb]
  refine ⟨(Hp.one w.heap.size o).un O, I, ⟨?_, d.2⟩, ?_, fun b o' e => lt (hi b o' e), ?_⟩
  · refine Hp.dis_un (fun b => ?_) d.1
    by_cases hb : b = w.heap.size
    · right; rw [hb]; exact hI
    · left; simp [Hp.one, hb]
  · intro b o' e
    unfold Hp.un at e
    split at e
    · rename_i o'' e'
      cases e
      unfold Hp.one at e'
      split at e'
      · cases e'; rename_i hb; subst hb; simp
      · cases e'
    · exact lt (ho b o' e)
  · exact ⟨Hp.one w.heap.size o, O, dd, Hp.le_un_left _ _, Hp.le_un_right dd, by simp [Sl.blk, Hp.one], a⟩

theorem MW.set {w : World} {A : HProp} {b : Nat} {o : Obj} (h : MW w ((star (Sl.blk b o) (A)))) (o' : Obj) (w' : World)
    (hu : Upd w w' b o') : MW w' ((star (Sl.blk b o') (A))) := by
  have hw := hu.heap
  obtain ⟨O, I, ⟨d, dw⟩, ho, hi, O₁, O₂, dd, l₁, l₂, hb, a⟩ := h
  have hO : O b = some o := l₁ b o hb
  have hI : I b = none := by rcases d b with x | x; · rw [hO] at x; cases x
                             · exact x
  have hO₂ : O₂ b = none := by rcases dd b with x | x; · rw [show O₁ b = some o from hb] at x; cases x
                               · exact x
  have d2 : (Hp.one b o').dis O₂ := fun c => by
    by_cases hc : c = b
    · right; rw [hc]; exact hO₂
    · left; simp [Hp.one, hc]
  refine ⟨(Hp.one b o').un O₂, I, ⟨?_, hu.os.trans dw.1, hu.out.trans dw.2⟩, ?_, ?_, Hp.one b o', O₂, d2, Hp.le_un_left _ _, Hp.le_un_right d2, by simp [Sl.blk, Hp.one], a⟩
  · refine Hp.dis_un (fun c => ?_) (Hp.dis_mono d l₂ (Hp.le_refl _))
    by_cases hc : c = b
    · right; rw [hc]; exact hI
    · left; simp [Hp.one, hc]
  · intro c x e
    rw [hw]
    unfold Hp.un at e
    split at e
    · rename_i e'
      cases e
      unfold Hp.one at e'
      split at e'
      · cases e'; rename_i hc; simp [hc]
      · cases e'
    · rename_i e'
      have hc : c ≠ b := fun hc => by rw [hc, hO₂] at e; cases e
      simp [hc, ho c x (l₂ c x e)]
  · intro c x e
    rw [hw]
    have hc : c ≠ b := fun hc => by rw [hc, hI] at e; cases e
    simp [hc, hi c x e]

/-- what is owned may be given up: nobody changes it any more -/
theorem MW.freeze {w : World} {A : HProp} {b : Nat} {o : Obj} (h : MW w ((star (Sl.blk b o) (A)))) : MW w ((star (Sl.imm b o) (A))) := by
  obtain ⟨O, I, ⟨d, dw⟩, ho, hi, O₁, O₂, dd, l₁, l₂, hb, a⟩ := h
  have hO : O b = some o := l₁ b o hb
  have hI : I b = none := by rcases d b with x | x; · rw [hO] at x; cases x
                             · exact x
  have hO₂ : O₂ b = none := by rcases dd b with x | x; · rw [show O₁ b = some o from hb] at x; cases x
                               · exact x
  have d2 : (Hp.one b o).dis I := fun c => by
    by_cases hc : c = b
    · right; rw [hc]; exact hI
    · left; simp [Hp.one, hc]
  refine ⟨O₂, (Hp.one b o).un I, ⟨?_, dw⟩, fun c x e => ho c x (l₂ c x e), ?_, Hp.emp, O₂, fun _ => .inl rfl, Hp.emp_le _, Hp.le_refl _, ?_, ?_⟩
  · refine Hp.dis_symm (Hp.dis_un (fun c => ?_) (Hp.dis_symm (Hp.dis_mono d l₂ (Hp.le_refl _))))
    by_cases hc : c = b
    · right; rw [hc]; exact hO₂
    · left; simp [Hp.one, hc]
  · intro c x e
    unfold Hp.un at e
    split at e
    · rename_i e'
      cases e
      unfold Hp.one at e'
      split at e'
      · cases e'; rename_i hc; subst hc; exact ho _ _ hO
      · cases e'
    · exact hi c x e
  · simp [Sl.imm, Hp.un, Hp.one]
  · exact A.mono (Hp.le_refl _) (Hp.le_un_right d2) a

theorem MW.pure {w : World} {A : HProp} {p : Prop} (h : MW w ((star (Sl.pure p) (A)))) : p ∧ MW w A := by
  obtain ⟨O, I, d, ho, hi, a⟩ := h
  exact ⟨star_left _ _ O I a, O, I, d, ho, hi, star_right _ _ O I a⟩
theorem MW.ex {α : Type} {w : World} {A : α → HProp} {B : HProp} (h : MW w ((star (Sl.ex A) (B)))) : ∃ x, MW w ((star (A x) (B))) := by
  obtain ⟨O, I, d, ho, hi, O₁, O₂, dd, l₁, l₂, ⟨x, hx⟩, b⟩ := h
  exact ⟨x, O, I, d, ho, hi, O₁, O₂, dd, l₁, l₂, hx, b⟩

end Go.Sl
namespace Go.Sl
open Go
variable [Amb]

/-- out of an assertion one part is taken, and the rest -/
class Take {κ α : Type} (p : κ → α → HProp) (b : κ) (H : HProp) (x : outParam α) (R : outParam HProp) : Prop where
  eqv : (ent (H) (((star (p b x) (R)))))

instance (priority := 1100) takeHead {κ α : Type} {p : κ → α → HProp} {b : κ} {x : α} {R : HProp} : Take p b ((star (p b x) (R))) x R := ⟨ent_refl _⟩
instance (priority := 1050) takeLast {κ α : Type} {p : κ → α → HProp} {b : κ} {x : α} {A : HProp} : Take p b ((star (A) (p b x))) x A := ⟨star_comm _ _⟩
instance (priority := 1020) takeAll {κ α : Type} {p : κ → α → HProp} {b : κ} {x : α} : Take p b (p b x) x emp := ⟨fun O _ h => ⟨O, Hp.emp, fun _ => .inr rfl, Hp.le_refl _, Hp.emp_le _, h, trivial⟩⟩
instance (priority := 1010) takeLeft {κ α : Type} {p : κ → α → HProp} {b : κ} {x : α} {A B A' : HProp} [h : Take p b A x A'] : Take p b ((star (A) (B))) x ((star (A') (B))) :=
  ⟨ent_trans (star_mono h.eqv (ent_refl _)) (star_assoc _ _ _)⟩
instance (priority := 1000) takeRight {κ α : Type} {p : κ → α → HProp} {b : κ} {x : α} {A B B' : HProp} [h : Take p b B x B'] : Take p b ((star (A) (B))) x ((star (A) (B'))) :=
  ⟨ent_trans (star_mono (ent_refl _) h.eqv) (ent_trans (star_assoc' _ _ _) (ent_trans (star_mono (star_comm _ _) (ent_refl _)) (star_assoc _ _ _)))⟩

/-- a part that nobody changes any more: it is looked at, and stays -/
class Look {κ α : Type} (p : κ → α → HProp) (b : κ) (H : HProp) (x : outParam α) : Prop where
  eqv : (ent (H) (p b x))
instance (priority := 1100) lookHead {κ α : Type} {p : κ → α → HProp} {b : κ} {x : α} {R : HProp} : Look p b ((star (p b x) (R))) x := ⟨star_left _ _⟩
instance (priority := 1020) lookAll {κ α : Type} {p : κ → α → HProp} {b : κ} {x : α} : Look p b (p b x) x := ⟨ent_refl _⟩
instance (priority := 1010) lookLeft {κ α : Type} {p : κ → α → HProp} {b : κ} {x : α} {A B : HProp} [h : Look p b A x] : Look p b ((star (A) (B))) x := ⟨ent_trans (star_left _ _) h.eqv⟩
instance (priority := 1000) lookRight {κ α : Type} {p : κ → α → HProp} {b : κ} {x : α} {A B : HProp} [h : Look p b B x] : Look p b ((star (A) (B))) x := ⟨ent_trans (star_right _ _) h.eqv⟩

/-- what a call of a function does: from what it is given, to its value and what is there behind it -/
def Tr (P : Program) (f : FuncId) (args : Array Value) (A : HProp) (R : Value → HProp → Prop) : Prop :=
  ∀ w G, MW w ((star (A) (G))) → Calls P f args w fun e w' => ∃ v A', e = .returned v ∧ R v A' ∧ MW w' ((star (A') (G)))

theorem Tr.pre {P : Program} {f : FuncId} {args : Array Value} {A B : HProp} {R : Value → HProp → Prop} (h : Tr P f args A R) (e : (ent (B) (A))) : Tr P f args B R :=
  fun w G m => h w G (m.mono (star_mono e (ent_refl _)))
theorem Tr.post {P : Program} {f : FuncId} {args : Array Value} {A : HProp} {R R' : Value → HProp → Prop} (h : Tr P f args A R)
    (e : ∀ v B, R v B → ∃ B', R' v B' ∧ ((ent (B) (B')))) : Tr P f args A R' :=
  fun w G m => (h w G m).mono fun _ _ ⟨v, B, he, hr, hm⟩ => let ⟨B', hr', hb⟩ := e v B hr; ⟨v, B', he, hr', hm.mono (star_mono hb (ent_refl _))⟩
theorem Tr.ex {α : Type} {P : Program} {f : FuncId} {args : Array Value} {A : α → HProp} {R : Value → HProp → Prop} (h : ∀ x, Tr P f args (A x) R) : Tr P f args (Sl.ex A) R :=
  fun w G m => let ⟨x, hx⟩ := m.ex; h x w G hx
theorem Tr.pur {P : Program} {f : FuncId} {args : Array Value} {p : Prop} {A : HProp} {R : Value → HProp → Prop} (h : p → Tr P f args A R) : Tr P f args ((star (pure p) (A))) R :=
  fun w G m => let ⟨hp, hm⟩ := MW.pure (m.mono (star_assoc _ _ _)); h hp w G hm

/-- one computation of the model over assertions -/
def Runs {α : Type} (P : Program) (s : Sem α) (A : HProp) (Q : α → HProp → Prop) : Prop :=
  ∀ w G, MW w ((star (A) (G))) → ∃ x w' B, s.run P w = .ok x w' ∧ Q x B ∧ MW w' ((star (B) (G)))

theorem Runs.bind {α β : Type} {P : Program} {s : Sem α} {k : α → Sem β} {A : HProp} {Q : α → HProp → Prop} {R : β → HProp → Prop}
    (h : Runs P s A Q) (h' : ∀ x B, Q x B → Runs P (k x) B R) : Runs P (s >>= k) A R := by
  intro w G m
  obtain ⟨x, w', B, hr, hq, hm⟩ := h w G m
  obtain ⟨y, w'', C, hr', hq', hm'⟩ := h' x B hq w' G hm
  exact ⟨y, w'', C, by rw [Sem.run_bind, hr]; exact hr', hq', hm'⟩
theorem Runs.ret {α : Type} {P : Program} {x : α} {A : HProp} {Q : α → HProp → Prop} (h : Q x A) : Runs P (Pure.pure x) A Q :=
  fun w _ m => ⟨x, w, A, rfl, h, m⟩
theorem Runs.mono {α : Type} {P : Program} {s : Sem α} {A : HProp} {Q Q' : α → HProp → Prop} (h : Runs P s A Q) (e : ∀ x B, Q x B → Q' x B) : Runs P s A Q' :=
  fun w G m => let ⟨x, w', B, hr, hq, hm⟩ := h w G m; ⟨x, w', B, hr, e _ _ hq, hm⟩
theorem Runs.pre {α : Type} {P : Program} {s : Sem α} {A B : HProp} {Q : α → HProp → Prop} (h : Runs P s A Q) (e : (ent (B) (A))) : Runs P s B Q :=
  fun w G m => h w G (m.mono (star_mono e (ent_refl _)))
/-- a computation that touches nothing -/
theorem Runs.of_run {α : Type} {P : Program} {s : Sem α} {x : α} (h : ∀ w, s.run P w = .ok x w) {A : HProp} {Q : α → HProp → Prop} (q : Q x A) : Runs P s A Q :=
  fun w _ m => ⟨x, w, A, h w, q, m⟩

theorem cell_of_heap {w : World} {b off : Nat} {c : Array Value} {E : TypeId} {fr : Nat × Nat} (h : w.heap[b]? = some (.cells c E fr)) :
    w.cell? ⟨b, off, none⟩ = c[off]? := by simp [World.cell?, h]

theorem Runs.load_blk {P : Program} {b off : Nat} {m : Mode} {c : Array Value} {E : TypeId} {fr : Nat × Nat} {v : Value} {H R : HProp} [t : Take blk b H (.cells c E fr) R]
    (hv : c[off]? = some v) {Q : Value → HProp → Prop} (q : Q v H) : Runs P (load ⟨b, off, none⟩ m) H Q := by
  intro w G mw
  have hb := (mw.mono (ent_trans (star_mono t.eqv (ent_refl _)) (star_assoc _ _ _))).blk
  refine ⟨v, w, H, ?_, q, mw⟩
  simp [load, Sem.run, cell_of_heap hb, hv]

theorem Runs.load_imm {P : Program} {b off : Nat} {m : Mode} {c : Array Value} {E : TypeId} {fr : Nat × Nat} {v : Value} {H : HProp} [t : Look imm b H (.cells c E fr)]
    (hv : c[off]? = some v) {Q : Value → HProp → Prop} (q : Q v H) : Runs P (load ⟨b, off, none⟩ m) H Q := by
  intro w G mw
  have hb := mw.imm (b := b) (ent_trans (star_left _ _) t.eqv)
  refine ⟨v, w, H, ?_, q, mw⟩
  simp [load, Sem.run, cell_of_heap hb, hv]

end Go.Sl
namespace Go.Sl
open Go
variable [Amb]

/- ---------- the known slots of a frame ---------- -/
abbrev Env := List (Nat × Value)
def look (t : Nat) : Env → Option Value
  | [] => none
  | (k, v) :: E => bif Nat.beq k t then some v else look t E

structure EnvOk (n : Nat) (E : Env) (a : Act) : Prop where
  size : a.tmps.size = n
  defers : a.defers = []
  known : ∀ t v, look t E = some v → a.tmps.getD t undef = v

def ev (E : Env) : Operand → Option Value
  | .tmp t => look t E
  | .const v => some v
  | .global g => some (.pointer (some ⟨g, 0, none⟩))
  | .func f => some (.func (.func f) #[] #[])

theorem EnvOk.ev {n : Nat} {E : Env} {a : Act} (h : EnvOk n E a) {x : Operand} {v : Value} (e : ev E x = some v) : a.eval x = v := by
  cases x with
  | tmp t => exact h.known t v e
  | const c => exact Option.some.inj e
  | global g => exact Option.some.inj e
  | func f => exact Option.some.inj e

theorem EnvOk.put {n : Nat} {E : Env} {a : Act} (h : EnvOk n E a) {d : Nat} (hd : d < n) (v : Value) : EnvOk n ((d, v) :: E) (a.put (some d) v) := by
  refine ⟨by simp [Act.put, h.size], h.defers, fun t u e => ?_⟩
  simp only [look] at e
  by_cases hk : d = t
  · subst hk
    have : Nat.beq d d = true := by simp
    simp only [this, cond_true] at e
    cases e
    simp [Act.put, h.size, hd]
  · have hb : Nat.beq d t = false := by
      cases hh : Nat.beq d t with
      | false => rfl
      | true => exact absurd (Nat.eq_of_beq_eq_true hh) hk
    simp only [hb, cond_false] at e
    have := h.known t u e
    simpa [Act.put, Array.getElem?_setIfInBounds_ne hk] using this
theorem EnvOk.none {n : Nat} {E : Env} {a : Act} (h : EnvOk n E a) (v : Value) : EnvOk n E (a.put Option.none v) := h
theorem EnvOk.weak {n : Nat} {E E' : Env} {a : Act} (h : EnvOk n E a) (e : ∀ t v, look t E' = some v → look t E = some v) : EnvOk n E' a :=
  ⟨h.size, h.defers, fun t v x => h.known t v (e t v x)⟩

/-- a slot that an operation writes -/
def putE (dst : Option Tmp) (v : Value) (E : Env) : Env := match dst with | some d => (d, v) :: E | none => E
def okD (n : Nat) : Option Tmp → Bool
  | some d => Nat.blt d n
  | none => true
theorem EnvOk.putE {n : Nat} {E : Env} {a : Act} (h : EnvOk n E a) {dst : Option Tmp} (hd : okD n dst = true) (v : Value) : EnvOk n (putE dst v E) (a.put dst v) := by
  cases dst with
  | none => exact h
  | some d => exact h.put (Nat.lt_of_succ_le (by simpa [okD, Nat.blt] using hd)) v

/- ---------- code over assertions ---------- -/
abbrev Post := Exit → Env → HProp → Prop
def lift (n : Nat) (G : HProp) (Q : Post) : Exit → Act → World → Prop :=
  fun e a w => ∃ E H, EnvOk n E a ∧ MW w ((star (H) (G))) ∧ Q e E H

/-- a piece of code from what is known to a postcondition -/
def sW (P : Program) (n : Nat) (c : Code) (E : Env) (H : HProp) (Q : Post) : Prop :=
  ∀ a w G, EnvOk n E a → MW w ((star (H) (G))) → c.wp P (lift n G Q) a w

/-- the operations that are left of a region -/
def wpL (P : Program) (ops : Array Oper) (Q : Exit → Act → World → Prop) : List Oper → Act → World → Prop
  | [], a, w => Q .normal a w
  | o :: rest, a, w =>
    if Region.wanted o (yielded ops a.tmps) then o.wp P a w (wpL P ops Q rest) Q ∨ (o.asks P a w ∧ LetsOut Q)
    else wpL P ops Q rest (a.put o.dst undef) w

def sL (P : Program) (n : Nat) (ops : Array Oper) (os : List Oper) (E : Env) (H : HProp) (Q : Post) : Prop :=
  ∀ a w G, EnvOk n E a → MW w ((star (H) (G))) → wpL P ops (lift n G Q) os a w

theorem wpL_range {P : Program} {ops : Array Oper} {Q : Exit → Act → World → Prop} (os : List Oper) : ∀ (k : Nat), ops.toList.drop k = os →
    ∀ a w, wpL P ops Q os a w → wpOps P ops Q (List.range' k os.length) a w := by
  induction os with
  | nil => intro k _ a w h; exact h
  | cons o rest ih =>
    intro k hk a w h
    have hk' : ops.toList.drop (k + 1) = rest := by
      have : ops.toList.drop (k + 1) = (ops.toList.drop k).drop 1 := by rw [List.drop_drop]
      rw [this, hk]; rfl
    have ho : ops[k]? = some o := by
      have := congrArg (fun l => l[0]?) hk
      simpa using this
    have ih' := ih (k + 1) hk'
    show wpOps P ops Q (k :: List.range' (k + 1) rest.length) a w
    rw [wpOps_cons]
    unfold wpOp
    rw [ho]
    simp only [wpL] at h
    split at h
    · rename_i hw
      simp only [hw, if_true]
      exact h.imp (fun x => Oper.wp_mono (fun a w => ih' a w) x) id
    · rename_i hw
      simp only [hw]
      exact ih' _ _ h

theorem sW_region {P : Program} {n id : Nat} {ops : Array Oper} {E : Env} {H : HProp} {Q : Post} (h : sL P n ops ops.toList E H Q) : sW P n (.region id ops false) E H Q := by
  intro a w G he hm
  refine wp_region ?_
  have := wpL_range (P := P) (Q := lift n G Q) ops.toList 0 (by simp) a w (h a w G he hm)
  rw [List.range_eq_range']
  simpa using this

theorem sL_nil {P : Program} {n : Nat} {ops : Array Oper} {E : Env} {H : HProp} {Q : Post} (h : Q .normal E H) : sL P n ops [] E H Q :=
  fun _ _ _ he hm => ⟨E, H, he, hm, h⟩

def thenP (N : Env → HProp → Prop) (Q : Post) : Post
  | .normal, E, H => N E H
  | e, E, H => Q e E H
theorem sW_seq {P : Program} {n : Nat} {x y : Code} {E : Env} {H : HProp} {Q : Post} (h : sW P n x E H (thenP (fun E H => sW P n y E H Q) Q)) : sW P n (x.seq y) E H Q := by
  intro a w G he hm
  refine wp_seq (wp_mono (h a w G he hm) ?_)
  rintro e a' w' ⟨E', H', he', hm', hq⟩
  cases e with
  | normal => exact hq a' w' G he' hm'
  | _ => exact ⟨E', H', he', hm', hq⟩
theorem sW_skip {P : Program} {n : Nat} {E : Env} {H : HProp} {Q : Post} (h : Q .normal E H) : sW P n .skip E H Q :=
  fun _ _ _ he hm => wp_skip ⟨E, H, he, hm, h⟩
theorem sW_label {P : Program} {n l : Nat} {E : Env} {H : HProp} {Q : Post} (h : Q .normal E H) : sW P n (.label l) E H Q :=
  fun _ _ _ he hm => wp_label ⟨E, H, he, hm, h⟩
theorem sW_ret {P : Program} {n : Nat} {E : Env} {H : HProp} {Q : Post} (h : Q .ret E H) : sW P n .ret E H Q :=
  fun _ _ _ he hm => wp_ret ⟨E, H, he, hm, h⟩
theorem sW_exit {P : Program} {n id : Nat} {E : Env} {H : HProp} {Q : Post} (h : Q (.exit id) E H) : sW P n (.exit id) E H Q :=
  fun _ _ _ he hm => wp_exit ⟨E, H, he, hm, h⟩
theorem sW_condT {P : Program} {n : Nat} {c : Operand} {x y : Code} {E : Env} {H : HProp} {Q : Post} (hc : ev E c = some (.bool true)) (h : sW P n x E H Q) : sW P n (.cond c x y) E H Q :=
  fun a w G he hm => wp_cond_true (he.ev hc) (h a w G he hm)
theorem sW_condF {P : Program} {n : Nat} {c : Operand} {x y : Code} {E : Env} {H : HProp} {Q : Post} (hc : ev E c = some (.bool false)) (h : sW P n y E H Q) : sW P n (.cond c x y) E H Q :=
  fun a w G he hm => wp_cond_false (he.ev hc) (h a w G he hm)
theorem sW_cond {P : Program} {n : Nat} {c : Operand} {x y : Code} {b : Bool} {E : Env} {H : HProp} {Q : Post} (hc : ev E c = some (.bool b))
    (ht : b = true → sW P n x E H Q) (hf : b = false → sW P n y E H Q) : sW P n (.cond c x y) E H Q :=
  fun a w G he hm => wp_cond_split (he.ev hc) (fun e => ht e a w G he hm) (fun e => hf e a w G he hm)
/-- a test by a proposition -/
theorem sW_if {P : Program} {n : Nat} {c : Operand} {x y : Code} {p : Prop} {dp : Decidable p} {E : Env} {H : HProp} {Q : Post} (hc : ev E c = some (.bool (@decide p dp)))
    (ht : p → sW P n x E H Q) (hf : ¬ p → sW P n y E H Q) : sW P n (.cond c x y) E H Q :=
  sW_cond hc (fun e => ht (of_decide_eq_true e)) (fun e => hf (of_decide_eq_false e))
theorem sW_ifn {P : Program} {n : Nat} {c : Operand} {x y : Code} {p : Prop} {dp : Decidable p} {E : Env} {H : HProp} {Q : Post} (hc : ev E c = some (.bool (!@decide p dp)))
    (ht : ¬ p → sW P n x E H Q) (hf : p → sW P n y E H Q) : sW P n (.cond c x y) E H Q :=
  sW_cond hc (fun e => ht (of_decide_eq_false (by simpa using e))) (fun e => hf (of_decide_eq_true (by simpa using e)))

def blockP (id : Nat) (Q : Post) : Post
  | .exit i, E, H => if i = id then Q .normal E H else Q (.exit i) E H
  | e, E, H => Q e E H
theorem sW_block {P : Program} {n id : Nat} {c : Code} {E : Env} {H : HProp} {Q : Post} (h : sW P n c E H (blockP id Q)) : sW P n (.block id c) E H Q := by
  intro a w G he hm
  refine wp_block (wp_mono (h a w G he hm) ?_)
  rintro e a' w' ⟨E', H', he', hm', hq⟩
  cases e with
  | exit i =>
    simp only [blockP] at hq
    simp only [Exit.inBlock]
    split <;> rename_i hi <;> simp only [hi, if_true, if_false] at hq <;> exact ⟨E', H', he', hm', hq⟩
  | _ => exact ⟨E', H', he', hm', hq⟩

theorem wp_loop_x {α : Type} {P : Program} {c : Code} {Q : Exit → Act → World → Prop} {a : Act} {w : World} (I : α → Act → World → Prop) (μ : α → Nat) (x₀ : α) (h₀ : I x₀ a w)
    (round : ∀ x a w, I x a w → c.wp P (Exit.then (fun a' w' => ∃ y, I y a' w' ∧ μ y < μ x) Q) a w) : (Code.loop c).wp P Q a w := by
  intro b k cs
  have key : ∀ m x a w, μ x = m → I x a w →
      ∃ e a' w', Q e a' w' ∧ Arrives P (lone (b.at a (.code c :: .inLoop c :: k)) cs w) b k cs e a' w' := by
    intro m
    induction m using Nat.strongRecOn with
    | _ m ih =>
      intro x a w hn hI
      obtain ⟨e, a₁, w₁, hq, harr⟩ := round x a w hI b (.inLoop c :: k) cs
      have pass : ∀ e, e ≠ .normal → Q e a₁ w₁ → Arrives P (lone (b.at a (.code c :: .inLoop c :: k)) cs w) b (.inLoop c :: k) cs e a₁ w₁ →
          ∃ e a' w', Q e a' w' ∧ Arrives P (lone (b.at a (.code c :: .inLoop c :: k)) cs w) b k cs e a' w' :=
        fun e hne hq harr => ⟨e, a₁, w₁, hq, .pass (x := .inLoop c) rfl (fun _ _ => .inl hne) harr⟩
      cases e with
      | normal =>
        obtain ⟨y, hI₁, hlt⟩ := hq
        obtain ⟨e₂, a₂, w₂, hq₂, harr₂⟩ := ih (μ y) (hn ▸ hlt) y a₁ w₁ rfl hI₁
        exact ⟨e₂, a₂, w₂, hq₂, .of_steps (Steps.trans harr (.one step_inLoop)) harr₂⟩
      | _ => exact pass _ (by simp) hq harr
  obtain ⟨e, a', w', hq, harr⟩ := key _ x₀ a w rfl h₀
  exact ⟨e, a', w', hq, .of_steps (.one step_loop) harr⟩

/-- a loop: what holds at each round's head, by a value that comes down -/
theorem sW_loop {α : Type} {P : Program} {n : Nat} {c : Code} {E : Env} {H : HProp} {Q : Post} (I : α → Env → HProp → Prop) (μ : α → Nat) (x₀ : α) (h₀ : I x₀ E H)
    (round : ∀ x E H, I x E H → sW P n c E H (thenP (fun E' H' => ∃ y, I y E' H' ∧ μ y < μ x) Q)) : sW P n (.loop c) E H Q := by
  intro a w G he hm
  refine wp_loop_x (fun x a w => ∃ E H, I x E H ∧ EnvOk n E a ∧ MW w ((star (H) (G)))) μ x₀ ⟨E, H, h₀, he, hm⟩ ?_
  rintro x a w ⟨E, H, hI, he, hm⟩
  refine wp_mono (round x E H hI a w G he hm) ?_
  rintro e a' w' ⟨E', H', he', hm', hq⟩
  cases e with
  | normal =>
    obtain ⟨y, hI', hlt⟩ := hq
    exact ⟨y, ⟨E', H', hI', he', hm'⟩, hlt⟩
  | _ => exact ⟨E', H', he', hm', hq⟩

theorem sW_mono {P : Program} {n : Nat} {c : Code} {E : Env} {H : HProp} {Q Q' : Post} (h : sW P n c E H Q) (q : ∀ e E H, Q e E H → Q' e E H) : sW P n c E H Q' :=
  fun a w G he hm => wp_mono (h a w G he hm) fun _ _ _ ⟨E', H', he', hm', hq⟩ => ⟨E', H', he', hm', q _ _ _ hq⟩
theorem sW_pre {P : Program} {n : Nat} {c : Code} {E : Env} {H H' : HProp} {Q : Post} (h : sW P n c E H' Q) (e : (ent (H) (H'))) : sW P n c E H Q :=
  fun a w G he hm => h a w G he (hm.mono (star_mono e (ent_refl _)))
theorem sW_env {P : Program} {n : Nat} {c : Code} {E E' : Env} {H : HProp} {Q : Post} (h : sW P n c E' H Q) (e : ∀ t v, look t E' = some v → look t E = some v) : sW P n c E H Q :=
  fun a w G he hm => h a w G (he.weak e) hm
end Go.Sl
namespace Go.Sl
open Go
variable [Amb]

/- ---------- a table of types ---------- -/
inductive TK where
  | int (k : IntKind) | bool | str | ptr (e : Nat) | slice (e : Nat) | array (n e : Nat) | map (k e : Nat) | func | iface
  | struct (fs : List (Nat × Nat × Bool))     -- where a field begins, how many cells it has, is it a struct or an array
  | other
structure TI where
  k : TK
  size : Nat
  bytes : Nat
  zero : List Value

def aggT (P : Program) (t : Nat) : Bool := match P.underlying t with | some (.struct _) | some (.array _ _) => true | _ => false
/-- how many cells a field has; 0: nothing is known -/
def fsize (P : Program) (t : Nat) : Nat := match P.underlying t with | some _ => ((P.info? t).map (·.size)).getD 0 | none => 0
def tkOf (P : Program) (t : Nat) : TK :=
  match P.underlying t with
  | some (.int k) => .int k
  | some .bool => .bool
  | some .string => .str
  | some (.pointer e) => .ptr e
  | some (.slice e) => .slice e
  | some (.array n e) => .array n e
  | some (.map k e) => .map k e
  | some (.func ..) => .func
  | some (.interface _) => .iface
  | some (.struct fs) => bif fs.toList.all (fun f => (P.info? f.type).isSome) then .struct (fs.toList.map fun f => (f.offset, fsize P f.type, aggT P f.type)) else .other
  | _ => .other
def zeroOk (P : Program) (t : Nat) : Value → Option (List Value)
  | .agg cs => if aggT P t then some cs.toList else none
  | .tuple _ => none
  | v => if aggT P t then none else some [v]
def tiOf (P : Program) (t : Nat) : Option TI :=
  match P.info? t with
  | none => none
  | some i =>
    match i.zero with
    | none => none
    | some z => match zeroOk P t z with
      | none => none
      | some zs => some { k := tkOf P t, size := i.size, bytes := i.bytes, zero := zs }

abbrev Tab := Nat → Option TI
def TabOk (P : Program) (T : Tab) : Prop := ∀ t i, T t = some i → tiOf P t = some i

/-- the table that a program has -/
class HasTab (P : Program) (T : outParam Tab) : Prop where
  ok : TabOk P T
theorem TabOk.of_list {P : Program} {T : Tab} (N : Nat) (hN : ∀ t, ¬ t < N → T t = none)
    (h : (List.range N).map T = (List.range N).map fun t => match T t with | none => none | some _ => tiOf P t) : TabOk P T := by
  intro t i ht
  by_cases hlt : t < N
  · have := congrArg (fun l : List (Option TI) => l[t]?) h
    simp only [List.getElem?_map, List.getElem?_range hlt, Option.map_some, ht, Option.some.injEq] at this
    exact this.symm
  · rw [hN t hlt] at ht; cases ht

def TK.agg : TK → Bool
  | .struct _ | .array _ _ => true
  | _ => false

section
variable {P : Program} {t : Nat} {i : TI}
theorem tiOf_info (h : tiOf P t = some i) : ∃ j z, P.info? t = some j ∧ j.zero = some z ∧ zeroOk P t z = some i.zero ∧ i.k = tkOf P t ∧ i.size = j.size ∧ i.bytes = j.bytes := by
  unfold tiOf at h
  split at h
  · cases h
  · rename_i j hj
    split at h
    · cases h
    · rename_i z hz
      split at h
      · cases h
      · rename_i zs hzs
        cases h
        exact ⟨j, z, hj, hz, hzs, rfl, rfl, rfl⟩
theorem tk_agg (h : tiOf P t = some i) (ho : i.k ≠ .other) : i.k.agg = aggT P t := by
  obtain ⟨j, z, _, _, _, hk, _⟩ := tiOf_info h
  unfold tkOf at hk
  unfold aggT
  split at hk <;> (try (rw [hk]; simp_all [TK.agg]; done))
  rename_i fs hfs
  cases hb : fs.toList.all (fun f => (P.info? f.type).isSome) <;> rw [hb] at hk <;> simp only [cond_true, cond_false] at hk
  · exact absurd hk ho
  · rw [hk]; simp [TK.agg, hfs]
theorem zero_of (h : tiOf P t = some i) : ∃ z, (∀ w, (zeroValue t).run P w = .ok z w) ∧ z.cells = ⟨i.zero⟩ ∧ (aggT P t = true → z = .agg ⟨i.zero⟩) := by
  obtain ⟨j, z, hj, hz, hzo, _⟩ := tiOf_info h
  refine ⟨z, fun w => by simp [zeroValue, typeInfo, program, hj, hz, Sem.run], ?_, ?_⟩
  · cases z <;> simp only [zeroOk] at hzo <;> (try split at hzo) <;> simp_all [Value.cells]
    rename_i cs _
    rw [← hzo]
  · intro ha
    cases z <;> simp_all [zeroOk]
    rename_i cs
    rw [← hzo]
theorem size_of (h : tiOf P t = some i) (w : World) : (sizeOf t).run P w = .ok i.size w := by
  obtain ⟨j, z, hj, _, _, _, hs, _⟩ := tiOf_info h
  simp [Go.sizeOf, typeInfo, program, hj, Sem.run, hs]
theorem info_of (h : tiOf P t = some i) : ∃ j, P.info? t = some j ∧ j.size = i.size ∧ j.bytes = i.bytes := by
  obtain ⟨j, z, hj, _, _, _, hs, hb⟩ := tiOf_info h
  exact ⟨j, hj, hs.symm, hb.symm⟩
theorem underlying_run {d : TypeDesc} (h : P.underlying t = some d) (w : World) : (underlying t).run P w = .ok d w := by
  simp [underlying, program, h, Sem.run]
theorem und_some (h : tiOf P t = some i) (hk : i.k ≠ .other) : ∃ d, P.underlying t = some d := by
  obtain ⟨j, z, _, _, _, hkk, _⟩ := tiOf_info h
  cases hd : P.underlying t with
  | some d => exact ⟨d, rfl⟩
  | none => exfalso; apply hk; rw [hkk]; unfold tkOf; rw [hd]
theorem und_int {k : IntKind} (h : tiOf P t = some i) (hk : i.k = .int k) : P.underlying t = some (.int k) := by
  obtain ⟨j, z, _, _, _, hkk, _⟩ := tiOf_info h
  rw [hk] at hkk; unfold tkOf at hkk; split at hkk <;> first | (simp_all; done) | (rename_i F hF; cases hb : F.toList.all (fun f => (P.info? f.type).isSome) <;> rw [hb] at hkk <;> simp at hkk)
theorem und_str (h : tiOf P t = some i) (hk : i.k = .str) : P.underlying t = some .string := by
  obtain ⟨j, z, _, _, _, hkk, _⟩ := tiOf_info h
  rw [hk] at hkk; unfold tkOf at hkk; split at hkk <;> first | (simp_all; done) | (rename_i F hF; cases hb : F.toList.all (fun f => (P.info? f.type).isSome) <;> rw [hb] at hkk <;> simp at hkk)
theorem und_bool (h : tiOf P t = some i) (hk : i.k = .bool) : P.underlying t = some .bool := by
  obtain ⟨j, z, _, _, _, hkk, _⟩ := tiOf_info h
  rw [hk] at hkk; unfold tkOf at hkk; split at hkk <;> first | (simp_all; done) | (rename_i F hF; cases hb : F.toList.all (fun f => (P.info? f.type).isSome) <;> rw [hb] at hkk <;> simp at hkk)
theorem und_ptr {e : Nat} (h : tiOf P t = some i) (hk : i.k = .ptr e) : P.underlying t = some (.pointer e) := by
  obtain ⟨j, z, _, _, _, hkk, _⟩ := tiOf_info h
  rw [hk] at hkk; unfold tkOf at hkk; split at hkk <;> first | (simp_all; done) | (rename_i F hF; cases hb : F.toList.all (fun f => (P.info? f.type).isSome) <;> rw [hb] at hkk <;> simp at hkk)
theorem und_slice {e : Nat} (h : tiOf P t = some i) (hk : i.k = .slice e) : P.underlying t = some (.slice e) := by
  obtain ⟨j, z, _, _, _, hkk, _⟩ := tiOf_info h
  rw [hk] at hkk; unfold tkOf at hkk; split at hkk <;> first | (simp_all; done) | (rename_i F hF; cases hb : F.toList.all (fun f => (P.info? f.type).isSome) <;> rw [hb] at hkk <;> simp at hkk)
theorem und_array {n e : Nat} (h : tiOf P t = some i) (hk : i.k = .array n e) : P.underlying t = some (.array n e) := by
  obtain ⟨j, z, _, _, _, hkk, _⟩ := tiOf_info h
  rw [hk] at hkk; unfold tkOf at hkk; split at hkk <;> first | (simp_all; done) | (rename_i F hF; cases hb : F.toList.all (fun f => (P.info? f.type).isSome) <;> rw [hb] at hkk <;> simp at hkk)
theorem und_map {k e : Nat} (h : tiOf P t = some i) (hk : i.k = .map k e) : P.underlying t = some (.map k e) := by
  obtain ⟨j, z, _, _, _, hkk, _⟩ := tiOf_info h
  rw [hk] at hkk; unfold tkOf at hkk; split at hkk <;> first | (simp_all; done) | (rename_i F hF; cases hb : F.toList.all (fun f => (P.info? f.type).isSome) <;> rw [hb] at hkk <;> simp at hkk)
theorem und_func (h : tiOf P t = some i) (hk : i.k = .func) : ∃ ps rs v, P.underlying t = some (.func ps rs v) := by
  obtain ⟨j, z, _, _, _, hkk, _⟩ := tiOf_info h
  rw [hk] at hkk; unfold tkOf at hkk
  split at hkk <;> first | (rename_i F hF; cases hb : F.toList.all (fun f => (P.info? f.type).isSome) <;> rw [hb] at hkk <;> simp at hkk; done) | (cases hkk; done) | exact ⟨_, _, _, by assumption⟩
theorem und_struct {fs : List (Nat × Nat × Bool)} (h : tiOf P t = some i) (hk : i.k = .struct fs) :
    ∃ F : Array Field, P.underlying t = some (.struct F) ∧ (fs = F.toList.map fun f => (f.offset, fsize P f.type, aggT P f.type)) ∧ ∀ f ∈ F.toList, ∃ j, P.info? f.type = some j := by
  obtain ⟨j, z, _, _, _, hkk, _⟩ := tiOf_info h
  rw [hk] at hkk; unfold tkOf at hkk
  split at hkk <;> (try (cases hkk; done))
  rename_i F hF
  cases hb : F.toList.all (fun f => (P.info? f.type).isSome) <;> rw [hb] at hkk <;> simp only [cond_true, cond_false] at hkk
  · cases hkk
  · cases hkk
    refine ⟨F, hF, rfl, fun f hf => ?_⟩
    have := List.all_eq_true.1 hb f hf
    exact Option.isSome_iff_exists.1 this
theorem isAgg_run (h : tiOf P t = some i) (hk : i.k ≠ .other) (w : World) : (isAgg t).run P w = .ok i.k.agg w := by
  obtain ⟨d, hd⟩ := und_some h hk
  rw [tk_agg h hk]
  unfold isAgg aggT
  simp only [Sem.run_bind, underlying_run hd w, Result.andThen_ok, hd]
  cases d <;> rfl
end

/- ---------- cells ---------- -/
def getL : List Value → Nat → Option Value
  | [], _ => none
  | v :: _, 0 => some v
  | _ :: l, n + 1 => getL l n
def dropL : Nat → List Value → Option (List Value)
  | 0, l => some l
  | _ + 1, [] => none
  | n + 1, _ :: l => dropL n l
def takeL : Nat → List Value → Option (List Value)
  | 0, _ => some []
  | _ + 1, [] => none
  | n + 1, v :: l => match takeL n l with | some r => some (v :: r) | none => none
def setL : List Value → Nat → Value → Option (List Value)
  | [], _, _ => none
  | _ :: l, 0, v => some (v :: l)
  | u :: l, n + 1, v => match setL l n v with | some r => some (u :: r) | none => none
def putL : List Value → Nat → List Value → Option (List Value)
  | l, _, [] => some l
  | l, n, v :: vs => match setL l n v with | some r => putL r (n + 1) vs | none => none

theorem getL_eq (l : List Value) (n : Nat) : getL l n = l[n]? := by
  induction l generalizing n with
  | nil => rfl
  | cons v l ih => cases n <;> simp [getL, ih]
theorem dropL_eq {n : Nat} {l r : List Value} (h : dropL n l = some r) : l.drop n = r ∧ n ≤ l.length := by
  induction n generalizing l with
  | zero => cases h; simp
  | succ n ih => cases l <;> simp [dropL] at h; have := ih h; simp_all
theorem takeL_eq {n : Nat} {l r : List Value} (h : takeL n l = some r) : l.take n = r ∧ n ≤ l.length := by
  induction n generalizing l r with
  | zero => cases h; simp
  | succ n ih =>
    cases l with
    | nil => simp [takeL] at h
    | cons v l =>
      simp only [takeL] at h
      split at h
      · rename_i r' hr; cases h; have := ih hr; simp_all
      · cases h
theorem setL_eq {l r : List Value} {n : Nat} {v : Value} (h : setL l n v = some r) : l.set n v = r ∧ n < l.length := by
  induction l generalizing n r with
  | nil => simp [setL] at h
  | cons u l ih =>
    cases n with
    | zero => simp [setL] at h; simp [h]
    | succ n =>
      simp only [setL] at h
      split at h
      · rename_i r' hr; cases h; have := ih hr; simp_all
      · cases h

/-- a value that fills one cell -/
def isCell : Value → Bool
  | .agg _ | .tuple _ => false
  | _ => true
end Go.Sl
namespace Go.Sl
open Go
variable [Amb]

def evs (E : Env) : List Operand → Option (List Value)
  | [] => some []
  | x :: xs => match ev E x with
    | some v => match evs E xs with
      | some vs => some (v :: vs)
      | none => none
    | none => none
theorem evs_eq {n : Nat} {E : Env} {a : Act} (h : EnvOk n E a) : ∀ {xs : List Operand} {vs : List Value}, evs E xs = some vs → xs.map a.eval = vs
  | [], vs, e => by cases e; rfl
  | x :: xs, vs, e => by
    simp only [evs] at e
    split at e
    · rename_i v hv
      split at e
      · rename_i us hus
        cases e
        simp [h.ev hv, evs_eq h hus]
      · cases e
    · cases e
theorem evs_arr {n : Nat} {E : Env} {a : Act} (h : EnvOk n E a) {xs : Array Operand} {vs : List Value} (e : evs E xs.toList = some vs) : xs.map a.eval = ⟨vs⟩ := by
  apply Array.ext'
  simp [evs_eq h e]

def bytesEq (a b : List UInt8) : Bool := decide (a = b)
def bytesLt : List UInt8 → List UInt8 → Bool := Go.Op.bytesLess

/-- a shift by a number that isn't below 0 -/
def shiftV (op : BinOp) (k : IntKind) (a : Int) : Int → Option Value
  | .ofNat m => match op with
    | .shl => some (.int k (k.wrap (a * 2 ^ min m k.bits)))
    | .shr => some (.int k (a.fdiv (2 ^ min m k.bits)))
    | _ => none
  | _ => none
/-- operators whose answer hangs on their operands alone -/
def binV (op : BinOp) : Value → Value → Option Value
  | .int k a, .int k' b =>
    match op with
    | .shl => shiftV .shl k a b
    | .shr => shiftV .shr k a b
    | op =>
    if k = k' then
      match op with
      | .add => some (.int k (k.wrap (a + b)))
      | .sub => some (.int k (k.wrap (a - b)))
      | .mul => some (.int k (k.wrap (a * b)))
      | .eql => some (.bool (decide (a = b)))
      | .neq => some (.bool (!decide (a = b)))
      | .lss => some (.bool (decide (a < b)))
      | .leq => some (.bool (decide (a ≤ b)))
      | .gtr => some (.bool (decide (a > b)))
      | .geq => some (.bool (decide (a ≥ b)))
      | .and => some (.int k (k.wrap (BitVec.ofInt k.bits a &&& BitVec.ofInt k.bits b).toNat))
      | .or => some (.int k (k.wrap (BitVec.ofInt k.bits a ||| BitVec.ofInt k.bits b).toNat))
      | .xor => some (.int k (k.wrap (BitVec.ofInt k.bits a ^^^ BitVec.ofInt k.bits b).toNat))
      | .andNot => some (.int k (k.wrap (BitVec.ofInt k.bits a &&& ~~~BitVec.ofInt k.bits b).toNat))
      | _ => none
    else none
  | .string ⟨⟨a⟩⟩, .string ⟨⟨b⟩⟩ =>
    match op with
    | .eql => some (.bool (decide (a = b)))
    | .neq => some (.bool (!decide (a = b)))
    | .lss => some (.bool (bytesLt a b))
    | .leq => some (.bool (bytesLt a b || decide (a = b)))
    | .gtr => some (.bool !(bytesLt a b || decide (a = b)))
    | .geq => some (.bool (!bytesLt a b))
    | _ => none
  | _, _ => none

theorem toList_mk (l : List UInt8) : (ByteArray.mk (Array.mk l)).toList = l := by
  rw [ByteArray.toList_eq]
theorem beq_decide {α : Type} [BEq α] [LawfulBEq α] [DecidableEq α] (a b : α) : (a == b) = decide (a = b) := by
  by_cases h : a = b <;> simp [h]

theorem binV_run {op : BinOp} {x y v : Value} (h : binV op x y = some v) (P : Program) (t : TypeId) (w : World) : (binOp op t x y).run P w = .ok v w := by
  unfold binV at h
  split at h
  · rename_i k a k' b
    have hs : ∀ o v, shiftV o k a b = some v → (binOp o t (.int k a) (.int k' b)).run P w = .ok v w := by
      intro o v h
      unfold shiftV at h
      split at h
      · rename_i m h
        have hneg : ¬ ((m : Int) < 0) := by omega
        split at h <;> cases h <;> simp [binOp, Go.Op.shift, hneg]
      · cases h
    split at h
    · exact hs _ _ h
    · exact hs _ _ h
    split at h
    · rename_i hk
      subst hk
      cases op <;> simp only [Option.some.injEq, reduceCtorEq] at h <;> subst h <;>
        simp [binOp, Go.Op.intArith, Go.Op.intBits, Go.Op.intCmp, beq_decide, bne]
    · cases h
  · rename_i a b
    cases op <;> simp only [Option.some.injEq, reduceCtorEq] at h <;> subst h <;>
      simp [binOp, Go.Op.stringOp, beq_decide, bytesLt]
  · cases h

/-- a part of a struct: one cell, or some -/
def partV (off size : Nat) (agg : Bool) (cs : List Value) : Option Value :=
  bif agg then (match dropL off cs with
    | some r => match takeL size r with
      | some q => some (.agg ⟨q⟩)
      | none => none
    | none => none)
  else getL cs off
def nthF : List (Nat × Nat × Bool) → Nat → Option (Nat × Nat × Bool)
  | [], _ => none
  | f :: _, 0 => some f
  | _ :: l, n + 1 => nthF l n
theorem nthF_eq (l : List (Nat × Nat × Bool)) (n : Nat) : nthF l n = l[n]? := by
  induction l generalizing n with
  | nil => rfl
  | cons v l ih => cases n <;> simp [nthF, ih]

/-- the cells of a struct or an array, out of its parts -/
def cellsOf : Value → Option (List Value)
  | .agg ⟨cs⟩ => some cs
  | .tuple _ => none
  | v => some [v]
theorem cellsOf_eq {v : Value} {cs : List Value} (h : cellsOf v = some cs) : v.cells = ⟨cs⟩ := by
  cases v <;> simp [cellsOf] at h <;> subst h <;> rfl
def lenIs : List Value → Nat → Bool
  | [], 0 => true
  | _ :: l, n + 1 => lenIs l n
  | _, _ => false
theorem lenIs_eq {l : List Value} {n : Nat} (h : lenIs l n = true) : l.length = n := by
  induction l generalizing n with
  | nil => cases n <;> simp [lenIs] at h ⊢
  | cons v l ih => cases n <;> simp [lenIs] at h ⊢; exact ih h
def fillV (place : Nat → Option (Nat × Nat)) (cells : List Value) : List (Nat × Operand) → Env → Option (List Value)
  | [], _ => some cells
  | (i, x) :: rest, E =>
    match ev E x with
    | none => none
    | some v =>
      match cellsOf v with
      | none => none
      | some cs =>
        match place i with
        | none => none
        | some (off, size) =>
          bif lenIs cs size && !cs.isEmpty then
            match putL cells off cs with
            | some r => fillV place r rest E
            | none => none
          else none

theorem putL_eq : ∀ (vs : List Value) (l : List Value) (n : Nat) (r : List Value), putL l n vs = some r →
    n + vs.length ≤ l.length ∨ vs = [] := by
  intro vs
  induction vs with
  | nil => intro l n r _; exact .inr rfl
  | cons v vs ih =>
    intro l n r h
    simp only [putL] at h
    split at h
    · rename_i l' hl
      obtain ⟨rfl, hn⟩ := setL_eq hl
      rcases ih _ _ _ h with h' | h'
      · left; simp at h' ⊢; omega
      · left; subst h'; simp; omega
    · cases h
theorem putL_foldl : ∀ (vs : List Value) (l : List Value) (n k : Nat) (r : List Value), putL l (n + k) vs = some r →
    ((vs.zipIdx k).foldl (fun (cs : Array Value) (x : Value × Nat) => cs.setIfInBounds (n + x.2) x.1) ⟨l⟩) = ⟨r⟩ := by
  intro vs
  induction vs with
  | nil => intro l n k r h; cases h; rfl
  | cons v vs ih =>
    intro l n k r h
    simp only [putL] at h
    split at h
    · rename_i l' hl
      obtain ⟨rfl, hn⟩ := setL_eq hl
      simp only [List.zipIdx_cons, List.foldl_cons]
      have := ih (l.set (n + k) v) n (k + 1) r (by rw [← Nat.add_assoc]; exact h)
      rw [← this]
      congr 1
      apply Array.ext'
      simp
    · cases h

theorem fill_eq {n : Nat} {E : Env} {a : Act} (he : EnvOk n E a) {place place' : Nat → Option (Nat × Nat)} (hp : ∀ i x, place i = some x → place' i = some x) : ∀ (ps : List (Nat × Operand)) (cells r : List Value), fillV place cells ps E = some r →
    Instr.fill place' ⟨cells⟩ (ps.map fun p => (p.1, a.eval p.2)) = some ⟨r⟩ := by
  intro ps
  induction ps with
  | nil => intro cells r h; cases h; rfl
  | cons p ps ih =>
    obtain ⟨i, x⟩ := p
    intro cells r h
    simp only [fillV] at h
    split at h
    · cases h
    rename_i v hv
    split at h
    · cases h
    rename_i cs hcs
    split at h
    · cases h
    rename_i off size hpl
    cases hl : lenIs cs size && !cs.isEmpty <;> simp only [hl, cond_true, cond_false] at h
    · cases h
    rw [Bool.and_eq_true] at hl
    split at h
    · rename_i r' hr'
      have hlen := lenIs_eq hl.1
      have h1 := ih r' r h
      have h2 : v.cells = ⟨cs⟩ := cellsOf_eq hcs
      have hbd : off + cs.length ≤ cells.length := by
        rcases putL_eq cs cells off r' hr' with hb | hb
        · exact hb
        · rw [hb] at hl; simp at hl
      have hf := putL_foldl cs cells off 0 r' hr'
      simp only [List.map_cons, Instr.fill, he.ev hv, hp _ _ hpl, h2]
      have hsz : ¬ ((Array.mk cs).size ≠ size || off + (Array.mk cs).size > (Array.mk cells).size) = true := by
        simp [hlen]; omega
      have hz : (Array.zipIdx ⟨cs⟩).foldl (fun (x : Array Value) (y : Value × Nat) => x.setIfInBounds (off + y.2) y.1) ⟨cells⟩ = ⟨r'⟩ := by
        rw [← hf, ← Array.foldl_toList]
        simp
      simp only [hsz, if_false, Bool.false_eq_true]
      rw [← h1]
      congr 1
    · cases h
end Go.Sl
namespace Go.Sl
open Go
variable [Amb]

def addA (a : Addr) (n : Nat) : Addr := match n with | 0 => a | n + 1 => ⟨a.block, a.off + (n + 1), none⟩
theorem addA_eq (a : Addr) (n : Nat) : addA a n = a.add n := by cases n <;> simp [addA, Addr.add]

def isIfaceK : TK → Bool
  | .iface => true
  | .other => true
  | _ => false
def minV : List Value → Option Value
  | [.int k a, .int k' b] => if k = k' then some (.int k (if b < a then b else a)) else none
  | [.int k a, .int k' b, .int k'' c] => if k = k' ∧ k = k'' then some (.int k (if c < (if b < a then b else a) then c else (if b < a then b else a))) else none
  | _ => none
def maxV : List Value → Option Value
  | [.int k a, .int k' b] => if k = k' then some (.int k (if b > a then b else a)) else none
  | [.int k a, .int k' b, .int k'' c] => if k = k' ∧ k = k'' then some (.int k (if c > (if b > a then b else a) then c else (if b > a then b else a))) else none
  | _ => none

def lenV (T : Tab) (t : Nat) (v : Value) : Option Value :=
  match T t with
  | none => none
  | some i =>
    match i.k, v with
    | .str, .string ⟨⟨l⟩⟩ => some (.int .i64 (l.length : Int))
    | .slice _, .slice _ n _ => some (.int .i64 (n : Int))
    | .array n _, _ => some (.int .i64 (n : Int))
    | .map _ _, .map none => some (.int .i64 0)
    | _, _ => none

/-- what is held against nil -/
def nilV (T : Tab) (t : Nat) (u v : Value) : Option Bool :=
  match T t with
  | none => none
  | some i =>
    match i.k, u, v with
    | .slice _, .slice a _ _, .slice none _ _ => some a.isNone
    | .ptr _, .pointer a, .pointer none => some a.isNone
    | .map _ _, .map a, .map none => some a.isNone
    | .func, .func _ _ _, .nilFunc => some false
    | .func, .nilFunc, .nilFunc => some true
    | _, _, _ => none
/-- the answer of an operation that touches no memory -/
def evalPure (T : Tab) (E : Env) : Op → Option Value
  | .move x => ev E x
  | .assign x => ev E x
  | .pick c a b =>
    match ev E c with
    | some (.bool b') => (match b' with | true => ev E a | false => ev E b)
    | _ => none
  | .nilCheck x =>
    match ev E x with
    | some (.pointer (some a)) => some (.pointer (some a))
    | some (.func (.func f) l r) => some (.func (.func f) l r)
    | some (.iface t v) => some (.iface t v)
    | _ => none
  | .binOp op t x y _ =>
    match ev E x with
    | some u => match ev E y with
      | some v => (match binV op u v with
        | some r => some r
        | none => (match op, nilV T t u v with
          | .eql, some b => some (.bool b)
          | .neq, some b => some (.bool (!b))
          | _, _ => none))
      | none => none
    | none => none
  | .unOp op _ x =>
    match op, ev E x with
    | .not, some (.bool b) => some (.bool (!b))
    | .neg, some (.int k n) => some (.int k (k.wrap (0 - n)))
    | _, _ => none
  | .convert s d x =>
    match T s with
    | none => none
    | some si => match T d with
      | none => none
      | some di =>
        match di.k, ev E x with
        | .int k, some (.int _ n) => (match si.k with | .int _ => some (.int k (k.wrap n)) | _ => none)
        | .str, some (.string b) => (match si.k with | .str => some (.string b) | _ => none)
        | _, _ => none
  | .fieldAddr s x f =>
    match T s with
    | none => none
    | some si => match si.k, ev E x with
      | .struct fs, some (.pointer (some ⟨b, o, none⟩)) => (match nthF fs f with
        | some (off, size, _) => (match size with
          | 0 => none
          | _ + 1 => (match off with
            | 0 => some (.pointer (some ⟨b, o, none⟩))
            | k + 1 => some (.pointer (some ⟨b, o + (k + 1), none⟩))))
        | none => none)
      | _, _ => none
  | .field s x f =>
    match T s with
    | none => none
    | some si => match si.k, ev E x with
      | .struct fs, some (.agg ⟨cs⟩) => (match nthF fs f with
        | some (off, size, agg) => (match size with | 0 => none | sz + 1 => partV off (sz + 1) agg cs)
        | none => none)
      | _, _ => none
  | .extract x i =>
    match ev E x with
    | some (.tuple ⟨vs⟩) => getL vs i
    | _ => none
  | .build t ps =>
    match T t with
    | none => none
    | some ti => match ti.k with
      | .struct fs => (match fillV (fun i => match nthF fs i with | some (off, size, _) => (match size with | 0 => none | sz + 1 => some (off, sz + 1)) | none => none) ti.zero ps.toList E with
        | some cs => some (.agg ⟨cs⟩)
        | none => none)
      | .array _ e => (match T e with
        | none => none
        | some ei => (match fillV (fun i => some (i * ei.size, ei.size)) ti.zero ps.toList E with
          | some cs => some (.agg ⟨cs⟩)
          | none => none))
      | _ => none
  | .makeInterface t x =>
    match T t with
    | none => none
    | some ti => bif isIfaceK ti.k then none else (match ev E x with | some v => some (.iface t v) | none => none)
  | .makeFunc fn l r =>
    match evs E l.toList with
    | some us => (match evs E r.toList with
      | some vs => some (.func fn ⟨us⟩ ⟨vs⟩)
      | none => none)
    | none => none
  | .call ⟨.builtin .len, args, ts⟩ =>
    match args.toList, ts.toList with
    | [x], [t] => (match ev E x with | some v => lenV T t v | none => none)
    | _, _ => none
  | .call ⟨.builtin .min, args, _⟩ => (match evs E args.toList with | some vs => minV vs | none => none)
  | .call ⟨.builtin .max, args, _⟩ => (match evs E args.toList with | some vs => maxV vs | none => none)
  | _ => none

theorem run_value {P : Program} {s : Sem Value} {v : Value} {w w' : World} (h : s.run P w = .ok v w') : (do Pure.pure (Next.value (← s)) : Sem Next).run P w = .ok (.value v) w' := by
  simp [h]

theorem fsize_run {P : Program} {t n : Nat} (h : fsize P t = n + 1) (w : World) : (∃ d, P.underlying t = some d) ∧ (sizeOf t).run P w = .ok (n + 1) w := by
  unfold fsize at h
  split at h
  · rename_i d hd
    refine ⟨⟨d, hd⟩, ?_⟩
    cases hh : P.info? t with
    | none => rw [hh] at h; simp at h
    | some i => rw [hh] at h; simp at h; simp [Go.sizeOf, typeInfo, program, hh, Sem.run, h]
  · cases h

theorem part_run {P : Program} {t off size : Nat} {agg : Bool} {cs : List Value} {v : Value} (hs : fsize P t = size + 1) (ha : aggT P t = agg)
    (h : partV off (size + 1) agg cs = some v) (w : World) : (part t ⟨cs⟩ off).run P w = .ok v w := by
  obtain ⟨⟨d, hd⟩, hsz⟩ := fsize_run hs w
  have hagg : (isAgg t).run P w = .ok agg w := by
    rw [← ha]
    unfold isAgg aggT
    simp only [Sem.run_bind, underlying_run hd w, Result.andThen_ok, hd]
    cases d <;> rfl
  unfold part
  unfold partV at h
  cases agg
  · rw [cond_false, getL_eq] at h
    simp [hagg, h]
  · rw [cond_true] at h
    split at h
    · rename_i r hr
      split at h
      · rename_i q hq
        cases h
        obtain ⟨h1, _⟩ := dropL_eq hr
        obtain ⟨h2, _⟩ := takeL_eq hq
        simp only [Sem.run_bind, hagg, Result.andThen_ok, if_true, hsz]
        have : (Array.mk cs).extract off (off + (size + 1)) = ⟨q⟩ := by
          apply Array.ext'
          simp [List.extract_eq_take_drop, h1, h2]
        rw [this]
        rfl
      · cases h
    · cases h

theorem size_mk (l : List UInt8) : (ByteArray.mk (Array.mk l)).size = l.length := rfl
theorem mapM_run {α β : Type} {P : Program} {w : World} {k : α → Sem β} {g : α → β} : ∀ {l : List α}, (∀ f ∈ l, (k f).run P w = .ok (g f) w) → (l.mapM k).run P w = .ok (l.map g) w
  | [], _ => rfl
  | f :: l, h => by
    rw [List.mapM_cons]
    simp only [Sem.run_bind, h f (by simp), Result.andThen_ok, mapM_run (l := l) (fun x hx => h x (by simp [hx])), Sem.run_pure, List.map_cons]

theorem minV_run {P : Program} {w : World} {A : Array TypeId} {t : TypeId} {vs : List Value} {v : Value} (h : minV vs = some v) : (Builtin.min_ A t ⟨vs⟩).run P w = .ok v w := by
  unfold minV at h
  split at h
  · split at h
    · rename_i hk; subst hk; cases h; simp [Builtin.min_, Builtin.min2]
    · cases h
  · split at h
    · rename_i hk; obtain ⟨h1, h2⟩ := hk; subst h1; subst h2; cases h; simp [Builtin.min_, Builtin.min2]
    · cases h
  · cases h
theorem maxV_run {P : Program} {w : World} {A : Array TypeId} {t : TypeId} {vs : List Value} {v : Value} (h : maxV vs = some v) : (Builtin.max_ A t ⟨vs⟩).run P w = .ok v w := by
  unfold maxV at h
  split at h
  · split at h
    · rename_i hk; subst hk; cases h; simp [Builtin.max_, Builtin.max2]
    · cases h
  · split at h
    · rename_i hk; obtain ⟨h1, h2⟩ := hk; subst h1; subst h2; cases h; simp [Builtin.max_, Builtin.max2]
    · cases h
  · cases h

theorem eq_slice_nil {P : Program} {t e : Nat} (hu : P.underlying t = some (.slice e)) (a : Option Addr) (n c m k : Nat) (w : World) : (Go.Op.equal t (.slice a n c) (.slice none m k)).run P w = .ok a.isNone w := by
  have h : ∀ d, (Go.Op.equalIn (d + 1) t (.slice a n c) (.slice none m k)).run P w = .ok a.isNone w := fun d => by
    simp only [Go.Op.equalIn, Sem.run_bind, underlying_run hu w, Result.andThen_ok]
    cases a <;> rfl
  exact h 9999
theorem eq_ptr_nil {P : Program} {t e : Nat} (hu : P.underlying t = some (.pointer e)) (a : Option Addr) (w : World) : (Go.Op.equal t (.pointer a) (.pointer none)).run P w = .ok a.isNone w := by
  have h : ∀ d, (Go.Op.equalIn (d + 1) t (.pointer a) (.pointer none)).run P w = .ok a.isNone w := fun d => by
    simp only [Go.Op.equalIn, Sem.run_bind, underlying_run hu w, Result.andThen_ok]
    cases a <;> rfl
  exact h 9999
theorem eq_map_nil {P : Program} {t k e : Nat} (hu : P.underlying t = some (.map k e)) (a : Option Nat) (w : World) : (Go.Op.equal t (.map a) (.map none)).run P w = .ok a.isNone w := by
  have h : ∀ d, (Go.Op.equalIn (d + 1) t (.map a) (.map none)).run P w = .ok a.isNone w := fun d => by
    simp only [Go.Op.equalIn, Sem.run_bind, underlying_run hu w, Result.andThen_ok]
    cases a <;> rfl
  exact h 9999
theorem eq_func_nil {P : Program} {t : Nat} {ps rs : Array TypeId} {vv : Bool} (hu : P.underlying t = some (.func ps rs vv)) (f : Fn) (l r : Array Value) (w : World) : (Go.Op.equal t (.func f l r) .nilFunc).run P w = .ok false w := by
  have h : ∀ d, (Go.Op.equalIn (d + 1) t (.func f l r) .nilFunc).run P w = .ok false w := fun d => by
    simp only [Go.Op.equalIn, Sem.run_bind, underlying_run hu w, Result.andThen_ok]
    rfl
  exact h 9999
theorem eq_nil_nil {P : Program} {t : Nat} {ps rs : Array TypeId} {vv : Bool} (hu : P.underlying t = some (.func ps rs vv)) (w : World) : (Go.Op.equal t .nilFunc .nilFunc).run P w = .ok true w := by
  have h : ∀ d, (Go.Op.equalIn (d + 1) t .nilFunc .nilFunc).run P w = .ok true w := fun d => by
    simp only [Go.Op.equalIn, Sem.run_bind, underlying_run hu w, Result.andThen_ok]
    rfl
  exact h 9999

theorem pure_run {P : Program} {T : Tab} (hT : TabOk P T) {n : Nat} {E : Env} {a : Act} (he : EnvOk n E a) {o : Oper} {v : Value} (h : evalPure T E o.op = some v) (w : World) :
    (execOp a.eval o).run P w = .ok (.value v) w := by
  obtain ⟨dst, op, type, pos, after, guard⟩ := o
  simp only at h
  cases op with
  | move x => simp only [evalPure] at h; simp [execOp, he.ev h]
  | assign x => simp only [evalPure] at h; simp [execOp, he.ev h]
  | pick c x y =>
    simp only [evalPure] at h
    split at h
    · rename_i b hb
      simp only [execOp, he.ev hb]
      cases b <;> simp only at h <;> simp [asBool, he.ev h]
    · cases h
  | nilCheck x =>
    simp only [evalPure] at h
    split at h <;> cases h <;> rename_i hx <;> simp [execOp, he.ev hx]
  | binOp op t x y t' =>
    simp only [evalPure] at h
    split at h
    · rename_i u hu
      split at h
      · rename_i v' hv
        simp only [execOp, he.ev hu, he.ev hv]
        refine run_value ?_
        split at h
        · rename_i r hr
          cases h
          have hb := binV_run hr P t w
          have hg : (eqGuard op t x y u v').run P w = .ok () w := by
            unfold binV at hr
            split at hr <;> first | (cases op <;> simp [eqGuard]; done) | cases hr
          simp [hg, hb]
        · have key : ∀ b, nilV T t u v' = some b → (eqGuard .eql t x y u v').run P w = .ok () w ∧ (eqGuard .neq t x y u v').run P w = .ok () w ∧ (binOp .eql t u v').run P w = .ok (.bool b) w ∧ (binOp .neq t u v').run P w = .ok (.bool (!b)) w := by
            intro b hb
            unfold nilV at hb
            split at hb
            · cases hb
            rename_i i hi
            have fin : ∀ b', (Go.Op.equal t u v').run P w = .ok b' w → ((binOp .eql t u v').run P w = ((Go.Op.equal t u v').run P w).andThen fun b w => .ok (.bool b) w) → ((binOp .neq t u v').run P w = ((Go.Op.equal t u v').run P w).andThen fun b w => .ok (.bool (!b)) w) →
                (eqGuard .eql t x y u v').run P w = .ok () w → (eqGuard .neq t x y u v').run P w = .ok () w → b' = b →
                (eqGuard .eql t x y u v').run P w = .ok () w ∧ (eqGuard .neq t x y u v').run P w = .ok () w ∧ (binOp .eql t u v').run P w = .ok (.bool b) w ∧ (binOp .neq t u v').run P w = .ok (.bool (!b)) w := by
              intro b' h1 h2 h2' h3 h4 h5
              subst h5
              exact ⟨h3, h4, by rw [h2, h1]; rfl, by rw [h2', h1]; rfl⟩
            split at hb <;> cases hb
            · exact fin _ (eq_slice_nil (und_slice (hT _ _ hi) (by assumption)) _ _ _ _ _ w) (by simp [binOp]) (by simp [binOp]) (by simp [eqGuard]) (by simp [eqGuard]) rfl
            · exact fin _ (eq_ptr_nil (und_ptr (hT _ _ hi) (by assumption)) _ w) (by simp [binOp]) (by simp [binOp]) (by simp [eqGuard]) (by simp [eqGuard]) rfl
            · exact fin _ (eq_map_nil (und_map (hT _ _ hi) (by assumption)) _ w) (by simp [binOp]) (by simp [binOp]) (by simp [eqGuard]) (by simp [eqGuard]) rfl
            · obtain ⟨ps, rs, vv, hu⟩ := und_func (hT _ _ hi) (by assumption)
              exact fin _ (eq_func_nil hu _ _ _ w) (by simp [binOp]) (by simp [binOp]) (by simp [eqGuard]) (by simp [eqGuard]) rfl
            · obtain ⟨ps, rs, vv, hu⟩ := und_func (hT _ _ hi) (by assumption)
              exact fin _ (eq_nil_nil hu w) (by simp [binOp]) (by simp [binOp]) (by simp [eqGuard]) (by simp [eqGuard]) rfl
          split at h <;> cases h
          · obtain ⟨h1, h2, h3, h4⟩ := key _ (by assumption)
            simp [h1, h3]
          · obtain ⟨h1, h2, h3, h4⟩ := key _ (by assumption)
            simp [h2, h4]
      · cases h
    · cases h
  | unOp op t x =>
    simp only [evalPure] at h
    split at h <;> cases h <;> rename_i hx <;> simp [execOp, he.ev hx, Go.Op.unary, Go.Op.intArith]
  | convert s d x =>
    simp only [evalPure] at h
    split at h
    · cases h
    rename_i si hsi
    split at h
    · cases h
    rename_i di hdi
    split at h
    · rename_i k k' m hk hx
      split at h
      · cases h
        rename_i k2 hk2
        simp only [execOp, he.ev hx]
        refine run_value ?_
        simp [convert, underlying_run (und_int (hT _ _ hsi) hk2) w, underlying_run (und_int (hT _ _ hdi) hk) w, Conv.intToInt]
      · cases h
    · rename_i b hk hx
      split at h
      · cases h
        rename_i hk2
        simp only [execOp, he.ev hx]
        refine run_value ?_
        simp [convert, underlying_run (und_str (hT _ _ hsi) hk2) w, underlying_run (und_str (hT _ _ hdi) hk) w]
      · cases h
    · cases h
  | fieldAddr s x f =>
    simp only [evalPure] at h
    split at h
    · cases h
    rename_i si hsi
    split at h
    · rename_i fs b o hk hx
      split at h
      · rename_i off size ag hf
        split at h
        · cases h
        · rename_i sz
          have hv : v = .pointer (some ((⟨b, o, none⟩ : Addr).add off)) := by
            split at h <;> cases h <;> simp [Addr.add]
          subst hv
          obtain ⟨F, hF, hfs, hfi⟩ := und_struct (hT _ _ hsi) hk
          rw [nthF_eq, hfs] at hf
          simp only [List.getElem?_map, Option.map_eq_some_iff, Prod.mk.injEq] at hf
          obtain ⟨g, hg, h1, h2, h3⟩ := hf
          simp only [execOp, he.ev hx]
          refine run_value ?_
          have hgF : F[f]? = some g := by simpa using hg
          have hsz := (fsize_run h2 w).2
          simp [Instr.fieldAt, underlying_run hF w, hgF, Instr.sureAddr, fieldPlace, hsz, h1]
      · cases h
    · cases h
  | field s x f =>
    simp only [evalPure] at h
    split at h
    · cases h
    rename_i si hsi
    split at h
    · rename_i fs cs hk hx
      split at h
      · rename_i off size ag hf
        cases size with
        | zero => cases h
        | succ sz =>
          simp only at h
          obtain ⟨F, hF, hfs, hfi⟩ := und_struct (hT _ _ hsi) hk
          rw [nthF_eq, hfs] at hf
          simp only [List.getElem?_map, Option.map_eq_some_iff, Prod.mk.injEq] at hf
          obtain ⟨g, hg, h1, h2, h3⟩ := hf
          simp only [execOp, he.ev hx]
          refine run_value ?_
          have hgF : F[f]? = some g := by simpa using hg
          simp [Instr.field, underlying_run hF w, hgF, asAgg, h1, part_run h2 h3 h w]
      · cases h
    · cases h
  | extract x i =>
    simp only [evalPure] at h
    split at h
    · rename_i vs hx
      rw [getL_eq] at h
      simp only [execOp, he.ev hx]
      refine run_value ?_
      simp [Instr.extract, h]
    · cases h
  | build t ps =>
    simp only [evalPure] at h
    split at h
    · cases h
    rename_i ti hti
    obtain ⟨z, hz, hzc, _⟩ := zero_of (hT _ _ hti)
    split at h
    · rename_i fs hk
      split at h
      · rename_i cs hcs
        cases h
        obtain ⟨F, hF, hfs, hfi⟩ := und_struct (hT _ _ hti) hk
        have hm : (F.mapM fun f => (do Pure.pure (f.offset, ← sizeOf f.type) : Sem (Nat × Nat))).run P w = .ok (F.map fun f => (f.offset, ((P.info? f.type).map (·.size)).getD 0)) w := by
          rw [Array.mapM_eq_mapM_toList]
          simp only [Sem.run_map]
          rw [mapM_run (g := fun f => (f.offset, ((P.info? f.type).map (·.size)).getD 0))]
          · simp only [Result.andThen_ok]; congr 1; apply Array.ext'; simp
          · intro f hf
            obtain ⟨j, hj⟩ := hfi f hf
            have hs : (sizeOf f.type).run P w = .ok j.size w := by simp [Go.sizeOf, typeInfo, program, hj, Sem.run]
            simp [hs, hj]
        have hf := fill_eq he (place' := fun i => (F.map fun f => (f.offset, ((P.info? f.type).map (·.size)).getD 0))[i]?) (fun i x hx => by
          split at hx
          · rename_i off size ag hn
            cases size with
            | zero => cases hx
            | succ sz =>
              cases hx
              rw [nthF_eq, hfs] at hn
              simp only [List.getElem?_map, Option.map_eq_some_iff, Prod.mk.injEq] at hn
              obtain ⟨g, hg, h1, h2, h3⟩ := hn
              have hgF : F[i]? = some g := by simpa using hg
              have h4 : ((P.info? g.type).map (·.size)).getD 0 = sz + 1 := by
                unfold fsize at h2
                split at h2
                · exact h2
                · cases h2
              simp [hgF, h1, h4]
          · cases hx) _ _ _ hcs
        simp only [execOp]
        refine run_value ?_
        simp only [Instr.build, Sem.run_bind, hz w, Result.andThen_ok, underlying_run hF w, hzc, hm]
        have hp : (ps.map fun x => (x.1, a.eval x.2)).toList = ps.toList.map fun p => (p.1, a.eval p.2) := by simp
        simp only [hp, hf]
        rfl
      · cases h
    · rename_i m e hk
      split at h
      · cases h
      rename_i ei hei
      split at h
      · rename_i cs hcs
        cases h
        have hf := fill_eq he (place' := fun i => some (i * ei.size, ei.size)) (fun _ _ h => h) _ _ _ hcs
        simp only [execOp]
        refine run_value ?_
        simp only [Instr.build, Sem.run_bind, hz w, Result.andThen_ok, underlying_run (und_array (hT _ _ hti) hk) w, size_of (hT _ _ hei) w, hzc]
        have hp : (ps.map fun x => (x.1, a.eval x.2)).toList = ps.toList.map fun p => (p.1, a.eval p.2) := by simp
        simp only [hp, hf]
        rfl
      · cases h
    · cases h
  | makeInterface t x =>
    simp only [evalPure] at h
    split at h
    · cases h
    rename_i ti hti
    cases hif : isIfaceK ti.k <;> simp only [hif, cond_true, cond_false] at h
    · split at h
      · rename_i v' hv
        cases h
        simp only [execOp, he.ev hv]
        refine run_value ?_
        obtain ⟨d, hd⟩ := und_some (hT _ _ hti) (by intro hk; rw [hk] at hif; cases hif)
        have hnd : ∀ ms, d ≠ .interface ms := by
          intro ms hms
          obtain ⟨_, _, _, _, _, hkk, _⟩ := tiOf_info (hT _ _ hti)
          subst hms
          rw [tkOf, hd] at hkk
          simp [isIfaceK, hkk] at hif
        unfold Instr.makeInterface
        simp only [Sem.run_bind, underlying_run hd w, Result.andThen_ok]
        cases d <;> first | rfl | exact absurd rfl (hnd _)
      · cases h
    · cases h
  | makeFunc fn l r =>
    simp only [evalPure] at h
    split at h
    · rename_i us hus
      split at h
      · rename_i vs hvs
        cases h
        simp only [execOp]
        refine run_value ?_
        rw [evs_arr he hus, evs_arr he hvs]
        rfl
      · cases h
    · cases h
  | call c =>
    obtain ⟨callee, args, ts⟩ := c
    cases callee with
    | builtin b =>
      cases b <;> simp only [evalPure, reduceCtorEq] at h
      case len =>
        split at h
        · rename_i x t hx ht
          split at h
          · rename_i v' hv
            simp only [execOp, resolve, Sem.run_bind, Sem.run_pure, Result.andThen_ok, invoke, builtin]
            have ha : args.map a.eval = ⟨[v']⟩ := by
              have : args = ⟨[x]⟩ := by apply Array.ext'; simpa using hx
              subst this
              simp [he.ev hv]
            have htt : ts = ⟨[t]⟩ := by apply Array.ext'; simpa using ht
            rw [ha]
            unfold lenV at h
            split at h
            · cases h
            rename_i i hi
            split at h <;> cases h
            · subst htt; simp [Builtin.len_, underlying_run (und_str (hT _ _ hi) (by assumption)) w, goInt, size_mk]
            · subst htt; simp [Builtin.len_, underlying_run (und_slice (hT _ _ hi) (by assumption)) w, goInt]
            · subst htt; simp [Builtin.len_, underlying_run (und_array (hT _ _ hi) (by assumption)) w, goInt]
            · subst htt; simp [Builtin.len_, underlying_run (und_map (hT _ _ hi) (by assumption)) w, goInt]
          · cases h
        · cases h
      case max =>
        split at h
        · rename_i vs hvs
          simp only [execOp, resolve, Sem.run_bind, Sem.run_pure, Result.andThen_ok, invoke, builtin, evs_arr he hvs, maxV_run h]
        · cases h
      case min =>
        split at h
        · rename_i vs hvs
          simp only [execOp, resolve, Sem.run_bind, Sem.run_pure, Result.andThen_ok, invoke, builtin, evs_arr he hvs, minV_run h]
        · cases h
    | _ => simp [evalPure] at h
  | _ => simp [evalPure] at h
end Go.Sl
namespace Go.Sl
open Go
variable [Amb]

/- ---------- guards ---------- -/
def dstAt : List Oper → Nat → Option Nat
  | [], _ => none
  | o :: _, 0 => o.dst
  | _ :: l, n + 1 => dstAt l n
theorem dstAt_eq (l : List Oper) (n : Nat) : dstAt l n = (l[n]?).bind (·.dst) := by
  induction l generalizing n with
  | nil => rfl
  | cons v l ih => cases n <;> simp [dstAt, ih]
def gdV (ops : Array Oper) (g : Option (Nat × Bool)) (E : Env) : Option Bool :=
  match g with
  | none => some true
  | some (j, want) =>
    match dstAt ops.toList j with
    | none => none
    | some d => match look d E with
      | some (.bool b) => some (match b, want with | true, true => true | false, false => true | true, false => false | false, true => false)
      | _ => none
theorem gd_eq {n : Nat} {E : Env} {a : Act} (he : EnvOk n E a) {ops : Array Oper} {o : Oper} {b : Bool} (h : gdV ops o.guard E = some b) : Region.wanted o (yielded ops a.tmps) = b := by
  unfold gdV at h
  unfold Region.wanted
  split at h
  · rename_i hg; cases h; rw [hg]
  · rename_i j want hg
    rw [hg]
    split at h
    · cases h
    · rename_i d hd
      split at h
      · rename_i b' hb'
        cases h
        rw [dstAt_eq] at hd
        have hk := he.known d _ hb'
        have hy : yielded ops a.tmps j = some b' := by
          unfold yielded
          have : (ops[j]?).bind (·.dst) = some d := by simpa using hd
          rw [this]
          simp only [Option.bind_some]
          have : a.tmps[d]? = some (.bool b') := by
            rw [Array.getD_eq_getD_getElem?] at hk
            cases hh : a.tmps[d]? with
            | none => rw [hh] at hk; simp [undef] at hk
            | some u => rw [hh] at hk; simpa using hk
          rw [this]
        simp only [hy]
        cases b' <;> cases want <;> rfl
      · cases h

section
variable {P : Program} {n : Nat} {ops : Array Oper} {o : Oper} {rest : List Oper} {E : Env} {H : HProp} {Q : Post} {T : Tab}

/-- an operation that gives a value, or does something -/
theorem sL_op (hg : gdV ops o.guard E = some true) (hd : okD n o.dst = true)
    (h : ∀ a w G, EnvOk n E a → MW w ((star (H) (G))) → ∃ v w' H', ((execOp a.eval o).run P w = .ok (.value v) w' ∨ ((execOp a.eval o).run P w = .ok .skip w' ∧ v = undef)) ∧ MW w' ((star (H') (G))) ∧
      sL P n ops rest (putE o.dst v E) H' Q) : sL P n ops (o :: rest) E H Q := by
  intro a w G he hm
  obtain ⟨v, w', H', hr, hm', hs⟩ := h a w G he hm
  simp only [wpL, gd_eq he hg, if_true]
  left
  have key := hs _ w' G (he.putE hd v) hm'
  rcases hr with hr | ⟨hr, rfl⟩
  · simpa only [Oper.wp, hr, Oper.upon] using key
  · simpa only [Oper.wp, hr, Oper.upon] using key
theorem sL_pure [hTT : HasTab P T] {v : Value} {d ty : Nat} {op : Op} {pos : String} {after : Array Edge} {g : Option (Nat × Bool)} (k : sL P n ops rest ((d, v) :: E) H Q) (hg : gdV ops g E = some true := by rfl) (hd : Nat.blt d n = true := by rfl) (hv : evalPure T E op = some v := by rfl) : sL P n ops (⟨some d, op, ty, pos, after, g⟩ :: rest) E H Q :=
  sL_op hg hd fun _ w _ he hm => ⟨v, w, H, .inl (pure_run hTT.ok he (o := ⟨some d, op, ty, pos, after, g⟩) hv w), hm, k⟩
theorem sL_off (k : sL P n ops rest (putE o.dst undef E) H Q) (hg : gdV ops o.guard E = some false := by rfl) (hd : okD n o.dst = true := by rfl) : sL P n ops (o :: rest) E H Q := by
  intro a w G he hm
  simp only [wpL, gd_eq he hg, Bool.false_eq_true, if_false]
  exact k _ w G (he.putE hd undef) hm
/-- a guard that isn't decided yet -/
theorem sL_split {os : List Oper} {d : Nat} {b : Bool} (ht : b = true → sL P n ops os ((d, .bool true) :: E) H Q) (hf : b = false → sL P n ops os ((d, .bool false) :: E) H Q) (hb : look d E = some (.bool b) := by rfl) : sL P n ops os E H Q := by
  intro a w G he hm
  have key : EnvOk n ((d, .bool b) :: E) a := by
    refine ⟨he.size, he.defers, fun t v e => ?_⟩
    simp only [look] at e
    by_cases hk : d = t
    · subst hk
      have : Nat.beq d d = true := by simp
      simp only [this, cond_true] at e
      cases e
      exact he.known _ _ hb
    · have hb : Nat.beq d t = false := by
        cases hh : Nat.beq d t with
        | false => rfl
        | true => exact absurd (Nat.eq_of_beq_eq_true hh) hk
      simp only [hb, cond_false] at e
      exact he.known t v e
  cases b
  · exact hf rfl a w G key hm
  · exact ht rfl a w G key hm
theorem sL_pre {os : List Oper} {H' : HProp} (h : sL P n ops os E H' Q) (e : (ent (H) (H'))) : sL P n ops os E H Q :=
  fun a w G he hm => h a w G he (hm.mono (star_mono e (ent_refl _)))
theorem sL_env {os : List Oper} {E' : Env} (h : sL P n ops os E' H Q) (e : ∀ t v, look t E' = some v → look t E = some v) : sL P n ops os E H Q :=
  fun a w G he hm => h a w G (he.weak e) hm
end

/- ---------- loads, stores, new blocks ---------- -/
def ldV (i : TI) (c : List Value) (off : Nat) : Option Value :=
  match i.k with
  | .struct _ => partV off i.size true c
  | .array _ _ => partV off i.size true c
  | .other => none
  | _ => getL c off
/-- the new cells of a block into which a value is stored -/
def putC : List Value → Nat → List Value → Option (List Value)
  | l, _, [] => some l
  | l, n, v :: vs => bif isCell v then (match setL l n v with | some r => putC r (n + 1) vs | none => none) else none
def stV (i : TI) (c : List Value) (off : Nat) (v : Value) : Option (List Value) :=
  match cellsOf v with
  | some vs => bif lenIs vs i.size then putC c off vs else none
  | none => none

theorem loadCells_run {P : Program} {w : World} {b off El : Nat} {c : List Value} {fr : Nat × Nat} (hb : w.heap[b]? = some (.cells ⟨c⟩ El fr)) :
    ∀ (k i : Nat) (acc : Array Value), off + i + k ≤ c.length → (loadCellsFrom ⟨b, off, none⟩ i k acc).run P w = .ok (acc ++ ⟨(c.drop (off + i)).take k⟩) w := by
  intro k
  induction k with
  | zero => intro i acc _; simp [loadCellsFrom]
  | succ k ih =>
    intro i acc h
    have hlt : off + i < c.length := by omega
    have hl : (load ((⟨b, off, none⟩ : Addr).add i)).run P w = .ok c[off + i] w := by
      have : w.cell? ((⟨b, off, none⟩ : Addr).add i) = some c[off + i] := by
        unfold Addr.add
        split
        · rename_i h0; subst h0; simp [World.cell?, hb, hlt]
        · simp [World.cell?, hb, hlt]
      simp [load, Sem.run, this]
    simp only [loadCellsFrom, Sem.run_bind, hl, Result.andThen_ok]
    rw [ih (i + 1) _ (by omega)]
    congr 1
    apply Array.ext'
    have : c.drop (off + i) = c[off + i] :: c.drop (off + i + 1) := by rw [List.drop_eq_getElem_cons hlt]
    simp [this, Nat.add_assoc]

theorem loadVar_run {P : Program} {T : Tab} (hT : TabOk P T) {w : World} {b off El t : Nat} {c : List Value} {fr : Nat × Nat} (hb : w.heap[b]? = some (.cells ⟨c⟩ El fr))
    {i : TI} (ht : T t = some i) {v : Value} (hv : ldV i c off = some v) : (loadVar t ⟨b, off, none⟩).run P w = .ok v w := by
  have hi := hT _ _ ht
  have hno : i.k ≠ .other := by intro h; rw [ldV, h] at hv; cases hv
  have hagg := isAgg_run hi hno w
  have hs := size_of hi w
  have aggc : i.k.agg = true → partV off i.size true c = some v → (loadVar t ⟨b, off, none⟩).run P w = .ok v w := by
    intro ha hp
    unfold partV at hp
    rw [cond_true] at hp
    split at hp
    · rename_i r hr
      split at hp
      · rename_i q hq
        cases hp
        obtain ⟨h1, h1'⟩ := dropL_eq hr
        obtain ⟨h2, h2'⟩ := takeL_eq hq
        rw [← h1] at h2'
        simp at h2'
        have hl := loadCells_run (P := P) (off := off) hb i.size 0 #[] (by omega)
        simp only [loadVar, Sem.run_bind, hagg, Result.andThen_ok, ha, if_true, hs, loadCells, hl]
        simp [h1, h2]
      · cases hp
    · cases hp
  have one : i.k.agg = false → getL c off = some v → (loadVar t ⟨b, off, none⟩).run P w = .ok v w := by
    intro ha hp
    rw [getL_eq] at hp
    simp only [loadVar, Sem.run_bind, hagg, Result.andThen_ok, ha, Bool.false_eq_true, if_false]
    have : w.cell? ⟨b, off, none⟩ = some v := by simp [World.cell?, hb, hp]
    simp [load, Sem.run, this]
  unfold ldV at hv
  cases hk : i.k <;> rw [hk] at hv <;> simp only at hv <;>
    first
      | exact aggc (by rw [hk]; rfl) hv
      | exact one (by rw [hk]; rfl) hv
      | cases hv

theorem setCell_heap {w : World} {b off El : Nat} {c : List Value} {fr : Nat × Nat} {v : Value} (hb : w.heap[b]? = some (.cells ⟨c⟩ El fr)) (j : Nat) :
    (w.setCell ⟨b, off, none⟩ v).heap[j]? = if j = b then some (.cells ⟨c.set off v⟩ El fr) else w.heap[j]? := by
  unfold World.setCell
  simp only [Array.getElem?_modify]
  by_cases h : j = b
  · subst h; simp [hb]
  · have : ¬ b = j := fun e => h e.symm
    simp [h, this]

theorem storeCells_run {P : Program} {b El : Nat} {fr : Nat × Nat} (hfr : fr.2 ≤ fr.1) : ∀ (vs : List Value) (c r : List Value) (off i : Nat) (w : World), w.heap[b]? = some (.cells ⟨c⟩ El fr) → putC c (off + i) vs = some r →
    ∃ w', (storeCells ⟨b, off, none⟩ vs i).run P w = .ok () w' ∧ Upd w w' b (.cells ⟨r⟩ El fr) := by
  intro vs
  induction vs with
  | nil => intro c r off i w hb h; cases h; exact ⟨w, rfl, fun j => by split <;> simp_all, rfl, rfl⟩
  | cons v vs ih =>
    intro c r off i w hb h
    simp only [putC] at h
    cases hc : isCell v <;> rw [hc] at h <;> simp only [cond_true, cond_false] at h
    · cases h
    split at h
    · rename_i r' hr'
      obtain ⟨h1, h2⟩ := setL_eq hr'
      have ha : (⟨b, off, none⟩ : Addr).add i = ⟨b, off + i, none⟩ := by
        unfold Addr.add; split
        · rename_i h0; subst h0; rfl
        · rfl
      have hcell : w.cell? ⟨b, off + i, none⟩ = some (c[off + i]'h2) := by simp [World.cell?, hb, h2]
      have hfz : w.frozen? ⟨b, off + i, none⟩ = false := by
        simp only [World.frozen?, hb]
        cases hh : (decide (fr.1 ≤ off + i) && decide (off + i < fr.2)) with
        | false => simp
        | true => simp at hh; omega
      have hrun : (store ⟨b, off + i, none⟩ v).run P w = .ok () (w.setCell ⟨b, off + i, none⟩ v) := by
        cases v <;> simp only [isCell, Bool.false_eq_true] at hc <;> simp [store, Sem.run, hcell, hfz]
      have hset := setCell_heap (v := v) (off := off + i) hb
      rw [h1] at hset
      obtain ⟨w', hw', hj⟩ := ih r' r off (i + 1) (w.setCell ⟨b, off + i, none⟩ v) (by rw [hset]; simp) (by rw [← Nat.add_assoc]; exact h)
      refine ⟨w', ?_, fun j => ?_, hj.os, hj.out⟩
      · simp only [storeCells, ha, Sem.run_bind, hrun, Result.andThen_ok, hw']
      · rw [hj.heap, hset]; split <;> rfl
    · cases h

theorem storeVar_run {P : Program} {T : Tab} (hT : TabOk P T) {w : World} {b off El t : Nat} {c r : List Value} {fr : Nat × Nat} (hfr : fr.2 ≤ fr.1) (hb : w.heap[b]? = some (.cells ⟨c⟩ El fr))
    {i : TI} (ht : T t = some i) {v : Value} (hv : stV i c off v = some r) :
    ∃ w', (storeVar t ⟨b, off, none⟩ v).run P w = .ok () w' ∧ Upd w w' b (.cells ⟨r⟩ El fr) := by
  have hs := size_of (hT _ _ ht) w
  unfold stV at hv
  split at hv
  · rename_i vs hvs
    have h2 := cellsOf_eq hvs
    cases hl : lenIs vs i.size <;> rw [hl] at hv <;> simp only [cond_true, cond_false] at hv
    · cases hv
    have hlen := lenIs_eq hl
    obtain ⟨w', h1, h3⟩ := storeCells_run (P := P) hfr vs c r off 0 w hb hv
    refine ⟨w', ?_, h3⟩
    simp [storeVar, hs, h2, hlen, h1]
  · cases hv

section
variable {P : Program} {n : Nat} {ops : Array Oper} {rest : List Oper} {E : Env} {H R : HProp} {Q : Post} {T : Tab} {pos : String} {after : Array Edge} {g : Option (Nat × Bool)} {ty : TypeId} {dst : Option Tmp}

theorem take_heap {w : World} {b : Nat} {ob : Obj} {G : HProp} (t : Take blk b H ob R) (hm : MW w ((star (H) (G)))) : MW w ((star (blk b ob) (((star (R) (G)))))) :=
  hm.mono (ent_trans (star_mono t.eqv (ent_refl _)) (star_assoc _ _ _))

theorem sL_load [hTT : HasTab P T] {t b off El : Nat} {x : Operand} {c : List Value} {fr : Nat × Nat} {i : TI} {v : Value} [tk : Take blk b H (.cells ⟨c⟩ El fr) R] (k : sL P n ops rest (putE dst v E) H Q) (hx : ev E x = some (.pointer (some ⟨b, off, none⟩))) (hg : gdV ops g E = some true := by rfl) (hd : okD n dst = true := by rfl) (ht : T t = some i := by rfl) (hv : ldV i c off = some v := by rfl) : sL P n ops (⟨dst, .load t x, ty, pos, after, g⟩ :: rest) E H Q :=
  sL_op hg hd fun a w G he hm => by
    refine ⟨v, w, H, .inl ?_, hm, k⟩
    simp only [execOp, he.ev hx, Instr.loadAt, Instr.sureAddr]
    refine run_value ?_
    simp only [Sem.run_bind, Sem.run_pure, Result.andThen_ok]
    exact loadVar_run hTT.ok (take_heap tk hm).blk ht hv
theorem sL_loadI [hTT : HasTab P T] {t b off El : Nat} {x : Operand} {c : List Value} {fr : Nat × Nat} {i : TI} {v : Value} [tk : Look imm b H (.cells ⟨c⟩ El fr)] (k : sL P n ops rest (putE dst v E) H Q) (hx : ev E x = some (.pointer (some ⟨b, off, none⟩))) (hg : gdV ops g E = some true := by rfl) (hd : okD n dst = true := by rfl) (ht : T t = some i := by rfl) (hv : ldV i c off = some v := by rfl) : sL P n ops (⟨dst, .load t x, ty, pos, after, g⟩ :: rest) E H Q :=
  sL_op hg hd fun a w G he hm => by
    refine ⟨v, w, H, .inl ?_, hm, k⟩
    simp only [execOp, he.ev hx, Instr.loadAt, Instr.sureAddr]
    refine run_value ?_
    simp only [Sem.run_bind, Sem.run_pure, Result.andThen_ok]
    exact loadVar_run hTT.ok (hm.imm (ent_trans (star_left _ _) tk.eqv)) ht hv
theorem sL_store [hTT : HasTab P T] {t b off El : Nat} {x y : Operand} {c r : List Value} {i : TI} {v : Value} [tk : Take blk b H (.cells ⟨c⟩ El (0, 0)) R] (k : sL P n ops rest (putE dst undef E) ((star (blk b (.cells ⟨r⟩ El (0, 0))) (R))) Q) (hx : ev E x = some (.pointer (some ⟨b, off, none⟩))) (hg : gdV ops g E = some true := by rfl) (hd : okD n dst = true := by rfl) (hy : ev E y = some v := by rfl) (ht : T t = some i := by rfl) (hv : stV i c off v = some r := by rfl) : sL P n ops (⟨dst, .store t x y, ty, pos, after, g⟩ :: rest) E H Q :=
  sL_op hg hd fun a w G he hm => by
    have hm' := take_heap tk hm
    obtain ⟨w', h1, h2⟩ := storeVar_run hTT.ok (Nat.le_refl 0) hm'.blk ht hv
    refine ⟨undef, w', (star (blk b (.cells ⟨r⟩ El (0, 0))) (R)), .inr ⟨?_, rfl⟩, (hm'.set _ w' h2).mono (star_assoc' _ _ _), k⟩
    simp only [execOp, he.ev hx, he.ev hy, Instr.storeAt, Instr.sureAddr, Sem.run_bind, Sem.run_pure, Result.andThen_ok, h1]
theorem sL_alloc [hTT : HasTab P T] {t sz eb : Nat} {ek : TK} {ez : List Value} (k : ∀ b, sL P n ops rest (putE dst (.pointer (some ⟨b, 0, none⟩)) E) ((star (blk b (.cells ⟨ez⟩ t (0, 0))) (H))) Q) (hg : gdV ops g E = some true := by rfl) (hd : okD n dst = true := by rfl) (ht : T t = some ⟨ek, sz, eb, ez⟩ := by rfl) : sL P n ops (⟨dst, .alloc t, ty, pos, after, g⟩ :: rest) E H Q :=
  sL_op hg hd fun a w G he hm => by
    obtain ⟨z, hz, hzc, _⟩ := zero_of (hTT.ok _ _ ht)
    refine ⟨_, _, _, .inl ?_, (hm.push (.cells ⟨ez⟩ t (0, 0))).mono (star_assoc' _ _ _), k _⟩
    simp only [execOp]
    refine run_value ?_
    simp [Instr.alloc, hz w, newVar, newRow, newObj, hzc, Sem.run]
theorem sL_box {t : Nat} {x : Operand} {v : Value} {cs : List Value} (k : ∀ b, sL P n ops rest (putE dst (.pointer (some ⟨b, 0, none⟩)) E) ((star (blk b (.cells ⟨cs⟩ t (0, 0))) (H))) Q) (hg : gdV ops g E = some true := by rfl) (hd : okD n dst = true := by rfl) (hx : ev E x = some v := by rfl) (hc : cellsOf v = some cs := by rfl) : sL P n ops (⟨dst, .box t x, ty, pos, after, g⟩ :: rest) E H Q :=
  sL_op hg hd fun a w G he hm => by
    refine ⟨_, _, _, .inl ?_, (hm.push (.cells ⟨cs⟩ t (0, 0))).mono (star_assoc' _ _ _), k _⟩
    simp only [execOp, he.ev hx]
    refine run_value ?_
    simp [Instr.box, newVar, newRow, newObj, cellsOf_eq hc, Sem.run]
end
end Go.Sl
namespace Go.Sl
open Go
variable [Amb]

def isFn (P : Program) (f : FuncId) : Bool := match P.funcs[f]? with | some fn => fn.body.isSome && !(fn.name == "runtime.NumGoroutine") | none => false

/-- the contract of a function that can be called -/
structure Con (P : Program) (f : FuncId) (args : List Value) (A : HProp) (R : Value → HProp → Prop) : Prop where
  fn : isFn P f = true
  tr : Tr P f ⟨args⟩ A R

theorem callFunc_run {P : Program} {f : FuncId} (h : isFn P f = true) (args : Array Value) (w : World) : (callFunc f args).run P w = .ok (.enter f args) w := by
  unfold isFn at h
  split at h
  · rename_i fn hf
    simp only [Bool.and_eq_true, Bool.not_eq_true'] at h
    obtain ⟨h1, h2⟩ := h
    have h1' : fn.body.isNone = false := by cases hh : fn.body <;> simp_all
    have h3 : fn.name ≠ "runtime.NumGoroutine" := by simpa using h2
    have h4 : fn.body ≠ none := by intro h; rw [h] at h1'; cases h1'
    simp [callFunc, program, hf, Sem.run, h3, h4]
  · cases h

section
variable {P : Program} {n : Nat} {ops : Array Oper} {rest : List Oper} {E : Env} {H Rem : HProp} {Q : Post} {T : Tab} {pos : String} {after : Array Edge} {g : Option (Nat × Bool)} {ty : TypeId} {dst : Option Tmp}

/-- a call of a function, or of a function value -/
theorem sL_call {fx : Operand} {args : Array Operand} {ats : Array TypeId} {f : FuncId} {us cs vs : List Value} {A : HProp} {R : Value → HProp → Prop} (hg : gdV ops g E = some true) (hd : okD n dst = true)
    (hf : ev E fx = some (.func (.func f) ⟨us⟩ ⟨cs⟩)) (ha : evs E args.toList = some vs) (C : Con P f (us ++ vs ++ cs) A R) (tk : (ent (H) (((star (A) (Rem))))))
    (k : ∀ v B, R v B → sL P n ops rest (putE dst v E) ((star (B) (Rem))) Q) : sL P n ops (⟨dst, .call ⟨.value fx, args, ats⟩, ty, pos, after, g⟩ :: rest) E H Q := by
  intro a w G he hm
  have hw := gd_eq (o := ⟨dst, .call ⟨.value fx, args, ats⟩, ty, pos, after, g⟩) he hg
  simp only [wpL, hw, if_true]
  left
  have hrun : (execOp a.eval ⟨dst, .call ⟨.value fx, args, ats⟩, ty, pos, after, g⟩).run P w = .ok (.enter f ⟨us ++ vs ++ cs⟩) w := by
    simp only [execOp, resolve, he.ev hf, evs_arr he ha, Deferred.ofValue, Sem.run_bind, Sem.run_pure, Result.andThen_ok, invoke]
    rw [callFunc_run C.fn]
    simp
  simp only [Oper.wp, hrun, Oper.upon]
  refine (C.tr w ((star (Rem) (G))) (hm.mono (ent_trans (star_mono tk (ent_refl _)) (star_assoc _ _ _)))).mono ?_
  rintro e w' ⟨v, B, rfl, hr, hm'⟩
  exact k v B hr _ w' G (he.putE hd v) (hm'.mono (star_assoc' _ _ _))

theorem sL_call0 {fx : Operand} {args : Array Operand} {ats : Array TypeId} {f : FuncId} {us cs vs : List Value} {R : Value → HProp → Prop} (k : ∀ v B, R v B → sL P n ops rest (putE dst v E) ((star (B) (H))) Q)
    (hf : ev E fx = some (.func (.func f) ⟨us⟩ ⟨cs⟩)) (ha : evs E args.toList = some vs) (C : Con P f (us ++ vs ++ cs) emp R) (hg : gdV ops g E = some true := by rfl) (hd : okD n dst = true := by rfl) :
    sL P n ops (⟨dst, .call ⟨.value fx, args, ats⟩, ty, pos, after, g⟩ :: rest) E H Q :=
  sL_call hg hd hf ha C (star_emp _) k
/-- a call of a function that only reckons -/
theorem sL_callV {fx : Operand} {args : Array Operand} {ats : Array TypeId} {f : FuncId} {us cs vs : List Value} {u : Value} (k : sL P n ops rest (putE dst u E) H Q)
    (hf : ev E fx = some (.func (.func f) ⟨us⟩ ⟨cs⟩)) (ha : evs E args.toList = some vs) (C : Con P f (us ++ vs ++ cs) emp (fun v _ => v = u)) (hg : gdV ops g E = some true := by rfl) (hd : okD n dst = true := by rfl) :
    sL P n ops (⟨dst, .call ⟨.value fx, args, ats⟩, ty, pos, after, g⟩ :: rest) E H Q :=
  sL_call hg hd hf ha C (star_emp _) fun v B hv => by subst hv; exact sL_pre k (star_right _ _)
theorem sL_call1 {κ α : Type} {p : κ → α → HProp} {b : κ} {x : α} {fx : Operand} {args : Array Operand} {ats : Array TypeId} {f : FuncId} {us cs vs : List Value} {R : α → Value → HProp → Prop} [tk : Take p b H x Rem] (k : ∀ v B, R x v B → sL P n ops rest (putE dst v E) ((star (B) (Rem))) Q)
    (hf : ev E fx = some (.func (.func f) ⟨us⟩ ⟨cs⟩)) (ha : evs E args.toList = some vs) (C : ∀ x, Con P f (us ++ vs ++ cs) (p b x) (R x)) (hg : gdV ops g E = some true := by rfl) (hd : okD n dst = true := by rfl) :
    sL P n ops (⟨dst, .call ⟨.value fx, args, ats⟩, ty, pos, after, g⟩ :: rest) E H Q :=
  sL_call hg hd hf ha (C x) tk.eqv k
theorem sL_call1c {κ α : Type} {p : κ → α → HProp} {b : κ} {x : α} {fx : Operand} {args : Array Operand} {ats : Array TypeId} {f : FuncId} {us cs vs : List Value} {φ : α → Prop} {R : α → Value → HProp → Prop} [tk : Take p b H x Rem] (k : ∀ v B, R x v B → sL P n ops rest (putE dst v E) ((star (B) (Rem))) Q)
    (hf : ev E fx = some (.func (.func f) ⟨us⟩ ⟨cs⟩)) (ha : evs E args.toList = some vs) (C : ∀ x, φ x → Con P f (us ++ vs ++ cs) (p b x) (R x)) (hφ : φ x := by first | omega | (simp only [List.length_append, List.length_cons, List.length_nil]; omega)) (hg : gdV ops g E = some true := by rfl) (hd : okD n dst = true := by rfl) :
    sL P n ops (⟨dst, .call ⟨.value fx, args, ats⟩, ty, pos, after, g⟩ :: rest) E H Q :=
  sL_call hg hd hf ha (C x hφ) tk.eqv k
theorem sL_call2 {κ α κ' α' : Type} {p : κ → α → HProp} {b : κ} {x : α} {p' : κ' → α' → HProp} {b' : κ'} {x' : α'} {Rem' : HProp} {fx : Operand} {args : Array Operand} {ats : Array TypeId} {f : FuncId} {us cs vs : List Value} {R : α → α' → Value → HProp → Prop} [tk : Take p b H x Rem] [tk' : Take p' b' Rem x' Rem']
    (k : ∀ v B, R x x' v B → sL P n ops rest (putE dst v E) ((star (B) (Rem'))) Q)
    (hf : ev E fx = some (.func (.func f) ⟨us⟩ ⟨cs⟩)) (ha : evs E args.toList = some vs) (C : ∀ x x', Con P f (us ++ vs ++ cs) ((star (p b x) (p' b' x'))) (R x x')) (hg : gdV ops g E = some true := by rfl) (hd : okD n dst = true := by rfl) :
    sL P n ops (⟨dst, .call ⟨.value fx, args, ats⟩, ty, pos, after, g⟩ :: rest) E H Q :=
  sL_call hg hd hf ha (C x x') (ent_trans tk.eqv (ent_trans (star_mono (ent_refl _) tk'.eqv) (star_assoc' _ _ _))) k
theorem sL_call2c {κ α κ' α' : Type} {p : κ → α → HProp} {b : κ} {x : α} {p' : κ' → α' → HProp} {b' : κ'} {x' : α'} {Rem' : HProp} {fx : Operand} {args : Array Operand} {ats : Array TypeId} {f : FuncId} {us cs vs : List Value} {φ : α → α' → Prop} {R : α → α' → Value → HProp → Prop} [tk : Take p b H x Rem] [tk' : Take p' b' Rem x' Rem']
    (k : ∀ v B, R x x' v B → sL P n ops rest (putE dst v E) ((star (B) (Rem'))) Q)
    (hf : ev E fx = some (.func (.func f) ⟨us⟩ ⟨cs⟩)) (ha : evs E args.toList = some vs) (C : ∀ x x', φ x x' → Con P f (us ++ vs ++ cs) ((star (p b x) (p' b' x'))) (R x x')) (hφ : φ x x' := by first | omega | (simp only [List.length_append, List.length_cons, List.length_nil]; omega)) (hg : gdV ops g E = some true := by rfl) (hd : okD n dst = true := by rfl) :
    sL P n ops (⟨dst, .call ⟨.value fx, args, ats⟩, ty, pos, after, g⟩ :: rest) E H Q :=
  sL_call hg hd hf ha (C x x' hφ) (ent_trans tk.eqv (ent_trans (star_mono (ent_refl _) tk'.eqv) (star_assoc' _ _ _))) k
end

/- ---------- a function's body ---------- -/
def argE : Nat → List Value → Env
  | _, [] => []
  | i, v :: vs => (i, v) :: argE (i + 1) vs
theorem look_argE (vs : List Value) : ∀ (i t : Nat) (v : Value), look t (argE i vs) = some v → i ≤ t ∧ vs[t - i]? = some v := by
  induction vs with
  | nil => intro i t v h; cases h
  | cons u vs ih =>
    intro i t v h
    simp only [argE, look] at h
    cases hb : Nat.beq i t <;> rw [hb] at h <;> simp only [cond_true, cond_false] at h
    · obtain ⟨h1, h2⟩ := ih _ _ _ h
      refine ⟨by omega, ?_⟩
      have : t - i = (t - (i + 1)) + 1 := by omega
      rw [this]; simpa using h2
    · have := Nat.eq_of_beq_eq_true hb
      subst this
      simpa using h

def tupV : List Value → Value
  | [v] => v
  | vs => .tuple ⟨vs⟩
/-- what stands in the result's slots, or in the variables that they lead to -/
inductive Res (T : Tab) (E : Env) (H : HProp) : List ResultVar → List Value → Prop
  | nil : Res T E H [] []
  | tmp {t : Nat} {v : Value} {rs : List ResultVar} {vs : List Value} : Res T E H rs vs → look t E = some v → Res T E H (.tmp t :: rs) (v :: vs)
  | cell {t b off El ty : Nat} {c : List Value} {fr : Nat × Nat} {i : TI} {v : Value} {rs : List ResultVar} {vs : List Value} {R : HProp} : Res T E H rs vs → look t E = some (.pointer (some ⟨b, off, none⟩)) → ((ent (H) (((star (blk b (.cells ⟨c⟩ El fr)) (R)))))) → T ty = some i → ldV i c off = some v → Res T E H (.cell t ty :: rs) (v :: vs)
theorem res_nil {T : Tab} {E : Env} {H : HProp} : Res T E H [] [] := .nil
theorem res_tmp {T : Tab} {E : Env} {H : HProp} {t : Nat} {v : Value} {rs : List ResultVar} {vs : List Value} (h : Res T E H rs vs) (hv : look t E = some v) : Res T E H (.tmp t :: rs) (v :: vs) := .tmp h hv
theorem res_cell {T : Tab} {E : Env} {H : HProp} {t b off El ty : Nat} {c : List Value} {fr : Nat × Nat} {i : TI} {v : Value} {rs : List ResultVar} {vs : List Value} {R : HProp} (h : Res T E H rs vs) (hp : look t E = some (.pointer (some ⟨b, off, none⟩)))
    [tk : Take blk b H (.cells ⟨c⟩ El fr) R] (ht : T ty = some i := by rfl) (hv : ldV i c off = some v := by rfl) : Res T E H (.cell t ty :: rs) (v :: vs) := .cell h hp tk.eqv ht hv

def resGet (tmps : Array Value) : ResultVar → Sem Value
  | .tmp t => Pure.pure (tmps.getD t undef)
  | .cell a t => do loadVar t (← asAddr (tmps.getD a undef))
theorem results_run {P : Program} {T : Tab} (hT : TabOk P T) {n : Nat} {E : Env} {H G : HProp} {a : Act} {w : World} (he : EnvOk n E a) (hm : MW w ((star (H) (G)))) {fn : Func} {rs : List ResultVar} {vs : List Value} (hr : fn.results = ⟨rs⟩) (h : Res T E H rs vs) :
    (results fn a.tmps).run P w = .ok (tupV vs) w := by
  have key : (rs.mapM (resGet a.tmps)).run P w = .ok vs w := by
    clear hr
    induction h with
    | nil => rfl
    | tmp h hv ih => simp only [List.mapM_cons, resGet, Sem.run_bind, Sem.run_pure, Result.andThen_ok, he.known _ _ hv, ih]
    | @cell t b off El ty c fr i v rs vs R h hp htk ht hv ih =>
      have hl := loadVar_run hT ((hm.mono (star_mono htk (ent_refl _))).mono (star_assoc _ _ _)).blk ht hv
      simp only [List.mapM_cons, resGet, Sem.run_bind, Sem.run_pure, Result.andThen_ok, he.known _ _ hp, asAddr, hl, ih]
  have hdef : results fn a.tmps = (do let vs ← fn.results.mapM (resGet a.tmps); Pure.pure (if h : vs.size = 1 then vs[0] else .tuple vs)) := rfl
  rw [hdef, hr, Array.mapM_eq_mapM_toList]
  simp only [Sem.run_bind, Sem.run_map, key, Result.andThen_ok]
  match vs with
  | [] => rfl
  | [v] => rfl
  | v :: u :: vs => simp [tupV]

/-- the end of a body -/
def retP (T : Tab) (rs : List ResultVar) (R : Value → HProp → Prop) : Post
  | .ret, E, H | .normal, E, H => ∃ vs H', Res T E H rs vs ∧ ((ent (H) (H'))) ∧ R (tupV vs) H'
  | _, _, _ => False
theorem ret_then {N : Env → HProp → Prop} {Q : Post} {E : Env} {H : HProp} (h : Q .ret E H) : thenP N Q .ret E H := h
theorem ret_block {i : Nat} {Q : Post} {E : Env} {H : HProp} (h : Q .ret E H) : blockP i Q .ret E H := h
theorem retI {T : Tab} {rs : List ResultVar} {R : Value → HProp → Prop} {E : Env} {H H' : HProp} {vs : List Value} (h : Res T E H rs vs) (hr : R (tupV vs) H') (he : (ent (H) (H'))) : retP T rs R .ret E H := ⟨vs, H', h, he, hr⟩
theorem retN {T : Tab} {rs : List ResultVar} {R : Value → HProp → Prop} {E : Env} {H H' : HProp} {vs : List Value} (h : Res T E H rs vs) (hr : R (tupV vs) H') (he : (ent (H) (H'))) : retP T rs R .normal E H := ⟨vs, H', h, he, hr⟩

theorem Con.of_body {P : Program} {T : Tab} [hTT : HasTab P T] {f n : Nat} {fn : Func} {c : Code} {args : List Value} {A : HProp} {R : Value → HProp → Prop} {rs : List ResultVar}
    (hf : P.funcs[f]? = some fn) (hb : fn.body = some c) (hok : (!(fn.name == "runtime.NumGoroutine")) = true) (hnn : fn.ntmps = n) (hres : fn.results = ⟨rs⟩) (hn : Nat.ble args.length n = true)
    (h : sW P n c (argE 0 args) A (retP T rs R)) : Con P f args A R := by
  subst hnn
  have hn' : args.length ≤ fn.ntmps := Nat.le_of_ble_eq_true hn
  refine ⟨by simp only [isFn, hf, hb, Option.isSome_some, Bool.true_and]; exact hok, ?_⟩
  intro w G hm
  refine calls_of_wp hf hb ?_
  refine wp_mono (h _ w G ⟨?_, rfl, ?_⟩ hm) ?_
  · simp; omega
  · intro t v e
    obtain ⟨_, h2⟩ := look_argE args 0 t v e
    simp only [Nat.sub_zero] at h2
    have hlt : t < args.length := by
      rcases Nat.lt_or_ge t args.length with h | h
      · exact h
      · rw [List.getElem?_eq_none h] at h2; cases h2
    rw [Array.getD_eq_getD_getElem?, Array.getElem?_append_left (by simpa using hlt)]
    simp only [List.getElem?_toArray, h2, Option.getD_some]
  · rintro e a' w' ⟨E', H', he', hm', hq⟩
    cases e <;> simp only [retP] at hq
    all_goals
      obtain ⟨vs, H'', h1, h2, h3⟩ := hq
      exact ⟨he'.defers, tupV vs, results_run hTT.ok he' hm' hres h1, tupV vs, H'', rfl, h3, hm'.mono (star_mono h2 (ent_refl _))⟩
end Go.Sl
