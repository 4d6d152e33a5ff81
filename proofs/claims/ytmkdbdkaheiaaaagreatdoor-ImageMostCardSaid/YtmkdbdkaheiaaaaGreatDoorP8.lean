/- Helpers for the claim (a logic of assertions over the heap, contracts of the program's functions): no condition beyond each theorem's own premises. -/
import Derived.Test.YtmkdbdkaheiaaaaGreatDoorP5
import GoSem.ClaimChange
import Derived.Laws.RangeString
set_option linter.all false
namespace Go.Sl
open Go
/-- a world whose blocks nobody changes -/
def allOf (W : World) : HProp := ⟨fun _ I => ∀ (b : Nat) (o : Obj), W.heap[b]? = some o → I b = some o, fun _ hi h b o hb => hi _ _ (h b o hb)⟩
/-- a contract whose premise holds of unchanging blocks alone: what lay before the call lies as it lay -/
theorem Con.keeps {P : Program} {f : FuncId} {args : List Value} (W : World) {A : HProp} {R : Value → HProp → Prop}
    (C : @Con ⟨W.os, W.output⟩ P f args A R) (hA : (ent (allOf W) (A))) :
    Calls P f ⟨args⟩ W fun e w' => ∃ v B, e = .returned v ∧ R v B ∧ W.keptBut w' (fun _ => False) ∧ W.heap.size ≤ w'.heap.size ∧ (∀ (b : Nat) (o : Obj), W.heap[b]? = some o → w'.heap[b]? = some o) := by
  letI : Amb := ⟨W.os, W.output⟩
  have hm : MW W ((star (A) (allOf W))) := by
    refine MW.mono (A := allOf W) ⟨Hp.emp, fun b => W.heap[b]?, ⟨fun b => .inl rfl, rfl, rfl⟩, fun b o h => (by cases h), fun b o h => h, fun b o h => h⟩ ?_
    intro O I h
    exact ⟨O, Hp.emp, fun _ => .inr rfl, Hp.le_refl _, Hp.emp_le _, hA O I h, h⟩
  refine Calls.mono (C.tr W (allOf W) hm) ?_
  rintro e w' ⟨v, B, rfl, hr, hm'⟩
  obtain ⟨O, I, ⟨_, ho, hp⟩, _, hi, hh⟩ := hm'
  have hk : ∀ (b : Nat) (o : Obj), W.heap[b]? = some o → w'.heap[b]? = some o := by
    obtain ⟨_, _, _, _, _, _, hall⟩ := hh
    exact fun b o hb => hi b o (hall b o hb)
  refine ⟨v, B, rfl, hr, ⟨ho, hp, fun i hlt => ?_⟩, ?_, hk⟩
  · have h1 : W.heap[i]? = some W.heap[i] := Array.getElem?_eq_getElem hlt
    rw [h1, hk _ _ h1]
    cases W.heap[i] <;> simp
  · rcases Nat.eq_zero_or_pos W.heap.size with h | h
    · omega
    · have h1 : W.heap[W.heap.size - 1]? = some W.heap[W.heap.size - 1] := Array.getElem?_eq_getElem (by omega)
      have h2 := hk _ _ h1
      have := (Array.getElem?_eq_some_iff.1 h2).1
      omega
end Go.Sl
namespace Go.Sl
open Go
variable [Amb]
/-- a range over a text of ASCII letters -/
def strIt (q : Nat) (x : BStr × Nat) : HProp := blk q (.stringIter ⟨⟨x.1⟩⟩ x.2)
section
variable {P : Program} {T : Tab} {n : Nat} {ops : Array Oper} {rest : List Oper} {E : Env} {H R R2 : HProp} {Q : Post} {pos : String} {after : Array Edge} {g : Option (Nat × Bool)} {ty : TypeId} {d : Nat} {dst : Option Tmp}
theorem sL_rangeS [hTT : HasTab P T] {xt : Nat} {xi : TI} {l : BStr} {mx : Operand} (kk : ∀ q, sL P n ops rest ((d, .pointer (some ⟨q, 0, none⟩)) :: E) ((star (strIt q (l, 0)) (H))) Q)
    (hmx : ev E mx = some (sval l)) (hx : T xt = some xi := by rfl) (hxk : xi.k = .str := by rfl)
    (hg : gdV ops g E = some true := by rfl) (hd : Nat.blt d n = true := by rfl) : sL P n ops (⟨some d, .range xt mx, ty, pos, after, g⟩ :: rest) E H Q :=
  sL_op hg hd fun ac w G hE hm => by
    have hu := und_str (hTT.ok _ _ hx) hxk
    refine ⟨_, _, _, .inl ?_, (hm.push (.stringIter ⟨⟨l⟩⟩ 0)).mono (star_assoc' _ _ _), kk _⟩
    simp only [execOp, hE.ev hmx]
    refine run_value ?_
    unfold sval
    rw [run_range_string w xt ⟨⟨l⟩⟩ hu]
    rfl
/-- the next letter -/
theorem sL_nextS {q p : Nat} {l : BStr} {ix : Operand} [tk : Take strIt q H (l, p) R] (ha : ∀ b ∈ l, b.toNat < 128)
    (k0 : ¬ p < l.length → sL P n ops rest (putE dst (.tuple ⟨[.bool false]⟩) E) ((star (strIt q (l, p)) (R))) Q)
    (k1 : ∀ h : p < l.length, sL P n ops rest (putE dst (.tuple ⟨[.bool true, .int .i64 p, .int .i32 (l[p].toNat : Int)]⟩) E) ((star (strIt q (l, p + 1)) (R))) Q)
    (hix : ev E ix = some (.pointer (some ⟨q, 0, none⟩))) (hg : gdV ops g E = some true := by rfl) (hd : okD n dst = true := by rfl) : sL P n ops (⟨dst, .next ix true, ty, pos, after, g⟩ :: rest) E H Q :=
  sL_op hg hd fun ac w G hE hm => by
    have hm2 : MW w ((star (blk q (.stringIter ⟨⟨l⟩⟩ p)) (((star (R) (G)))))) := (hm.mono (star_mono tk.eqv (ent_refl _))).mono (star_assoc _ _ _)
    have hq := hm2.blk
    have hs : (⟨⟨l⟩⟩ : ByteArray).size = l.length := rfl
    have hrun : ∀ v w', (Instr.next (.pointer (some ⟨q, 0, none⟩)) true ty).run P w = .ok v w' → (execOp ac.eval ⟨dst, .next ix true, ty, pos, after, g⟩).run P w = .ok (.value v) w' := by
      intro v w' h
      simp only [execOp, hE.ev hix]
      exact run_value h
    by_cases hp : p < l.length
    · have hat : ((⟨⟨l⟩⟩ : ByteArray)[p]'hp) = l[p] := rfl
      have hlow : ((⟨⟨l⟩⟩ : ByteArray)[p]'hp).toNat < 128 := ha _ (List.getElem_mem hp)
      refine ⟨_, { w with heap := w.heap.setIfInBounds q (.stringIter ⟨⟨l⟩⟩ (p + 1)) }, _, .inl (hrun _ _ ?_), (hm2.set _ _ (set_heap hq (.stringIter ⟨⟨l⟩⟩ (p + 1)))).mono (star_assoc' _ _ _), k1 hp⟩
      simp only [Instr.next, getObj, setObj, Sem.run_bind, Sem.run, hq, Result.andThen, hs, hp, if_true, decode_ascii ⟨⟨l⟩⟩ p hp hlow]
      simp [goInt, Sem.run, hq, hat]
    · refine ⟨_, w, _, .inl (hrun _ _ ?_), hm2.mono (star_assoc' _ _ _), k0 hp⟩
      simp [Instr.next, getObj, Sem.run, hq, hs, hp]
end
end Go.Sl
namespace Go.Sl
open Go
variable [Amb]
/-- two values of a struct type that bears no interface are compared -/
structure EqA (P : Program) (t : Nat) (u v : List Value) (b : Bool) : Prop where
  guard : P.eqGuardType P.depth t = false
  eq : ∀ w, (Op.equal t (.agg ⟨u⟩) (.agg ⟨v⟩)).run P w = .ok b w
theorem EqA.eql {P : Program} {t : Nat} {u v : List Value} {b : Bool} (h : EqA P t u v b) (x y : Operand) (w : World) :
    (do eqGuard .eql t x y (.agg ⟨u⟩) (.agg ⟨v⟩); binOp .eql t (.agg ⟨u⟩) (.agg ⟨v⟩) : Sem Value).run P w = .ok (.bool b) w := by
  have hg : (eqGuard .eql t x y (.agg ⟨u⟩) (.agg ⟨v⟩)).run P w = .ok () w := by
    simp [eqGuard, program, Sem.run, h.guard]
  rw [Sem.run_bind, hg]
  simp [binOp, h.eq w]
theorem EqA.neq {P : Program} {t : Nat} {u v : List Value} {b : Bool} (h : EqA P t u v b) (x y : Operand) (w : World) :
    (do eqGuard .neq t x y (.agg ⟨u⟩) (.agg ⟨v⟩); binOp .neq t (.agg ⟨u⟩) (.agg ⟨v⟩) : Sem Value).run P w = .ok (.bool (!b)) w := by
  have hg : (eqGuard .neq t x y (.agg ⟨u⟩) (.agg ⟨v⟩)).run P w = .ok () w := by
    simp [eqGuard, program, Sem.run, h.guard]
  rw [Sem.run_bind, hg]
  simp [binOp, h.eq w]
section
variable {P : Program} {T : Tab} {n : Nat} {ops : Array Oper} {rest : List Oper} {E : Env} {H K : HProp} {Q : Post} {pos : String} {after : Array Edge} {g : Option (Nat × Bool)} {ty t t' d : Nat} {x y : Operand} {u v : List Value} {b : Bool}
theorem sL_eqA (h : EqA P t u v b) (kk : sL P n ops rest ((d, .bool b) :: E) H Q) (hx : ev E x = some (.agg ⟨u⟩)) (hy : ev E y = some (.agg ⟨v⟩)) (hg : gdV ops g E = some true := by rfl) (hd : Nat.blt d n = true := by rfl) :
    sL P n ops (⟨some d, .binOp .eql t x y t', ty, pos, after, g⟩ :: rest) E H Q :=
  sL_op hg hd fun ac w G hE hm => by
    refine ⟨_, w, H, .inl ?_, hm, kk⟩
    simp only [execOp, hE.ev hx, hE.ev hy]
    exact run_value (h.eql x y w)
theorem sL_neA (h : EqA P t u v b) (kk : sL P n ops rest ((d, .bool (!b)) :: E) H Q) (hx : ev E x = some (.agg ⟨u⟩)) (hy : ev E y = some (.agg ⟨v⟩)) (hg : gdV ops g E = some true := by rfl) (hd : Nat.blt d n = true := by rfl) :
    sL P n ops (⟨some d, .binOp .neq t x y t', ty, pos, after, g⟩ :: rest) E H Q :=
  sL_op hg hd fun ac w G hE hm => by
    refine ⟨_, w, H, .inl ?_, hm, kk⟩
    simp only [execOp, hE.ev hx, hE.ev hy]
    exact run_value (h.neq x y w)
theorem sF_eqA {Q : Env → HProp → Prop} {rest : List (Tg × Oper)} (h : EqA P t u v b) (kk : sF P n ops K Q rest ((d, .bool b) :: E) H) (hx : ev E x = some (.agg ⟨u⟩)) (hy : ev E y = some (.agg ⟨v⟩)) (hg : gdV ops g E = some true := by rfl) (hd : Nat.blt d n = true := by rfl) :
    sF P n ops K Q ((.v, ⟨some d, .binOp .eql t x y t', ty, pos, after, g⟩) :: rest) E H :=
  sF_val kk hd fun _ hE => .inl ⟨gd_eq hE hg, fun w _ _ => by
    simp only [execOp, hE.ev hx, hE.ev hy]
    exact run_value (h.eql x y w)⟩
theorem sF_neA {Q : Env → HProp → Prop} {rest : List (Tg × Oper)} (h : EqA P t u v b) (kk : sF P n ops K Q rest ((d, .bool (!b)) :: E) H) (hx : ev E x = some (.agg ⟨u⟩)) (hy : ev E y = some (.agg ⟨v⟩)) (hg : gdV ops g E = some true := by rfl) (hd : Nat.blt d n = true := by rfl) :
    sF P n ops K Q ((.v, ⟨some d, .binOp .neq t x y t', ty, pos, after, g⟩) :: rest) E H :=
  sF_val kk hd fun _ hE => .inl ⟨gd_eq hE hg, fun w _ _ => by
    simp only [execOp, hE.ev hx, hE.ev hy]
    exact run_value (h.neq x y w)⟩
end
end Go.Sl
