/- Helpers for the claim (a logic of assertions over the heap, contracts of the program's functions): no condition beyond each theorem's own premises. -/
import Derived.Test.YtmkdbdkaheiaaaaGreatDoorP7
import Derived.Test.YtmkdbdkaheiaaaaGreatDoorP8
set_option linter.all false
namespace Go.Proofs.YtmkdbdkaheiaaaaGreatDoor
open Go Go.Sl
variable [Amb]
set_option linter.unusedSectionVars false
set_option linter.unusedVariables false
set_option maxRecDepth 100000
attribute [local irreducible] sW sL sF
def opC (k : Nat) (a b : Str) (n r : Nat) : List Value := [.int .u8 k, sv a, sv b, .int .u8 n, .int .u8 r]
theorem eqU8 (d : Nat) (x y : Nat) (w : World) : (Op.equalIn (d + 1) 5 (.int .u8 x) (.int .u8 y)).run Tryz.prog w = .ok (decide (x = y)) w := by
  simp only [Op.equalIn, Sem.run_bind, underlying_run Tryz.underlying5 w, Result.andThen_ok, if_true, Sem.run_pure]
  congr 1
  rw [beq_decide]
  exact decide_eq_decide.2 (by omega)
theorem eqRel (d : Nat) (x y : Nat) (w : World) : (Op.equalIn (d + 1) 30 (.int .u8 x) (.int .u8 y)).run Tryz.prog w = .ok (decide (x = y)) w := by
  simp only [Op.equalIn, Sem.run_bind, underlying_run Tryz.underlying30 w, Result.andThen_ok, if_true, Sem.run_pure]
  congr 1
  rw [beq_decide]
  exact decide_eq_decide.2 (by omega)
theorem eqStr (d : Nat) (x y : Str) (w : World) : (Op.equalIn (d + 1) 9 (sv x) (sv y)).run Tryz.prog w = .ok (decide (x = y)) w := by
  unfold sv
  simp only [Op.equalIn, Sem.run_bind, underlying_run Tryz.underlying9 w, Result.andThen_ok, Sem.run_pure, beq_str]
theorem stoodOp : Tryz.prog.stoodInHeld 32 = false := by kernel_rfl
theorem part5 {t off : Nat} {cs : List Value} {v : Value} (hs : fsize Tryz.prog t = 1) (ha : aggT Tryz.prog t = false) (h : getL cs off = some v) (w : World) : (part t ⟨cs⟩ off).run Tryz.prog w = .ok v w :=
  part_run (size := 0) hs ha (by simpa [partV] using h) w
theorem eqOp (k a b n r k' a' b' n' r') (w : World) : (Op.equal 32 (.agg ⟨opC k a b n r⟩) (.agg ⟨opC k' a' b' n' r'⟩)).run Tryz.prog w = .ok (decide (k = k' ∧ a = a' ∧ b = b' ∧ n = n' ∧ r = r')) w := by
  show (Op.equalIn (9998 + 1 + 1) 32 _ _).run Tryz.prog w = _
  have p5 : ∀ (off : Nat) (cs : List Value) (v : Value) (w : World), getL cs off = some v → (part 5 ⟨cs⟩ off).run Tryz.prog w = .ok v w := fun off cs v w h => part5 (by kernel_rfl) (by kernel_rfl) h w
  have p9 : ∀ (off : Nat) (cs : List Value) (v : Value) (w : World), getL cs off = some v → (part 9 ⟨cs⟩ off).run Tryz.prog w = .ok v w := fun off cs v w h => part5 (by kernel_rfl) (by kernel_rfl) h w
  have p30 : ∀ (off : Nat) (cs : List Value) (v : Value) (w : World), getL cs off = some v → (part 30 ⟨cs⟩ off).run Tryz.prog w = .ok v w := fun off cs v w h => part5 (by kernel_rfl) (by kernel_rfl) h w
  unfold Op.equalIn
  simp only [Sem.run_bind, underlying_run Tryz.underlying32 w, Result.andThen_ok, program, Sem.run, stoodOp]
  have a0 := fun w => p5 0 (opC k a b n r) (.int .u8 k) w rfl
  have b0 := fun w => p5 0 (opC k' a' b' n' r') (.int .u8 k') w rfl
  have a1 := fun w => p9 1 (opC k a b n r) (sv a) w rfl
  have b1 := fun w => p9 1 (opC k' a' b' n' r') (sv a') w rfl
  have a2 := fun w => p9 2 (opC k a b n r) (sv b) w rfl
  have b2 := fun w => p9 2 (opC k' a' b' n' r') (sv b') w rfl
  have a3 := fun w => p5 3 (opC k a b n r) (.int .u8 n) w rfl
  have b3 := fun w => p5 3 (opC k' a' b' n' r') (.int .u8 n') w rfl
  have a4 := fun w => p30 4 (opC k a b n r) (.int .u8 r) w rfl
  have b4 := fun w => p30 4 (opC k' a' b' n' r') (.int .u8 r') w rfl
  have e5 : ∀ (x y : Nat) w, (Op.equalIn 9999 5 (.int .u8 x) (.int .u8 y)).run Tryz.prog w = .ok (decide (x = y)) w := eqU8 9998
  have e9 : ∀ (x y : Str) w, (Op.equalIn 9999 9 (sv x) (sv y)).run Tryz.prog w = .ok (decide (x = y)) w := eqStr 9998
  have e30 : ∀ (x y : Nat) w, (Op.equalIn 9999 30 (.int .u8 x) (.int .u8 y)).run Tryz.prog w = .ok (decide (x = y)) w := eqRel 9998
  simp [a0, b0, a1, b1, a2, b2, a3, b3, a4, b4, e5, e9, e30]
  by_cases h1 : k = k' <;> by_cases h2 : a = a' <;> by_cases h3 : b = b' <;> by_cases h4 : n = n' <;> by_cases h5 : r = r' <;> simp [h1, h2, h3, h4, h5]
theorem eqA_op (k a b n r k' a' b' n' r') : EqA Tryz.prog 32 (opC k a b n r) (opC k' a' b' n' r') (decide (k = k' ∧ a = a' ∧ b = b' ∧ n = n' ∧ r = r')) :=
  ⟨by kernel_rfl, eqOp k a b n r k' a' b' n' r'⟩
end Go.Proofs.YtmkdbdkaheiaaaaGreatDoor
namespace Go.Proofs.YtmkdbdkaheiaaaaGreatDoor
open Go Go.Sl
variable [Amb]
set_option linter.unusedSectionVars false
set_option linter.unusedVariables false
set_option maxRecDepth 100000
attribute [local irreducible] sW sL sF
/-- the parts that a kind has -/
def signL : List Str := [[97, 98], [97], [97, 98], [97], [97], [97, 98], [97], [97], [97, 98], [97], [97], [97, 98], [97, 98], [97], [97], [], [110, 114]]
def sgn (El : Nat) (fr : Nat × Nat) : HProp := imm 0 (.cells ⟨strsV signL⟩ El fr)
instance {El : Nat} {fr : Nat × Nat} : Pers (sgn El fr) := by unfold sgn; infer_instance
def signAt (k : Nat) : Str := signL.getD k []
theorem sign_ascii (k : Nat) : ∀ b ∈ signAt k, b.toNat < 128 := by
  have : ∀ s ∈ signL, ∀ b ∈ s, b.toNat < 128 := by decide
  intro b hb
  unfold signAt at hb
  rw [List.getD_eq_getElem?_getD] at hb
  cases h : signL[k]? with
  | none => rw [h] at hb; cases hb
  | some s => rw [h] at hb; exact this s (List.mem_of_getElem? h) b hb
theorem ldSign {k s b : Nat} {z : List Value} (h : k < 17) : ldV ⟨.str, s, b, z⟩ (strsV signL) (0 + ((k : Nat) : Int).toNat * 1) = some (sval (signAt k)) := by
  have hk : k < signL.length := h
  simp only [ldV, Int.toNat_natCast, Nat.mul_one, Nat.zero_add, strsV]
  rw [getL_map sv signL k hk]
  simp [signAt, hk, sv, sval]
theorem u8_cc (c : UInt8) (m : Nat) (hm : m < 256) : (c = UInt8.ofNat m) ↔ ((c.toNat : Int) = (m : Int)) := by
  have h : (UInt8.ofNat m).toNat = m := by rw [UInt8.toNat_ofNat']; omega
  rw [← UInt8.toNat_inj, h]
  omega
/-- one part more -/
def bareS (c : UInt8) (o x : Str × Str × Nat × Nat) : Str × Str × Nat × Nat :=
  if c = 97 then (o.1, x.2) else if c = 98 then (x.1, o.2.1, x.2.2) else if c = 110 then (x.1, x.2.1, o.2.2.1, x.2.2.2) else if c = 114 then (x.1, x.2.1, x.2.2.1, o.2.2.2) else x
def bareM (k : Nat) (o : Str × Str × Nat × Nat) : Str × Str × Nat × Nat := (signAt k).foldl (fun x c => bareS c o x) ([], [], 0, 0)
theorem opBare (El : Nat) (fr : Nat × Nat) (k : Nat) (hk : k < 17) (a b : Str) (n r : Nat) : Con Tryz.prog 147 [.agg ⟨opC k a b n r⟩] (sgn El fr)
    (fun v _ => v = .agg ⟨opC k (bareM k (a, b, n, r)).1 (bareM k (a, b, n, r)).2.1 (bareM k (a, b, n, r)).2.2.1 (bareM k (a, b, n, r)).2.2.2⟩) := by
  refine Con.of_body Tryz.func147 rfl rfl Tryz.ntmps147 Tryz.results147 rfl ?_
  unfold sgn opC
  repeat' first | (refine sL_idxA ?_ rfl rfl rfl rfl rfl) | (refine sL_loadI (hv := ldSign hk) ?_ rfl) | (refine sL_rangeS ?_ rfl; intro q) | refine sF_nilO ?_ | refine sF_add ?_ | refine sF_sub ?_ | refine sF_conv ?_ | refine sF_pure ?_ | refine sF_load ?_ rfl | refine sF_off ?_ | (refine sF_guardD rfl rfl rfl ?_ ?_ <;> intro _) | refine sF_op ?_ | refine sF_end0 ?_ | refine sF_end2 ?_ | refine sF_end ?_ | refine sL_add ?_ | refine sL_sub ?_ | refine sL_conv ?_ | refine sL_pure ?_ | refine sL_nil ?_ | refine sL_load ?_ rfl | refine sL_store ?_ rfl | refine sL_loadI ?_ rfl | (refine sL_box ?_; intro _) | (refine sL_alloc ?_; intro _) | (refine sL_lit ?_; intro _) | (refine sL_appendL ?_ rfl rfl rfl rfl rfl; intro _ _) | refine sL_off ?_ | refine sW_seq ?_ | refine sW_region ?_ | refine sW_ret ?_ | refine sW_block ?_ | refine sW_condT rfl ?_ | refine sW_condF rfl ?_ | (refine sW_if rfl ?_ ?_ <;> intro _) | (refine sW_ifn rfl ?_ ?_ <;> intro _) | (refine sW_cond rfl ?_ ?_ <;> intro _) | refine sW_skip ?_ | refine sW_exit ?_ | (refine sL_guardD rfl rfl ?_ ?_ <;> intro _) | (refine sL_guardN rfl rfl ?_ ?_ <;> intro _) | (refine sL_guard rfl rfl ?_ ?_ <;> intro _)
  rename_i b2 b1 b3
  refine sW_for (α := Nat) (fun _ => [(1, .pointer (some ⟨b2, 0, none⟩)), (2, .pointer (some ⟨b1, 0, none⟩)), (3, .pointer (some ⟨b3, 0, none⟩)), (13, .pointer (some ⟨q, 0, none⟩))])
    (fun p => (star (strIt q (signAt k, p)) (((star (blk b3 (.cells ⟨opC k (((signAt k).take p).foldl (fun x c => bareS c (a, b, n, r) x) ([], [], 0, 0)).1 (((signAt k).take p).foldl (fun x c => bareS c (a, b, n, r) x) ([], [], 0, 0)).2.1 (((signAt k).take p).foldl (fun x c => bareS c (a, b, n, r) x) ([], [], 0, 0)).2.2.1 (((signAt k).take p).foldl (fun x c => bareS c (a, b, n, r) x) ([], [], 0, 0)).2.2.2⟩ 32 (0, 0))) (((star (blk b2 (.cells ⟨opC k a b n r⟩ 32 (0, 0))) (blk b1 (.cells ⟨opC 0 [] [] 0 0⟩ 32 (0, 0)))))))))))
    (fun p => p ≤ (signAt k).length) (fun p => (signAt k).length - p) 0 (Nat.zero_le _) ⟨rfl, rfl, rfl, rfl, trivial⟩ (by simp only [List.take_zero, List.foldl_nil]; unfold opC sv; simp only [Int.natCast_zero]; (repeat first | exact ent_emp _ | exact ent_purL (by first | assumption | rfl | simp; done) | exact ent_atomL | refine ent_atom ?_ | refine ent_asc ?_ | refine ent_pur (by first | assumption | rfl) ?_)) ?_
  intro p hp
  refine sW_seq (sW_region (sL_nextS (sign_ascii k) ?_ ?_ rfl))
  · intro hend
    have : p = (signAt k).length := by omega
    subst this
    rw [List.take_length]
    repeat' first | refine sF_nilO ?_ | refine sF_add ?_ | refine sF_sub ?_ | refine sF_conv ?_ | refine sF_pure ?_ | refine sF_load ?_ rfl | refine sF_off ?_ | (refine sF_guardD rfl rfl rfl ?_ ?_ <;> intro _) | refine sF_op ?_ | refine sF_end0 ?_ | refine sF_end2 ?_ | refine sF_end ?_ | refine sL_add ?_ | refine sL_sub ?_ | refine sL_conv ?_ | refine sL_pure ?_ | refine sL_nil ?_ | refine sL_load ?_ rfl | refine sL_store ?_ rfl | refine sL_loadI ?_ rfl | (refine sL_box ?_; intro _) | (refine sL_alloc ?_; intro _) | (refine sL_lit ?_; intro _) | (refine sL_appendL ?_ rfl rfl rfl rfl rfl; intro _ _) | refine sL_off ?_ | refine sW_seq ?_ | refine sW_region ?_ | refine sW_ret ?_ | refine sW_block ?_ | refine sW_condT rfl ?_ | refine sW_condF rfl ?_ | (refine sW_if rfl ?_ ?_ <;> intro _) | (refine sW_ifn rfl ?_ ?_ <;> intro _) | (refine sW_cond rfl ?_ ?_ <;> intro _) | refine sW_skip ?_ | refine sW_exit ?_ | (refine sL_guardD rfl rfl ?_ ?_ <;> intro _) | (refine sL_guardN rfl rfl ?_ ?_ <;> intro _) | (refine sL_guard rfl rfl ?_ ?_ <;> intro _)
    (repeat first | refine ret_then ?_ | refine ret_block ?_); apply retI; (repeat' first | exact res_nil | apply res_tmp ?_ rfl | apply res_cell ?_ rfl)
    · rfl
    · exact ent_emp _
  · intro hlt
    obtain ⟨x, hx⟩ : ∃ x, ((signAt k).take p).foldl (fun x c => bareS c (a, b, n, r) x) ([], [], 0, 0) = x := ⟨_, rfl⟩
    have hnext : ((signAt k).take (p + 1)).foldl (fun x c => bareS c (a, b, n, r) x) ([], [], 0, 0) = bareS (signAt k)[p] (a, b, n, r) x := by
      rw [← List.take_append_getElem hlt, List.foldl_append, hx]; rfl
    rw [hx]
    unfold opC
    repeat' first | refine sF_nilO ?_ | refine sF_add ?_ | refine sF_sub ?_ | refine sF_conv ?_ | refine sF_pure ?_ | refine sF_load ?_ rfl | refine sF_off ?_ | (refine sF_guardD rfl rfl rfl ?_ ?_ <;> intro _) | refine sF_op ?_ | refine sF_end0 ?_ | refine sF_end2 ?_ | refine sF_end ?_ | refine sL_add ?_ | refine sL_sub ?_ | refine sL_conv ?_ | refine sL_pure ?_ | refine sL_nil ?_ | refine sL_load ?_ rfl | refine sL_store ?_ rfl | refine sL_loadI ?_ rfl | (refine sL_box ?_; intro _) | (refine sL_alloc ?_; intro _) | (refine sL_lit ?_; intro _) | (refine sL_appendL ?_ rfl rfl rfl rfl rfl; intro _ _) | refine sL_off ?_ | refine sW_seq ?_ | refine sW_region ?_ | refine sW_ret ?_ | refine sW_block ?_ | refine sW_condT rfl ?_ | refine sW_condF rfl ?_ | (refine sW_if rfl ?_ ?_ <;> intro _) | (refine sW_ifn rfl ?_ ?_ <;> intro _) | (refine sW_cond rfl ?_ ?_ <;> intro _) | refine sW_skip ?_ | refine sW_exit ?_ | (refine sL_guardD rfl rfl ?_ ?_ <;> intro _) | (refine sL_guardN rfl rfl ?_ ?_ <;> intro _) | (refine sL_guard rfl rfl ?_ ?_ <;> intro _)
    all_goals refine ⟨p + 1, by omega, ⟨rfl, rfl, rfl, rfl, trivial⟩, ?_, by omega⟩
    all_goals rw [hnext]
    all_goals have c97 : ((signAt k)[p] = 97) ↔ (((signAt k)[p].toNat : Int) = 97) := u8_cc (signAt k)[p] 97 (by omega)
    all_goals have c98 : ((signAt k)[p] = 98) ↔ (((signAt k)[p].toNat : Int) = 98) := u8_cc (signAt k)[p] 98 (by omega)
    all_goals have c110 : ((signAt k)[p] = 110) ↔ (((signAt k)[p].toNat : Int) = 110) := u8_cc (signAt k)[p] 110 (by omega)
    all_goals have c114 : ((signAt k)[p] = 114) ↔ (((signAt k)[p].toNat : Int) = 114) := u8_cc (signAt k)[p] 114 (by omega)
    all_goals simp only [bareS, c97, c98, c110, c114]
    all_goals simp only [*, if_true, if_false, Int.reduceEq, reduceIte]
    all_goals first | (repeat first | exact ent_emp _ | exact ent_purL (by first | assumption | rfl | simp; done) | exact ent_atomL | refine ent_atom ?_ | refine ent_asc ?_ | refine ent_pur (by first | assumption | rfl) ?_) | skip
    all_goals done
end Go.Proofs.YtmkdbdkaheiaaaaGreatDoor
namespace Go.Proofs.YtmkdbdkaheiaaaaGreatDoor
open Go Go.Sl
variable [Amb]
set_option linter.unusedSectionVars false
set_option linter.unusedVariables false
set_option maxRecDepth 100000
attribute [local irreducible] sW sL sF
def rightM (c n r : Nat) : Bool := if c = 110 then decide (n < 7) else if c = 114 then decide (1 ≤ r ∧ r ≤ 3) else true
theorem opRight (k : Nat) (a b : Str) (n r c : Nat) : Con Tryz.prog 148 [.agg ⟨opC k a b n r⟩, .int .u8 c] emp (fun v _ => v = .bool (rightM c n r)) := by
  refine Con.of_body Tryz.func148 rfl rfl Tryz.ntmps148 Tryz.results148 rfl ?_
  unfold opC
  repeat' first | refine sF_nilO ?_ | refine sF_add ?_ | refine sF_sub ?_ | refine sF_conv ?_ | refine sF_pure ?_ | refine sF_load ?_ rfl | refine sF_off ?_ | (refine sF_guardD rfl rfl rfl ?_ ?_ <;> intro _) | refine sF_op ?_ | refine sF_end0 ?_ | refine sF_end2 ?_ | refine sF_end ?_ | refine sL_add ?_ | refine sL_sub ?_ | refine sL_conv ?_ | refine sL_pure ?_ | refine sL_nil ?_ | refine sL_load ?_ rfl | refine sL_store ?_ rfl | refine sL_loadI ?_ rfl | (refine sL_box ?_; intro _) | (refine sL_alloc ?_; intro _) | (refine sL_lit ?_; intro _) | (refine sL_appendL ?_ rfl rfl rfl rfl rfl; intro _ _) | refine sL_off ?_ | refine sW_seq ?_ | refine sW_region ?_ | refine sW_ret ?_ | refine sW_block ?_ | refine sW_condT rfl ?_ | refine sW_condF rfl ?_ | (refine sW_if rfl ?_ ?_ <;> intro _) | (refine sW_ifn rfl ?_ ?_ <;> intro _) | (refine sW_cond rfl ?_ ?_ <;> intro _) | refine sW_skip ?_ | refine sW_exit ?_ | (refine sL_guardD rfl rfl ?_ ?_ <;> intro _) | (refine sL_guardN rfl rfl ?_ ?_ <;> intro _) | (refine sL_guard rfl rfl ?_ ?_ <;> intro _)
  all_goals (repeat first | refine ret_then ?_ | refine ret_block ?_); apply retI; (repeat' first | exact res_nil | apply res_tmp ?_ rfl | apply res_cell ?_ rfl)
  all_goals first | exact ent_emp _ | skip
  all_goals (simp only [tupV, rightM]; congr 1)
  · rw [if_pos (by omega)]; exact decide_eq_decide.2 (by omega)
  · rw [if_neg (by omega), if_pos (by omega)]; exact decide_eq_decide.2 (by omega)
  · rw [if_neg (by omega), if_pos (by omega)]; exact (decide_eq_false (by omega)).symm
  · rw [if_neg (by omega), if_neg (by omega)]
end Go.Proofs.YtmkdbdkaheiaaaaGreatDoor
namespace Go.Proofs.YtmkdbdkaheiaaaaGreatDoor
open Go Go.Sl
variable [Amb]
set_option linter.unusedSectionVars false
set_option linter.unusedVariables false
set_option maxRecDepth 100000
attribute [local irreducible] sW sL sF
/-- a part's bytes -/
def partB (a b : Str) (n r : Nat) (c : UInt8) : Str := if c = 97 then tx a else if c = 98 then tx b else if c = 110 then le 1 n else if c = 114 then le 1 r else []
def writeM (k : Nat) (a b : Str) (n r : Nat) : Str := le 1 k ++ (signAt k).flatMap (partB a b n r)
theorem partB_len {a b : Str} {n r : Nat} {c : UInt8} (ha : a.length ≤ 65535) (hb : b.length ≤ 65535) : (partB a b n r c).length ≤ 65537 := by
  unfold partB
  split
  · rw [tx_len]; omega
  · split
    · rw [tx_len]; omega
    · split
      · rw [le_len]; omega
      · split
        · rw [le_len]; omega
        · simp
theorem parts_len {a b : Str} {n r : Nat} (ha : a.length ≤ 65535) (hb : b.length ≤ 65535) (l : Str) : (l.flatMap (partB a b n r)).length ≤ l.length * 65537 := by
  induction l with
  | nil => simp
  | cons c l ih => have := partB_len (n := n) (r := r) (c := c) ha hb; simp only [List.flatMap_cons, List.length_append, List.length_cons]; omega
theorem sign_len (k : Nat) : (signAt k).length ≤ 2 := by
  have : ∀ s ∈ signL, s.length ≤ 2 := by decide
  unfold signAt
  rw [List.getD_eq_getElem?_getD]
  cases h : signL[k]? with
  | none => simp
  | some s => exact this s (List.mem_of_getElem? h)
theorem opWrite (El : Nat) (fr : Nat × Nat) (k : Nat) (hk : k < 17) (a b : Str) (n r : Nat) (ha : a.length ≤ 65535) (hb : b.length ≤ 65535) (hn : n < 256) (hr : r < 256) :
    Con Tryz.prog 149 [.agg ⟨opC k a b n r⟩] (sgn El fr) (fun v B => ∃ q c, v = .slice q (writeM k a b n r).length c ∧ B = own 5 1 q ((writeM k a b n r).length, c, bytesV (writeM k a b n r))) := by
  refine Con.of_body Tryz.func149 rfl rfl Tryz.ntmps149 Tryz.results149 rfl ?_
  unfold sgn opC
  repeat' first | (refine sL_pre ?_ isW_new; refine sL_call1c ?_ rfl rfl (wByte _ k (by omega)) (by simp); rintro _ _ ⟨rfl, rfl⟩) | (refine sL_idxA ?_ rfl rfl rfl rfl rfl) | (refine sL_loadI (hv := ldSign hk) ?_ rfl) | (refine sL_rangeS ?_ rfl; intro q) | refine th_exit ?_ | refine bl_exit ?_ | refine sF_nilO ?_ | refine sF_add ?_ | refine sF_sub ?_ | refine sF_conv ?_ | refine sF_pure ?_ | refine sF_load ?_ rfl | refine sF_off ?_ | (refine sF_guardD rfl rfl rfl ?_ ?_ <;> intro _) | refine sF_op ?_ | refine sF_end0 ?_ | refine sF_end2 ?_ | refine sF_end ?_ | refine sL_add ?_ | refine sL_sub ?_ | refine sL_conv ?_ | refine sL_pure ?_ | refine sL_nil ?_ | refine sL_load ?_ rfl | refine sL_store ?_ rfl | refine sL_loadI ?_ rfl | (refine sL_box ?_; intro _) | (refine sL_alloc ?_; intro _) | (refine sL_lit ?_; intro _) | (refine sL_appendL ?_ rfl rfl rfl rfl rfl; intro _ _) | refine sL_off ?_ | refine sW_seq ?_ | refine sW_region ?_ | refine sW_ret ?_ | refine sW_block ?_ | refine sW_condT rfl ?_ | refine sW_condF rfl ?_ | (refine sW_if rfl ?_ ?_ <;> intro _) | (refine sW_ifn rfl ?_ ?_ <;> intro _) | (refine sW_cond rfl ?_ ?_ <;> intro _) | refine sW_skip ?_ | refine sW_exit ?_ | (refine sL_guardD rfl rfl ?_ ?_ <;> intro _) | (refine sL_guardN rfl rfl ?_ ?_ <;> intro _) | (refine sL_guard rfl rfl ?_ ?_ <;> intro _)
  rename_i b1 bw
  refine sW_for (α := Nat) (fun _ => [(1, .pointer (some ⟨b1, 0, none⟩)), (3, .pointer (some ⟨bw, 0, none⟩)), (15, .pointer (some ⟨q, 0, none⟩))])
    (fun p => (star (strIt q (signAt k, p)) (((star (isW bw (le 1 k ++ ((signAt k).take p).flatMap (partB a b n r))) (blk b1 (.cells ⟨opC k a b n r⟩ 32 (0, 0))))))))
    (fun p => p ≤ (signAt k).length) (fun p => (signAt k).length - p) 0 (Nat.zero_le _) ⟨rfl, rfl, rfl, trivial⟩ (by simp only [List.take_zero, List.flatMap_nil, List.append_nil, List.nil_append]; unfold opC sv; (repeat first | exact ent_emp _ | exact ent_purL (by first | assumption | rfl | simp; done) | exact ent_atomL | refine ent_atom ?_ | refine ent_asc ?_ | refine ent_pur (by first | assumption | rfl) ?_)) ?_
  intro p hp
  have hsl := sign_len k
  have hlen : (le 1 k ++ ((signAt k).take p).flatMap (partB a b n r)).length ≤ 200000 := by
    have := parts_len (n := n) (r := r) ha hb ((signAt k).take p)
    have h2 : ((signAt k).take p).length ≤ 2 := by rw [List.length_take]; omega
    simp only [List.length_append, le_len]
    omega
  refine sW_seq (sW_region (sL_nextS (sign_ascii k) ?_ ?_ rfl))
  · intro hend
    have : p = (signAt k).length := by omega
    subst this
    rw [List.take_length] at hlen ⊢
    repeat' first | (refine sL_call1c ?_ rfl rfl (wBytes bw) (by omega); rintro _ _ ⟨_, _, rfl, rfl⟩) | refine th_exit ?_ | refine bl_exit ?_ | refine sF_nilO ?_ | refine sF_add ?_ | refine sF_sub ?_ | refine sF_conv ?_ | refine sF_pure ?_ | refine sF_load ?_ rfl | refine sF_off ?_ | (refine sF_guardD rfl rfl rfl ?_ ?_ <;> intro _) | refine sF_op ?_ | refine sF_end0 ?_ | refine sF_end2 ?_ | refine sF_end ?_ | refine sL_add ?_ | refine sL_sub ?_ | refine sL_conv ?_ | refine sL_pure ?_ | refine sL_nil ?_ | refine sL_load ?_ rfl | refine sL_store ?_ rfl | refine sL_loadI ?_ rfl | (refine sL_box ?_; intro _) | (refine sL_alloc ?_; intro _) | (refine sL_lit ?_; intro _) | (refine sL_appendL ?_ rfl rfl rfl rfl rfl; intro _ _) | refine sL_off ?_ | refine sW_seq ?_ | refine sW_region ?_ | refine sW_ret ?_ | refine sW_block ?_ | refine sW_condT rfl ?_ | refine sW_condF rfl ?_ | (refine sW_if rfl ?_ ?_ <;> intro _) | (refine sW_ifn rfl ?_ ?_ <;> intro _) | (refine sW_cond rfl ?_ ?_ <;> intro _) | refine sW_skip ?_ | refine sW_exit ?_ | (refine sL_guardD rfl rfl ?_ ?_ <;> intro _) | (refine sL_guardN rfl rfl ?_ ?_ <;> intro _) | (refine sL_guard rfl rfl ?_ ?_ <;> intro _)
    (repeat first | refine ret_then ?_ | refine ret_block ?_); apply retI; (repeat' first | exact res_nil | apply res_tmp ?_ rfl | apply res_cell ?_ rfl)
    · exact ⟨_, _, rfl, rfl⟩
    · exact star_left _ _
  · intro hlt
    have hnext : le 1 k ++ ((signAt k).take (p + 1)).flatMap (partB a b n r) = (le 1 k ++ ((signAt k).take p).flatMap (partB a b n r)) ++ partB a b n r (signAt k)[p] := by
      rw [← List.take_append_getElem hlt, List.flatMap_append, List.append_assoc]; simp
    unfold opC
    repeat' first | (refine sL_call1c ?_ rfl rfl (wText bw a ha) (by omega); rintro _ _ ⟨rfl, rfl⟩) | (refine sL_call1c ?_ rfl rfl (wText bw b hb) (by omega); rintro _ _ ⟨rfl, rfl⟩) | (refine sL_call1c ?_ rfl rfl (wByte bw n hn) (by omega); rintro _ _ ⟨rfl, rfl⟩) | (refine sL_call1c ?_ rfl rfl (wByte bw r hr) (by omega); rintro _ _ ⟨rfl, rfl⟩) | refine th_exit ?_ | refine bl_exit ?_ | refine sF_nilO ?_ | refine sF_add ?_ | refine sF_sub ?_ | refine sF_conv ?_ | refine sF_pure ?_ | refine sF_load ?_ rfl | refine sF_off ?_ | (refine sF_guardD rfl rfl rfl ?_ ?_ <;> intro _) | refine sF_op ?_ | refine sF_end0 ?_ | refine sF_end2 ?_ | refine sF_end ?_ | refine sL_add ?_ | refine sL_sub ?_ | refine sL_conv ?_ | refine sL_pure ?_ | refine sL_nil ?_ | refine sL_load ?_ rfl | refine sL_store ?_ rfl | refine sL_loadI ?_ rfl | (refine sL_box ?_; intro _) | (refine sL_alloc ?_; intro _) | (refine sL_lit ?_; intro _) | (refine sL_appendL ?_ rfl rfl rfl rfl rfl; intro _ _) | refine sL_off ?_ | refine sW_seq ?_ | refine sW_region ?_ | refine sW_ret ?_ | refine sW_block ?_ | refine sW_condT rfl ?_ | refine sW_condF rfl ?_ | (refine sW_if rfl ?_ ?_ <;> intro _) | (refine sW_ifn rfl ?_ ?_ <;> intro _) | (refine sW_cond rfl ?_ ?_ <;> intro _) | refine sW_skip ?_ | refine sW_exit ?_ | (refine sL_guardD rfl rfl ?_ ?_ <;> intro _) | (refine sL_guardN rfl rfl ?_ ?_ <;> intro _) | (refine sL_guard rfl rfl ?_ ?_ <;> intro _)
    all_goals refine ⟨p + 1, by omega, ⟨rfl, rfl, rfl, trivial⟩, ?_, by omega⟩
    all_goals rw [hnext]
    all_goals have c97 : ((signAt k)[p] = 97) ↔ (((signAt k)[p].toNat : Int) = 97) := u8_cc (signAt k)[p] 97 (by omega)
    all_goals have c98 : ((signAt k)[p] = 98) ↔ (((signAt k)[p].toNat : Int) = 98) := u8_cc (signAt k)[p] 98 (by omega)
    all_goals have c110 : ((signAt k)[p] = 110) ↔ (((signAt k)[p].toNat : Int) = 110) := u8_cc (signAt k)[p] 110 (by omega)
    all_goals have c114 : ((signAt k)[p] = 114) ↔ (((signAt k)[p].toNat : Int) = 114) := u8_cc (signAt k)[p] 114 (by omega)
    all_goals simp only [partB, c97, c98, c110, c114]
    all_goals simp only [*, if_true, if_false, Int.reduceEq, List.append_nil]
    all_goals (repeat first | exact ent_emp _ | exact ent_purL (by first | assumption | rfl | simp; done) | exact ent_atomL | refine ent_atom ?_ | refine ent_asc ?_ | refine ent_pur (by first | assumption | rfl) ?_)
end Go.Proofs.YtmkdbdkaheiaaaaGreatDoor
namespace Go.Proofs.YtmkdbdkaheiaaaaGreatDoor
open Go Go.Sl
variable [Amb]
set_option linter.unusedSectionVars false
set_option linter.unusedVariables false
set_option maxRecDepth 100000
attribute [local irreducible] sW sL sF
def okSigns (k n r : Nat) : Bool := (signAt k).all fun c => rightM c.toNat n r
def checkM (k : Nat) (a b : Str) (n r : Nat) : Nat :=
  if 17 ≤ k then 4 else if ¬ (k = k ∧ a = (bareM k (a, b, n, r)).1 ∧ b = (bareM k (a, b, n, r)).2.1 ∧ n = (bareM k (a, b, n, r)).2.2.1 ∧ r = (bareM k (a, b, n, r)).2.2.2) then 4
  else if okSigns k n r = false then 4 else if 64 < a.length + b.length then 3 else if 64 < (writeM k a b n r).length then 3 else 0
theorem checkM_le (k a b n r) : checkM k a b n r ≤ 4 := by
  unfold checkM; repeat' split
  all_goals omega
theorem ldByte {l : Str} {i k s b : Nat} {z : List Value} (h : i < l.length) (hk : k = 1) : ldV ⟨.int .u8, s, b, z⟩ (bytesV l) (((i : Nat) : Int).toNat * k) = some (byteV l[i]) := by
  subst hk
  simp only [ldV, Int.toNat_natCast, Nat.mul_one, bytesV]
  exact getL_map byteV l i h
theorem okSigns_off {k n r i : Nat} (h : i < (signAt k).length) (hf : rightM (signAt k)[i].toNat n r = false) : okSigns k n r = false := by
  unfold okSigns
  rw [List.all_eq_false]
  exact ⟨_, List.getElem_mem h, by simp [hf]⟩
theorem all_take {l : Str} {p : UInt8 → Bool} {i : Nat} (h : i < l.length) (h1 : (l.take i).all p = true) (h2 : p l[i] = true) : (l.take (i + 1)).all p = true := by
  rw [← List.take_append_getElem h, List.all_append, h1]
  simp [h2]
attribute [local irreducible] bareM writeM signAt okSigns
theorem opCheck (El : Nat) (fr : Nat × Nat) (k : Nat) (a b : Str) (n r : Nat) (hk : k < 256) (ha : a.length ≤ 1000000) (hb : b.length ≤ 1000000) (hn : n < 256) (hr : r < 256) :
    Con Tryz.prog 95 [.agg ⟨opC k a b n r⟩] (sgn El fr) (fun v _ => v = .int .i64 (checkM k a b n r)) := by
  refine Con.of_body Tryz.func95 rfl rfl Tryz.ntmps95 Tryz.results95 rfl ?_
  unfold opC
  repeat' first | refine th_exit ?_ | refine bl_exit ?_ | refine sF_nilO ?_ | refine sF_add ?_ | refine sF_sub ?_ | refine sF_conv ?_ | refine sF_pure ?_ | refine sF_load ?_ rfl | refine sF_off ?_ | (refine sF_guardD rfl rfl rfl ?_ ?_ <;> intro _) | refine sF_op ?_ | refine sF_end0 ?_ | refine sF_end2 ?_ | refine sF_end ?_ | refine sL_add ?_ | refine sL_sub ?_ | refine sL_conv ?_ | refine sL_pure ?_ | refine sL_nil ?_ | refine sL_load ?_ rfl | refine sL_store ?_ rfl | refine sL_loadI ?_ rfl | (refine sL_box ?_; intro _) | (refine sL_alloc ?_; intro _) | (refine sL_lit ?_; intro _) | (refine sL_appendL ?_ rfl rfl rfl rfl rfl; intro _ _) | refine sL_off ?_ | refine sW_seq ?_ | refine sW_region ?_ | refine sW_ret ?_ | refine sW_block ?_ | refine sW_condT rfl ?_ | refine sW_condF rfl ?_ | (refine sW_if rfl ?_ ?_ <;> intro _) | (refine sW_ifn rfl ?_ ?_ <;> intro _) | (refine sW_cond rfl ?_ ?_ <;> intro _) | refine sW_skip ?_ | refine sW_exit ?_ | (refine sL_guardD rfl rfl ?_ ?_ <;> intro _) | (refine sL_guardN rfl rfl ?_ ?_ <;> intro _) | (refine sL_guard rfl rfl ?_ ?_ <;> intro _)
  rename_i b1
  refine sW_drawn1 (p := blk) b1 [1, 5, 6] [] ?_ rfl rfl
  repeat' first | (refine sL_call rfl rfl rfl rfl (opBare El fr k (by omega) a b n r) (pers_dup ent_atomL) ?_; rintro _ _ rfl) | (refine sF_neA (eqA_op _ _ _ _ _ _ _ _ _ _) ?_ rfl rfl) | refine th_exit ?_ | refine bl_exit ?_ | refine sF_nilO ?_ | refine sF_add ?_ | refine sF_sub ?_ | refine sF_conv ?_ | refine sF_pure ?_ | refine sF_load ?_ rfl | refine sF_off ?_ | (refine sF_guardD rfl rfl rfl ?_ ?_ <;> intro _) | refine sF_op ?_ | refine sF_end0 ?_ | refine sF_end2 ?_ | refine sF_end ?_ | refine sL_add ?_ | refine sL_sub ?_ | refine sL_conv ?_ | refine sL_pure ?_ | refine sL_nil ?_ | refine sL_load ?_ rfl | refine sL_store ?_ rfl | refine sL_loadI ?_ rfl | (refine sL_box ?_; intro _) | (refine sL_alloc ?_; intro _) | (refine sL_lit ?_; intro _) | (refine sL_appendL ?_ rfl rfl rfl rfl rfl; intro _ _) | refine sL_off ?_ | refine sW_seq ?_ | refine sW_region ?_ | refine sW_ret ?_ | refine sW_block ?_ | refine sW_condT rfl ?_ | refine sW_condF rfl ?_ | (refine sW_if rfl ?_ ?_ <;> intro _) | (refine sW_ifn rfl ?_ ?_ <;> intro _) | (refine sW_cond rfl ?_ ?_ <;> intro _) | refine sW_skip ?_ | refine sW_exit ?_ | (refine sL_guardD rfl rfl ?_ ?_ <;> intro _) | (refine sL_guardN rfl rfl ?_ ?_ <;> intro _) | (refine sL_guard rfl rfl ?_ ?_ <;> intro _)
  · (repeat first | refine ret_then ?_ | refine ret_block ?_); apply retI; (repeat' first | exact res_nil | apply res_tmp ?_ rfl | apply res_cell ?_ rfl)
    · simp only [tupV, checkM]; rw [if_pos (by omega)]; rfl
    · exact ent_emp _
  · (repeat first | refine ret_then ?_ | refine ret_block ?_); apply retI; (repeat' first | exact res_nil | apply res_tmp ?_ rfl | apply res_cell ?_ rfl)
    · unfold checkM; rw [if_neg (by omega), if_pos (by assumption)]; rfl
    · exact ent_emp _
  rename_i hk17 B heq
  have hk17' : k < 17 := by omega
  unfold sgn
  repeat' first | (refine sL_idxA ?_ rfl rfl rfl rfl rfl) | (refine sL_loadI (hv := ldSign hk17') ?_ rfl) | (refine sL_toBytes ?_ rfl; intro a2 c2) | refine th_exit ?_ | refine bl_exit ?_ | refine sF_nilO ?_ | refine sF_add ?_ | refine sF_sub ?_ | refine sF_conv ?_ | refine sF_pure ?_ | refine sF_load ?_ rfl | refine sF_off ?_ | (refine sF_guardD rfl rfl rfl ?_ ?_ <;> intro _) | refine sF_op ?_ | refine sF_end0 ?_ | refine sF_end2 ?_ | refine sF_end ?_ | refine sL_add ?_ | refine sL_sub ?_ | refine sL_conv ?_ | refine sL_pure ?_ | refine sL_nil ?_ | refine sL_load ?_ rfl | refine sL_store ?_ rfl | refine sL_loadI ?_ rfl | (refine sL_box ?_; intro _) | (refine sL_alloc ?_; intro _) | (refine sL_lit ?_; intro _) | (refine sL_appendL ?_ rfl rfl rfl rfl rfl; intro _ _) | refine sL_off ?_ | refine sW_seq ?_ | refine sW_region ?_ | refine sW_ret ?_ | refine sW_block ?_ | refine sW_condT rfl ?_ | refine sW_condF rfl ?_ | (refine sW_if rfl ?_ ?_ <;> intro _) | (refine sW_ifn rfl ?_ ?_ <;> intro _) | (refine sW_cond rfl ?_ ?_ <;> intro _) | refine sW_skip ?_ | refine sW_exit ?_ | (refine sL_guardD rfl rfl ?_ ?_ <;> intro _) | (refine sL_guardN rfl rfl ?_ ?_ <;> intro _) | (refine sL_guard rfl rfl ?_ ?_ <;> intro _)
  refine sW_for (α := Nat) (fun i => [(1, .pointer (some ⟨b1, 0, none⟩)), (19, .slice a2 (signAt k).length c2), (20, .int .i64 (signAt k).length), (21, .int .i64 i)])
    (fun i => (star (ro 1 a2 ((signAt k).length, c2, bytesV (signAt k))) (((star (blk b1 (.cells ⟨[.int .u8 k, sv a, sv b, .int .u8 n, .int .u8 r]⟩ 32 (0, 0))) (imm 0 (.cells ⟨strsV signL⟩ El fr)))))))
    (fun i => i ≤ (signAt k).length ∧ ((signAt k).take i).all (fun c => rightM c.toNat n r) = true) (fun i => (signAt k).length - i) 0 ⟨Nat.zero_le _, rfl⟩ ⟨rfl, rfl, rfl, rfl, trivial⟩ (by (repeat first | exact ent_emp _ | exact ent_purL (by first | assumption | rfl | simp; done) | exact ent_atomL | refine ent_atom ?_ | refine ent_asc ?_ | refine ent_pur (by first | assumption | rfl) ?_)) ?_
  rintro i ⟨hi, hall⟩
  have hsl := sign_len k
  refine sW_seq (sW_region (sL_pure (sL_nil (sW_seq ?_))))
  refine sW_if rfl ?_ ?_ <;> intro hlt
  · have hil : i < (signAt k).length := by omega
    repeat' first | (refine sL_idxR ?_ rfl rfl rfl rfl rfl) | (refine sL_loadR (k := 1) ?_ rfl (ldByte hil rfl)) | (refine sL_callV ?_ rfl rfl (opRight k a b n r (signAt k)[i].toNat)) | refine th_exit ?_ | refine bl_exit ?_ | refine sF_nilO ?_ | refine sF_add ?_ | refine sF_sub ?_ | refine sF_conv ?_ | refine sF_pure ?_ | refine sF_load ?_ rfl | refine sF_off ?_ | (refine sF_guardD rfl rfl rfl ?_ ?_ <;> intro _) | refine sF_op ?_ | refine sF_end0 ?_ | refine sF_end2 ?_ | refine sF_end ?_ | refine sL_add ?_ | refine sL_sub ?_ | refine sL_conv ?_ | refine sL_pure ?_ | refine sL_nil ?_ | refine sL_load ?_ rfl | refine sL_store ?_ rfl | refine sL_loadI ?_ rfl | (refine sL_box ?_; intro _) | (refine sL_alloc ?_; intro _) | (refine sL_lit ?_; intro _) | (refine sL_appendL ?_ rfl rfl rfl rfl rfl; intro _ _) | refine sL_off ?_ | refine sW_seq ?_ | refine sW_region ?_ | refine sW_ret ?_ | refine sW_block ?_ | refine sW_condT rfl ?_ | refine sW_condF rfl ?_ | (refine sW_if rfl ?_ ?_ <;> intro _) | (refine sW_ifn rfl ?_ ?_ <;> intro _) | (refine sW_cond rfl ?_ ?_ <;> intro _) | refine sW_skip ?_ | refine sW_exit ?_ | (refine sL_guardD rfl rfl ?_ ?_ <;> intro _) | (refine sL_guardN rfl rfl ?_ ?_ <;> intro _) | (refine sL_guard rfl rfl ?_ ?_ <;> intro _)
    · rename_i hr1
      have hoff : okSigns k n r = false := okSigns_off hil (by simpa using hr1)
      (repeat first | refine ret_then ?_ | refine ret_block ?_); apply retI; (repeat' first | exact res_nil | apply res_tmp ?_ rfl | apply res_cell ?_ rfl)
      · unfold checkM; rw [if_neg (by omega), if_neg (fun h => h heq), if_pos hoff]; rfl
      · exact ent_emp _
    · rename_i hr1
      exact ⟨i + 1, ⟨by omega, all_take hil hall (by simpa using hr1)⟩, ⟨rfl, rfl, rfl, rfl, trivial⟩, ent_refl _, by omega⟩
  · have hiE : i = (signAt k).length := by omega
    subst hiE
    have hok : ¬ okSigns k n r = false := by
      rw [List.take_length] at hall
      unfold okSigns
      rw [hall]; simp
    have h0 : checkM k a b n r = if 64 < a.length + b.length then 3 else if 64 < (writeM k a b n r).length then 3 else 0 := by
      unfold checkM; rw [if_neg (by omega), if_neg (fun h => h heq), if_neg hok]
    refine sW_exit ?_
    repeat refine th_exit ?_
    refine bl_exit (sW_seq (sW_seq (sW_region ?_)))
    refine sL_pure ?_; refine sL_load ?_ rfl; refine sL_pure ?_; refine sL_pure ?_; refine sL_load ?_ rfl; refine sL_pure ?_; refine sL_add ?_; refine sL_pure ?_; refine sL_pure ?_
    refine sL_guardD rfl rfl ?_ ?_ <;> intro hlen
    · repeat' first | refine th_exit ?_ | refine bl_exit ?_ | refine sF_nilO ?_ | refine sF_add ?_ | refine sF_sub ?_ | refine sF_conv ?_ | refine sF_pure ?_ | refine sF_load ?_ rfl | refine sF_off ?_ | (refine sF_guardD rfl rfl rfl ?_ ?_ <;> intro _) | refine sF_op ?_ | refine sF_end0 ?_ | refine sF_end2 ?_ | refine sF_end ?_ | refine sL_add ?_ | refine sL_sub ?_ | refine sL_conv ?_ | refine sL_pure ?_ | refine sL_nil ?_ | refine sL_load ?_ rfl | refine sL_store ?_ rfl | refine sL_loadI ?_ rfl | (refine sL_box ?_; intro _) | (refine sL_alloc ?_; intro _) | (refine sL_lit ?_; intro _) | (refine sL_appendL ?_ rfl rfl rfl rfl rfl; intro _ _) | refine sL_off ?_ | refine sW_seq ?_ | refine sW_region ?_ | refine sW_ret ?_ | refine sW_block ?_ | refine sW_condT rfl ?_ | refine sW_condF rfl ?_ | (refine sW_if rfl ?_ ?_ <;> intro _) | (refine sW_ifn rfl ?_ ?_ <;> intro _) | (refine sW_cond rfl ?_ ?_ <;> intro _) | refine sW_skip ?_ | refine sW_exit ?_ | (refine sL_guardD rfl rfl ?_ ?_ <;> intro _) | (refine sL_guardN rfl rfl ?_ ?_ <;> intro _) | (refine sL_guard rfl rfl ?_ ?_ <;> intro _)
      (repeat first | refine ret_then ?_ | refine ret_block ?_); apply retI; (repeat' first | exact res_nil | apply res_tmp ?_ rfl | apply res_cell ?_ rfl)
      · rw [h0, if_pos (by omega)]; rfl
      · exact ent_emp _
    · repeat' first | (refine sL_call rfl rfl rfl rfl (opWrite El fr k hk17' a b n r (by omega) (by omega) hn hr) (pers_dup (by unfold sgn; exact ent_atomL)) ?_; rintro _ _ ⟨q3, c3, rfl, rfl⟩) | refine th_exit ?_ | refine bl_exit ?_ | refine sF_nilO ?_ | refine sF_add ?_ | refine sF_sub ?_ | refine sF_conv ?_ | refine sF_pure ?_ | refine sF_load ?_ rfl | refine sF_off ?_ | (refine sF_guardD rfl rfl rfl ?_ ?_ <;> intro _) | refine sF_op ?_ | refine sF_end0 ?_ | refine sF_end2 ?_ | refine sF_end ?_ | refine sL_add ?_ | refine sL_sub ?_ | refine sL_conv ?_ | refine sL_pure ?_ | refine sL_nil ?_ | refine sL_load ?_ rfl | refine sL_store ?_ rfl | refine sL_loadI ?_ rfl | (refine sL_box ?_; intro _) | (refine sL_alloc ?_; intro _) | (refine sL_lit ?_; intro _) | (refine sL_appendL ?_ rfl rfl rfl rfl rfl; intro _ _) | refine sL_off ?_ | refine sW_seq ?_ | refine sW_region ?_ | refine sW_ret ?_ | refine sW_block ?_ | refine sW_condT rfl ?_ | refine sW_condF rfl ?_ | (refine sW_if rfl ?_ ?_ <;> intro _) | (refine sW_ifn rfl ?_ ?_ <;> intro _) | (refine sW_cond rfl ?_ ?_ <;> intro _) | refine sW_skip ?_ | refine sW_exit ?_ | (refine sL_guardD rfl rfl ?_ ?_ <;> intro _) | (refine sL_guardN rfl rfl ?_ ?_ <;> intro _) | (refine sL_guard rfl rfl ?_ ?_ <;> intro _)
      · (repeat first | refine ret_then ?_ | refine ret_block ?_); apply retI; (repeat' first | exact res_nil | apply res_tmp ?_ rfl | apply res_cell ?_ rfl)
        · rw [h0, if_neg (by omega), if_pos (by omega)]; rfl
        · exact ent_emp _
      · (repeat first | refine ret_then ?_ | refine ret_block ?_); apply retI; (repeat' first | exact res_nil | apply res_tmp ?_ rfl | apply res_cell ?_ rfl)
        · rw [h0, if_neg (by omega), if_neg (by omega)]; rfl
        · exact ent_emp _
end Go.Proofs.YtmkdbdkaheiaaaaGreatDoor
namespace Go.Proofs.YtmkdbdkaheiaaaaGreatDoor
open Go Go.Sl
variable [Amb]
set_option linter.unusedSectionVars false
set_option linter.unusedVariables false
set_option maxRecDepth 100000
attribute [local irreducible] sW sL sF
abbrev HostX := (Nat × Nat × Nat) × List (Str × Str) × List Row × List Nat
/-- the operation by which one asks for the second version -/
abbrev upOp : Value := .agg ⟨opC 15 [] [] 0 0⟩
theorem hUpNot (p : Nat) (x : HostX) (hall : allB 2 x.2.2.2 = false) (hlen : x.2.2.2.length ≤ 255) (hb : ∀ y ∈ x.2.2.2, y < 256) :
    Con Tryz.prog 152 [ptr p] (isHost p x) (fun v B => v = .int .i64 13 ∧ B = isHost p x) := by
  obtain ⟨⟨pe, pt, pb⟩, m, rs, rel⟩ := x
  refine Con.of_body Tryz.func152 rfl rfl Tryz.ntmps152 Tryz.results152 rfl ?_
  unfold isHost
  simp only at hall hlen hb ⊢
  repeat' first | (refine sL_call1c ?_ rfl rfl (fun l' (h : l' = rel) => h ▸ bAll pb 2 rel hlen (by omega) hb) rfl; rintro _ _ ⟨rfl, rfl⟩) | refine th_exit ?_ | refine bl_exit ?_ | refine sF_nilO ?_ | refine sF_add ?_ | refine sF_sub ?_ | refine sF_conv ?_ | refine sF_pure ?_ | refine sF_load ?_ rfl | refine sF_off ?_ | (refine sF_guardD rfl rfl rfl ?_ ?_ <;> intro _) | refine sF_op ?_ | refine sF_end0 ?_ | refine sF_end2 ?_ | refine sF_end ?_ | refine sL_add ?_ | refine sL_sub ?_ | refine sL_conv ?_ | refine sL_pure ?_ | refine sL_nil ?_ | refine sL_load ?_ rfl | refine sL_store ?_ rfl | refine sL_loadI ?_ rfl | (refine sL_box ?_; intro _) | (refine sL_alloc ?_; intro _) | (refine sL_lit ?_; intro _) | (refine sL_appendL ?_ rfl rfl rfl rfl rfl; intro _ _) | refine sL_off ?_ | refine sW_seq ?_ | refine sW_region ?_ | refine sW_ret ?_ | refine sW_block ?_ | refine sW_condT rfl ?_ | refine sW_condF rfl ?_ | (refine sW_if rfl ?_ ?_ <;> intro _) | (refine sW_ifn rfl ?_ ?_ <;> intro _) | (refine sW_cond rfl ?_ ?_ <;> intro _) | refine sW_skip ?_ | refine sW_exit ?_ | (refine sL_guardD rfl rfl ?_ ?_ <;> intro _) | (refine sL_guardN rfl rfl ?_ ?_ <;> intro _) | (refine sL_guard rfl rfl ?_ ?_ <;> intro _)
  · (repeat first | refine ret_then ?_ | refine ret_block ?_); apply retI; (repeat' first | exact res_nil | apply res_tmp ?_ rfl | apply res_cell ?_ rfl)
    · exact ⟨rfl, rfl⟩
    · (repeat first | exact ent_emp _ | exact ent_purL (by first | assumption | rfl | simp; done) | exact ent_atomL | refine ent_atom ?_ | refine ent_asc ?_ | refine ent_pur (by first | assumption | rfl) ?_)
  all_goals (exfalso; simp_all)
theorem hEitherUp (p : Nat) (x : HostX) (hall : allB 2 x.2.2.2 = false) (hlen : x.2.2.2.length ≤ 255) (hb : ∀ y ∈ x.2.2.2, y < 256) :
    Con Tryz.prog 97 [ptr p, upOp] (isHost p x) (fun v B => v = .tuple ⟨[.slice none 0 0, .int .i64 13, .bool true]⟩ ∧ B = isHost p x) := by
  refine Con.of_body Tryz.func97 rfl rfl Tryz.ntmps97 Tryz.results97 rfl ?_
  unfold upOp opC
  repeat' first | (refine sL_call1c ?_ rfl rfl (fun x' (h : x' = x) => h ▸ hUpNot p x hall hlen hb) rfl; rintro _ _ ⟨rfl, rfl⟩) | refine th_exit ?_ | refine bl_exit ?_ | refine sF_nilO ?_ | refine sF_add ?_ | refine sF_sub ?_ | refine sF_conv ?_ | refine sF_pure ?_ | refine sF_load ?_ rfl | refine sF_off ?_ | (refine sF_guardD rfl rfl rfl ?_ ?_ <;> intro _) | refine sF_op ?_ | refine sF_end0 ?_ | refine sF_end2 ?_ | refine sF_end ?_ | refine sL_add ?_ | refine sL_sub ?_ | refine sL_conv ?_ | refine sL_pure ?_ | refine sL_nil ?_ | refine sL_load ?_ rfl | refine sL_store ?_ rfl | refine sL_loadI ?_ rfl | (refine sL_box ?_; intro _) | (refine sL_alloc ?_; intro _) | (refine sL_lit ?_; intro _) | (refine sL_appendL ?_ rfl rfl rfl rfl rfl; intro _ _) | refine sL_off ?_ | refine sW_seq ?_ | refine sW_region ?_ | refine sW_ret ?_ | refine sW_block ?_ | refine sW_condT rfl ?_ | refine sW_condF rfl ?_ | (refine sW_if rfl ?_ ?_ <;> intro _) | (refine sW_ifn rfl ?_ ?_ <;> intro _) | (refine sW_cond rfl ?_ ?_ <;> intro _) | refine sW_skip ?_ | refine sW_exit ?_ | (refine sL_guardD rfl rfl ?_ ?_ <;> intro _) | (refine sL_guardN rfl rfl ?_ ?_ <;> intro _) | (refine sL_guard rfl rfl ?_ ?_ <;> intro _)
  (repeat first | refine ret_then ?_ | refine ret_block ?_); apply retI; (repeat' first | exact res_nil | apply res_tmp ?_ rfl | apply res_cell ?_ rfl)
  · exact ⟨rfl, rfl⟩
  · (repeat first | exact ent_emp _ | exact ent_purL (by first | assumption | rfl | simp; done) | exact ent_atomL | refine ent_atom ?_ | refine ent_asc ?_ | refine ent_pur (by first | assumption | rfl) ?_)
theorem check15 : checkM 15 [] [] 0 0 = 0 := by decide
theorem hDoUp (El : Nat) (fr : Nat × Nat) (p : Nat) (x : HostX) (hall : allB 2 x.2.2.2 = false) (hlen : x.2.2.2.length ≤ 255) (hb : ∀ y ∈ x.2.2.2, y < 256) :
    Con Tryz.prog 48 [ptr p, upOp] ((star (isHost p x) (sgn El fr))) (fun v B => v = .agg ⟨replC 13 none 0 []⟩ ∧ B = ((star (isHost p x) (sgn El fr)))) := by
  refine Con.of_body Tryz.func48 rfl rfl Tryz.ntmps48 Tryz.results48 rfl ?_
  unfold upOp opC
  repeat' first | (refine sL_call rfl rfl rfl rfl (opCheck El fr 15 [] [] 0 0 (by omega) (by simp) (by simp) (by omega) (by omega)) (pers_dup ent_atomL) ?_; rintro _ _ rfl; rw [check15]) | (refine sL_call1c ?_ rfl rfl (fun x' (h : x' = x) => h ▸ hEitherUp p x hall hlen hb) rfl; rintro _ _ ⟨rfl, rfl⟩) | refine th_exit ?_ | refine bl_exit ?_ | refine sF_nilO ?_ | refine sF_add ?_ | refine sF_sub ?_ | refine sF_conv ?_ | refine sF_pure ?_ | refine sF_load ?_ rfl | refine sF_off ?_ | (refine sF_guardD rfl rfl rfl ?_ ?_ <;> intro _) | refine sF_op ?_ | refine sF_end0 ?_ | refine sF_end2 ?_ | refine sF_end ?_ | refine sL_add ?_ | refine sL_sub ?_ | refine sL_conv ?_ | refine sL_pure ?_ | refine sL_nil ?_ | refine sL_load ?_ rfl | refine sL_store ?_ rfl | refine sL_loadI ?_ rfl | (refine sL_box ?_; intro _) | (refine sL_alloc ?_; intro _) | (refine sL_lit ?_; intro _) | (refine sL_appendL ?_ rfl rfl rfl rfl rfl; intro _ _) | refine sL_off ?_ | refine sW_seq ?_ | refine sW_region ?_ | refine sW_ret ?_ | refine sW_block ?_ | refine sW_condT rfl ?_ | refine sW_condF rfl ?_ | (refine sW_if rfl ?_ ?_ <;> intro _) | (refine sW_ifn rfl ?_ ?_ <;> intro _) | (refine sW_cond rfl ?_ ?_ <;> intro _) | refine sW_skip ?_ | refine sW_exit ?_ | (refine sL_guardD rfl rfl ?_ ?_ <;> intro _) | (refine sL_guardN rfl rfl ?_ ?_ <;> intro _) | (refine sL_guard rfl rfl ?_ ?_ <;> intro _)
  (repeat first | refine ret_then ?_ | refine ret_block ?_); apply retI; (repeat' first | exact res_nil | apply res_tmp ?_ rfl | apply res_cell ?_ rfl)
  · exact ⟨rfl, rfl⟩
  · (repeat first | exact ent_emp _ | exact ent_purL (by first | assumption | rfl | simp; done) | exact ent_atomL | refine ent_atom ?_ | refine ent_asc ?_ | refine ent_pur (by first | assumption | rfl) ?_)
def reqC (cl num k : Nat) (a b : Str) (n r : Nat) : List Value := [.int .u8 cl, .int .u64 num] ++ opC k a b n r
abbrev upReq : Value := .agg ⟨reqC 0 1 15 [] [] 0 0⟩
theorem hApplyUp (El : Nat) (fr : Nat × Nat) (p : Nat) (x : HostX) (hall : allB 2 x.2.2.2 = false) (hlen : x.2.2.2.length ≤ 255) (hb : ∀ y ∈ x.2.2.2, y < 256) (hj : judge x.2.2.1 0 1 = 3) :
    Con Tryz.prog 20 [ptr p, upReq] ((star (isHost p x) (sgn El fr))) (fun v B => ∃ a c, v = .tuple ⟨[.agg ⟨replC 13 none 0 []⟩, .bool true]⟩ ∧ B = ((star (isHost p (x.1, x.2.1, x.2.2.1.set 0 ⟨1, 13, a, c, []⟩, x.2.2.2)) (sgn El fr)))) := by
  obtain ⟨⟨pe, pt, pb⟩, m, rs, rel⟩ := x
  refine Con.of_body Tryz.func20 rfl rfl Tryz.ntmps20 Tryz.results20 rfl ?_
  unfold upReq reqC opC
  simp only at hall hlen hb hj
  refine sW_pre (H' := (star (isHost p ((pe, pt, pb), m, rs, rel)) (sgn El fr))) ?_ (ent_refl _)
  unfold isHost
  simp only [List.cons_append, List.nil_append]
  refine sW_assoc ?_
  repeat' first | refine th_exit ?_ | refine bl_exit ?_ | refine sF_nilO ?_ | refine sF_add ?_ | refine sF_sub ?_ | refine sF_conv ?_ | refine sF_pure ?_ | refine sF_load ?_ rfl | refine sF_off ?_ | (refine sF_guardD rfl rfl rfl ?_ ?_ <;> intro _) | refine sF_op ?_ | refine sF_end0 ?_ | refine sF_end2 ?_ | refine sF_end ?_ | refine sL_add ?_ | refine sL_sub ?_ | refine sL_conv ?_ | refine sL_pure ?_ | refine sL_nil ?_ | refine sL_load ?_ rfl | refine sL_store ?_ rfl | refine sL_loadI ?_ rfl | (refine sL_box ?_; intro _) | (refine sL_alloc ?_; intro _) | (refine sL_lit ?_; intro _) | (refine sL_appendL ?_ rfl rfl rfl rfl rfl; intro _ _) | refine sL_off ?_ | refine sW_seq ?_ | refine sW_region ?_ | refine sW_ret ?_ | refine sW_block ?_ | refine sW_condT rfl ?_ | refine sW_condF rfl ?_ | (refine sW_if rfl ?_ ?_ <;> intro _) | (refine sW_ifn rfl ?_ ?_ <;> intro _) | (refine sW_cond rfl ?_ ?_ <;> intro _) | refine sW_skip ?_ | refine sW_exit ?_ | (refine sL_guardD rfl rfl ?_ ?_ <;> intro _) | (refine sL_guardN rfl rfl ?_ ?_ <;> intro _) | (refine sL_guard rfl rfl ?_ ?_ <;> intro _)
  rename_i b3 b4
  refine sW_drawn2 (p := blk) p (p' := blk) b3 [3, 5, 7] [] ?_ rfl rfl
  repeat' first | (refine sL_call1c ?_ rfl rfl (fun rs' (h : rs' = rs) => h ▸ tJudge pt 0 1 rs) rfl; rintro _ _ ⟨rfl, rfl⟩; rw [hj]) | refine th_exit ?_ | refine bl_exit ?_ | refine sF_nilO ?_ | refine sF_add ?_ | refine sF_sub ?_ | refine sF_conv ?_ | refine sF_pure ?_ | refine sF_load ?_ rfl | refine sF_off ?_ | (refine sF_guardD rfl rfl rfl ?_ ?_ <;> intro _) | refine sF_op ?_ | refine sF_end0 ?_ | refine sF_end2 ?_ | refine sF_end ?_ | refine sL_add ?_ | refine sL_sub ?_ | refine sL_conv ?_ | refine sL_pure ?_ | refine sL_nil ?_ | refine sL_load ?_ rfl | refine sL_store ?_ rfl | refine sL_loadI ?_ rfl | (refine sL_box ?_; intro _) | (refine sL_alloc ?_; intro _) | (refine sL_lit ?_; intro _) | (refine sL_appendL ?_ rfl rfl rfl rfl rfl; intro _ _) | refine sL_off ?_ | refine sW_seq ?_ | refine sW_region ?_ | refine sW_ret ?_ | refine sW_block ?_ | refine sW_condT rfl ?_ | refine sW_condF rfl ?_ | (refine sW_if rfl ?_ ?_ <;> intro _) | (refine sW_ifn rfl ?_ ?_ <;> intro _) | (refine sW_cond rfl ?_ ?_ <;> intro _) | refine sW_skip ?_ | refine sW_exit ?_ | (refine sL_guardD rfl rfl ?_ ?_ <;> intro _) | (refine sL_guardN rfl rfl ?_ ?_ <;> intro _) | (refine sL_guard rfl rfl ?_ ?_ <;> intro _)
  refine sL_pre (H' := (star (((star (isHost p ((pe, pt, pb), m, rs, rel)) (sgn El fr)))) (((star (blk b3 (.cells ⟨[.int .u8 (0 : Nat), .int .u64 (1 : Nat), .int .u8 (15 : Nat), sv [], sv [], .int .u8 (0 : Nat), .int .u8 (0 : Nat)]⟩ 34 (0, 0))) (blk b4 (.cells ⟨[.int .i64 0, .slice none 0 0]⟩ 44 (0, 0)))))))) ?_ (by unfold isHost; (repeat first | exact ent_emp _ | exact ent_purL (by first | assumption | rfl | simp; done) | exact ent_atomL | refine ent_atom ?_ | refine ent_asc ?_ | refine ent_pur (by first | assumption | rfl) ?_))
  refine sL_call rfl rfl rfl rfl (hDoUp El fr p ((pe, pt, pb), m, rs, rel) hall hlen hb) (ent_refl _) ?_
  rintro _ _ ⟨rfl, rfl⟩
  unfold isHost replC
  simp only
  repeat' first | refine th_exit ?_ | refine bl_exit ?_ | refine sF_nilO ?_ | refine sF_add ?_ | refine sF_sub ?_ | refine sF_conv ?_ | refine sF_pure ?_ | refine sF_load ?_ rfl | refine sF_off ?_ | (refine sF_guardD rfl rfl rfl ?_ ?_ <;> intro _) | refine sF_op ?_ | refine sF_end0 ?_ | refine sF_end2 ?_ | refine sF_end ?_ | refine sL_add ?_ | refine sL_sub ?_ | refine sL_conv ?_ | refine sL_pure ?_ | refine sL_nil ?_ | refine sL_load ?_ rfl | refine sL_store ?_ rfl | refine sL_loadI ?_ rfl | (refine sL_box ?_; intro _) | (refine sL_alloc ?_; intro _) | (refine sL_lit ?_; intro _) | (refine sL_appendL ?_ rfl rfl rfl rfl rfl; intro _ _) | refine sL_off ?_ | refine sW_seq ?_ | refine sW_region ?_ | refine sW_ret ?_ | refine sW_block ?_ | refine sW_condT rfl ?_ | refine sW_condF rfl ?_ | (refine sW_if rfl ?_ ?_ <;> intro _) | (refine sW_ifn rfl ?_ ?_ <;> intro _) | (refine sW_cond rfl ?_ ?_ <;> intro _) | refine sW_skip ?_ | refine sW_exit ?_ | (refine sL_guardD rfl rfl ?_ ?_ <;> intro _) | (refine sL_guardN rfl rfl ?_ ?_ <;> intro _) | (refine sL_guard rfl rfl ?_ ?_ <;> intro _)
  rename_i b6
  refine sW_drawn (K := (star (blk p (.cells ⟨[ptr pe, .pointer none, ptr pt, ptr pb]⟩ 92 (0, 0))) (((star (blk b3 (.cells ⟨[.int .u8 (0 : Nat), .int .u64 (1 : Nat), .int .u8 (15 : Nat), sv [], sv [], .int .u8 (0 : Nat), .int .u8 (0 : Nat)]⟩ 34 (0, 0))) (blk b6 (.cells ⟨[.int .i64 (13 : Nat), .slice none 0 0]⟩ 44 (0, 0))))))))
    (H' := (star (((star (isTab pt rs) (ro 1 none (0, 0, []))))) (((star (isDir pe m) (((star (isBrd pb rel) (((star (sgn El fr) (blk b4 (.cells ⟨[.int .i64 0, .slice none 0 0]⟩ 44 (0, 0)))))))))))))) [3, 5, 7, 8] [] (ent_trans (ro_none (k := 1)) (by (repeat first | exact ent_emp _ | exact ent_purL (by first | assumption | rfl | simp; done) | exact ent_atomL | refine ent_atom ?_ | refine ent_asc ?_ | refine ent_pur (by first | assumption | rfl) ?_))) ?_ rfl rfl
  repeat' first | (refine sL_call rfl rfl rfl rfl (tPut pt 0 1 rs 13 none 0 [] (by simp) (0, 0, []) rfl) (ent_refl _) ?_; rintro _ _ ⟨a', c', rfl, rfl⟩; simp only [hj]) | refine th_exit ?_ | refine bl_exit ?_ | refine sF_nilO ?_ | refine sF_add ?_ | refine sF_sub ?_ | refine sF_conv ?_ | refine sF_pure ?_ | refine sF_load ?_ rfl | refine sF_off ?_ | (refine sF_guardD rfl rfl rfl ?_ ?_ <;> intro _) | refine sF_op ?_ | refine sF_end0 ?_ | refine sF_end2 ?_ | refine sF_end ?_ | refine sL_add ?_ | refine sL_sub ?_ | refine sL_conv ?_ | refine sL_pure ?_ | refine sL_nil ?_ | refine sL_load ?_ rfl | refine sL_store ?_ rfl | refine sL_loadI ?_ rfl | (refine sL_box ?_; intro _) | (refine sL_alloc ?_; intro _) | (refine sL_lit ?_; intro _) | (refine sL_appendL ?_ rfl rfl rfl rfl rfl; intro _ _) | refine sL_off ?_ | refine sW_seq ?_ | refine sW_region ?_ | refine sW_ret ?_ | refine sW_block ?_ | refine sW_condT rfl ?_ | refine sW_condF rfl ?_ | (refine sW_if rfl ?_ ?_ <;> intro _) | (refine sW_ifn rfl ?_ ?_ <;> intro _) | (refine sW_cond rfl ?_ ?_ <;> intro _) | refine sW_skip ?_ | refine sW_exit ?_ | (refine sL_guardD rfl rfl ?_ ?_ <;> intro _) | (refine sL_guardN rfl rfl ?_ ?_ <;> intro _) | (refine sL_guard rfl rfl ?_ ?_ <;> intro _)
  (repeat first | refine ret_then ?_ | refine ret_block ?_); apply retI; (repeat' first | exact res_nil | apply res_tmp ?_ rfl | apply res_cell ?_ rfl)
  · exact ⟨a', c', rfl, rfl⟩
  · simp only [if_true, ite_self]
    (repeat first | exact ent_emp _ | exact ent_purL (by first | assumption | rfl | simp; done) | exact ent_atomL | refine ent_atom ?_ | refine ent_asc ?_ | refine ent_pur (by first | assumption | rfl) ?_)
theorem judge_small {rs : List Row} {cl num : Nat} (h : judge rs cl num ≠ 0) : cl < 8 := by
  unfold judge at h
  split at h
  · exact absurd rfl h
  · omega
/-- the same request again: the reply that it had -/
theorem hAgain (p : Nat) (x : HostX) (cl num k : Nat) (a b : Str) (n r : Nat) (hj : judge x.2.2.1 cl num = 2) (hl : ∀ y ∈ x.2.2.1, y.l.length ≤ 65535) :
    Con Tryz.prog 20 [ptr p, .agg ⟨reqC cl num k a b n r⟩] (isHost p x) (fun v B => ∃ a' c', v = .tuple ⟨[.agg ⟨replC (x.2.2.1.getD cl zRow).e a' c' (if (x.2.2.1.getD cl zRow).e = 0 then (x.2.2.1.getD cl zRow).l else [])⟩, .bool false]⟩ ∧
      B = ((star (isHost p x) (ro 1 a' ((if (x.2.2.1.getD cl zRow).e = 0 then (x.2.2.1.getD cl zRow).l else []).length, c', strsV (if (x.2.2.1.getD cl zRow).e = 0 then (x.2.2.1.getD cl zRow).l else [])))))) := by
  have hcl : cl < 8 := judge_small (by rw [hj]; omega)
  obtain ⟨⟨pe, pt, pb⟩, m, rs, rel⟩ := x
  refine Con.of_body Tryz.func20 rfl rfl Tryz.ntmps20 Tryz.results20 rfl ?_
  unfold reqC opC
  unfold isHost
  simp only [List.cons_append, List.nil_append] at hj hl ⊢
  refine sW_seq ?_
  repeat' first | refine th_exit ?_ | refine bl_exit ?_ | refine sF_nilO ?_ | refine sF_add ?_ | refine sF_sub ?_ | refine sF_conv ?_ | refine sF_pure ?_ | refine sF_load ?_ rfl | refine sF_off ?_ | (refine sF_guardD rfl rfl rfl ?_ ?_ <;> intro _) | refine sF_op ?_ | refine sF_end0 ?_ | refine sF_end2 ?_ | refine sF_end ?_ | refine sL_add ?_ | refine sL_sub ?_ | refine sL_conv ?_ | refine sL_pure ?_ | refine sL_nil ?_ | refine sL_load ?_ rfl | refine sL_store ?_ rfl | refine sL_loadI ?_ rfl | (refine sL_box ?_; intro _) | (refine sL_alloc ?_; intro _) | (refine sL_lit ?_; intro _) | (refine sL_appendL ?_ rfl rfl rfl rfl rfl; intro _ _) | refine sL_off ?_ | refine sW_seq ?_ | refine sW_region ?_ | refine sW_ret ?_ | refine sW_block ?_ | refine sW_condT rfl ?_ | refine sW_condF rfl ?_ | (refine sW_if rfl ?_ ?_ <;> intro _) | (refine sW_ifn rfl ?_ ?_ <;> intro _) | (refine sW_cond rfl ?_ ?_ <;> intro _) | refine sW_skip ?_ | refine sW_exit ?_ | (refine sL_guardD rfl rfl ?_ ?_ <;> intro _) | (refine sL_guardN rfl rfl ?_ ?_ <;> intro _) | (refine sL_guard rfl rfl ?_ ?_ <;> intro _)
  · exfalso; omega
  rename_i b3 b4 h255
  refine sW_drawn2 (p := blk) p (p' := blk) b3 [3, 5, 7] [] ?_ rfl rfl
  repeat' first | (refine sL_call1c ?_ rfl rfl (fun rs' (h : rs' = rs) => h ▸ tJudge pt cl num rs) rfl; rintro _ _ ⟨rfl, rfl⟩; rw [hj]) | refine th_exit ?_ | refine bl_exit ?_ | refine sF_nilO ?_ | refine sF_add ?_ | refine sF_sub ?_ | refine sF_conv ?_ | refine sF_pure ?_ | refine sF_load ?_ rfl | refine sF_off ?_ | (refine sF_guardD rfl rfl rfl ?_ ?_ <;> intro _) | refine sF_op ?_ | refine sF_end0 ?_ | refine sF_end2 ?_ | refine sF_end ?_ | refine sL_add ?_ | refine sL_sub ?_ | refine sL_conv ?_ | refine sL_pure ?_ | refine sL_nil ?_ | refine sL_load ?_ rfl | refine sL_store ?_ rfl | refine sL_loadI ?_ rfl | (refine sL_box ?_; intro _) | (refine sL_alloc ?_; intro _) | (refine sL_lit ?_; intro _) | (refine sL_appendL ?_ rfl rfl rfl rfl rfl; intro _ _) | refine sL_off ?_ | refine sW_seq ?_ | refine sW_region ?_ | refine sW_ret ?_ | refine sW_block ?_ | refine sW_condT rfl ?_ | refine sW_condF rfl ?_ | (refine sW_if rfl ?_ ?_ <;> intro _) | (refine sW_ifn rfl ?_ ?_ <;> intro _) | (refine sW_cond rfl ?_ ?_ <;> intro _) | refine sW_skip ?_ | refine sW_exit ?_ | (refine sL_guardD rfl rfl ?_ ?_ <;> intro _) | (refine sL_guardN rfl rfl ?_ ?_ <;> intro _) | (refine sL_guard rfl rfl ?_ ?_ <;> intro _)
  refine sW_drawn2 (p := blk) p (p' := blk) b3 [3, 5] [] ?_ rfl rfl
  have hr := tReply pt cl rs hl
  simp only [hcl, if_true] at hr
  repeat' first | (refine sL_call1c ?_ rfl rfl (fun rs' (h : rs' = rs) => h ▸ hr) rfl; rintro _ _ ⟨a', c', rfl, rfl⟩) | refine th_exit ?_ | refine bl_exit ?_ | refine sF_nilO ?_ | refine sF_add ?_ | refine sF_sub ?_ | refine sF_conv ?_ | refine sF_pure ?_ | refine sF_load ?_ rfl | refine sF_off ?_ | (refine sF_guardD rfl rfl rfl ?_ ?_ <;> intro _) | refine sF_op ?_ | refine sF_end0 ?_ | refine sF_end2 ?_ | refine sF_end ?_ | refine sL_add ?_ | refine sL_sub ?_ | refine sL_conv ?_ | refine sL_pure ?_ | refine sL_nil ?_ | refine sL_load ?_ rfl | refine sL_store ?_ rfl | refine sL_loadI ?_ rfl | (refine sL_box ?_; intro _) | (refine sL_alloc ?_; intro _) | (refine sL_lit ?_; intro _) | (refine sL_appendL ?_ rfl rfl rfl rfl rfl; intro _ _) | refine sL_off ?_ | refine sW_seq ?_ | refine sW_region ?_ | refine sW_ret ?_ | refine sW_block ?_ | refine sW_condT rfl ?_ | refine sW_condF rfl ?_ | (refine sW_if rfl ?_ ?_ <;> intro _) | (refine sW_ifn rfl ?_ ?_ <;> intro _) | (refine sW_cond rfl ?_ ?_ <;> intro _) | refine sW_skip ?_ | refine sW_exit ?_ | (refine sL_guardD rfl rfl ?_ ?_ <;> intro _) | (refine sL_guardN rfl rfl ?_ ?_ <;> intro _) | (refine sL_guard rfl rfl ?_ ?_ <;> intro _)
  (repeat first | refine ret_then ?_ | refine ret_block ?_); apply retI; (repeat' first | exact res_nil | apply res_tmp ?_ rfl | apply res_cell ?_ rfl)
  · exact ⟨a', c', rfl, rfl⟩
  · (repeat first | exact ent_emp _ | exact ent_purL (by first | assumption | rfl | simp; done) | exact ent_atomL | refine ent_atom ?_ | refine ent_asc ?_ | refine ent_pur (by first | assumption | rfl) ?_)
end Go.Proofs.YtmkdbdkaheiaaaaGreatDoor
namespace Go.Proofs.YtmkdbdkaheiaaaaGreatDoor
open Go Go.Sl
variable [Amb]
set_option linter.unusedSectionVars false
set_option linter.unusedVariables false
set_option maxRecDepth 100000
attribute [local irreducible] sW sL sF
theorem sBytes0 (p : Nat) (m : List (Str × Str)) (hm : m = []) : Con Tryz.prog 53 [ptr p] (isDir p m) (fun v B => ∃ q c, v = .slice q 3 c ∧ B = ((star (isDir p m) (own 5 1 q (3, c, bytesV [1, 0, 0]))))) := by
  subst hm
  refine Con.of_body Tryz.func53 rfl rfl Tryz.ntmps53 Tryz.results53 rfl ?_
  repeat' first | (refine sL_pre ?_ isW_new; refine sL_call1c ?_ rfl rfl (wByte _ 1 (by omega)) (by simp); rintro _ _ ⟨rfl, rfl⟩) | (refine sL_call1 ?_ rfl rfl (fun m' => eLen p m'); rintro _ _ ⟨rfl, rfl⟩) | (refine sL_call1c ?_ rfl rfl (wTwo _ 0 (by omega)) (by simp [le]); rintro _ _ ⟨rfl, rfl⟩) | refine th_exit ?_ | refine bl_exit ?_ | refine sF_nilO ?_ | refine sF_add ?_ | refine sF_sub ?_ | refine sF_conv ?_ | refine sF_pure ?_ | refine sF_load ?_ rfl | refine sF_off ?_ | (refine sF_guardD rfl rfl rfl ?_ ?_ <;> intro _) | refine sF_op ?_ | refine sF_end0 ?_ | refine sF_end2 ?_ | refine sF_end ?_ | refine sL_add ?_ | refine sL_sub ?_ | refine sL_conv ?_ | refine sL_pure ?_ | refine sL_nil ?_ | refine sL_load ?_ rfl | refine sL_store ?_ rfl | refine sL_loadI ?_ rfl | (refine sL_box ?_; intro _) | (refine sL_alloc ?_; intro _) | (refine sL_lit ?_; intro _) | (refine sL_appendL ?_ rfl rfl rfl rfl rfl; intro _ _) | refine sL_off ?_ | refine sW_seq ?_ | refine sW_region ?_ | refine sW_ret ?_ | refine sW_block ?_ | refine sW_condT rfl ?_ | refine sW_condF rfl ?_ | (refine sW_if rfl ?_ ?_ <;> intro _) | (refine sW_ifn rfl ?_ ?_ <;> intro _) | (refine sW_cond rfl ?_ ?_ <;> intro _) | refine sW_skip ?_ | refine sW_exit ?_ | (refine sL_guardD rfl rfl ?_ ?_ <;> intro _) | (refine sL_guardN rfl rfl ?_ ?_ <;> intro _) | (refine sL_guard rfl rfl ?_ ?_ <;> intro _)
  refine sL_call rfl rfl rfl rfl (eAll p [] (by simp)) (star_comm _ _) ?_
  rintro _ _ ⟨ss, a, c, hp, hr, rfl, rfl⟩
  obtain rfl : ss = [] := by simpa using hp
  refine sL_pure ?_; refine sL_pure ?_; refine sL_nil ?_
  rename_i bw
  refine sW_block ?_
  refine sW_for (α := Unit) (fun _ => [(3, ptr bw), (16, .slice a (([] : List Str).length) c), (17, .int .i64 (([] : List Str).length : Nat)), (18, .int .i64 0)])
    (fun _ => (star (isW bw ([] ++ le 1 1 ++ le 2 0)) (isDir p []))) (fun _ => True) (fun _ => 0) () trivial ⟨rfl, rfl, rfl, rfl, trivial⟩ (by (repeat first | exact ent_emp _ | exact ent_purL (by first | assumption | rfl | simp; done) | exact ent_atomL | refine ent_atom ?_ | refine ent_asc ?_ | refine ent_pur (by first | assumption | rfl) ?_)) ?_
  intro _ _
  refine sW_seq (sW_region (sL_pure (sL_nil (sW_seq ?_))))
  refine sW_if rfl ?_ ?_ <;> intro hlt
  · exfalso; simp at hlt
  repeat' first | (refine sL_call1c ?_ rfl rfl (wBytes bw) (by simp [le]); rintro _ _ ⟨_, _, rfl, rfl⟩) | refine th_exit ?_ | refine bl_exit ?_ | refine sF_nilO ?_ | refine sF_add ?_ | refine sF_sub ?_ | refine sF_conv ?_ | refine sF_pure ?_ | refine sF_load ?_ rfl | refine sF_off ?_ | (refine sF_guardD rfl rfl rfl ?_ ?_ <;> intro _) | refine sF_op ?_ | refine sF_end0 ?_ | refine sF_end2 ?_ | refine sF_end ?_ | refine sL_add ?_ | refine sL_sub ?_ | refine sL_conv ?_ | refine sL_pure ?_ | refine sL_nil ?_ | refine sL_load ?_ rfl | refine sL_store ?_ rfl | refine sL_loadI ?_ rfl | (refine sL_box ?_; intro _) | (refine sL_alloc ?_; intro _) | (refine sL_lit ?_; intro _) | (refine sL_appendL ?_ rfl rfl rfl rfl rfl; intro _ _) | refine sL_off ?_ | refine sW_seq ?_ | refine sW_region ?_ | refine sW_ret ?_ | refine sW_block ?_ | refine sW_condT rfl ?_ | refine sW_condF rfl ?_ | (refine sW_if rfl ?_ ?_ <;> intro _) | (refine sW_ifn rfl ?_ ?_ <;> intro _) | (refine sW_cond rfl ?_ ?_ <;> intro _) | refine sW_skip ?_ | refine sW_exit ?_ | (refine sL_guardD rfl rfl ?_ ?_ <;> intro _) | (refine sL_guardN rfl rfl ?_ ?_ <;> intro _) | (refine sL_guard rfl rfl ?_ ?_ <;> intro _)
  (repeat first | refine ret_then ?_ | refine ret_block ?_); apply retI; (repeat' first | exact res_nil | apply res_tmp ?_ rfl | apply res_cell ?_ rfl)
  · exact ⟨_, _, rfl, rfl⟩
  · exact star_comm _ _
theorem hDir0 (p : Nat) (x : HostX) (hm : x.2.1 = []) : Con Tryz.prog 25 [ptr p] (isHost p x) (fun v B => ∃ q c, v = .slice q 3 c ∧ B = ((star (isHost p x) (own 5 1 q (3, c, bytesV [1, 0, 0]))))) := by
  obtain ⟨⟨pe, pt, pb⟩, m, rs, rel⟩ := x
  simp only at hm
  refine Con.of_body Tryz.func25 rfl rfl Tryz.ntmps25 Tryz.results25 rfl ?_
  unfold isHost
  simp only
  repeat' first | (refine sL_call1c ?_ rfl rfl (sBytes0 pe) hm; rintro _ _ ⟨q, c, rfl, rfl⟩) | refine th_exit ?_ | refine bl_exit ?_ | refine sF_nilO ?_ | refine sF_add ?_ | refine sF_sub ?_ | refine sF_conv ?_ | refine sF_pure ?_ | refine sF_load ?_ rfl | refine sF_off ?_ | (refine sF_guardD rfl rfl rfl ?_ ?_ <;> intro _) | refine sF_op ?_ | refine sF_end0 ?_ | refine sF_end2 ?_ | refine sF_end ?_ | refine sL_add ?_ | refine sL_sub ?_ | refine sL_conv ?_ | refine sL_pure ?_ | refine sL_nil ?_ | refine sL_load ?_ rfl | refine sL_store ?_ rfl | refine sL_loadI ?_ rfl | (refine sL_box ?_; intro _) | (refine sL_alloc ?_; intro _) | (refine sL_lit ?_; intro _) | (refine sL_appendL ?_ rfl rfl rfl rfl rfl; intro _ _) | refine sL_off ?_ | refine sW_seq ?_ | refine sW_region ?_ | refine sW_ret ?_ | refine sW_block ?_ | refine sW_condT rfl ?_ | refine sW_condF rfl ?_ | (refine sW_if rfl ?_ ?_ <;> intro _) | (refine sW_ifn rfl ?_ ?_ <;> intro _) | (refine sW_cond rfl ?_ ?_ <;> intro _) | refine sW_skip ?_ | refine sW_exit ?_ | (refine sL_guardD rfl rfl ?_ ?_ <;> intro _) | (refine sL_guardN rfl rfl ?_ ?_ <;> intro _) | (refine sL_guard rfl rfl ?_ ?_ <;> intro _)
  (repeat first | refine ret_then ?_ | refine ret_block ?_); apply retI; (repeat' first | exact res_nil | apply res_tmp ?_ rfl | apply res_cell ?_ rfl)
  · exact ⟨q, c, rfl, rfl⟩
  · (repeat first | exact ent_emp _ | exact ent_purL (by first | assumption | rfl | simp; done) | exact ent_atomL | refine ent_atom ?_ | refine ent_asc ?_ | refine ent_pur (by first | assumption | rfl) ?_)
def imgB (m : Str) (rs : List Row) (rel : List Nat) : Str := le 1 1 ++ tx m ++ tabB rs ++ (le 1 rel.length ++ rel.flatMap (le 1))
theorem iBytes0 (p : Nat) (x : HostX) (hm : x.2.1 = []) (hr : ∀ r ∈ x.2.2.1, okRow r) (hn : ∀ r ∈ x.2.2.1, neat r) (h8 : x.2.2.1.length = 8) (hl : x.2.2.2.length ≤ 255) (hb : ∀ y ∈ x.2.2.2, y < 256) :
    Con Tryz.prog 29 [ptr p] (isHost p x) (fun v B => ∃ q c, v = .slice q (imgB [1, 0, 0] x.2.2.1 x.2.2.2).length c ∧ B = ((star (isHost p x) (own 5 1 q ((imgB [1, 0, 0] x.2.2.1 x.2.2.2).length, c, bytesV (imgB [1, 0, 0] x.2.2.1 x.2.2.2)))))) := by
  refine Con.of_body Tryz.func29 rfl rfl Tryz.ntmps29 Tryz.results29 rfl ?_
  repeat' first | (refine sL_call1 ?_ rfl rfl (hVersion p); rintro _ _ ⟨rfl, rfl⟩) | (refine sL_pre ?_ (ent_trans (star_comm _ _) isW_new); refine sL_call1c ?_ rfl rfl (wByte _ 1 (by omega)) (by simp); rintro _ _ ⟨rfl, rfl⟩) | (refine sL_call1c ?_ rfl rfl (hDir0 p) hm; rintro _ _ ⟨q, c, rfl, rfl⟩) | (refine sL_toStrO (El := 5) ?_ rfl rfl rfl rfl rfl rfl rfl rfl) | (refine sL_call1c ?_ rfl rfl (wText _ [1, 0, 0] (by simp)) (by simp [le]); rintro _ _ ⟨rfl, rfl⟩) | refine th_exit ?_ | refine bl_exit ?_ | refine sF_nilO ?_ | refine sF_add ?_ | refine sF_sub ?_ | refine sF_conv ?_ | refine sF_pure ?_ | refine sF_load ?_ rfl | refine sF_off ?_ | (refine sF_guardD rfl rfl rfl ?_ ?_ <;> intro _) | refine sF_op ?_ | refine sF_end0 ?_ | refine sF_end2 ?_ | refine sF_end ?_ | refine sL_add ?_ | refine sL_sub ?_ | refine sL_conv ?_ | refine sL_pure ?_ | refine sL_nil ?_ | refine sL_load ?_ rfl | refine sL_store ?_ rfl | refine sL_loadI ?_ rfl | (refine sL_box ?_; intro _) | (refine sL_alloc ?_; intro _) | (refine sL_lit ?_; intro _) | (refine sL_appendL ?_ rfl rfl rfl rfl rfl; intro _ _) | refine sL_off ?_ | refine sW_seq ?_ | refine sW_region ?_ | refine sW_ret ?_ | refine sW_block ?_ | refine sW_condT rfl ?_ | refine sW_condF rfl ?_ | (refine sW_if rfl ?_ ?_ <;> intro _) | (refine sW_ifn rfl ?_ ?_ <;> intro _) | (refine sW_cond rfl ?_ ?_ <;> intro _) | refine sW_skip ?_ | refine sW_exit ?_ | (refine sL_guardD rfl rfl ?_ ?_ <;> intro _) | (refine sL_guardN rfl rfl ?_ ?_ <;> intro _) | (refine sL_guard rfl rfl ?_ ?_ <;> intro _)
  refine sL_call1c ?_ rfl rfl (hTable p) ⟨fun r h => okRow_len (hr r h), hn⟩
  rintro _ _ ⟨q2, ys, rfl, hys, rfl⟩
  have hys2 : ∀ r ∈ ys, okRow r := by
    intro r h
    have : ab r ∈ x.2.2.1.map ab := by rw [← hys]; exact List.mem_map_of_mem h
    obtain ⟨r', h', he⟩ := List.mem_map.1 this
    have hok := hr r' h'
    simp only [ab, Prod.mk.injEq] at he
    obtain ⟨e1, e2, e3⟩ := he
    unfold okRow at hok ⊢
    rw [← e1, ← e2, ← e3]; exact hok
  have htab : tabB ys = tabB x.2.2.1 := by
    unfold tabB
    have : ∀ l : List Row, l.flatMap rowW = (l.map ab).flatMap (fun t => le 8 t.1 ++ (if t.1 = 0 then [] else tx (putB t.2.1 t.2.2))) := by
      intro l; rw [List.flatMap_map]; rfl
    rw [this, this, hys]
  have hys8 : ys.length = 8 := by have := congrArg List.length hys; simpa [h8] using this
  have hlt : (tabB x.2.2.1).length ≤ 480104 := by
    have := tabB_len hr
    rw [h8] at this
    exact this
  rename_i bw
  have hfl : ∀ l : List Nat, (l.flatMap (le 1)).length = l.length := by
    intro l; induction l with
    | nil => rfl
    | cons x l ih => simp only [List.flatMap_cons, List.length_append, le_len, ih, List.length_cons]; omega
  repeat' first | (refine sL_call2c ?_ rfl rfl (fun rs bs (h : (∀ r ∈ rs, okRow r) ∧ bs.length ≤ 1000000000) => tWrite q2 bw rs bs h.1 h.2) ⟨hys2, by simp [le, tx]⟩; rintro _ _ ⟨rfl, rfl⟩) | (refine sL_call1c ?_ rfl rfl (hBoard p) hl; rintro _ _ ⟨q3, rfl, rfl⟩) | (refine sL_call2c ?_ rfl rfl (fun l bs (h : (l.length ≤ 255 ∧ ∀ y ∈ l, y < 256) ∧ bs.length ≤ 1000000000) => bWrite q3 bw l bs h.1.1 h.1.2 h.2) ⟨⟨hl, hb⟩, by simp only [List.length_append, le_len, tx_len, htab, List.length_cons, List.length_nil]; omega⟩; rintro _ _ ⟨rfl, rfl⟩) | (refine sL_call1c ?_ rfl rfl (wBytes bw) (by simp only [List.length_append, le_len, tx_len, htab, hfl, List.length_cons, List.length_nil]; omega); rintro _ _ ⟨_, _, rfl, rfl⟩) | refine th_exit ?_ | refine bl_exit ?_ | refine sF_nilO ?_ | refine sF_add ?_ | refine sF_sub ?_ | refine sF_conv ?_ | refine sF_pure ?_ | refine sF_load ?_ rfl | refine sF_off ?_ | (refine sF_guardD rfl rfl rfl ?_ ?_ <;> intro _) | refine sF_op ?_ | refine sF_end0 ?_ | refine sF_end2 ?_ | refine sF_end ?_ | refine sL_add ?_ | refine sL_sub ?_ | refine sL_conv ?_ | refine sL_pure ?_ | refine sL_nil ?_ | refine sL_load ?_ rfl | refine sL_store ?_ rfl | refine sL_loadI ?_ rfl | (refine sL_box ?_; intro _) | (refine sL_alloc ?_; intro _) | (refine sL_lit ?_; intro _) | (refine sL_appendL ?_ rfl rfl rfl rfl rfl; intro _ _) | refine sL_off ?_ | refine sW_seq ?_ | refine sW_region ?_ | refine sW_ret ?_ | refine sW_block ?_ | refine sW_condT rfl ?_ | refine sW_condF rfl ?_ | (refine sW_if rfl ?_ ?_ <;> intro _) | (refine sW_ifn rfl ?_ ?_ <;> intro _) | (refine sW_cond rfl ?_ ?_ <;> intro _) | refine sW_skip ?_ | refine sW_exit ?_ | (refine sL_guardD rfl rfl ?_ ?_ <;> intro _) | (refine sL_guardN rfl rfl ?_ ?_ <;> intro _) | (refine sL_guard rfl rfl ?_ ?_ <;> intro _)
  have himg : [] ++ le 1 1 ++ tx [1, 0, 0] ++ tabB ys ++ (le 1 x.2.2.2.length ++ x.2.2.2.flatMap (le 1)) = imgB [1, 0, 0] x.2.2.1 x.2.2.2 := by
    unfold imgB; rw [htab]; rfl
  rw [himg]
  (repeat first | refine ret_then ?_ | refine ret_block ?_); apply retI; (repeat' first | exact res_nil | apply res_tmp ?_ rfl | apply res_cell ?_ rfl)
  · exact ⟨_, _, rfl, rfl⟩
  · (repeat first | exact ent_emp _ | exact ent_purL (by first | assumption | rfl | simp; done) | exact ent_atomL | refine ent_atom ?_ | refine ent_asc ?_ | refine ent_pur (by first | assumption | rfl) ?_)
end Go.Proofs.YtmkdbdkaheiaaaaGreatDoor
namespace Go.Proofs.YtmkdbdkaheiaaaaGreatDoor
open Go Go.Sl
variable [Amb]
set_option linter.unusedSectionVars false
set_option linter.unusedVariables false
set_option maxRecDepth 100000
attribute [local irreducible] sW sL sF
abbrev zRows : List Row := List.replicate 8 zRow
abbrev zRel : List Nat := List.replicate 3 0
theorem ent_one {A H R : HProp} [t : TakeA A H R] : (ent (H) (((star (A) (R))))) := t.eqv
theorem ent_two {A B H R R2 : HProp} [t : TakeA A H R] [t2 : TakeA B R R2] : (ent (H) (((star (((star (A) (B)))) (R2))))) := ent_trans t.eqv (ent_trans (star_mono (ent_refl _) t2.eqv) (star_assoc' _ _ _))
theorem zRows_small : (∀ r ∈ zRows, r.l.length ≤ 65535) ∧ ∀ r ∈ zRows, neat r := by
  constructor
  · intro r h; obtain rfl := List.eq_of_mem_replicate h; exact Nat.zero_le _
  · intro r h; obtain rfl := List.eq_of_mem_replicate h; exact fun h => rfl
theorem zRel_all : allB 2 zRel = false := by decide
theorem zRel_len : zRel.length ≤ 255 := by decide
theorem zJudge : judge zRows 0 1 = 3 := by decide
theorem zRel_small : ∀ y ∈ zRel, y < 256 := by decide
abbrev uRows (a : Option Addr) (c : Nat) : List Row := zRows.set 0 ⟨1, 13, a, c, []⟩
theorem uRows_small (a : Option Addr) (c : Nat) : ∀ y ∈ uRows a c, y.l.length ≤ 65535 := by
  intro y h
  have : y.l = [] := by
    rcases List.mem_or_eq_of_mem_set h with h | h
    · obtain rfl := List.eq_of_mem_replicate h; rfl
    · subst h; rfl
  rw [this]; exact Nat.zero_le _
theorem hAgainUp (p : Nat) (a : Nat × Nat × Nat) (a2 : Option Addr) (c2 : Nat) : Con Tryz.prog 20 [ptr p, upReq] (isHost p (a, [], uRows a2 c2, zRel))
    (fun v B => ∃ a' c', v = .tuple ⟨[.agg ⟨replC 13 a' c' []⟩, .bool false]⟩ ∧ B = ((star (isHost p (a, [], uRows a2 c2, zRel)) (ro 1 a' (0, c', []))))) :=
  hAgain p (a, [], uRows a2 c2, zRel) 0 1 15 [] [] 0 0 rfl (uRows_small a2 c2)
theorem lives17 (El : Nat) (fr : Nat × Nat) : Con Tryz.prog 12 [] (sgn El fr) (fun v _ => v = .bool true) := by
  refine Con.of_body Tryz.func12 rfl rfl Tryz.ntmps12 Tryz.results12 rfl ?_
  repeat' first | (refine sL_call0 ?_ rfl rfl (hNew 3 (Or.inl rfl)); rintro _ _ ⟨p, a, rfl, rfl⟩) | (refine sL_call1c ?_ rfl rfl (hTable p) zRows_small; rintro _ _ ⟨q2, ys, rfl, hys, rfl⟩) | (refine sL_call1c ?_ rfl rfl (hBoard p) zRel_len; rintro _ _ ⟨q3, rfl, rfl⟩) | (refine sL_call rfl rfl rfl rfl (hApplyUp El fr p (a, [], zRows, zRel) zRel_all zRel_len zRel_small zJudge) ent_two ?_; rintro _ _ ⟨a2, c2, rfl, rfl⟩) | (refine sL_call rfl rfl rfl rfl (hAgainUp p a a2 c2) ent_one ?_; rintro _ _ ⟨a3, c3, rfl, rfl⟩) | (refine sL_call1c ?_ rfl rfl (hDir0 p) rfl; rintro _ _ ⟨q4, c4, rfl, rfl⟩) | (refine sL_toStrO (El := 5) (l := [1, 0, 0]) ?_ rfl rfl rfl rfl rfl rfl rfl rfl) | refine th_exit ?_ | refine bl_exit ?_ | refine sF_nilO ?_ | refine sF_add ?_ | refine sF_sub ?_ | refine sF_conv ?_ | refine sF_pure ?_ | refine sF_load ?_ rfl | refine sF_off ?_ | (refine sF_guardD rfl rfl rfl ?_ ?_ <;> intro _) | refine sF_op ?_ | refine sF_end0 ?_ | refine sF_end2 ?_ | refine sF_end ?_ | refine sL_add ?_ | refine sL_sub ?_ | refine sL_conv ?_ | refine sL_pure ?_ | refine sL_nil ?_ | refine sL_load ?_ rfl | refine sL_store ?_ rfl | refine sL_loadI ?_ rfl | (refine sL_box ?_; intro _) | (refine sL_alloc ?_; intro _) | (refine sL_lit ?_; intro _) | (refine sL_appendL ?_ rfl rfl rfl rfl rfl; intro _ _) | refine sL_off ?_ | refine sW_seq ?_ | refine sW_region ?_ | refine sW_ret ?_ | refine sW_block ?_ | refine sW_condT rfl ?_ | refine sW_condF rfl ?_ | (refine sW_if rfl ?_ ?_ <;> intro _) | (refine sW_ifn rfl ?_ ?_ <;> intro _) | (refine sW_cond rfl ?_ ?_ <;> intro _) | refine sW_skip ?_ | refine sW_exit ?_ | (refine sL_guardD rfl rfl ?_ ?_ <;> intro _) | (refine sL_guardN rfl rfl ?_ ?_ <;> intro _) | (refine sL_guard rfl rfl ?_ ?_ <;> intro _)
  (repeat first | refine ret_then ?_ | refine ret_block ?_); apply retI; (repeat' first | exact res_nil | apply res_tmp ?_ rfl | apply res_cell ?_ rfl)
  · rfl
  · exact ent_emp _
end Go.Proofs.YtmkdbdkaheiaaaaGreatDoor
namespace Go.Proofs.YtmkdbdkaheiaaaaGreatDoor
open Go Go.Sl
variable [Amb]
set_option linter.unusedSectionVars false
set_option linter.unusedVariables false
set_option maxRecDepth 100000
attribute [local irreducible] sW sL sF
/-- the bytes of the host that nobody asked yet -/
abbrev img0 : Str := [1, 3, 0, 1, 0, 0] ++ (List.replicate 64 0 ++ [3, 0, 0, 0])
theorem img0_eq : imgB [1, 0, 0] zRows zRel = img0 := by decide
theorem img0_len : (imgB [1, 0, 0] zRows zRel).length = 74 := by decide
theorem zRows_ok : ∀ r ∈ zRows, okRow r := by
  intro r h; obtain rfl := List.eq_of_mem_replicate h
  exact ⟨by decide, by decide, fun s h => by (cases h), by decide⟩
theorem iBytesN (p : Nat) (a : Nat × Nat × Nat) : Con Tryz.prog 29 [ptr p] (isHost p (a, [], zRows, zRel)) (fun v B => ∃ q c, v = .slice q 74 c ∧ B = ((star (isHost p (a, [], zRows, zRel)) (own 5 1 q (74, c, bytesV img0))))) := by
  have h := iBytes0 p (a, [], zRows, zRel) rfl zRows_ok zRows_small.2 rfl zRel_len zRel_small
  simp only [img0_len, img0_eq] at h
  exact h
theorem lives18 (El : Nat) (fr : Nat × Nat) : Con Tryz.prog 9 [] (sgn El fr) (fun v _ => v = .bool true) := by
  refine Con.of_body Tryz.func9 rfl rfl Tryz.ntmps9 Tryz.results9 rfl ?_
  repeat' first | (refine sL_call0 ?_ rfl rfl (hNew 3 (Or.inl rfl)); rintro _ _ ⟨p, a, rfl, rfl⟩) | (refine sL_call rfl rfl rfl rfl (iBytesN p a) ent_one ?_; rintro _ _ ⟨q, c, rfl, rfl⟩; refine sL_freeze (El := 5) (k := 1) (a := q) ?_) | (refine sL_call rfl rfl rfl rfl (lives17 El fr) ent_one ?_; rintro _ _ rfl) | (refine sL_roSl (hi' := 6) ?_ rfl rfl rfl rfl rfl rfl; intro a6 c6) | (refine sL_toStrR (l := [1, 3, 0, 1, 0, 0]) ?_ rfl rfl rfl rfl rfl rfl rfl rfl) | (refine sL_idxR ?_ rfl rfl rfl rfl rfl) | (refine sL_loadR (k := 1) ?_ rfl (ldByte (l := img0) (i := 70) (by decide) rfl)) | refine th_exit ?_ | refine bl_exit ?_ | refine sF_nilO ?_ | refine sF_add ?_ | refine sF_sub ?_ | refine sF_conv ?_ | refine sF_pure ?_ | refine sF_load ?_ rfl | refine sF_off ?_ | (refine sF_guardD rfl rfl rfl ?_ ?_ <;> intro _) | refine sF_op ?_ | refine sF_end0 ?_ | refine sF_end2 ?_ | refine sF_end ?_ | refine sL_add ?_ | refine sL_sub ?_ | refine sL_conv ?_ | refine sL_pure ?_ | refine sL_nil ?_ | refine sL_load ?_ rfl | refine sL_store ?_ rfl | refine sL_loadI ?_ rfl | (refine sL_box ?_; intro _) | (refine sL_alloc ?_; intro _) | (refine sL_lit ?_; intro _) | (refine sL_appendL ?_ rfl rfl rfl rfl rfl; intro _ _) | refine sL_off ?_ | refine sW_seq ?_ | refine sW_region ?_ | refine sW_ret ?_ | refine sW_block ?_ | refine sW_condT rfl ?_ | refine sW_condF rfl ?_ | (refine sW_if rfl ?_ ?_ <;> intro _) | (refine sW_ifn rfl ?_ ?_ <;> intro _) | (refine sW_cond rfl ?_ ?_ <;> intro _) | refine sW_skip ?_ | refine sW_exit ?_ | (refine sL_guardD rfl rfl ?_ ?_ <;> intro _) | (refine sL_guardN rfl rfl ?_ ?_ <;> intro _) | (refine sL_guard rfl rfl ?_ ?_ <;> intro _)
  (repeat first | refine ret_then ?_ | refine ret_block ?_); apply retI; (repeat' first | exact res_nil | apply res_tmp ?_ rfl | apply res_cell ?_ rfl)
  · rfl
  · exact ent_emp _
theorem imageMost (El : Nat) (fr : Nat × Nat) (n : Int) : Con Tryz.prog 3 [.int .i64 n] (sgn El fr) (fun v _ => v = .bool true) := by
  have h3 := iMost 3 (Or.inl rfl)
  by_cases hn : right n
  · have key : ∀ m : Nat, n = m → right m → Con Tryz.prog 3 [.int .i64 n] (sgn El fr) (fun v _ => v = .bool true) := by
      rintro m rfl hm
      have h7 : m = 3 ∨ m = 5 ∨ m = 7 := by unfold right at hm; omega
      refine Con.of_body Tryz.func3 rfl rfl Tryz.ntmps3 Tryz.results3 rfl ?_
      repeat' first | (refine sL_call rfl rfl rfl rfl (lives18 El fr) ent_one ?_; rintro _ _ rfl) | (refine sL_callV ?_ rfl rfl (rRight m)) | (refine sL_callV ?_ rfl rfl h3) | (refine sL_callV ?_ rfl rfl (iMost m hm)) | refine th_exit ?_ | refine bl_exit ?_ | refine sF_nilO ?_ | refine sF_add ?_ | refine sF_sub ?_ | refine sF_conv ?_ | refine sF_pure ?_ | refine sF_load ?_ rfl | refine sF_off ?_ | (refine sF_guardD rfl rfl rfl ?_ ?_ <;> intro _) | refine sF_op ?_ | refine sF_end0 ?_ | refine sF_end2 ?_ | refine sF_end ?_ | refine sL_add ?_ | refine sL_sub ?_ | refine sL_conv ?_ | refine sL_pure ?_ | refine sL_nil ?_ | refine sL_load ?_ rfl | refine sL_store ?_ rfl | refine sL_loadI ?_ rfl | (refine sL_box ?_; intro _) | (refine sL_alloc ?_; intro _) | (refine sL_lit ?_; intro _) | (refine sL_appendL ?_ rfl rfl rfl rfl rfl; intro _ _) | refine sL_off ?_ | refine sW_seq ?_ | refine sW_region ?_ | refine sW_ret ?_ | refine sW_block ?_ | refine sW_condT rfl ?_ | refine sW_condF rfl ?_ | (refine sW_if rfl ?_ ?_ <;> intro _) | (refine sW_ifn rfl ?_ ?_ <;> intro _) | (refine sW_cond rfl ?_ ?_ <;> intro _) | refine sW_skip ?_ | refine sW_exit ?_ | (refine sL_guardD rfl rfl ?_ ?_ <;> intro _) | (refine sL_guardN rfl rfl ?_ ?_ <;> intro _) | (refine sL_guard rfl rfl ?_ ?_ <;> intro _)
      · exact absurd hm (by assumption)
      · (repeat first | refine ret_then ?_ | refine ret_block ?_); apply retI; (repeat' first | exact res_nil | apply res_tmp ?_ rfl | apply res_cell ?_ rfl)
        · simp only [tupV]; congr 1
        · exact ent_emp _
      · exfalso; omega
    unfold right at hn
    rcases hn with h | h | h
    · exact key 3 h (Or.inl rfl)
    · exact key 5 h (Or.inr (Or.inl rfl))
    · exact key 7 h (Or.inr (Or.inr rfl))
  · refine Con.of_body Tryz.func3 rfl rfl Tryz.ntmps3 Tryz.results3 rfl ?_
    repeat' first | (refine sL_call rfl rfl rfl rfl (lives18 El fr) ent_one ?_; rintro _ _ rfl) | (refine sL_callV ?_ rfl rfl (rRight n)) | (refine sL_callV ?_ rfl rfl (iMostBad n hn)) | refine th_exit ?_ | refine bl_exit ?_ | refine sF_nilO ?_ | refine sF_add ?_ | refine sF_sub ?_ | refine sF_conv ?_ | refine sF_pure ?_ | refine sF_load ?_ rfl | refine sF_off ?_ | (refine sF_guardD rfl rfl rfl ?_ ?_ <;> intro _) | refine sF_op ?_ | refine sF_end0 ?_ | refine sF_end2 ?_ | refine sF_end ?_ | refine sL_add ?_ | refine sL_sub ?_ | refine sL_conv ?_ | refine sL_pure ?_ | refine sL_nil ?_ | refine sL_load ?_ rfl | refine sL_store ?_ rfl | refine sL_loadI ?_ rfl | (refine sL_box ?_; intro _) | (refine sL_alloc ?_; intro _) | (refine sL_lit ?_; intro _) | (refine sL_appendL ?_ rfl rfl rfl rfl rfl; intro _ _) | refine sL_off ?_ | refine sW_seq ?_ | refine sW_region ?_ | refine sW_ret ?_ | refine sW_block ?_ | refine sW_condT rfl ?_ | refine sW_condF rfl ?_ | (refine sW_if rfl ?_ ?_ <;> intro _) | (refine sW_ifn rfl ?_ ?_ <;> intro _) | (refine sW_cond rfl ?_ ?_ <;> intro _) | refine sW_skip ?_ | refine sW_exit ?_ | (refine sL_guardD rfl rfl ?_ ?_ <;> intro _) | (refine sL_guardN rfl rfl ?_ ?_ <;> intro _) | (refine sL_guard rfl rfl ?_ ?_ <;> intro _)
    · (repeat first | refine ret_then ?_ | refine ret_block ?_); apply retI; (repeat' first | exact res_nil | apply res_tmp ?_ rfl | apply res_cell ?_ rfl)
      · rfl
      · exact ent_emp _
    · exact absurd (by assumption) hn
end Go.Proofs.YtmkdbdkaheiaaaaGreatDoor
