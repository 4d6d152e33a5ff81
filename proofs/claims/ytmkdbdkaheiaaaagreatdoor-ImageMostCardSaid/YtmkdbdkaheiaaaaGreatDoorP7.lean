/- Helpers for the claim (a logic of assertions over the heap, contracts of the program's functions): no condition beyond each theorem's own premises. -/
import Derived.Test.YtmkdbdkaheiaaaaGreatDoorP6
import Derived.Test.YtmkdbdkaheiaaaaGreatDoorP5
import Derived.Sort.Walk0
set_option linter.all false
namespace Go.Proofs.YtmkdbdkaheiaaaaGreatDoor
open Go Go.Sl
variable [Amb]
set_option linter.unusedSectionVars false
set_option linter.unusedVariables false
set_option maxRecDepth 100000
attribute [local irreducible] sW sL sF
attribute [local irreducible] sR sY sM
theorem kStr (r : Nat) : Con Tryz.prog 214 [.map (some r)] emp (fun v B => ∃ b, v = .func (.func 264) #[] ⟨[.pointer (some ⟨b, 0, none⟩)]⟩ ∧ B = blk b (.cells ⟨[.map (some r)]⟩ 171 (0, 0))) := by
  refine Con.of_body Tryz.func214 rfl rfl Tryz.ntmps214 Tryz.results214 rfl ?_
  repeat' first | refine sF_nilO ?_ | refine sF_add ?_ | refine sF_sub ?_ | refine sF_conv ?_ | refine sF_pure ?_ | refine sF_load ?_ rfl | refine sF_off ?_ | (refine sF_guardD rfl rfl rfl ?_ ?_ <;> intro _) | refine sF_op ?_ | refine sF_end0 ?_ | refine sF_end2 ?_ | refine sF_end ?_ | refine sL_add ?_ | refine sL_sub ?_ | refine sL_conv ?_ | refine sL_pure ?_ | refine sL_nil ?_ | refine sL_load ?_ rfl | refine sL_store ?_ rfl | refine sL_loadI ?_ rfl | (refine sL_box ?_; intro _) | (refine sL_alloc ?_; intro _) | (refine sL_lit ?_; intro _) | (refine sL_appendL ?_ rfl rfl rfl rfl rfl; intro _ _) | refine sL_off ?_ | refine sW_seq ?_ | refine sW_region ?_ | refine sW_ret ?_ | refine sW_block ?_ | refine sW_condT rfl ?_ | refine sW_condF rfl ?_ | (refine sW_if rfl ?_ ?_ <;> intro _) | (refine sW_ifn rfl ?_ ?_ <;> intro _) | (refine sW_cond rfl ?_ ?_ <;> intro _) | refine sW_skip ?_ | refine sW_exit ?_ | (refine sL_guardD rfl rfl ?_ ?_ <;> intro _) | (refine sL_guardN rfl rfl ?_ ?_ <;> intro _) | (refine sL_guard rfl rfl ?_ ?_ <;> intro _)
  (repeat first | refine ret_then ?_ | refine ret_block ?_); apply retI; (repeat' first | exact res_nil | apply res_tmp ?_ rfl | apply res_cell ?_ rfl)
  · exact ⟨_, rfl, rfl⟩
  · exact star_left _ _
theorem kStrIt (b r : Nat) (m : List (Str × Value)) : IterM Tryz.prog 264 [.pointer (some ⟨b, 0, none⟩)] ((star (blk b (.cells ⟨[.map (some r)]⟩ 171 (0, 0))) (mapH r m))) (m.map (·.1)) := by
  intro l J hJ
  suffices h : Con Tryz.prog 264 [.func (.yield l) #[] #[], .pointer (some ⟨b, 0, none⟩)] ((star (((star (blk b (.cells ⟨[.map (some r)]⟩ 171 (0, 0))) (mapH r m)))) (J []))) (fun _ B => ∃ ss : List Str, ss.Perm (m.map (·.1)) ∧ B = ((star (((star (blk b (.cells ⟨[.map (some r)]⟩ 171 (0, 0))) (mapH r m)))) (J ss)))) from h.tr
  refine Con.of_body Tryz.func264 rfl rfl Tryz.ntmps264 Tryz.results264 rfl ?_
  refine sW_assoc ?_
  repeat' first | (refine sL_range ?_ rfl; intro q) | refine sF_nilO ?_ | refine sF_add ?_ | refine sF_sub ?_ | refine sF_conv ?_ | refine sF_pure ?_ | refine sF_load ?_ rfl | refine sF_off ?_ | (refine sF_guardD rfl rfl rfl ?_ ?_ <;> intro _) | refine sF_op ?_ | refine sF_end0 ?_ | refine sF_end2 ?_ | refine sF_end ?_ | refine sL_add ?_ | refine sL_sub ?_ | refine sL_conv ?_ | refine sL_pure ?_ | refine sL_nil ?_ | refine sL_load ?_ rfl | refine sL_store ?_ rfl | refine sL_loadI ?_ rfl | (refine sL_box ?_; intro _) | (refine sL_alloc ?_; intro _) | (refine sL_lit ?_; intro _) | (refine sL_appendL ?_ rfl rfl rfl rfl rfl; intro _ _) | refine sL_off ?_ | refine sW_seq ?_ | refine sW_region ?_ | refine sW_ret ?_ | refine sW_block ?_ | refine sW_condT rfl ?_ | refine sW_condF rfl ?_ | (refine sW_if rfl ?_ ?_ <;> intro _) | (refine sW_ifn rfl ?_ ?_ <;> intro _) | (refine sW_cond rfl ?_ ?_ <;> intro _) | refine sW_skip ?_ | refine sW_exit ?_ | (refine sL_guardD rfl rfl ?_ ?_ <;> intro _) | (refine sL_guardN rfl rfl ?_ ?_ <;> intro _) | (refine sL_guard rfl rfl ?_ ?_ <;> intro _)
  refine sW_for (α := List Str × List (Str × Value) × Option (Str × Value)) (fun _ => [(0, .func (.yield l) #[] #[]), (5, .pointer (some ⟨q, 0, none⟩))])
    (fun y => (star (itH q (r, m, y.2.1, y.2.2)) (((star (blk b (.cells ⟨[.map (some r)]⟩ 171 (0, 0))) (J y.1)))))) (fun y => (y.1 ++ y.2.1.map (·.1)).Perm (m.map (·.1))) (fun y => y.2.1.length) ([], m, none) (List.Perm.refl _) ⟨rfl, rfl, trivial⟩ (by (repeat first | exact ent_emp _ | exact ent_purL (by first | assumption | rfl | simp; done) | exact ent_atomL | refine ent_atom ?_ | refine ent_asc ?_ | refine ent_pur (by first | assumption | rfl) ?_)) ?_
  rintro ⟨pre, left, cur⟩ hp
  simp only at hp ⊢
  refine sW_seq (sW_region (sL_next ?_ ?_ rfl))
  · intro h0
    subst h0
    repeat' first | refine sF_nilO ?_ | refine sF_add ?_ | refine sF_sub ?_ | refine sF_conv ?_ | refine sF_pure ?_ | refine sF_load ?_ rfl | refine sF_off ?_ | (refine sF_guardD rfl rfl rfl ?_ ?_ <;> intro _) | refine sF_op ?_ | refine sF_end0 ?_ | refine sF_end2 ?_ | refine sF_end ?_ | refine sL_add ?_ | refine sL_sub ?_ | refine sL_conv ?_ | refine sL_pure ?_ | refine sL_nil ?_ | refine sL_load ?_ rfl | refine sL_store ?_ rfl | refine sL_loadI ?_ rfl | (refine sL_box ?_; intro _) | (refine sL_alloc ?_; intro _) | (refine sL_lit ?_; intro _) | (refine sL_appendL ?_ rfl rfl rfl rfl rfl; intro _ _) | refine sL_off ?_ | refine sW_seq ?_ | refine sW_region ?_ | refine sW_ret ?_ | refine sW_block ?_ | refine sW_condT rfl ?_ | refine sW_condF rfl ?_ | (refine sW_if rfl ?_ ?_ <;> intro _) | (refine sW_ifn rfl ?_ ?_ <;> intro _) | (refine sW_cond rfl ?_ ?_ <;> intro _) | refine sW_skip ?_ | refine sW_exit ?_ | (refine sL_guardD rfl rfl ?_ ?_ <;> intro _) | (refine sL_guardN rfl rfl ?_ ?_ <;> intro _) | (refine sL_guard rfl rfl ?_ ?_ <;> intro _)
    (repeat first | refine th_exit ?_ | refine bl_exit ?_ | refine bl_normal ?_); apply retN; (repeat' first | exact res_nil | apply res_tmp ?_ rfl | apply res_cell ?_ rfl)
    · exact ⟨pre, by simpa using hp, rfl⟩
    · refine ent_trans (star_mono it_end (ent_refl _)) ?_
      (repeat first | exact ent_emp _ | exact ent_purL (by first | assumption | rfl | simp; done) | exact ent_atomL | refine ent_atom ?_ | refine ent_asc ?_ | refine ent_pur (by first | assumption | rfl) ?_)
  · intro k v left' hl
    have hlen : pre.length < (m.map (·.1)).length := by
      have h1 := hp.length_eq
      have h2 := hl.length_eq
      simp only [List.length_append, List.length_map, List.length_cons] at h1 h2 ⊢
      omega
    repeat' first | (refine sW_regionY (id := 3) ?_) | (refine sY_nilO ?_) | (refine sY_yield (hJ pre k hlen) rfl rfl ?_) | (refine sY_op ?_) | (refine sY_nil ?_) | (refine sL_entry ?_ rfl) | refine sF_nilO ?_ | refine sF_add ?_ | refine sF_sub ?_ | refine sF_conv ?_ | refine sF_pure ?_ | refine sF_load ?_ rfl | refine sF_off ?_ | (refine sF_guardD rfl rfl rfl ?_ ?_ <;> intro _) | refine sF_op ?_ | refine sF_end0 ?_ | refine sF_end2 ?_ | refine sF_end ?_ | refine sL_add ?_ | refine sL_sub ?_ | refine sL_conv ?_ | refine sL_pure ?_ | refine sL_nil ?_ | refine sL_load ?_ rfl | refine sL_store ?_ rfl | refine sL_loadI ?_ rfl | (refine sL_box ?_; intro _) | (refine sL_alloc ?_; intro _) | (refine sL_lit ?_; intro _) | (refine sL_appendL ?_ rfl rfl rfl rfl rfl; intro _ _) | refine sL_off ?_ | refine sW_seq ?_ | refine sW_region ?_ | refine sW_ret ?_ | refine sW_block ?_ | refine sW_condT rfl ?_ | refine sW_condF rfl ?_ | (refine sW_if rfl ?_ ?_ <;> intro _) | (refine sW_ifn rfl ?_ ?_ <;> intro _) | (refine sW_cond rfl ?_ ?_ <;> intro _) | refine sW_skip ?_ | refine sW_exit ?_ | (refine sL_guardD rfl rfl ?_ ?_ <;> intro _) | (refine sL_guardN rfl rfl ?_ ?_ <;> intro _) | (refine sL_guard rfl rfl ?_ ?_ <;> intro _)
    refine ⟨(pre ++ [k], left', some (k, v)), ?_, ⟨rfl, rfl, trivial⟩, ?_, ?_⟩
    · refine List.Perm.trans ?_ hp
      have h3 := (hl.map (·.1)).symm
      simp only [List.map_cons] at h3
      rw [List.append_assoc]
      exact List.Perm.append_left pre h3
    · (repeat first | exact ent_emp _ | exact ent_purL (by first | assumption | rfl | simp; done) | exact ent_atomL | refine ent_atom ?_ | refine ent_asc ?_ | refine ent_pur (by first | assumption | rfl) ?_)
    · have := hl.length_eq
      simp only [List.length_cons] at this ⊢
      omega

end Go.Proofs.YtmkdbdkaheiaaaaGreatDoor
namespace Go.Proofs.YtmkdbdkaheiaaaaGreatDoor
open Go Go.Sl
variable [Amb]
set_option linter.unusedSectionVars false
set_option linter.unusedVariables false
set_option maxRecDepth 100000
attribute [local irreducible] sW sL sF
/-- how two texts stand -/
def cmpS (a b : Str) : Int := if a < b then -1 else if b < a then 1 else 0
theorem nanS (a : Str) : Con Tryz.prog 261 [sv a] emp (fun v _ => v = .bool false) := by
  refine Con.of_body Tryz.func261 rfl rfl Tryz.ntmps261 Tryz.results261 rfl ?_
  unfold sv
  repeat' first | refine sF_nilO ?_ | refine sF_add ?_ | refine sF_sub ?_ | refine sF_conv ?_ | refine sF_pure ?_ | refine sF_load ?_ rfl | refine sF_off ?_ | (refine sF_guardD rfl rfl rfl ?_ ?_ <;> intro _) | refine sF_op ?_ | refine sF_end0 ?_ | refine sF_end2 ?_ | refine sF_end ?_ | refine sL_add ?_ | refine sL_sub ?_ | refine sL_conv ?_ | refine sL_pure ?_ | refine sL_nil ?_ | refine sL_load ?_ rfl | refine sL_store ?_ rfl | refine sL_loadI ?_ rfl | (refine sL_box ?_; intro _) | (refine sL_alloc ?_; intro _) | (refine sL_lit ?_; intro _) | (refine sL_appendL ?_ rfl rfl rfl rfl rfl; intro _ _) | refine sL_off ?_ | refine sW_seq ?_ | refine sW_region ?_ | refine sW_ret ?_ | refine sW_block ?_ | refine sW_condT rfl ?_ | refine sW_condF rfl ?_ | (refine sW_if rfl ?_ ?_ <;> intro _) | (refine sW_ifn rfl ?_ ?_ <;> intro _) | (refine sW_cond rfl ?_ ?_ <;> intro _) | refine sW_skip ?_ | refine sW_exit ?_ | (refine sL_guardD rfl rfl ?_ ?_ <;> intro _) | (refine sL_guardN rfl rfl ?_ ?_ <;> intro _) | (refine sL_guard rfl rfl ?_ ?_ <;> intro _)
  (repeat first | refine ret_then ?_ | refine ret_block ?_); apply retI; (repeat' first | exact res_nil | apply res_tmp ?_ rfl | apply res_cell ?_ rfl)
  · simp [tupV]
  · exact ent_refl _
theorem lt_iff (a b : Str) : bytesLt a b = decide (a < b) := bytesLess_eq a b
theorem cmpStr (a b : Str) : Con Tryz.prog 208 [sv a, sv b] emp (fun v _ => v = .int .i64 (cmpS a b)) := by
  refine Con.of_body Tryz.func208 rfl rfl Tryz.ntmps208 Tryz.results208 rfl ?_
  unfold sv
  repeat' first | (refine sL_callV ?_ rfl rfl (nanS _)) | refine sF_nilO ?_ | refine sF_add ?_ | refine sF_sub ?_ | refine sF_conv ?_ | refine sF_pure ?_ | refine sF_load ?_ rfl | refine sF_off ?_ | (refine sF_guardD rfl rfl rfl ?_ ?_ <;> intro _) | refine sF_op ?_ | refine sF_end0 ?_ | refine sF_end2 ?_ | refine sF_end ?_ | refine sL_add ?_ | refine sL_sub ?_ | refine sL_conv ?_ | refine sL_pure ?_ | refine sL_nil ?_ | refine sL_load ?_ rfl | refine sL_store ?_ rfl | refine sL_loadI ?_ rfl | (refine sL_box ?_; intro _) | (refine sL_alloc ?_; intro _) | (refine sL_lit ?_; intro _) | (refine sL_appendL ?_ rfl rfl rfl rfl rfl; intro _ _) | refine sL_off ?_ | refine sW_seq ?_ | refine sW_region ?_ | refine sW_ret ?_ | refine sW_block ?_ | refine sW_condT rfl ?_ | refine sW_condF rfl ?_ | (refine sW_if rfl ?_ ?_ <;> intro _) | (refine sW_ifn rfl ?_ ?_ <;> intro _) | (refine sW_cond rfl ?_ ?_ <;> intro _) | refine sW_skip ?_ | refine sW_exit ?_ | (refine sL_guardD rfl rfl ?_ ?_ <;> intro _) | (refine sL_guardN rfl rfl ?_ ?_ <;> intro _) | (refine sL_guard rfl rfl ?_ ?_ <;> intro _)
  · rename_i h
    have h' : a < b := by rw [lt_iff] at h; exact of_decide_eq_true h
    (repeat first | refine ret_then ?_ | refine ret_block ?_); apply retI; (repeat' first | exact res_nil | apply res_tmp ?_ rfl | apply res_cell ?_ rfl)
    · simp only [tupV, cmpS, h', if_true]
    · exact ent_refl _
  · rename_i h1 h2
    have h1' : ¬ a < b := by rw [lt_iff] at h1; exact of_decide_eq_false h1
    have h2' : b < a := by
      simp only [Bool.not_eq_true', Bool.or_eq_false_iff] at h2
      have hne := of_decide_eq_false h2.2
      exact Decidable.byContradiction fun hb => hne (List.le_antisymm (List.not_lt.1 hb) (List.not_lt.1 h1'))
    (repeat first | refine ret_then ?_ | refine ret_block ?_); apply retI; (repeat' first | exact res_nil | apply res_tmp ?_ rfl | apply res_cell ?_ rfl)
    · simp only [tupV, cmpS, h1', h2', if_true, if_false]
    · exact ent_refl _
  · rename_i h1 h2
    have h1' : ¬ a < b := by rw [lt_iff] at h1; exact of_decide_eq_false h1
    have h2' : a = b := by
      simp only [Bool.not_eq_false', Bool.or_eq_true] at h2
      rcases h2 with h2 | h2
      · rw [h1] at h2; cases h2
      · exact of_decide_eq_true h2
    subst h2'
    (repeat first | refine ret_then ?_ | refine ret_block ?_); apply retI; (repeat' first | exact res_nil | apply res_tmp ?_ rfl | apply res_cell ?_ rfl)
    · simp only [tupV, cmpS, h1', if_false]
    · exact ent_refl _
theorem nameCmp (a b : Str) : Con Tryz.prog 164 [sv a, sv b] emp (fun v _ => v = .int .i64 (cmpS a b)) := by
  refine Con.of_body Tryz.func164 rfl rfl Tryz.ntmps164 Tryz.results164 rfl ?_
  repeat' first | (refine sL_callV ?_ rfl rfl (cmpStr _ _)) | refine sF_nilO ?_ | refine sF_add ?_ | refine sF_sub ?_ | refine sF_conv ?_ | refine sF_pure ?_ | refine sF_load ?_ rfl | refine sF_off ?_ | (refine sF_guardD rfl rfl rfl ?_ ?_ <;> intro _) | refine sF_op ?_ | refine sF_end0 ?_ | refine sF_end2 ?_ | refine sF_end ?_ | refine sL_add ?_ | refine sL_sub ?_ | refine sL_conv ?_ | refine sL_pure ?_ | refine sL_nil ?_ | refine sL_load ?_ rfl | refine sL_store ?_ rfl | refine sL_loadI ?_ rfl | (refine sL_box ?_; intro _) | (refine sL_alloc ?_; intro _) | (refine sL_lit ?_; intro _) | (refine sL_appendL ?_ rfl rfl rfl rfl rfl; intro _ _) | refine sL_off ?_ | refine sW_seq ?_ | refine sW_region ?_ | refine sW_ret ?_ | refine sW_block ?_ | refine sW_condT rfl ?_ | refine sW_condF rfl ?_ | (refine sW_if rfl ?_ ?_ <;> intro _) | (refine sW_ifn rfl ?_ ?_ <;> intro _) | (refine sW_cond rfl ?_ ?_ <;> intro _) | refine sW_skip ?_ | refine sW_exit ?_ | (refine sL_guardD rfl rfl ?_ ?_ <;> intro _) | (refine sL_guardN rfl rfl ?_ ?_ <;> intro _) | (refine sL_guard rfl rfl ?_ ?_ <;> intro _)
  (repeat first | refine ret_then ?_ | refine ret_block ?_); apply retI; (repeat' first | exact res_nil | apply res_tmp ?_ rfl | apply res_cell ?_ rfl)
  · rfl
  · exact ent_refl _
/-- Go's insertion sort as a relation -/
def le' (a b : Str) : Prop := a ≤ b
def fl (l : List Str) (p : Nat) : Str := l.getD p []
def sortedTo (l : List Str) (i : Nat) : Prop := ∀ p q, p < q → q < i → fl l p ≤ fl l q
structure Ins (l0 l : List Str) (i j : Nat) : Prop where
  len : l.length = l0.length
  perm : l.Perm l0
  ji : j ≤ i
  il : i < l.length
  S : ∀ p q, p < q → q ≤ i → p ≠ j → q ≠ j → fl l p ≤ fl l q
  T : ∀ q, j < q → q ≤ i → fl l j ≤ fl l q
def swp (l : List Str) (j : Nat) : List Str := (l.set j (fl l (j - 1))).set (j - 1) (fl l j)
theorem fl_set {l : List Str} {i p : Nat} {x : Str} (h : i < l.length) : fl (l.set i x) p = if i = p then x else fl l p := by
  unfold fl
  rw [List.getD_eq_getElem?_getD, List.getElem?_set]
  split <;> simp_all
theorem swp_fl {l : List Str} {j p : Nat} (h0 : 0 < j) (h : j < l.length) : fl (swp l j) p = if j - 1 = p then fl l j else if j = p then fl l (j - 1) else fl l p := by
  unfold swp
  rw [fl_set (by simp; omega), fl_set h]
theorem swp_perm {l : List Str} {j : Nat} (h0 : 0 < j) (h : j < l.length) : (swp l j).Perm l := by
  obtain ⟨k, rfl⟩ : ∃ k, j = k + 1 := ⟨j - 1, by omega⟩
  have h1 : k < l.length := by omega
  have e : l = l.take k ++ l[k] :: l[k + 1] :: l.drop (k + 2) := by
    rw [← List.drop_eq_getElem_cons, ← List.drop_eq_getElem_cons, List.take_append_drop]
  have hk : fl l k = l[k] := by simp [fl, h1]
  have hk1 : fl l (k + 1) = l[k + 1] := by simp [fl, h]
  have e2 : swp l (k + 1) = l.take k ++ l[k + 1] :: l[k] :: l.drop (k + 2) := by
    unfold swp
    simp only [Nat.add_sub_cancel, hk, hk1]
    apply List.ext_getElem?
    intro p
    rw [List.getElem?_set, List.getElem?_set]
    by_cases hp : p < k
    · rw [List.getElem?_append_left (by simp; omega), List.getElem?_take, if_pos hp]
      simp [show ¬ k = p by omega, show ¬ k + 1 = p by omega]
    · rw [List.getElem?_append_right (by simp; omega)]
      have hl : (l.take k).length = k := by simp; omega
      rw [hl]
      by_cases hp1 : p = k
      · subst hp1; simp [h1]
      · by_cases hp2 : p = k + 1
        · subst hp2; simp [h]
        · have : p - k = (p - k - 2) + 1 + 1 := by omega
          rw [this, List.getElem?_cons_succ, List.getElem?_cons_succ, List.getElem?_drop]
          simp [show ¬ k = p by omega, show ¬ k + 1 = p by omega]
          congr 1
          omega
  rw [e2]
  conv => rhs; rw [e]
  exact List.Perm.append_left _ (List.Perm.swap _ _ _)
theorem swp_len (l : List Str) (j : Nat) : (swp l j).length = l.length := by simp [swp]
theorem Ins.start {l0 l : List Str} {i : Nat} (hl : l.length = l0.length) (hp : l.Perm l0) (hi : i < l.length) (hs : sortedTo l i) : Ins l0 l i i :=
  ⟨hl, hp, Nat.le_refl _, hi, fun p q h1 h2 h3 h4 => hs p q h1 (by omega), fun q h1 h2 => by omega⟩
theorem Ins.stop {l0 l : List Str} {i j : Nat} (h : Ins l0 l i j) (hx : j = 0 ∨ fl l (j - 1) ≤ fl l j) : sortedTo l (i + 1) := by
  intro p q h1 h2
  by_cases hp : p = j
  · subst hp; exact h.T q h1 (by omega)
  · by_cases hq : q = j
    · subst hq
      rcases hx with hx | hx
      · omega
      · by_cases hp1 : p = q - 1
        · rw [hp1]; exact hx
        · exact List.le_trans (h.S p (q - 1) (by omega) (by omega) hp (by omega)) hx
    · exact h.S p q h1 (by omega) hp hq
theorem Ins.step {l0 l : List Str} {i j : Nat} (h : Ins l0 l i j) (h0 : 0 < j) (hx : fl l j ≤ fl l (j - 1)) : Ins l0 (swp l j) i (j - 1) := by
  have hj := h.ji
  have hi := h.il
  have hjl : j < l.length := by omega
  refine ⟨by rw [swp_len, h.len], (swp_perm h0 hjl).trans h.perm, by omega, by rw [swp_len]; exact hi, ?_, ?_⟩
  · intro p q h1 h2 h3 h4
    rw [swp_fl h0 hjl, swp_fl h0 hjl, if_neg (Ne.symm h3), if_neg (Ne.symm h4)]
    by_cases hp : j = p
    · rw [if_pos hp, if_neg (by omega)]; exact h.S (j - 1) q (by omega) h2 (by omega) (by omega)
    · rw [if_neg hp]
      by_cases hq : j = q
      · rw [if_pos hq]; exact h.S p (j - 1) (by omega) (by omega) (by omega) (by omega)
      · rw [if_neg hq]; exact h.S p q h1 h2 (by omega) (by omega)
  · intro q h1 h2
    rw [swp_fl h0 hjl, swp_fl h0 hjl, if_pos rfl, if_neg (by omega)]
    by_cases hq : j = q
    · rw [if_pos hq]; exact hx
    · rw [if_neg hq]; exact h.T q (by omega) h2

theorem fl_get {l : List Str} {i : Nat} (h : i < l.length) : fl l i = l[i] := by simp [fl, h]
theorem ldFl {l : List Str} {z : Int} {i k : Nat} (hz : z.toNat = i) (h : i < l.length) (hk : k = 1) : ldV ⟨.str, 1, 16, [.string ⟨⟨[]⟩⟩]⟩ (strsV l) (z.toNat * k) = some (sv (fl l i)) := by
  rw [fl_get h, hz]; exact ldStr (i := i) h hk
theorem setL_map {α : Type} (f : α → Value) (l : List α) (i : Nat) (x : α) (h : i < l.length) : setL (l.map f) i (f x) = some ((l.set i x).map f) := by
  induction l generalizing i with
  | nil => simp at h
  | cons y l ih =>
    cases i with
    | zero => rfl
    | succ i =>
      have := ih i (by simpa using h)
      simp only [List.map_cons, setL, this, List.set_cons_succ]
theorem stFl {l : List Str} {z : Int} {i k : Nat} {x : Str} (hz : z.toNat = i) (h : i < l.length) (hk : k = 1) : stV ⟨.str, 1, 16, [.string ⟨⟨[]⟩⟩]⟩ (strsV l) (z.toNat * k) (sv x) = some (strsV (l.set i x)) := by
  subst hk
  rw [hz, Nat.mul_one]
  have := setL_map sv l i x h
  simp only [stV, sv, cellsOf, lenIs, strsV] at this ⊢
  simp only [cond_true, putC, isCell, this]
theorem insSort (a : Option Addr) (n c : Nat) (l0 : List Str) (hn : l0.length = n) (hn2 : n ≤ 65535) :
    Con Tryz.prog 306 [.slice a n c, .int .i64 0, .int .i64 n, .func (.func 164) #[] #[]] (own 9 1 a (n, c, strsV l0))
      (fun _ B => ∃ l, l.Perm l0 ∧ sortedTo l n ∧ B = own 9 1 a (n, c, strsV l)) := by
  refine Con.of_body Tryz.func306 rfl rfl Tryz.ntmps306 Tryz.results306 rfl ?_
  repeat' first | refine sF_nilO ?_ | refine sF_add ?_ | refine sF_sub ?_ | refine sF_conv ?_ | refine sF_pure ?_ | refine sF_load ?_ rfl | refine sF_off ?_ | (refine sF_guardD rfl rfl rfl ?_ ?_ <;> intro _) | refine sF_op ?_ | refine sF_end0 ?_ | refine sF_end2 ?_ | refine sF_end ?_ | refine sL_add ?_ | refine sL_sub ?_ | refine sL_conv ?_ | refine sL_pure ?_ | refine sL_nil ?_ | refine sL_load ?_ rfl | refine sL_store ?_ rfl | refine sL_loadI ?_ rfl | (refine sL_box ?_; intro _) | (refine sL_alloc ?_; intro _) | (refine sL_lit ?_; intro _) | (refine sL_appendL ?_ rfl rfl rfl rfl rfl; intro _ _) | refine sL_off ?_ | refine sW_seq ?_ | refine sW_region ?_ | refine sW_ret ?_ | refine sW_block ?_ | refine sW_condT rfl ?_ | refine sW_condF rfl ?_ | (refine sW_if rfl ?_ ?_ <;> intro _) | (refine sW_ifn rfl ?_ ?_ <;> intro _) | (refine sW_cond rfl ?_ ?_ <;> intro _) | refine sW_skip ?_ | refine sW_exit ?_ | (refine sL_guardD rfl rfl ?_ ?_ <;> intro _) | (refine sL_guardN rfl rfl ?_ ?_ <;> intro _) | (refine sL_guard rfl rfl ?_ ?_ <;> intro _)
  refine sW_for (α := List Str × Nat) (fun y => [(0, .slice a n c), (1, .int .i64 0), (2, .int .i64 n), (3, .func (.func 164) #[] #[]), (8, .int .i64 y.2)]) (fun y => own 9 1 a (n, c, strsV y.1))
    (fun y => y.1.length = n ∧ y.1.Perm l0 ∧ 1 ≤ y.2 ∧ (y.2 ≤ n ∨ y.2 = 1) ∧ sortedTo y.1 y.2) (fun y => n - y.2) (l0, 1) ⟨hn, List.Perm.refl _, Nat.le_refl _, .inr rfl, fun p q h1 h2 => by simp only at h2; omega⟩ ⟨rfl, rfl, rfl, rfl, rfl, trivial⟩ (ent_refl _) ?_
  rintro ⟨l, i⟩ ⟨hl, hp, h1, hi, hs⟩
  simp only at hl hp h1 hi hs ⊢
  repeat' first | refine sF_nilO ?_ | refine sF_add ?_ | refine sF_sub ?_ | refine sF_conv ?_ | refine sF_pure ?_ | refine sF_load ?_ rfl | refine sF_off ?_ | (refine sF_guardD rfl rfl rfl ?_ ?_ <;> intro _) | refine sF_op ?_ | refine sF_end0 ?_ | refine sF_end2 ?_ | refine sF_end ?_ | refine sL_add ?_ | refine sL_sub ?_ | refine sL_conv ?_ | refine sL_pure ?_ | refine sL_nil ?_ | refine sL_load ?_ rfl | refine sL_store ?_ rfl | refine sL_loadI ?_ rfl | (refine sL_box ?_; intro _) | (refine sL_alloc ?_; intro _) | (refine sL_lit ?_; intro _) | (refine sL_appendL ?_ rfl rfl rfl rfl rfl; intro _ _) | refine sL_off ?_ | refine sW_seq ?_ | refine sW_region ?_ | refine sW_ret ?_ | refine sW_block ?_ | refine sW_condT rfl ?_ | refine sW_condF rfl ?_ | (refine sW_if rfl ?_ ?_ <;> intro _) | (refine sW_ifn rfl ?_ ?_ <;> intro _) | (refine sW_cond rfl ?_ ?_ <;> intro _) | refine sW_skip ?_ | refine sW_exit ?_ | (refine sL_guardD rfl rfl ?_ ?_ <;> intro _) | (refine sL_guardN rfl rfl ?_ ?_ <;> intro _) | (refine sL_guard rfl rfl ?_ ?_ <;> intro _)
  · rename_i hlt
    have hin : i < n := by omega
    cases a with
    | none =>
      refine sW_pre ?_ (pers_dup (A := pure (n = 0 ∧ c = 0 ∧ strsV l = [])) own_none)
      refine sW_pur ?_
      rintro ⟨rfl, _⟩
      omega
    | some b0 =>
    refine sW_for (α := List Str × Nat) (fun y => [(0, .slice (some b0) n c), (1, .int .i64 0), (2, .int .i64 n), (3, .func (.func 164) #[] #[]), (8, .int .i64 i), (9, .int .i64 y.2)]) (fun y => own 9 1 (some b0) (n, c, strsV y.1))
      (fun y => Ins l0 y.1 i y.2) (fun y => y.2) (l, i) (Ins.start (l := l) (show l.length = l0.length by omega) hp (show i < l.length by omega) hs) ⟨rfl, rfl, rfl, rfl, rfl, rfl, trivial⟩ (ent_refl _) ?_
    rintro ⟨l', j⟩ hI
    simp only at hI ⊢
    have hj := hI.ji
    have hll : l'.length = n := by have := hI.len; omega
    have hjl : j < l'.length := by omega
    refine sW_seq (sW_seq (sW_drawn1 (p := own 9 1) (some b0) [8, 13] [] ?_ rfl rfl))
    repeat' first | (refine sF_idx ?_ rfl rfl rfl rfl rfl) | (refine sF_loadO (El := 9) (k := 1) (hv := ldFl (i := j) (by omega) hjl rfl) ?_ rfl) | (refine sF_loadO (El := 9) (k := 1) (hv := ldFl (i := j - 1) (by omega) (by omega) rfl) ?_ rfl) | (refine sL_callV ?_ rfl rfl (nameCmp _ _)) | refine sF_nilO ?_ | refine sF_add ?_ | refine sF_sub ?_ | refine sF_conv ?_ | refine sF_pure ?_ | refine sF_load ?_ rfl | refine sF_off ?_ | (refine sF_guardD rfl rfl rfl ?_ ?_ <;> intro _) | refine sF_op ?_ | refine sF_end0 ?_ | refine sF_end2 ?_ | refine sF_end ?_ | refine sL_add ?_ | refine sL_sub ?_ | refine sL_conv ?_ | refine sL_pure ?_ | refine sL_nil ?_ | refine sL_load ?_ rfl | refine sL_store ?_ rfl | refine sL_loadI ?_ rfl | (refine sL_box ?_; intro _) | (refine sL_alloc ?_; intro _) | (refine sL_lit ?_; intro _) | (refine sL_appendL ?_ rfl rfl rfl rfl rfl; intro _ _) | refine sL_off ?_ | refine sW_seq ?_ | refine sW_region ?_ | refine sW_ret ?_ | refine sW_block ?_ | refine sW_condT rfl ?_ | refine sW_condF rfl ?_ | (refine sW_if rfl ?_ ?_ <;> intro _) | (refine sW_ifn rfl ?_ ?_ <;> intro _) | (refine sW_cond rfl ?_ ?_ <;> intro _) | refine sW_skip ?_ | refine sW_exit ?_ | (refine sL_guardD rfl rfl ?_ ?_ <;> intro _) | (refine sL_guardN rfl rfl ?_ ?_ <;> intro _) | (refine sL_guard rfl rfl ?_ ?_ <;> intro _)
    · rename_i hj0 hlt2
      have hj0' : 0 < j := by omega
      have hcmp : fl l' j < fl l' (j - 1) := by
        refine Decidable.byContradiction fun hb => ?_
        simp only [cmpS, hb, if_false] at hlt2
        split at hlt2 <;> omega
      refine sW_drawn0 [9, 13] ?_ rfl rfl
      repeat' first | (refine sF_idx ?_ rfl rfl rfl rfl rfl) | (refine sF_loadOr (El := 9) (k := 1) (hv := ldFl (i := j) (by omega) hjl rfl) ?_ rfl) | (refine sF_loadOr (El := 9) (k := 1) (hv := ldFl (i := j - 1) (by omega) (by omega) rfl) ?_ rfl) | (refine sL_storeO (El := 9) (k := 1) (hv := stFl (i := j) (by omega) hjl rfl) ?_ rfl rfl rfl) | (refine sL_storeO (El := 9) (k := 1) (hv := stFl (i := j - 1) (by omega) (by rw [List.length_set]; omega) rfl) ?_ rfl rfl rfl) | refine sF_nilO ?_ | refine sF_add ?_ | refine sF_sub ?_ | refine sF_conv ?_ | refine sF_pure ?_ | refine sF_load ?_ rfl | refine sF_off ?_ | (refine sF_guardD rfl rfl rfl ?_ ?_ <;> intro _) | refine sF_op ?_ | refine sF_end0 ?_ | refine sF_end2 ?_ | refine sF_end ?_ | refine sL_add ?_ | refine sL_sub ?_ | refine sL_conv ?_ | refine sL_pure ?_ | refine sL_nil ?_ | refine sL_load ?_ rfl | refine sL_store ?_ rfl | refine sL_loadI ?_ rfl | (refine sL_box ?_; intro _) | (refine sL_alloc ?_; intro _) | (refine sL_lit ?_; intro _) | (refine sL_appendL ?_ rfl rfl rfl rfl rfl; intro _ _) | refine sL_off ?_ | refine sW_seq ?_ | refine sW_region ?_ | refine sW_ret ?_ | refine sW_block ?_ | refine sW_condT rfl ?_ | refine sW_condF rfl ?_ | (refine sW_if rfl ?_ ?_ <;> intro _) | (refine sW_ifn rfl ?_ ?_ <;> intro _) | (refine sW_cond rfl ?_ ?_ <;> intro _) | refine sW_skip ?_ | refine sW_exit ?_ | (refine sL_guardD rfl rfl ?_ ?_ <;> intro _) | (refine sL_guardN rfl rfl ?_ ?_ <;> intro _) | (refine sL_guard rfl rfl ?_ ?_ <;> intro _)
      refine ⟨(swp l' j, j - 1), hI.step hj0' (List.le_of_lt hcmp), ⟨rfl, rfl, rfl, rfl, rfl, by simp only; rw [Int.natCast_sub (by omega)]; rfl, trivial⟩, ?_, by simp only; omega⟩
      exact star_left _ _
    · rename_i hj0 hge
      have hs' : sortedTo l' (i + 1) := hI.stop (.inr (by
        refine List.not_lt.1 fun hb => hge ?_
        simp only [cmpS, hb, if_true]
        omega))
      refine ⟨(l', i + 1), ⟨hll, hI.perm, by simp only; omega, .inl (by simp only; omega), hs'⟩, ⟨rfl, rfl, rfl, rfl, rfl, trivial⟩, star_left _ _, by simp only; omega⟩
    · rename_i hj0
      have hs' : sortedTo l' (i + 1) := hI.stop (.inl (by omega))
      refine ⟨(l', i + 1), ⟨hll, hI.perm, by simp only; omega, .inl (by simp only; omega), hs'⟩, ⟨rfl, rfl, rfl, rfl, rfl, trivial⟩, ?_, by simp only; omega⟩
      (repeat first | exact ent_emp _ | exact ent_purL (by first | assumption | rfl | simp; done) | exact ent_atomL | refine ent_atom ?_ | refine ent_asc ?_ | refine ent_pur (by first | assumption | rfl) ?_)
  · rename_i hge
    (repeat first | refine th_exit ?_ | refine bl_exit ?_ | refine bl_normal ?_); apply retN; (repeat' first | exact res_nil | apply res_tmp ?_ rfl | apply res_cell ?_ rfl)
    · exact ⟨l, hp, fun p q hpq hq => hs p q hpq (by omega), rfl⟩
    · exact ent_refl _
end Go.Proofs.YtmkdbdkaheiaaaaGreatDoor
namespace Go.Proofs.YtmkdbdkaheiaaaaGreatDoor
open Go Go.Sl
variable [Amb]
set_option linter.unusedSectionVars false
set_option linter.unusedVariables false
set_option maxRecDepth 100000
attribute [local irreducible] sW sL sF
theorem lt256 {l : List UInt8} {x : Nat} (hx : x < 256) (h : l.length = 256) : ((x : Nat) : Int) < (l.length : Int) := by omega
theorem bLen64 (x : Nat) (hx : x < 256) : Con Tryz.prog 315 [.int .u64 x] emp (fun v _ => ∃ k : Int, v = .int .i64 k) := by
  refine Con.of_body Tryz.func315 rfl rfl Tryz.ntmps315 Tryz.results315 rfl ?_
  repeat' first | refine sF_nilO ?_ | refine sF_add ?_ | refine sF_sub ?_ | refine sF_conv ?_ | refine sF_pure ?_ | refine sF_load ?_ rfl | refine sF_off ?_ | (refine sF_guardD rfl rfl rfl ?_ ?_ <;> intro _) | refine sF_op ?_ | refine sF_end0 ?_ | refine sF_end2 ?_ | refine sF_end ?_ | refine sL_add ?_ | refine sL_sub ?_ | refine sL_conv ?_ | refine sL_pure ?_ | refine sL_nil ?_ | refine sL_load ?_ rfl | refine sL_store ?_ rfl | refine sL_loadI ?_ rfl | (refine sL_box ?_; intro _) | (refine sL_alloc ?_; intro _) | (refine sL_lit ?_; intro _) | (refine sL_appendL ?_ rfl rfl rfl rfl rfl; intro _ _) | refine sL_off ?_ | refine sW_seq ?_ | refine sW_region ?_ | refine sW_ret ?_ | refine sW_block ?_ | refine sW_condT rfl ?_ | refine sW_condF rfl ?_ | (refine sW_if rfl ?_ ?_ <;> intro _) | (refine sW_ifn rfl ?_ ?_ <;> intro _) | (refine sW_cond rfl ?_ ?_ <;> intro _) | refine sW_skip ?_ | refine sW_exit ?_ | (refine sL_guardD rfl rfl ?_ ?_ <;> intro _) | (refine sL_guardN rfl rfl ?_ ?_ <;> intro _) | (refine sL_guard rfl rfl ?_ ?_ <;> intro _)
  all_goals first | (exfalso; omega) | skip
  refine sL_strIdx (h1 := lt256 hx rfl) ?_ rfl rfl
  unfold byteV
  repeat' first | refine sF_nilO ?_ | refine sF_add ?_ | refine sF_sub ?_ | refine sF_conv ?_ | refine sF_pure ?_ | refine sF_load ?_ rfl | refine sF_off ?_ | (refine sF_guardD rfl rfl rfl ?_ ?_ <;> intro _) | refine sF_op ?_ | refine sF_end0 ?_ | refine sF_end2 ?_ | refine sF_end ?_ | refine sL_add ?_ | refine sL_sub ?_ | refine sL_conv ?_ | refine sL_pure ?_ | refine sL_nil ?_ | refine sL_load ?_ rfl | refine sL_store ?_ rfl | refine sL_loadI ?_ rfl | (refine sL_box ?_; intro _) | (refine sL_alloc ?_; intro _) | (refine sL_lit ?_; intro _) | (refine sL_appendL ?_ rfl rfl rfl rfl rfl; intro _ _) | refine sL_off ?_ | refine sW_seq ?_ | refine sW_region ?_ | refine sW_ret ?_ | refine sW_block ?_ | refine sW_condT rfl ?_ | refine sW_condF rfl ?_ | (refine sW_if rfl ?_ ?_ <;> intro _) | (refine sW_ifn rfl ?_ ?_ <;> intro _) | (refine sW_cond rfl ?_ ?_ <;> intro _) | refine sW_skip ?_ | refine sW_exit ?_ | (refine sL_guardD rfl rfl ?_ ?_ <;> intro _) | (refine sL_guardN rfl rfl ?_ ?_ <;> intro _) | (refine sL_guard rfl rfl ?_ ?_ <;> intro _)
  (repeat first | refine ret_then ?_ | refine ret_block ?_); apply retI; (repeat' first | exact res_nil | apply res_tmp ?_ rfl | apply res_cell ?_ rfl)
  · exact ⟨_, rfl⟩
  · exact ent_refl _
theorem bLen (x : Nat) (hx : x < 256) : Con Tryz.prog 295 [.int .u64 x] emp (fun v _ => ∃ k : Int, v = .int .i64 k) := by
  refine Con.of_body Tryz.func295 rfl rfl Tryz.ntmps295 Tryz.results295 rfl ?_
  repeat' first | (refine sL_call0 ?_ rfl rfl (bLen64 x hx); rintro _ _ ⟨k, rfl⟩) | refine sF_nilO ?_ | refine sF_add ?_ | refine sF_sub ?_ | refine sF_conv ?_ | refine sF_pure ?_ | refine sF_load ?_ rfl | refine sF_off ?_ | (refine sF_guardD rfl rfl rfl ?_ ?_ <;> intro _) | refine sF_op ?_ | refine sF_end0 ?_ | refine sF_end2 ?_ | refine sF_end ?_ | refine sL_add ?_ | refine sL_sub ?_ | refine sL_conv ?_ | refine sL_pure ?_ | refine sL_nil ?_ | refine sL_load ?_ rfl | refine sL_store ?_ rfl | refine sL_loadI ?_ rfl | (refine sL_box ?_; intro _) | (refine sL_alloc ?_; intro _) | (refine sL_lit ?_; intro _) | (refine sL_appendL ?_ rfl rfl rfl rfl rfl; intro _ _) | refine sL_off ?_ | refine sW_seq ?_ | refine sW_region ?_ | refine sW_ret ?_ | refine sW_block ?_ | refine sW_condT rfl ?_ | refine sW_condF rfl ?_ | (refine sW_if rfl ?_ ?_ <;> intro _) | (refine sW_ifn rfl ?_ ?_ <;> intro _) | (refine sW_cond rfl ?_ ?_ <;> intro _) | refine sW_skip ?_ | refine sW_exit ?_ | (refine sL_guardD rfl rfl ?_ ?_ <;> intro _) | (refine sL_guardN rfl rfl ?_ ?_ <;> intro _) | (refine sL_guard rfl rfl ?_ ?_ <;> intro _)
  (repeat first | refine ret_then ?_ | refine ret_block ?_); apply retI; (repeat' first | exact res_nil | apply res_tmp ?_ rfl | apply res_cell ?_ rfl)
  · exact ⟨k, rfl⟩
  · exact ent_emp _
theorem pdq (a : Option Addr) (n c : Nat) (k : Int) (x : Nat × Nat × List Value) (hx : ∃ l0 : List Str, x = (n, c, strsV l0) ∧ l0.length = n ∧ n ≤ 12) :
    Con Tryz.prog 294 [.slice a n c, .int .i64 0, .int .i64 n, .int .i64 k, .func (.func 164) #[] #[]] (own 9 1 a x)
      (fun _ B => ∃ l l0, x = (n, c, strsV l0) ∧ l.Perm l0 ∧ sortedTo l n ∧ B = own 9 1 a (n, c, strsV l)) := by
  obtain ⟨l0, rfl, hn, hn2⟩ := hx
  refine Con.of_body Tryz.func294 rfl rfl Tryz.ntmps294 Tryz.results294 rfl ?_
  repeat' first | refine sF_nilO ?_ | refine sF_add ?_ | refine sF_sub ?_ | refine sF_conv ?_ | refine sF_pure ?_ | refine sF_load ?_ rfl | refine sF_off ?_ | (refine sF_guardD rfl rfl rfl ?_ ?_ <;> intro _) | refine sF_op ?_ | refine sF_end0 ?_ | refine sF_end2 ?_ | refine sF_end ?_ | refine sL_add ?_ | refine sL_sub ?_ | refine sL_conv ?_ | refine sL_pure ?_ | refine sL_nil ?_ | refine sL_load ?_ rfl | refine sL_store ?_ rfl | refine sL_loadI ?_ rfl | (refine sL_box ?_; intro _) | (refine sL_alloc ?_; intro _) | (refine sL_lit ?_; intro _) | (refine sL_appendL ?_ rfl rfl rfl rfl rfl; intro _ _) | refine sL_off ?_ | refine sW_seq ?_ | refine sW_region ?_ | refine sW_ret ?_ | refine sW_block ?_ | refine sW_condT rfl ?_ | refine sW_condF rfl ?_ | (refine sW_if rfl ?_ ?_ <;> intro _) | (refine sW_ifn rfl ?_ ?_ <;> intro _) | (refine sW_cond rfl ?_ ?_ <;> intro _) | refine sW_skip ?_ | refine sW_exit ?_ | (refine sL_guardD rfl rfl ?_ ?_ <;> intro _) | (refine sL_guardN rfl rfl ?_ ?_ <;> intro _) | (refine sL_guard rfl rfl ?_ ?_ <;> intro _)
  refine sW_loop (α := Unit) (fun _ E H => E = _ ∧ H = _) (fun _ => 0) () ⟨rfl, rfl⟩ ?_
  rintro _ E H ⟨rfl, rfl⟩
  repeat' first | (refine sL_call (Rem := emp) rfl rfl rfl rfl (insSort a n c l0 hn (by omega)) (ent_trans (star_emp _) (star_comm _ _)) ?_; rintro _ _ ⟨l, hp, hs, rfl⟩) | refine sF_nilO ?_ | refine sF_add ?_ | refine sF_sub ?_ | refine sF_conv ?_ | refine sF_pure ?_ | refine sF_load ?_ rfl | refine sF_off ?_ | (refine sF_guardD rfl rfl rfl ?_ ?_ <;> intro _) | refine sF_op ?_ | refine sF_end0 ?_ | refine sF_end2 ?_ | refine sF_end ?_ | refine sL_add ?_ | refine sL_sub ?_ | refine sL_conv ?_ | refine sL_pure ?_ | refine sL_nil ?_ | refine sL_load ?_ rfl | refine sL_store ?_ rfl | refine sL_loadI ?_ rfl | (refine sL_box ?_; intro _) | (refine sL_alloc ?_; intro _) | (refine sL_lit ?_; intro _) | (refine sL_appendL ?_ rfl rfl rfl rfl rfl; intro _ _) | refine sL_off ?_ | refine sW_seq ?_ | refine sW_region ?_ | refine sW_ret ?_ | refine sW_block ?_ | refine sW_condT rfl ?_ | refine sW_condF rfl ?_ | (refine sW_if rfl ?_ ?_ <;> intro _) | (refine sW_ifn rfl ?_ ?_ <;> intro _) | (refine sW_cond rfl ?_ ?_ <;> intro _) | refine sW_skip ?_ | refine sW_exit ?_ | (refine sL_guardD rfl rfl ?_ ?_ <;> intro _) | (refine sL_guardN rfl rfl ?_ ?_ <;> intro _) | (refine sL_guard rfl rfl ?_ ?_ <;> intro _)
  · (repeat first | refine ret_then ?_ | refine ret_block ?_); apply retI; (repeat' first | exact res_nil | apply res_tmp ?_ rfl | apply res_cell ?_ rfl)
    · exact ⟨l, l0, rfl, hp, hs, rfl⟩
    · exact star_left _ _
  all_goals (exfalso; omega)
theorem strsV_inj {l l' : List Str} (h : strsV l = strsV l') : l = l' := by
  have : ∀ a b : Str, sv a = sv b → a = b := fun a b h => by simpa [sv] using h
  exact (List.map_inj_right this).1 h
theorem sortF (a : Option Addr) (n c : Nat) (l0 : List Str) (hn : l0.length = n) (hn2 : n ≤ 12) :
    Con Tryz.prog 263 [.slice a n c, .func (.func 164) #[] #[]] (own 9 1 a (n, c, strsV l0))
      (fun _ B => ∃ l, l.Perm l0 ∧ sortedTo l n ∧ B = own 9 1 a (n, c, strsV l)) := by
  refine Con.of_body Tryz.func263 rfl rfl Tryz.ntmps263 Tryz.results263 rfl ?_
  repeat' first | (refine sL_call0 ?_ rfl rfl (bLen n (by omega)); rintro _ _ ⟨k, rfl⟩) | (refine sL_call1c ?_ rfl rfl (pdq a n c _) ⟨l0, rfl, hn, hn2⟩; rintro _ _ ⟨l, l1, he, hp, hs, rfl⟩) | refine sF_nilO ?_ | refine sF_add ?_ | refine sF_sub ?_ | refine sF_conv ?_ | refine sF_pure ?_ | refine sF_load ?_ rfl | refine sF_off ?_ | (refine sF_guardD rfl rfl rfl ?_ ?_ <;> intro _) | refine sF_op ?_ | refine sF_end0 ?_ | refine sF_end2 ?_ | refine sF_end ?_ | refine sL_add ?_ | refine sL_sub ?_ | refine sL_conv ?_ | refine sL_pure ?_ | refine sL_nil ?_ | refine sL_load ?_ rfl | refine sL_store ?_ rfl | refine sL_loadI ?_ rfl | (refine sL_box ?_; intro _) | (refine sL_alloc ?_; intro _) | (refine sL_lit ?_; intro _) | (refine sL_appendL ?_ rfl rfl rfl rfl rfl; intro _ _) | refine sL_off ?_ | refine sW_seq ?_ | refine sW_region ?_ | refine sW_ret ?_ | refine sW_block ?_ | refine sW_condT rfl ?_ | refine sW_condF rfl ?_ | (refine sW_if rfl ?_ ?_ <;> intro _) | (refine sW_ifn rfl ?_ ?_ <;> intro _) | (refine sW_cond rfl ?_ ?_ <;> intro _) | refine sW_skip ?_ | refine sW_exit ?_ | (refine sL_guardD rfl rfl ?_ ?_ <;> intro _) | (refine sL_guardN rfl rfl ?_ ?_ <;> intro _) | (refine sL_guard rfl rfl ?_ ?_ <;> intro _)
  have hl1 : l0 = l1 := strsV_inj (congrArg (fun x : Nat × Nat × List Value => x.2.2) he)
  subst hl1
  (repeat first | refine th_exit ?_ | refine bl_exit ?_ | refine bl_normal ?_); apply retN; (repeat' first | exact res_nil | apply res_tmp ?_ rfl | apply res_cell ?_ rfl)
  · exact ⟨l, hp, hs, rfl⟩
  · (repeat first | exact ent_emp _ | exact ent_purL (by first | assumption | rfl | simp; done) | exact ent_atomL | refine ent_atom ?_ | refine ent_asc ?_ | refine ent_pur (by first | assumption | rfl) ?_)
def rises (l : List Str) : Prop := l.Pairwise (· < ·)
theorem rises_of {l : List Str} {n : Nat} (hn : l.length = n) (hs : sortedTo l n) (hd : l.Nodup) : rises l := by
  unfold rises
  rw [List.pairwise_iff_getElem]
  intro i j hi hj hij
  have h1 := hs i j hij (by omega)
  rw [fl_get hi, fl_get hj] at h1
  refine List.not_le.1 fun h2 => ?_
  exact List.pairwise_iff_getElem.1 hd i j hi hj hij (List.le_antisymm h1 h2)
theorem sortedF (gf : Nat) (caps : List Value) (A : HProp) (keys : List Str) (hf : isFn Tryz.prog gf = true) (hI : IterM Tryz.prog gf caps A keys) (hk : keys.length ≤ 12) (hd : keys.Nodup) :
    Con Tryz.prog 213 [.func (.func gf) #[] ⟨caps⟩, .func (.func 164) #[] #[]] A (fun v B => ∃ ss a c, ss.Perm keys ∧ rises ss ∧ v = .slice a ss.length c ∧ B = ((star (A) (own 9 1 a (ss.length, c, strsV ss))))) := by
  refine Con.of_body Tryz.func213 rfl rfl Tryz.ntmps213 Tryz.results213 rfl ?_
  repeat' first | (refine sL_call (Rem := emp) rfl rfl rfl rfl (colSeq gf caps A keys hf hI (by omega)) (ent_trans (star_emp _) (star_comm _ _)) ?_; rintro _ _ ⟨ss, a, c, hss, rfl, rfl⟩) | (refine sL_call (Rem := A) rfl rfl rfl rfl (sortF a ss.length c ss rfl (by have := hss.length_eq; omega)) (by (repeat first | exact ent_emp _ | exact ent_purL (by first | assumption | rfl | simp; done) | exact ent_atomL | refine ent_atom ?_ | refine ent_asc ?_ | refine ent_pur (by first | assumption | rfl) ?_)) ?_; rintro _ _ ⟨l, hp, hs, rfl⟩) | refine sF_nilO ?_ | refine sF_add ?_ | refine sF_sub ?_ | refine sF_conv ?_ | refine sF_pure ?_ | refine sF_load ?_ rfl | refine sF_off ?_ | (refine sF_guardD rfl rfl rfl ?_ ?_ <;> intro _) | refine sF_op ?_ | refine sF_end0 ?_ | refine sF_end2 ?_ | refine sF_end ?_ | refine sL_add ?_ | refine sL_sub ?_ | refine sL_conv ?_ | refine sL_pure ?_ | refine sL_nil ?_ | refine sL_load ?_ rfl | refine sL_store ?_ rfl | refine sL_loadI ?_ rfl | (refine sL_box ?_; intro _) | (refine sL_alloc ?_; intro _) | (refine sL_lit ?_; intro _) | (refine sL_appendL ?_ rfl rfl rfl rfl rfl; intro _ _) | refine sL_off ?_ | refine sW_seq ?_ | refine sW_region ?_ | refine sW_ret ?_ | refine sW_block ?_ | refine sW_condT rfl ?_ | refine sW_condF rfl ?_ | (refine sW_if rfl ?_ ?_ <;> intro _) | (refine sW_ifn rfl ?_ ?_ <;> intro _) | (refine sW_cond rfl ?_ ?_ <;> intro _) | refine sW_skip ?_ | refine sW_exit ?_ | (refine sL_guardD rfl rfl ?_ ?_ <;> intro _) | (refine sL_guardN rfl rfl ?_ ?_ <;> intro _) | (refine sL_guard rfl rfl ?_ ?_ <;> intro _)
  have hlen := hp.length_eq
  rw [← hlen] at hs ⊢
  (repeat first | refine ret_then ?_ | refine ret_block ?_); apply retI; (repeat' first | exact res_nil | apply res_tmp ?_ rfl | apply res_cell ?_ rfl)
  · exact ⟨l, a, c, hp.trans hss, rises_of rfl hs ((hp.trans hss).nodup_iff.2 hd), rfl, rfl⟩
  · (repeat first | exact ent_emp _ | exact ent_purL (by first | assumption | rfl | simp; done) | exact ent_atomL | refine ent_atom ?_ | refine ent_asc ?_ | refine ent_pur (by first | assumption | rfl) ?_)
end Go.Proofs.YtmkdbdkaheiaaaaGreatDoor
namespace Go.Proofs.YtmkdbdkaheiaaaaGreatDoor
open Go Go.Sl
variable [Amb]
set_option linter.unusedSectionVars false
set_option linter.unusedVariables false
set_option maxRecDepth 100000
attribute [local irreducible] sW sL sF
def dirM (m : List (Str × Str)) : List (Str × Value) := m.map fun p => (p.1, sv p.2)
def isDir (p : Nat) (m : List (Str × Str)) : HProp := ex fun r : Nat => (star (blk p (.cells ⟨[.map (some r)]⟩ 173 (0, 0))) (mapH r (dirM m)))
theorem dirM_len (m : List (Str × Str)) : (dirM m).length = m.length := by simp [dirM]
theorem dirM_keys (m : List (Str × Str)) : (dirM m).map (·.1) = m.map (·.1) := by simp [dirM, List.map_map, Function.comp_def]
theorem eNew : Con Tryz.prog 38 [] emp (fun v B => ∃ p, v = .pointer (some ⟨p, 0, none⟩) ∧ B = isDir p []) := by
  refine Con.of_body Tryz.func38 rfl rfl Tryz.ntmps38 Tryz.results38 rfl ?_
  repeat' first | (refine sL_makeMap ?_; intro r) | refine sF_nilO ?_ | refine sF_add ?_ | refine sF_sub ?_ | refine sF_conv ?_ | refine sF_pure ?_ | refine sF_load ?_ rfl | refine sF_off ?_ | (refine sF_guardD rfl rfl rfl ?_ ?_ <;> intro _) | refine sF_op ?_ | refine sF_end0 ?_ | refine sF_end2 ?_ | refine sF_end ?_ | refine sL_add ?_ | refine sL_sub ?_ | refine sL_conv ?_ | refine sL_pure ?_ | refine sL_nil ?_ | refine sL_load ?_ rfl | refine sL_store ?_ rfl | refine sL_loadI ?_ rfl | (refine sL_box ?_; intro _) | (refine sL_alloc ?_; intro _) | (refine sL_lit ?_; intro _) | (refine sL_appendL ?_ rfl rfl rfl rfl rfl; intro _ _) | refine sL_off ?_ | refine sW_seq ?_ | refine sW_region ?_ | refine sW_ret ?_ | refine sW_block ?_ | refine sW_condT rfl ?_ | refine sW_condF rfl ?_ | (refine sW_if rfl ?_ ?_ <;> intro _) | (refine sW_ifn rfl ?_ ?_ <;> intro _) | (refine sW_cond rfl ?_ ?_ <;> intro _) | refine sW_skip ?_ | refine sW_exit ?_ | (refine sL_guardD rfl rfl ?_ ?_ <;> intro _) | (refine sL_guardN rfl rfl ?_ ?_ <;> intro _) | (refine sL_guard rfl rfl ?_ ?_ <;> intro _)
  (repeat first | refine ret_then ?_ | refine ret_block ?_); apply retI; (repeat' first | exact res_nil | apply res_tmp ?_ rfl | apply res_cell ?_ rfl)
  · exact ⟨_, rfl, rfl⟩
  · exact ent_ex r (star_mono (ent_refl _) (star_left _ _))
theorem eLen (p : Nat) (m : List (Str × Str)) : Con Tryz.prog 105 [.pointer (some ⟨p, 0, none⟩)] (isDir p m) (fun v B => v = .int .i64 m.length ∧ B = isDir p m) := by
  refine Con.of_body Tryz.func105 rfl rfl Tryz.ntmps105 Tryz.results105 rfl ?_
  unfold isDir
  refine sW_ex1 fun r => ?_
  repeat' first | (refine sL_lenM ?_ rfl) | refine sF_nilO ?_ | refine sF_add ?_ | refine sF_sub ?_ | refine sF_conv ?_ | refine sF_pure ?_ | refine sF_load ?_ rfl | refine sF_off ?_ | (refine sF_guardD rfl rfl rfl ?_ ?_ <;> intro _) | refine sF_op ?_ | refine sF_end0 ?_ | refine sF_end2 ?_ | refine sF_end ?_ | refine sL_add ?_ | refine sL_sub ?_ | refine sL_conv ?_ | refine sL_pure ?_ | refine sL_nil ?_ | refine sL_load ?_ rfl | refine sL_store ?_ rfl | refine sL_loadI ?_ rfl | (refine sL_box ?_; intro _) | (refine sL_alloc ?_; intro _) | (refine sL_lit ?_; intro _) | (refine sL_appendL ?_ rfl rfl rfl rfl rfl; intro _ _) | refine sL_off ?_ | refine sW_seq ?_ | refine sW_region ?_ | refine sW_ret ?_ | refine sW_block ?_ | refine sW_condT rfl ?_ | refine sW_condF rfl ?_ | (refine sW_if rfl ?_ ?_ <;> intro _) | (refine sW_ifn rfl ?_ ?_ <;> intro _) | (refine sW_cond rfl ?_ ?_ <;> intro _) | refine sW_skip ?_ | refine sW_exit ?_ | (refine sL_guardD rfl rfl ?_ ?_ <;> intro _) | (refine sL_guardN rfl rfl ?_ ?_ <;> intro _) | (refine sL_guard rfl rfl ?_ ?_ <;> intro _)
  (repeat first | refine ret_then ?_ | refine ret_block ?_); apply retI; (repeat' first | exact res_nil | apply res_tmp ?_ rfl | apply res_cell ?_ rfl)
  · exact ⟨by rw [dirM_len]; rfl, rfl⟩
  · exact ent_ex r (ent_refl _)
theorem map_nodup {r : Nat} {m : List (Str × Value)} : (ent (mapH r m) (pure (m.map (·.1)).Nodup)) := by
  rintro O I ⟨es, ck, O₁, O₂, _, _, _, _, hp⟩
  exact hp.keys
theorem eNames (p : Nat) (m : List (Str × Str)) (hm : m.length ≤ 12) : Con Tryz.prog 170 [.pointer (some ⟨p, 0, none⟩)] (isDir p m)
    (fun v B => ∃ ss a c, ss.Perm (m.map (·.1)) ∧ rises ss ∧ v = .slice a ss.length c ∧ B = ((star (isDir p m) (own 9 1 a (ss.length, c, strsV ss))))) := by
  refine Con.of_body Tryz.func170 rfl rfl Tryz.ntmps170 Tryz.results170 rfl ?_
  unfold isDir
  refine sW_ex1 fun r => ?_
  refine sW_pre ?_ (pers_dup (A := pure ((dirM m).map (·.1)).Nodup) (ent_trans (star_right _ _) map_nodup))
  refine sW_pur fun hnd => ?_
  repeat' first | (refine sL_call0 ?_ rfl rfl (kStr r); rintro _ _ ⟨b, rfl, rfl⟩) | refine sF_nilO ?_ | refine sF_add ?_ | refine sF_sub ?_ | refine sF_conv ?_ | refine sF_pure ?_ | refine sF_load ?_ rfl | refine sF_off ?_ | (refine sF_guardD rfl rfl rfl ?_ ?_ <;> intro _) | refine sF_op ?_ | refine sF_end0 ?_ | refine sF_end2 ?_ | refine sF_end ?_ | refine sL_add ?_ | refine sL_sub ?_ | refine sL_conv ?_ | refine sL_pure ?_ | refine sL_nil ?_ | refine sL_load ?_ rfl | refine sL_store ?_ rfl | refine sL_loadI ?_ rfl | (refine sL_box ?_; intro _) | (refine sL_alloc ?_; intro _) | (refine sL_lit ?_; intro _) | (refine sL_appendL ?_ rfl rfl rfl rfl rfl; intro _ _) | refine sL_off ?_ | refine sW_seq ?_ | refine sW_region ?_ | refine sW_ret ?_ | refine sW_block ?_ | refine sW_condT rfl ?_ | refine sW_condF rfl ?_ | (refine sW_if rfl ?_ ?_ <;> intro _) | (refine sW_ifn rfl ?_ ?_ <;> intro _) | (refine sW_cond rfl ?_ ?_ <;> intro _) | refine sW_skip ?_ | refine sW_exit ?_ | (refine sL_guardD rfl rfl ?_ ?_ <;> intro _) | (refine sL_guardN rfl rfl ?_ ?_ <;> intro _) | (refine sL_guard rfl rfl ?_ ?_ <;> intro _)
  refine sL_call (Rem := blk p (.cells ⟨[.map (some r)]⟩ 173 (0, 0))) rfl rfl rfl rfl (sortedF _ _ _ ((dirM m).map (·.1)) rfl (kStrIt b r (dirM m)) (by simp [dirM]; omega) hnd) ?_ ?_
  · (repeat first | exact ent_emp _ | exact ent_purL (by first | assumption | rfl | simp; done) | exact ent_atomL | refine ent_atom ?_ | refine ent_asc ?_ | refine ent_pur (by first | assumption | rfl) ?_)
  rintro _ _ ⟨ss, a, c, hp, hr, rfl, rfl⟩
  rw [dirM_keys] at hp
  repeat' first | refine sF_nilO ?_ | refine sF_add ?_ | refine sF_sub ?_ | refine sF_conv ?_ | refine sF_pure ?_ | refine sF_load ?_ rfl | refine sF_off ?_ | (refine sF_guardD rfl rfl rfl ?_ ?_ <;> intro _) | refine sF_op ?_ | refine sF_end0 ?_ | refine sF_end2 ?_ | refine sF_end ?_ | refine sL_add ?_ | refine sL_sub ?_ | refine sL_conv ?_ | refine sL_pure ?_ | refine sL_nil ?_ | refine sL_load ?_ rfl | refine sL_store ?_ rfl | refine sL_loadI ?_ rfl | (refine sL_box ?_; intro _) | (refine sL_alloc ?_; intro _) | (refine sL_lit ?_; intro _) | (refine sL_appendL ?_ rfl rfl rfl rfl rfl; intro _ _) | refine sL_off ?_ | refine sW_seq ?_ | refine sW_region ?_ | refine sW_ret ?_ | refine sW_block ?_ | refine sW_condT rfl ?_ | refine sW_condF rfl ?_ | (refine sW_if rfl ?_ ?_ <;> intro _) | (refine sW_ifn rfl ?_ ?_ <;> intro _) | (refine sW_cond rfl ?_ ?_ <;> intro _) | refine sW_skip ?_ | refine sW_exit ?_ | (refine sL_guardD rfl rfl ?_ ?_ <;> intro _) | (refine sL_guardN rfl rfl ?_ ?_ <;> intro _) | (refine sL_guard rfl rfl ?_ ?_ <;> intro _)
  (repeat first | refine ret_then ?_ | refine ret_block ?_); apply retI; (repeat' first | exact res_nil | apply res_tmp ?_ rfl | apply res_cell ?_ rfl)
  · exact ⟨ss, a, c, hp, hr, rfl, rfl⟩
  · refine ent_trans ?_ (star_mono (ent_ex r (ent_refl _)) (ent_refl _))
    (repeat first | exact ent_emp _ | exact ent_purL (by first | assumption | rfl | simp; done) | exact ent_atomL | refine ent_atom ?_ | refine ent_asc ?_ | refine ent_pur (by first | assumption | rfl) ?_)

/-- a user of the first schema: its name and its sum -/
def userC (u : Str × Str) : List Value := [sv u.1, sv u.2, sv [], .bool false, .slice none 0 0]
def usersC (l : List (Str × Str)) : List Value := l.flatMap userC
def hashM (m : List (Str × Str)) (n : Str) : Str := match m with
  | [] => []
  | (a, h) :: m => if a = n then h else hashM m n
theorem getM_dir (m : List (Str × Str)) (n : Str) : (getM n (dirM m)).getD (sv []) = sv (hashM m n) := by
  induction m with
  | nil => rfl
  | cons p m ih =>
    obtain ⟨a, h⟩ := p
    simp only [dirM, List.map_cons, getM, hashM] at ih ⊢
    split
    · rfl
    · exact ih
def pairsM (m : List (Str × Str)) (ss : List Str) : List (Str × Str) := ss.map fun n => (n, hashM m n)
theorem eAll (p : Nat) (m : List (Str × Str)) (hm : m.length ≤ 12) : Con Tryz.prog 106 [.pointer (some ⟨p, 0, none⟩)] (isDir p m)
    (fun v B => ∃ ss a c, ss.Perm (m.map (·.1)) ∧ rises ss ∧ v = .slice a ss.length c ∧ B = ((star (isDir p m) (own 198 5 a (ss.length, c, usersC (pairsM m ss)))))) := by
  refine Con.of_body Tryz.func106 rfl rfl Tryz.ntmps106 Tryz.results106 rfl ?_
  repeat' first | (refine sL_call1c ?_ rfl rfl (fun m' (h : m' = m) => h ▸ eNames p m hm) rfl; rintro _ _ ⟨ss, a, c, hp, hr, rfl, rfl⟩) | refine sF_nilO ?_ | refine sF_add ?_ | refine sF_sub ?_ | refine sF_conv ?_ | refine sF_pure ?_ | refine sF_load ?_ rfl | refine sF_off ?_ | (refine sF_guardD rfl rfl rfl ?_ ?_ <;> intro _) | refine sF_op ?_ | refine sF_end0 ?_ | refine sF_end2 ?_ | refine sF_end ?_ | refine sL_add ?_ | refine sL_sub ?_ | refine sL_conv ?_ | refine sL_pure ?_ | refine sL_nil ?_ | refine sL_load ?_ rfl | refine sL_store ?_ rfl | refine sL_loadI ?_ rfl | (refine sL_box ?_; intro _) | (refine sL_alloc ?_; intro _) | (refine sL_lit ?_; intro _) | (refine sL_appendL ?_ rfl rfl rfl rfl rfl; intro _ _) | refine sL_off ?_ | refine sW_seq ?_ | refine sW_region ?_ | refine sW_ret ?_ | refine sW_block ?_ | refine sW_condT rfl ?_ | refine sW_condF rfl ?_ | (refine sW_if rfl ?_ ?_ <;> intro _) | (refine sW_ifn rfl ?_ ?_ <;> intro _) | (refine sW_cond rfl ?_ ?_ <;> intro _) | refine sW_skip ?_ | refine sW_exit ?_ | (refine sL_guardD rfl rfl ?_ ?_ <;> intro _) | (refine sL_guardN rfl rfl ?_ ?_ <;> intro _) | (refine sL_guard rfl rfl ?_ ?_ <;> intro _)
  have hss : ss.length ≤ 12 := by have := hp.length_eq; simp only [List.length_map] at this; omega
  refine sW_pre (H' := (star (own 198 5 none (0, 0, [])) (((star (isDir p m) (own 9 1 a (ss.length, c, strsV ss))))))) ?_ (ent_trans (own_nil 198 5 _) (by (repeat first | exact ent_emp _ | exact ent_purL (by first | assumption | rfl | simp; done) | exact ent_atomL | refine ent_atom ?_ | refine ent_asc ?_ | refine ent_pur (by first | assumption | rfl) ?_)))
  refine sW_for (α := Nat × Option Addr × Nat) (fun y => [(0, .pointer (some ⟨p, 0, none⟩)), (3, .slice y.2.1 y.1 y.2.2), (7, .slice a ss.length c), (8, .int .i64 ss.length), (9, .int .i64 y.1)])
    (fun y => (star (own 198 5 y.2.1 (y.1, y.2.2, usersC (pairsM m (ss.take y.1)))) (((star (isDir p m) (own 9 1 a (ss.length, c, strsV ss))))))) (fun y => y.1 ≤ ss.length) (fun y => ss.length - y.1) (0, none, 0) (Nat.zero_le _) ⟨rfl, rfl, rfl, rfl, rfl, trivial⟩ (ent_refl _) ?_
  rintro ⟨i, a2, c2⟩ hi
  simp only at hi ⊢
  repeat' first | refine sF_nilO ?_ | refine sF_add ?_ | refine sF_sub ?_ | refine sF_conv ?_ | refine sF_pure ?_ | refine sF_load ?_ rfl | refine sF_off ?_ | (refine sF_guardD rfl rfl rfl ?_ ?_ <;> intro _) | refine sF_op ?_ | refine sF_end0 ?_ | refine sF_end2 ?_ | refine sF_end ?_ | refine sL_add ?_ | refine sL_sub ?_ | refine sL_conv ?_ | refine sL_pure ?_ | refine sL_nil ?_ | refine sL_load ?_ rfl | refine sL_store ?_ rfl | refine sL_loadI ?_ rfl | (refine sL_box ?_; intro _) | (refine sL_alloc ?_; intro _) | (refine sL_lit ?_; intro _) | (refine sL_appendL ?_ rfl rfl rfl rfl rfl; intro _ _) | refine sL_off ?_ | refine sW_seq ?_ | refine sW_region ?_ | refine sW_ret ?_ | refine sW_block ?_ | refine sW_condT rfl ?_ | refine sW_condF rfl ?_ | (refine sW_if rfl ?_ ?_ <;> intro _) | (refine sW_ifn rfl ?_ ?_ <;> intro _) | (refine sW_cond rfl ?_ ?_ <;> intro _) | refine sW_skip ?_ | refine sW_exit ?_ | (refine sL_guardD rfl rfl ?_ ?_ <;> intro _) | (refine sL_guardN rfl rfl ?_ ?_ <;> intro _) | (refine sL_guard rfl rfl ?_ ?_ <;> intro _)
  · rename_i hlt
    have hil : i < ss.length := by omega
    refine sL_take (p := isDir) (b := p) ?_
    unfold isDir
    refine sL_ex fun r => ?_
    refine sL_assoc ?_
    repeat' first | (refine sL_idxO ?_ rfl rfl rfl rfl rfl) | (refine sL_loadO (El := 9) (k := 1) ?_ rfl (ldStr hil rfl)) | (refine sL_lookup1 (z := sv []) ?_ rfl rfl; rw [getM_dir]) | refine sF_nilO ?_ | refine sF_add ?_ | refine sF_sub ?_ | refine sF_conv ?_ | refine sF_pure ?_ | refine sF_load ?_ rfl | refine sF_off ?_ | (refine sF_guardD rfl rfl rfl ?_ ?_ <;> intro _) | refine sF_op ?_ | refine sF_end0 ?_ | refine sF_end2 ?_ | refine sF_end ?_ | refine sL_add ?_ | refine sL_sub ?_ | refine sL_conv ?_ | refine sL_pure ?_ | refine sL_nil ?_ | refine sL_load ?_ rfl | refine sL_store ?_ rfl | refine sL_loadI ?_ rfl | (refine sL_box ?_; intro _) | (refine sL_alloc ?_; intro _) | (refine sL_lit ?_; intro _) | (refine sL_appendL ?_ rfl rfl rfl rfl rfl; intro _ _) | refine sL_off ?_ | refine sW_seq ?_ | refine sW_region ?_ | refine sW_ret ?_ | refine sW_block ?_ | refine sW_condT rfl ?_ | refine sW_condF rfl ?_ | (refine sW_if rfl ?_ ?_ <;> intro _) | (refine sW_ifn rfl ?_ ?_ <;> intro _) | (refine sW_cond rfl ?_ ?_ <;> intro _) | refine sW_skip ?_ | refine sW_exit ?_ | (refine sL_guardD rfl rfl ?_ ?_ <;> intro _) | (refine sL_guardN rfl rfl ?_ ?_ <;> intro _) | (refine sL_guard rfl rfl ?_ ?_ <;> intro _)
    rename_i b2 a3 c3
    refine ⟨(i + 1, a3, c3), by simp only; omega, ⟨rfl, rfl, rfl, rfl, rfl, trivial⟩, ?_, by simp only; omega⟩
    have : usersC (pairsM m (ss.take (i + 1))) = usersC (pairsM m (ss.take i)) ++ [sv ss[i], sv (hashM m ss[i]), .string ⟨⟨[]⟩⟩, .bool false, .slice none 0 0] := by
      rw [← List.take_append_getElem hil]; simp only [usersC, pairsM, List.map_append, List.flatMap_append, List.map_cons, List.map_nil, List.flatMap_cons, List.flatMap_nil, List.append_nil]; rfl
    simp only [this]
    refine ent_trans ?_ (star_mono (ent_refl _) (star_mono (ent_ex r (ent_refl _)) (ent_refl _)))
    (repeat first | exact ent_emp _ | exact ent_purL (by first | assumption | rfl | simp; done) | exact ent_atomL | refine ent_atom ?_ | refine ent_asc ?_ | refine ent_pur (by first | assumption | rfl) ?_)
  · have : i = ss.length := by omega
    subst this
    (repeat first | refine ret_then ?_ | refine ret_block ?_); apply retI; (repeat' first | exact res_nil | apply res_tmp ?_ rfl | apply res_cell ?_ rfl)
    · exact ⟨ss, a2, c2, hp, hr, rfl, rfl⟩
    · rw [List.take_length]
      (repeat first | exact ent_emp _ | exact ent_purL (by first | assumption | rfl | simp; done) | exact ent_atomL | refine ent_atom ?_ | refine ent_asc ?_ | refine ent_pur (by first | assumption | rfl) ?_)
end Go.Proofs.YtmkdbdkaheiaaaaGreatDoor
namespace Go.Proofs.YtmkdbdkaheiaaaaGreatDoor
open Go Go.Sl
variable [Amb]
set_option linter.unusedSectionVars false
set_option linter.unusedVariables false
set_option maxRecDepth 100000
attribute [local irreducible] sW sL sF
def relV (l : List Nat) : List Value := l.map fun r : Nat => .int .u8 r
def isBrd (p : Nat) (l : List Nat) : HProp :=
  ex fun a : Option Addr => ex fun c : Nat => (star (blk p (.cells ⟨[.slice a l.length c]⟩ 170 (0, 0))) (own 30 1 a (l.length, c, relV l)))
theorem relV_len (l : List Nat) : (relV l).length = l.length := by simp [relV]
def right (n : Int) : Prop := n = 3 ∨ n = 5 ∨ n = 7
instance : DecidablePred right := fun n => by unfold right; infer_instance
theorem brd_new {p k : Nat} {a : Option Addr} {R : HProp} : (ent (((star (blk p (.cells ⟨[.slice a k k]⟩ 170 (0, 0))) (((star (own 30 1 a (k, k, relV (List.replicate k 0))) (R))))))) (((star (isBrd p (List.replicate k 0)) (R))))) := by
  refine ent_trans (star_assoc' _ _ _) (star_mono ?_ (ent_refl _))
  refine ent_ex a (ent_ex k ?_)
  simp only [List.length_replicate]
  exact ent_refl _
theorem bNew (n : Nat) (hn : right n) : Con Tryz.prog 36 [.int .i64 n] emp (fun v B => ∃ p, v = .pointer (some ⟨p, 0, none⟩) ∧ B = isBrd p (List.replicate n 0)) := by
  refine Con.of_body Tryz.func36 rfl rfl Tryz.ntmps36 Tryz.results36 rfl ?_
  have h : n = 3 ∨ n = 5 ∨ n = 7 := by unfold right at hn; omega
  rcases h with rfl | rfl | rfl
  all_goals repeat' first | refine sF_nilO ?_ | refine sF_add ?_ | refine sF_sub ?_ | refine sF_conv ?_ | refine sF_pure ?_ | refine sF_load ?_ rfl | refine sF_off ?_ | (refine sF_guardD rfl rfl rfl ?_ ?_ <;> intro _) | refine sF_op ?_ | refine sF_end0 ?_ | refine sF_end2 ?_ | refine sF_end ?_ | refine sL_add ?_ | refine sL_sub ?_ | refine sL_conv ?_ | refine sL_pure ?_ | refine sL_nil ?_ | refine sL_load ?_ rfl | refine sL_store ?_ rfl | refine sL_loadI ?_ rfl | (refine sL_box ?_; intro _) | (refine sL_alloc ?_; intro _) | (refine sL_lit ?_; intro _) | (refine sL_appendL ?_ rfl rfl rfl rfl rfl; intro _ _) | refine sL_off ?_ | refine sW_seq ?_ | refine sW_region ?_ | refine sW_ret ?_ | refine sW_block ?_ | refine sW_condT rfl ?_ | refine sW_condF rfl ?_ | (refine sW_if rfl ?_ ?_ <;> intro _) | (refine sW_ifn rfl ?_ ?_ <;> intro _) | (refine sW_cond rfl ?_ ?_ <;> intro _) | refine sW_skip ?_ | refine sW_exit ?_ | (refine sL_guardD rfl rfl ?_ ?_ <;> intro _) | (refine sL_guardN rfl rfl ?_ ?_ <;> intro _) | (refine sL_guard rfl rfl ?_ ?_ <;> intro _)
  all_goals first | (exfalso; omega) | skip
  · refine sL_make (m := 3) (base := relV (List.replicate 3 0)) ?_ rfl rfl (by omega) rfl
    intro a
    repeat' first | refine sF_nilO ?_ | refine sF_add ?_ | refine sF_sub ?_ | refine sF_conv ?_ | refine sF_pure ?_ | refine sF_load ?_ rfl | refine sF_off ?_ | (refine sF_guardD rfl rfl rfl ?_ ?_ <;> intro _) | refine sF_op ?_ | refine sF_end0 ?_ | refine sF_end2 ?_ | refine sF_end ?_ | refine sL_add ?_ | refine sL_sub ?_ | refine sL_conv ?_ | refine sL_pure ?_ | refine sL_nil ?_ | refine sL_load ?_ rfl | refine sL_store ?_ rfl | refine sL_loadI ?_ rfl | (refine sL_box ?_; intro _) | (refine sL_alloc ?_; intro _) | (refine sL_lit ?_; intro _) | (refine sL_appendL ?_ rfl rfl rfl rfl rfl; intro _ _) | refine sL_off ?_ | refine sW_seq ?_ | refine sW_region ?_ | refine sW_ret ?_ | refine sW_block ?_ | refine sW_condT rfl ?_ | refine sW_condF rfl ?_ | (refine sW_if rfl ?_ ?_ <;> intro _) | (refine sW_ifn rfl ?_ ?_ <;> intro _) | (refine sW_cond rfl ?_ ?_ <;> intro _) | refine sW_skip ?_ | refine sW_exit ?_ | (refine sL_guardD rfl rfl ?_ ?_ <;> intro _) | (refine sL_guardN rfl rfl ?_ ?_ <;> intro _) | (refine sL_guard rfl rfl ?_ ?_ <;> intro _)
    (repeat first | refine ret_then ?_ | refine ret_block ?_); apply retI; (repeat' first | exact res_nil | apply res_tmp ?_ rfl | apply res_cell ?_ rfl)
    · exact ⟨_, rfl, rfl⟩
    · exact ent_trans brd_new (star_left _ _)
  · refine sL_make (m := 5) (base := relV (List.replicate 5 0)) ?_ rfl rfl (by omega) rfl
    intro a
    repeat' first | refine sF_nilO ?_ | refine sF_add ?_ | refine sF_sub ?_ | refine sF_conv ?_ | refine sF_pure ?_ | refine sF_load ?_ rfl | refine sF_off ?_ | (refine sF_guardD rfl rfl rfl ?_ ?_ <;> intro _) | refine sF_op ?_ | refine sF_end0 ?_ | refine sF_end2 ?_ | refine sF_end ?_ | refine sL_add ?_ | refine sL_sub ?_ | refine sL_conv ?_ | refine sL_pure ?_ | refine sL_nil ?_ | refine sL_load ?_ rfl | refine sL_store ?_ rfl | refine sL_loadI ?_ rfl | (refine sL_box ?_; intro _) | (refine sL_alloc ?_; intro _) | (refine sL_lit ?_; intro _) | (refine sL_appendL ?_ rfl rfl rfl rfl rfl; intro _ _) | refine sL_off ?_ | refine sW_seq ?_ | refine sW_region ?_ | refine sW_ret ?_ | refine sW_block ?_ | refine sW_condT rfl ?_ | refine sW_condF rfl ?_ | (refine sW_if rfl ?_ ?_ <;> intro _) | (refine sW_ifn rfl ?_ ?_ <;> intro _) | (refine sW_cond rfl ?_ ?_ <;> intro _) | refine sW_skip ?_ | refine sW_exit ?_ | (refine sL_guardD rfl rfl ?_ ?_ <;> intro _) | (refine sL_guardN rfl rfl ?_ ?_ <;> intro _) | (refine sL_guard rfl rfl ?_ ?_ <;> intro _)
    (repeat first | refine ret_then ?_ | refine ret_block ?_); apply retI; (repeat' first | exact res_nil | apply res_tmp ?_ rfl | apply res_cell ?_ rfl)
    · exact ⟨_, rfl, rfl⟩
    · exact ent_trans brd_new (star_left _ _)
  · refine sL_make (m := 7) (base := relV (List.replicate 7 0)) ?_ rfl rfl (by omega) rfl
    intro a
    repeat' first | refine sF_nilO ?_ | refine sF_add ?_ | refine sF_sub ?_ | refine sF_conv ?_ | refine sF_pure ?_ | refine sF_load ?_ rfl | refine sF_off ?_ | (refine sF_guardD rfl rfl rfl ?_ ?_ <;> intro _) | refine sF_op ?_ | refine sF_end0 ?_ | refine sF_end2 ?_ | refine sF_end ?_ | refine sL_add ?_ | refine sL_sub ?_ | refine sL_conv ?_ | refine sL_pure ?_ | refine sL_nil ?_ | refine sL_load ?_ rfl | refine sL_store ?_ rfl | refine sL_loadI ?_ rfl | (refine sL_box ?_; intro _) | (refine sL_alloc ?_; intro _) | (refine sL_lit ?_; intro _) | (refine sL_appendL ?_ rfl rfl rfl rfl rfl; intro _ _) | refine sL_off ?_ | refine sW_seq ?_ | refine sW_region ?_ | refine sW_ret ?_ | refine sW_block ?_ | refine sW_condT rfl ?_ | refine sW_condF rfl ?_ | (refine sW_if rfl ?_ ?_ <;> intro _) | (refine sW_ifn rfl ?_ ?_ <;> intro _) | (refine sW_cond rfl ?_ ?_ <;> intro _) | refine sW_skip ?_ | refine sW_exit ?_ | (refine sL_guardD rfl rfl ?_ ?_ <;> intro _) | (refine sL_guardN rfl rfl ?_ ?_ <;> intro _) | (refine sL_guard rfl rfl ?_ ?_ <;> intro _)
    (repeat first | refine ret_then ?_ | refine ret_block ?_); apply retI; (repeat' first | exact res_nil | apply res_tmp ?_ rfl | apply res_cell ?_ rfl)
    · exact ⟨_, rfl, rfl⟩
    · exact ent_trans brd_new (star_left _ _)
theorem bNewBad (n : Int) (hn : ¬ right n) : Con Tryz.prog 36 [.int .i64 n] emp (fun v _ => v = .pointer none) := by
  refine Con.of_body Tryz.func36 rfl rfl Tryz.ntmps36 Tryz.results36 rfl ?_
  unfold right at hn
  repeat' first | refine sF_nilO ?_ | refine sF_add ?_ | refine sF_sub ?_ | refine sF_conv ?_ | refine sF_pure ?_ | refine sF_load ?_ rfl | refine sF_off ?_ | (refine sF_guardD rfl rfl rfl ?_ ?_ <;> intro _) | refine sF_op ?_ | refine sF_end0 ?_ | refine sF_end2 ?_ | refine sF_end ?_ | refine sL_add ?_ | refine sL_sub ?_ | refine sL_conv ?_ | refine sL_pure ?_ | refine sL_nil ?_ | refine sL_load ?_ rfl | refine sL_store ?_ rfl | refine sL_loadI ?_ rfl | (refine sL_box ?_; intro _) | (refine sL_alloc ?_; intro _) | (refine sL_lit ?_; intro _) | (refine sL_appendL ?_ rfl rfl rfl rfl rfl; intro _ _) | refine sL_off ?_ | refine sW_seq ?_ | refine sW_region ?_ | refine sW_ret ?_ | refine sW_block ?_ | refine sW_condT rfl ?_ | refine sW_condF rfl ?_ | (refine sW_if rfl ?_ ?_ <;> intro _) | (refine sW_ifn rfl ?_ ?_ <;> intro _) | (refine sW_cond rfl ?_ ?_ <;> intro _) | refine sW_skip ?_ | refine sW_exit ?_ | (refine sL_guardD rfl rfl ?_ ?_ <;> intro _) | (refine sL_guardN rfl rfl ?_ ?_ <;> intro _) | (refine sL_guard rfl rfl ?_ ?_ <;> intro _)
  all_goals first | (exfalso; omega) | skip
  (repeat first | refine ret_then ?_ | refine ret_block ?_); apply retI; (repeat' first | exact res_nil | apply res_tmp ?_ rfl | apply res_cell ?_ rfl)
  · rfl
  · exact ent_refl _

def hasB (r a : Nat) : Bool := decide (r &&& a = a)
theorem bv_and (r a : Nat) (hr : r < 256) (ha : a < 256) : IntKind.u8.wrap ((BitVec.ofInt IntKind.u8.bits (r : Int) &&& BitVec.ofInt IntKind.u8.bits (a : Int)).toNat : Int) = ((r &&& a : Nat) : Int) := by
  have e : ∀ x : Nat, x < 256 → (BitVec.ofInt IntKind.u8.bits (x : Int)).toNat = x := by
    intro x hx
    show (BitVec.ofInt 8 (x : Int)).toNat = x
    rw [BitVec.toNat_ofInt]
    omega
  rw [BitVec.toNat_and, e r hr, e a ha]
  exact wrap_fits (by have := Nat.and_le_left (n := r) (m := a); simp only [Fits]; omega)
theorem bHas (r a : Nat) (hr : r < 256) (ha : a < 256) : Con Tryz.prog 89 [.int .u8 r, .int .u8 a] emp (fun v _ => v = .bool (hasB r a)) := by
  refine Con.of_body Tryz.func89 rfl rfl Tryz.ntmps89 Tryz.results89 rfl ?_
  repeat' first | refine sF_nilO ?_ | refine sF_add ?_ | refine sF_sub ?_ | refine sF_conv ?_ | refine sF_pure ?_ | refine sF_load ?_ rfl | refine sF_off ?_ | (refine sF_guardD rfl rfl rfl ?_ ?_ <;> intro _) | refine sF_op ?_ | refine sF_end0 ?_ | refine sF_end2 ?_ | refine sF_end ?_ | refine sL_add ?_ | refine sL_sub ?_ | refine sL_conv ?_ | refine sL_pure ?_ | refine sL_nil ?_ | refine sL_load ?_ rfl | refine sL_store ?_ rfl | refine sL_loadI ?_ rfl | (refine sL_box ?_; intro _) | (refine sL_alloc ?_; intro _) | (refine sL_lit ?_; intro _) | (refine sL_appendL ?_ rfl rfl rfl rfl rfl; intro _ _) | refine sL_off ?_ | refine sW_seq ?_ | refine sW_region ?_ | refine sW_ret ?_ | refine sW_block ?_ | refine sW_condT rfl ?_ | refine sW_condF rfl ?_ | (refine sW_if rfl ?_ ?_ <;> intro _) | (refine sW_ifn rfl ?_ ?_ <;> intro _) | (refine sW_cond rfl ?_ ?_ <;> intro _) | refine sW_skip ?_ | refine sW_exit ?_ | (refine sL_guardD rfl rfl ?_ ?_ <;> intro _) | (refine sL_guardN rfl rfl ?_ ?_ <;> intro _) | (refine sL_guard rfl rfl ?_ ?_ <;> intro _)
  (repeat first | refine ret_then ?_ | refine ret_block ?_); apply retI; (repeat' first | exact res_nil | apply res_tmp ?_ rfl | apply res_cell ?_ rfl)
  · simp only [tupV, hasB, bv_and r a hr ha]
    congr 1
    exact decide_eq_decide.2 (by omega)
  · exact ent_refl _
theorem bNodes (p : Nat) (l : List Nat) : Con Tryz.prog 129 [.pointer (some ⟨p, 0, none⟩)] (isBrd p l) (fun v B => v = .int .i64 l.length ∧ B = isBrd p l) := by
  refine Con.of_body Tryz.func129 rfl rfl Tryz.ntmps129 Tryz.results129 rfl ?_
  unfold isBrd
  refine sW_ex1 fun a => sW_ex1 fun c => ?_
  repeat' first | refine sF_nilO ?_ | refine sF_add ?_ | refine sF_sub ?_ | refine sF_conv ?_ | refine sF_pure ?_ | refine sF_load ?_ rfl | refine sF_off ?_ | (refine sF_guardD rfl rfl rfl ?_ ?_ <;> intro _) | refine sF_op ?_ | refine sF_end0 ?_ | refine sF_end2 ?_ | refine sF_end ?_ | refine sL_add ?_ | refine sL_sub ?_ | refine sL_conv ?_ | refine sL_pure ?_ | refine sL_nil ?_ | refine sL_load ?_ rfl | refine sL_store ?_ rfl | refine sL_loadI ?_ rfl | (refine sL_box ?_; intro _) | (refine sL_alloc ?_; intro _) | (refine sL_lit ?_; intro _) | (refine sL_appendL ?_ rfl rfl rfl rfl rfl; intro _ _) | refine sL_off ?_ | refine sW_seq ?_ | refine sW_region ?_ | refine sW_ret ?_ | refine sW_block ?_ | refine sW_condT rfl ?_ | refine sW_condF rfl ?_ | (refine sW_if rfl ?_ ?_ <;> intro _) | (refine sW_ifn rfl ?_ ?_ <;> intro _) | (refine sW_cond rfl ?_ ?_ <;> intro _) | refine sW_skip ?_ | refine sW_exit ?_ | (refine sL_guardD rfl rfl ?_ ?_ <;> intro _) | (refine sL_guardN rfl rfl ?_ ?_ <;> intro _) | (refine sL_guard rfl rfl ?_ ?_ <;> intro _)
  (repeat first | refine ret_then ?_ | refine ret_block ?_); apply retI; (repeat' first | exact res_nil | apply res_tmp ?_ rfl | apply res_cell ?_ rfl)
  · exact ⟨rfl, rfl⟩
  · exact ent_ex a (ent_ex c (ent_refl _))
theorem bCopy (p : Nat) (l : List Nat) (hl : l.length ≤ 255) : Con Tryz.prog 41 [.pointer (some ⟨p, 0, none⟩)] (isBrd p l) (fun v B => ∃ q, v = .pointer (some ⟨q, 0, none⟩) ∧ B = ((star (isBrd q l) (isBrd p l)))) := by
  refine Con.of_body Tryz.func41 rfl rfl Tryz.ntmps41 Tryz.results41 rfl ?_
  unfold isBrd
  refine sW_ex1 fun a => sW_ex1 fun c => ?_
  repeat' first | (refine sL_call1c ?_ rfl rfl (rClone a l.length c) ⟨rfl, rfl, by omega⟩; rintro _ _ ⟨a', c', rfl, rfl⟩) | refine sF_nilO ?_ | refine sF_add ?_ | refine sF_sub ?_ | refine sF_conv ?_ | refine sF_pure ?_ | refine sF_load ?_ rfl | refine sF_off ?_ | (refine sF_guardD rfl rfl rfl ?_ ?_ <;> intro _) | refine sF_op ?_ | refine sF_end0 ?_ | refine sF_end2 ?_ | refine sF_end ?_ | refine sL_add ?_ | refine sL_sub ?_ | refine sL_conv ?_ | refine sL_pure ?_ | refine sL_nil ?_ | refine sL_load ?_ rfl | refine sL_store ?_ rfl | refine sL_loadI ?_ rfl | (refine sL_box ?_; intro _) | (refine sL_alloc ?_; intro _) | (refine sL_lit ?_; intro _) | (refine sL_appendL ?_ rfl rfl rfl rfl rfl; intro _ _) | refine sL_off ?_ | refine sW_seq ?_ | refine sW_region ?_ | refine sW_ret ?_ | refine sW_block ?_ | refine sW_condT rfl ?_ | refine sW_condF rfl ?_ | (refine sW_if rfl ?_ ?_ <;> intro _) | (refine sW_ifn rfl ?_ ?_ <;> intro _) | (refine sW_cond rfl ?_ ?_ <;> intro _) | refine sW_skip ?_ | refine sW_exit ?_ | (refine sL_guardD rfl rfl ?_ ?_ <;> intro _) | (refine sL_guardN rfl rfl ?_ ?_ <;> intro _) | (refine sL_guard rfl rfl ?_ ?_ <;> intro _)
  (repeat first | refine ret_then ?_ | refine ret_block ?_); apply retI; (repeat' first | exact res_nil | apply res_tmp ?_ rfl | apply res_cell ?_ rfl)
  · exact ⟨_, rfl, rfl⟩
  · refine ent_trans ?_ (star_mono (ent_ex a' (ent_ex c' (ent_refl _))) (ent_ex a (ent_ex c (ent_refl _))))
    (repeat first | exact ent_emp _ | exact ent_purL (by first | assumption | rfl | simp; done) | exact ent_atomL | refine ent_atom ?_ | refine ent_asc ?_ | refine ent_pur (by first | assumption | rfl) ?_)
/-- those that haven't -/
def lackB (r : Nat) (i : Nat) : List Nat → List Nat
  | [] => []
  | x :: xs => if hasB x r then lackB r (i + 1) xs else i :: lackB r (i + 1) xs

theorem lackB_step {r i : Nat} {l : List Nat} (h : i < l.length) : lackB r i (l.drop i) = (if hasB l[i] r then [] else [i]) ++ lackB r (i + 1) (l.drop (i + 1)) := by
  rw [List.drop_eq_getElem_cons h]
  simp only [lackB]
  split <;> rfl
theorem lackB_len (r : Nat) (l : List Nat) : ∀ i, (lackB r i l).length ≤ l.length := by
  induction l with
  | nil => intro i; simp [lackB]
  | cons x l ih => intro i; have := ih (i + 1); simp only [lackB]; split <;> simp only [List.length_cons] <;> omega
theorem ldRel {l : List Nat} {i k s b : Nat} {z : List Value} (h : i < l.length) (hk : k = 1) : ldV ⟨.int .u8, s, b, z⟩ (relV l) (((i : Nat) : Int).toNat * k) = some (.int .u8 l[i]) := by
  subst hk
  simp only [ldV, Int.toNat_natCast, Nat.mul_one, relV]
  exact getL_map (fun r : Nat => .int .u8 r) l i h
theorem bLacking (p r : Nat) (l : List Nat) (hl : l.length ≤ 255) (hr : r < 256) (hb : ∀ x ∈ l, x < 256) : Con Tryz.prog 42 [.pointer (some ⟨p, 0, none⟩), .int .u8 r] (isBrd p l)
    (fun v B => ∃ a c, v = .slice a (lackB r 0 l).length c ∧ B = isBrd p l) := by
  refine Con.of_body Tryz.func42 rfl rfl Tryz.ntmps42 Tryz.results42 rfl ?_
  refine sW_pre (H' := (star (own 5 1 none (0, 0, [])) (isBrd p l))) ?_ (own_nil _ _ _)
  unfold isBrd
  repeat' first | refine sF_nilO ?_ | refine sF_add ?_ | refine sF_sub ?_ | refine sF_conv ?_ | refine sF_pure ?_ | refine sF_load ?_ rfl | refine sF_off ?_ | (refine sF_guardD rfl rfl rfl ?_ ?_ <;> intro _) | refine sF_op ?_ | refine sF_end0 ?_ | refine sF_end2 ?_ | refine sF_end ?_ | refine sL_add ?_ | refine sL_sub ?_ | refine sL_conv ?_ | refine sL_pure ?_ | refine sL_nil ?_ | refine sL_load ?_ rfl | refine sL_store ?_ rfl | refine sL_loadI ?_ rfl | (refine sL_box ?_; intro _) | (refine sL_alloc ?_; intro _) | (refine sL_lit ?_; intro _) | (refine sL_appendL ?_ rfl rfl rfl rfl rfl; intro _ _) | refine sL_off ?_ | refine sW_seq ?_ | refine sW_region ?_ | refine sW_ret ?_ | refine sW_block ?_ | refine sW_condT rfl ?_ | refine sW_condF rfl ?_ | (refine sW_if rfl ?_ ?_ <;> intro _) | (refine sW_ifn rfl ?_ ?_ <;> intro _) | (refine sW_cond rfl ?_ ?_ <;> intro _) | refine sW_skip ?_ | refine sW_exit ?_ | (refine sL_guardD rfl rfl ?_ ?_ <;> intro _) | (refine sL_guardN rfl rfl ?_ ?_ <;> intro _) | (refine sL_guard rfl rfl ?_ ?_ <;> intro _)
  refine sL_take (p := own 5 1) (b := none) ?_
  refine sL_pre (H' := (star (ex (fun a : Option Addr => ex fun c : Nat => (star (blk p (.cells ⟨[.slice a l.length c]⟩ 170 (0, 0))) (own 30 1 a (l.length, c, relV l))))) (own 5 1 none (0, 0, [])))) ?_ (star_comm _ _)
  refine sL_ex fun a => ?_
  refine sL_ex fun c => ?_
  refine sL_assoc ?_
  repeat' first | refine sF_nilO ?_ | refine sF_add ?_ | refine sF_sub ?_ | refine sF_conv ?_ | refine sF_pure ?_ | refine sF_load ?_ rfl | refine sF_off ?_ | (refine sF_guardD rfl rfl rfl ?_ ?_ <;> intro _) | refine sF_op ?_ | refine sF_end0 ?_ | refine sF_end2 ?_ | refine sF_end ?_ | refine sL_add ?_ | refine sL_sub ?_ | refine sL_conv ?_ | refine sL_pure ?_ | refine sL_nil ?_ | refine sL_load ?_ rfl | refine sL_store ?_ rfl | refine sL_loadI ?_ rfl | (refine sL_box ?_; intro _) | (refine sL_alloc ?_; intro _) | (refine sL_lit ?_; intro _) | (refine sL_appendL ?_ rfl rfl rfl rfl rfl; intro _ _) | refine sL_off ?_ | refine sW_seq ?_ | refine sW_region ?_ | refine sW_ret ?_ | refine sW_block ?_ | refine sW_condT rfl ?_ | refine sW_condF rfl ?_ | (refine sW_if rfl ?_ ?_ <;> intro _) | (refine sW_ifn rfl ?_ ?_ <;> intro _) | (refine sW_cond rfl ?_ ?_ <;> intro _) | refine sW_skip ?_ | refine sW_exit ?_ | (refine sL_guardD rfl rfl ?_ ?_ <;> intro _) | (refine sL_guardN rfl rfl ?_ ?_ <;> intro _) | (refine sL_guard rfl rfl ?_ ?_ <;> intro _)
  · refine sW_for (α := Nat × List Nat × Option Addr × Nat) (fun y => [(0, .pointer (some ⟨p, 0, none⟩)), (1, .int .u8 r), (5, .slice y.2.2.1 y.2.1.length y.2.2.2), (11, .slice a l.length c), (12, .int .i64 l.length), (13, .int .i64 y.1)])
      (fun y => (star (own 5 1 y.2.2.1 (y.2.1.length, y.2.2.2, relV y.2.1)) (((star (blk p (.cells ⟨[.slice a l.length c]⟩ 170 (0, 0))) (own 30 1 a (l.length, c, relV l)))))))
      (fun y => y.1 ≤ l.length ∧ y.2.1 ++ lackB r y.1 (l.drop y.1) = lackB r 0 l) (fun y => l.length - y.1) (0, [], none, 0) ⟨Nat.zero_le _, rfl⟩ ⟨rfl, rfl, rfl, rfl, rfl, rfl, trivial⟩ (by simp only [relV, List.map_nil, List.length_nil]; (repeat first | exact ent_emp _ | exact ent_purL (by first | assumption | rfl | simp; done) | exact ent_atomL | refine ent_atom ?_ | refine ent_asc ?_ | refine ent_pur (by first | assumption | rfl) ?_)) ?_
    rintro ⟨i, ys, a', c'⟩ ⟨hi, hy⟩
    simp only at hi hy ⊢
    have hyl : ys.length ≤ l.length := by
      have := lackB_len r l 0
      rw [← hy, List.length_append] at this
      omega
    repeat' first | refine sF_nilO ?_ | refine sF_add ?_ | refine sF_sub ?_ | refine sF_conv ?_ | refine sF_pure ?_ | refine sF_load ?_ rfl | refine sF_off ?_ | (refine sF_guardD rfl rfl rfl ?_ ?_ <;> intro _) | refine sF_op ?_ | refine sF_end0 ?_ | refine sF_end2 ?_ | refine sF_end ?_ | refine sL_add ?_ | refine sL_sub ?_ | refine sL_conv ?_ | refine sL_pure ?_ | refine sL_nil ?_ | refine sL_load ?_ rfl | refine sL_store ?_ rfl | refine sL_loadI ?_ rfl | (refine sL_box ?_; intro _) | (refine sL_alloc ?_; intro _) | (refine sL_lit ?_; intro _) | (refine sL_appendL ?_ rfl rfl rfl rfl rfl; intro _ _) | refine sL_off ?_ | refine sW_seq ?_ | refine sW_region ?_ | refine sW_ret ?_ | refine sW_block ?_ | refine sW_condT rfl ?_ | refine sW_condF rfl ?_ | (refine sW_if rfl ?_ ?_ <;> intro _) | (refine sW_ifn rfl ?_ ?_ <;> intro _) | (refine sW_cond rfl ?_ ?_ <;> intro _) | refine sW_skip ?_ | refine sW_exit ?_ | (refine sL_guardD rfl rfl ?_ ?_ <;> intro _) | (refine sL_guardN rfl rfl ?_ ?_ <;> intro _) | (refine sL_guard rfl rfl ?_ ?_ <;> intro _)
    · rename_i hlt
      have hil : i < l.length := by omega
      have hxi : l[i] < 256 := hb _ (List.getElem_mem hil)
      repeat' first | (refine sL_idxO ?_ rfl rfl rfl rfl rfl) | (refine sL_loadO (El := 30) (k := 1) ?_ rfl (ldRel hil rfl)) | (refine sL_callV ?_ rfl rfl (bHas _ _ hxi hr)) | refine sF_nilO ?_ | refine sF_add ?_ | refine sF_sub ?_ | refine sF_conv ?_ | refine sF_pure ?_ | refine sF_load ?_ rfl | refine sF_off ?_ | (refine sF_guardD rfl rfl rfl ?_ ?_ <;> intro _) | refine sF_op ?_ | refine sF_end0 ?_ | refine sF_end2 ?_ | refine sF_end ?_ | refine sL_add ?_ | refine sL_sub ?_ | refine sL_conv ?_ | refine sL_pure ?_ | refine sL_nil ?_ | refine sL_load ?_ rfl | refine sL_store ?_ rfl | refine sL_loadI ?_ rfl | (refine sL_box ?_; intro _) | (refine sL_alloc ?_; intro _) | (refine sL_lit ?_; intro _) | (refine sL_appendL ?_ rfl rfl rfl rfl rfl; intro _ _) | refine sL_off ?_ | refine sW_seq ?_ | refine sW_region ?_ | refine sW_ret ?_ | refine sW_block ?_ | refine sW_condT rfl ?_ | refine sW_condF rfl ?_ | (refine sW_if rfl ?_ ?_ <;> intro _) | (refine sW_ifn rfl ?_ ?_ <;> intro _) | (refine sW_cond rfl ?_ ?_ <;> intro _) | refine sW_skip ?_ | refine sW_exit ?_ | (refine sL_guardD rfl rfl ?_ ?_ <;> intro _) | (refine sL_guardN rfl rfl ?_ ?_ <;> intro _) | (refine sL_guard rfl rfl ?_ ?_ <;> intro _)
      · rename_i b a2 c2
        refine ⟨(i + 1, ys ++ [i], a2, c2), ⟨by simp only; omega, ?_⟩, ⟨rfl, rfl, by simp only [List.length_append, List.length_cons, List.length_nil]; rfl, rfl, rfl, rfl, trivial⟩, ?_, by simp only; omega⟩
        · rw [lackB_step hil, hasB, if_neg (by simpa using by assumption)] at hy
          simpa [List.append_assoc] using hy
        · simp only [List.length_append, List.length_cons, List.length_nil, Nat.zero_add]
          have : relV (ys ++ [i]) = relV ys ++ [.int .u8 (i : Nat)] := by simp [relV]
          rw [this]
          (repeat first | exact ent_emp _ | exact ent_purL (by first | assumption | rfl | simp; done) | exact ent_atomL | refine ent_atom ?_ | refine ent_asc ?_ | refine ent_pur (by first | assumption | rfl) ?_)
      · refine ⟨(i + 1, ys, a', c'), ⟨by simp only; omega, ?_⟩, ⟨rfl, rfl, rfl, rfl, rfl, rfl, trivial⟩, ?_, by simp only; omega⟩
        · rw [lackB_step hil, hasB, if_pos (by simpa using by assumption)] at hy
          exact hy
        · (repeat first | exact ent_emp _ | exact ent_purL (by first | assumption | rfl | simp; done) | exact ent_atomL | refine ent_atom ?_ | refine ent_asc ?_ | refine ent_pur (by first | assumption | rfl) ?_)
    · have : i = l.length := by omega
      subst this
      rw [List.drop_of_length_le (Nat.le_refl _)] at hy
      simp only [lackB, List.append_nil] at hy
      subst hy
      (repeat first | refine ret_then ?_ | refine ret_block ?_); apply retI; (repeat' first | exact res_nil | apply res_tmp ?_ rfl | apply res_cell ?_ rfl)
      · exact ⟨_, _, rfl, rfl⟩
      · refine ent_trans ?_ (ent_ex a (ent_ex c (ent_refl _)))
        (repeat first | exact ent_emp _ | exact ent_purL (by first | assumption | rfl | simp; done) | exact ent_atomL | refine ent_atom ?_ | refine ent_asc ?_ | refine ent_pur (by first | assumption | rfl) ?_)
def allB (r : Nat) (l : List Nat) : Bool := l.all fun x => hasB x r
theorem allB_iff (r : Nat) (l : List Nat) : ∀ i, (lackB r i l).length = 0 ↔ allB r l = true := by
  induction l with
  | nil => intro i; simp [lackB, allB]
  | cons x l ih =>
    intro i
    have h1 := ih (i + 1)
    by_cases h : hasB x r = true
    · simp only [lackB, h, if_true, allB, List.all_cons, Bool.true_and]; exact h1
    · have h' : hasB x r = false := by simpa using h
      simp [lackB, h', allB]
theorem bAll (p r : Nat) (l : List Nat) (hl : l.length ≤ 255) (hr : r < 256) (hb : ∀ x ∈ l, x < 256) : Con Tryz.prog 18 [.pointer (some ⟨p, 0, none⟩), .int .u8 r] (isBrd p l) (fun v B => v = .bool (allB r l) ∧ B = isBrd p l) := by
  refine Con.of_body Tryz.func18 rfl rfl Tryz.ntmps18 Tryz.results18 rfl ?_
  repeat' first | (refine sL_call1c ?_ rfl rfl (fun l' (h : l' = l) => h ▸ bLacking p r l hl hr hb) rfl; rintro _ _ ⟨a, c, rfl, rfl⟩) | refine sF_nilO ?_ | refine sF_add ?_ | refine sF_sub ?_ | refine sF_conv ?_ | refine sF_pure ?_ | refine sF_load ?_ rfl | refine sF_off ?_ | (refine sF_guardD rfl rfl rfl ?_ ?_ <;> intro _) | refine sF_op ?_ | refine sF_end0 ?_ | refine sF_end2 ?_ | refine sF_end ?_ | refine sL_add ?_ | refine sL_sub ?_ | refine sL_conv ?_ | refine sL_pure ?_ | refine sL_nil ?_ | refine sL_load ?_ rfl | refine sL_store ?_ rfl | refine sL_loadI ?_ rfl | (refine sL_box ?_; intro _) | (refine sL_alloc ?_; intro _) | (refine sL_lit ?_; intro _) | (refine sL_appendL ?_ rfl rfl rfl rfl rfl; intro _ _) | refine sL_off ?_ | refine sW_seq ?_ | refine sW_region ?_ | refine sW_ret ?_ | refine sW_block ?_ | refine sW_condT rfl ?_ | refine sW_condF rfl ?_ | (refine sW_if rfl ?_ ?_ <;> intro _) | (refine sW_ifn rfl ?_ ?_ <;> intro _) | (refine sW_cond rfl ?_ ?_ <;> intro _) | refine sW_skip ?_ | refine sW_exit ?_ | (refine sL_guardD rfl rfl ?_ ?_ <;> intro _) | (refine sL_guardN rfl rfl ?_ ?_ <;> intro _) | (refine sL_guard rfl rfl ?_ ?_ <;> intro _)
  (repeat first | refine ret_then ?_ | refine ret_block ?_); apply retI; (repeat' first | exact res_nil | apply res_tmp ?_ rfl | apply res_cell ?_ rfl)
  · refine ⟨?_, rfl⟩
    simp only [tupV]
    congr 1
    rw [Bool.eq_iff_iff, decide_eq_true_iff, ← allB_iff r l 0]
    omega
  · (repeat first | exact ent_emp _ | exact ent_purL (by first | assumption | rfl | simp; done) | exact ent_atomL | refine ent_atom ?_ | refine ent_asc ?_ | refine ent_pur (by first | assumption | rfl) ?_)
theorem bWrite (p q : Nat) (l : List Nat) (bs : Str) (hl : l.length ≤ 255) (hb : ∀ x ∈ l, x < 256) (hbs : bs.length ≤ 1000000000) :
    Con Tryz.prog 74 [.pointer (some ⟨p, 0, none⟩), .pointer (some ⟨q, 0, none⟩)] ((star (isBrd p l) (isW q bs))) (fun v B => v = .tuple #[] ∧ B = ((star (isBrd p l) (isW q (bs ++ (le 1 l.length ++ l.flatMap (le 1))))))) := by
  refine Con.of_body Tryz.func74 rfl rfl Tryz.ntmps74 Tryz.results74 rfl ?_
  unfold isBrd
  refine sW_ex fun a => ?_
  refine sW_ex fun c => ?_
  refine sW_assoc ?_
  repeat' first | (refine sL_call1c ?_ rfl rfl (wByte q _ (by omega)) (by omega); rintro _ _ ⟨rfl, rfl⟩) | refine sF_nilO ?_ | refine sF_add ?_ | refine sF_sub ?_ | refine sF_conv ?_ | refine sF_pure ?_ | refine sF_load ?_ rfl | refine sF_off ?_ | (refine sF_guardD rfl rfl rfl ?_ ?_ <;> intro _) | refine sF_op ?_ | refine sF_end0 ?_ | refine sF_end2 ?_ | refine sF_end ?_ | refine sL_add ?_ | refine sL_sub ?_ | refine sL_conv ?_ | refine sL_pure ?_ | refine sL_nil ?_ | refine sL_load ?_ rfl | refine sL_store ?_ rfl | refine sL_loadI ?_ rfl | (refine sL_box ?_; intro _) | (refine sL_alloc ?_; intro _) | (refine sL_lit ?_; intro _) | (refine sL_appendL ?_ rfl rfl rfl rfl rfl; intro _ _) | refine sL_off ?_ | refine sW_seq ?_ | refine sW_region ?_ | refine sW_ret ?_ | refine sW_block ?_ | refine sW_condT rfl ?_ | refine sW_condF rfl ?_ | (refine sW_if rfl ?_ ?_ <;> intro _) | (refine sW_ifn rfl ?_ ?_ <;> intro _) | (refine sW_cond rfl ?_ ?_ <;> intro _) | refine sW_skip ?_ | refine sW_exit ?_ | (refine sL_guardD rfl rfl ?_ ?_ <;> intro _) | (refine sL_guardN rfl rfl ?_ ?_ <;> intro _) | (refine sL_guard rfl rfl ?_ ?_ <;> intro _)
  · refine sW_for (α := Nat) (fun i => [(1, .pointer (some ⟨q, 0, none⟩)), (17, .slice a l.length c), (18, .int .i64 l.length), (19, .int .i64 i)])
      (fun i => (star (isW q (bs ++ le 1 l.length ++ (l.take i).flatMap (le 1))) (((star (blk p (.cells ⟨[.slice a l.length c]⟩ 170 (0, 0))) (own 30 1 a (l.length, c, relV l)))))))
      (fun i => i ≤ l.length) (fun i => l.length - i) 0 (Nat.zero_le _) ⟨rfl, rfl, rfl, rfl, trivial⟩ (by simp only [List.take_zero, List.flatMap_nil, List.append_nil]; (repeat first | exact ent_emp _ | exact ent_purL (by first | assumption | rfl | simp; done) | exact ent_atomL | refine ent_atom ?_ | refine ent_asc ?_ | refine ent_pur (by first | assumption | rfl) ?_)) ?_
    intro i hi
    have hlen : ((l.take i).flatMap (le 1)).length = i := by
      have : ∀ l : List Nat, (l.flatMap (le 1)).length = l.length := by
        intro l; induction l with
        | nil => rfl
        | cons x l ih => simp only [List.flatMap_cons, List.length_append, le_len, ih, List.length_cons]; omega
      rw [this, List.length_take]; omega
    repeat' first | refine sF_nilO ?_ | refine sF_add ?_ | refine sF_sub ?_ | refine sF_conv ?_ | refine sF_pure ?_ | refine sF_load ?_ rfl | refine sF_off ?_ | (refine sF_guardD rfl rfl rfl ?_ ?_ <;> intro _) | refine sF_op ?_ | refine sF_end0 ?_ | refine sF_end2 ?_ | refine sF_end ?_ | refine sL_add ?_ | refine sL_sub ?_ | refine sL_conv ?_ | refine sL_pure ?_ | refine sL_nil ?_ | refine sL_load ?_ rfl | refine sL_store ?_ rfl | refine sL_loadI ?_ rfl | (refine sL_box ?_; intro _) | (refine sL_alloc ?_; intro _) | (refine sL_lit ?_; intro _) | (refine sL_appendL ?_ rfl rfl rfl rfl rfl; intro _ _) | refine sL_off ?_ | refine sW_seq ?_ | refine sW_region ?_ | refine sW_ret ?_ | refine sW_block ?_ | refine sW_condT rfl ?_ | refine sW_condF rfl ?_ | (refine sW_if rfl ?_ ?_ <;> intro _) | (refine sW_ifn rfl ?_ ?_ <;> intro _) | (refine sW_cond rfl ?_ ?_ <;> intro _) | refine sW_skip ?_ | refine sW_exit ?_ | (refine sL_guardD rfl rfl ?_ ?_ <;> intro _) | (refine sL_guardN rfl rfl ?_ ?_ <;> intro _) | (refine sL_guard rfl rfl ?_ ?_ <;> intro _)
    · rename_i hlt
      have hil : i < l.length := by omega
      have hxi : l[i] < 256 := hb _ (List.getElem_mem hil)
      repeat' first | (refine sL_idxO ?_ rfl rfl rfl rfl rfl) | (refine sL_loadO (El := 30) (k := 1) ?_ rfl (ldRel hil rfl)) | (refine sL_call1c ?_ rfl rfl (wByte q _ hxi) (by simp only [List.length_append, le_len, hlen]; omega); rintro _ _ ⟨rfl, rfl⟩) | refine sF_nilO ?_ | refine sF_add ?_ | refine sF_sub ?_ | refine sF_conv ?_ | refine sF_pure ?_ | refine sF_load ?_ rfl | refine sF_off ?_ | (refine sF_guardD rfl rfl rfl ?_ ?_ <;> intro _) | refine sF_op ?_ | refine sF_end0 ?_ | refine sF_end2 ?_ | refine sF_end ?_ | refine sL_add ?_ | refine sL_sub ?_ | refine sL_conv ?_ | refine sL_pure ?_ | refine sL_nil ?_ | refine sL_load ?_ rfl | refine sL_store ?_ rfl | refine sL_loadI ?_ rfl | (refine sL_box ?_; intro _) | (refine sL_alloc ?_; intro _) | (refine sL_lit ?_; intro _) | (refine sL_appendL ?_ rfl rfl rfl rfl rfl; intro _ _) | refine sL_off ?_ | refine sW_seq ?_ | refine sW_region ?_ | refine sW_ret ?_ | refine sW_block ?_ | refine sW_condT rfl ?_ | refine sW_condF rfl ?_ | (refine sW_if rfl ?_ ?_ <;> intro _) | (refine sW_ifn rfl ?_ ?_ <;> intro _) | (refine sW_cond rfl ?_ ?_ <;> intro _) | refine sW_skip ?_ | refine sW_exit ?_ | (refine sL_guardD rfl rfl ?_ ?_ <;> intro _) | (refine sL_guardN rfl rfl ?_ ?_ <;> intro _) | (refine sL_guard rfl rfl ?_ ?_ <;> intro _)
      refine ⟨i + 1, by omega, ⟨rfl, rfl, rfl, rfl, trivial⟩, ?_, by omega⟩
      have : bs ++ le 1 l.length ++ (l.take i).flatMap (le 1) ++ le 1 l[i] = bs ++ le 1 l.length ++ (l.take (i + 1)).flatMap (le 1) := by
        rw [List.append_assoc, ← List.take_append_getElem hil, List.flatMap_append]; simp
      rw [this]
      (repeat first | exact ent_emp _ | exact ent_purL (by first | assumption | rfl | simp; done) | exact ent_atomL | refine ent_atom ?_ | refine ent_asc ?_ | refine ent_pur (by first | assumption | rfl) ?_)
    · have : i = l.length := by omega
      subst this
      (repeat first | refine th_exit ?_ | refine bl_exit ?_ | refine bl_normal ?_); apply retN; (repeat' first | exact res_nil | apply res_tmp ?_ rfl | apply res_cell ?_ rfl)
      · exact ⟨rfl, rfl⟩
      · rw [List.take_length, List.append_assoc]
        refine ent_trans ?_ (star_mono (ent_ex a (ent_ex c (ent_refl _))) (ent_refl _))
        (repeat first | exact ent_emp _ | exact ent_purL (by first | assumption | rfl | simp; done) | exact ent_atomL | refine ent_atom ?_ | refine ent_asc ?_ | refine ent_pur (by first | assumption | rfl) ?_)
end Go.Proofs.YtmkdbdkaheiaaaaGreatDoor
namespace Go.Proofs.YtmkdbdkaheiaaaaGreatDoor
open Go Go.Sl
variable [Amb]
set_option linter.unusedSectionVars false
set_option linter.unusedVariables false
set_option maxRecDepth 100000
attribute [local irreducible] sW sL sF
abbrev ptr (p : Nat) : Value := .pointer (some ⟨p, 0, none⟩)
/-- a host of the first version: where its parts lie; users, rows, releases -/
def isHost (p : Nat) (x : (Nat × Nat × Nat) × List (Str × Str) × List Row × List Nat) : HProp :=
  (star (blk p (.cells ⟨[ptr x.1.1, .pointer none, ptr x.1.2.1, ptr x.1.2.2]⟩ 92 (0, 0))) (((star (isDir x.1.1 x.2.1) (((star (isTab x.1.2.1 x.2.2.1) (isBrd x.1.2.2 x.2.2.2))))))))
theorem hNew (n : Nat) (hn : right n) : Con Tryz.prog 14 [.int .i64 n] emp (fun v B => ∃ p a, v = ptr p ∧ B = isHost p (a, [], List.replicate 8 zRow, List.replicate n 0)) := by
  refine Con.of_body Tryz.func14 rfl rfl Tryz.ntmps14 Tryz.results14 rfl ?_
  repeat' first | (refine sL_call0 ?_ rfl rfl (bNew n hn); rintro _ _ ⟨pb, rfl, rfl⟩) | (refine sL_call0 ?_ rfl rfl eNew; rintro _ _ ⟨pe, rfl, rfl⟩) | (refine sL_call0 ?_ rfl rfl tNew; rintro _ _ ⟨pt, rfl, rfl⟩) | refine sF_nilO ?_ | refine sF_add ?_ | refine sF_sub ?_ | refine sF_conv ?_ | refine sF_pure ?_ | refine sF_load ?_ rfl | refine sF_off ?_ | (refine sF_guardD rfl rfl rfl ?_ ?_ <;> intro _) | refine sF_op ?_ | refine sF_end0 ?_ | refine sF_end2 ?_ | refine sF_end ?_ | refine sL_add ?_ | refine sL_sub ?_ | refine sL_conv ?_ | refine sL_pure ?_ | refine sL_nil ?_ | refine sL_load ?_ rfl | refine sL_store ?_ rfl | refine sL_loadI ?_ rfl | (refine sL_box ?_; intro _) | (refine sL_alloc ?_; intro _) | (refine sL_lit ?_; intro _) | (refine sL_appendL ?_ rfl rfl rfl rfl rfl; intro _ _) | refine sL_off ?_ | refine sW_seq ?_ | refine sW_region ?_ | refine sW_ret ?_ | refine sW_block ?_ | refine sW_condT rfl ?_ | refine sW_condF rfl ?_ | (refine sW_if rfl ?_ ?_ <;> intro _) | (refine sW_ifn rfl ?_ ?_ <;> intro _) | (refine sW_cond rfl ?_ ?_ <;> intro _) | refine sW_skip ?_ | refine sW_exit ?_ | (refine sL_guardD rfl rfl ?_ ?_ <;> intro _) | (refine sL_guardN rfl rfl ?_ ?_ <;> intro _) | (refine sL_guard rfl rfl ?_ ?_ <;> intro _)
  (repeat first | refine ret_then ?_ | refine ret_block ?_); apply retI; (repeat' first | exact res_nil | apply res_tmp ?_ rfl | apply res_cell ?_ rfl)
  · exact ⟨_, (pe, pt, pb), rfl, rfl⟩
  · unfold isHost
    (repeat first | exact ent_emp _ | exact ent_purL (by first | assumption | rfl | simp; done) | exact ent_atomL | refine ent_atom ?_ | refine ent_asc ?_ | refine ent_pur (by first | assumption | rfl) ?_)
theorem hNewBad (n : Int) (hn : ¬ right n) : Con Tryz.prog 14 [.int .i64 n] emp (fun v _ => v = .pointer none) := by
  refine Con.of_body Tryz.func14 rfl rfl Tryz.ntmps14 Tryz.results14 rfl ?_
  repeat' first | (refine sL_callV ?_ rfl rfl (bNewBad n hn)) | refine sF_nilO ?_ | refine sF_add ?_ | refine sF_sub ?_ | refine sF_conv ?_ | refine sF_pure ?_ | refine sF_load ?_ rfl | refine sF_off ?_ | (refine sF_guardD rfl rfl rfl ?_ ?_ <;> intro _) | refine sF_op ?_ | refine sF_end0 ?_ | refine sF_end2 ?_ | refine sF_end ?_ | refine sL_add ?_ | refine sL_sub ?_ | refine sL_conv ?_ | refine sL_pure ?_ | refine sL_nil ?_ | refine sL_load ?_ rfl | refine sL_store ?_ rfl | refine sL_loadI ?_ rfl | (refine sL_box ?_; intro _) | (refine sL_alloc ?_; intro _) | (refine sL_lit ?_; intro _) | (refine sL_appendL ?_ rfl rfl rfl rfl rfl; intro _ _) | refine sL_off ?_ | refine sW_seq ?_ | refine sW_region ?_ | refine sW_ret ?_ | refine sW_block ?_ | refine sW_condT rfl ?_ | refine sW_condF rfl ?_ | (refine sW_if rfl ?_ ?_ <;> intro _) | (refine sW_ifn rfl ?_ ?_ <;> intro _) | (refine sW_cond rfl ?_ ?_ <;> intro _) | refine sW_skip ?_ | refine sW_exit ?_ | (refine sL_guardD rfl rfl ?_ ?_ <;> intro _) | (refine sL_guardN rfl rfl ?_ ?_ <;> intro _) | (refine sL_guard rfl rfl ?_ ?_ <;> intro _)
  (repeat first | refine ret_then ?_ | refine ret_block ?_); apply retI; (repeat' first | exact res_nil | apply res_tmp ?_ rfl | apply res_cell ?_ rfl)
  · rfl
  · exact ent_refl _
theorem hVersion (p : Nat) (x : (Nat × Nat × Nat) × List (Str × Str) × List Row × List Nat) : Con Tryz.prog 16 [ptr p] (isHost p x) (fun v B => v = .int .i64 1 ∧ B = isHost p x) := by
  refine Con.of_body Tryz.func16 rfl rfl Tryz.ntmps16 Tryz.results16 rfl ?_
  unfold isHost
  repeat' first | refine sF_nilO ?_ | refine sF_add ?_ | refine sF_sub ?_ | refine sF_conv ?_ | refine sF_pure ?_ | refine sF_load ?_ rfl | refine sF_off ?_ | (refine sF_guardD rfl rfl rfl ?_ ?_ <;> intro _) | refine sF_op ?_ | refine sF_end0 ?_ | refine sF_end2 ?_ | refine sF_end ?_ | refine sL_add ?_ | refine sL_sub ?_ | refine sL_conv ?_ | refine sL_pure ?_ | refine sL_nil ?_ | refine sL_load ?_ rfl | refine sL_store ?_ rfl | refine sL_loadI ?_ rfl | (refine sL_box ?_; intro _) | (refine sL_alloc ?_; intro _) | (refine sL_lit ?_; intro _) | (refine sL_appendL ?_ rfl rfl rfl rfl rfl; intro _ _) | refine sL_off ?_ | refine sW_seq ?_ | refine sW_region ?_ | refine sW_ret ?_ | refine sW_block ?_ | refine sW_condT rfl ?_ | refine sW_condF rfl ?_ | (refine sW_if rfl ?_ ?_ <;> intro _) | (refine sW_ifn rfl ?_ ?_ <;> intro _) | (refine sW_cond rfl ?_ ?_ <;> intro _) | refine sW_skip ?_ | refine sW_exit ?_ | (refine sL_guardD rfl rfl ?_ ?_ <;> intro _) | (refine sL_guardN rfl rfl ?_ ?_ <;> intro _) | (refine sL_guard rfl rfl ?_ ?_ <;> intro _)
  (repeat first | refine ret_then ?_ | refine ret_block ?_); apply retI; (repeat' first | exact res_nil | apply res_tmp ?_ rfl | apply res_cell ?_ rfl)
  · exact ⟨rfl, rfl⟩
  · exact ent_refl _
theorem hTable (p : Nat) (x : (Nat × Nat × Nat) × List (Str × Str) × List Row × List Nat) (hx : (∀ r ∈ x.2.2.1, r.l.length ≤ 65535) ∧ ∀ r ∈ x.2.2.1, neat r) :
    Con Tryz.prog 21 [ptr p] (isHost p x) (fun v B => ∃ q ys, v = ptr q ∧ ys.map ab = x.2.2.1.map ab ∧ B = ((star (isTab q ys) (isHost p x)))) := by
  obtain ⟨⟨pe, pt, pb⟩, m, rs, rel⟩ := x
  refine Con.of_body Tryz.func21 rfl rfl Tryz.ntmps21 Tryz.results21 rfl ?_
  unfold isHost
  simp only at hx ⊢
  repeat' first | (refine sL_call1c ?_ rfl rfl (fun rs' (h : rs' = rs) => h ▸ tCopy pt rs hx.1 hx.2) rfl; rintro _ _ ⟨q, ys, rfl, hy, rfl⟩) | refine sF_nilO ?_ | refine sF_add ?_ | refine sF_sub ?_ | refine sF_conv ?_ | refine sF_pure ?_ | refine sF_load ?_ rfl | refine sF_off ?_ | (refine sF_guardD rfl rfl rfl ?_ ?_ <;> intro _) | refine sF_op ?_ | refine sF_end0 ?_ | refine sF_end2 ?_ | refine sF_end ?_ | refine sL_add ?_ | refine sL_sub ?_ | refine sL_conv ?_ | refine sL_pure ?_ | refine sL_nil ?_ | refine sL_load ?_ rfl | refine sL_store ?_ rfl | refine sL_loadI ?_ rfl | (refine sL_box ?_; intro _) | (refine sL_alloc ?_; intro _) | (refine sL_lit ?_; intro _) | (refine sL_appendL ?_ rfl rfl rfl rfl rfl; intro _ _) | refine sL_off ?_ | refine sW_seq ?_ | refine sW_region ?_ | refine sW_ret ?_ | refine sW_block ?_ | refine sW_condT rfl ?_ | refine sW_condF rfl ?_ | (refine sW_if rfl ?_ ?_ <;> intro _) | (refine sW_ifn rfl ?_ ?_ <;> intro _) | (refine sW_cond rfl ?_ ?_ <;> intro _) | refine sW_skip ?_ | refine sW_exit ?_ | (refine sL_guardD rfl rfl ?_ ?_ <;> intro _) | (refine sL_guardN rfl rfl ?_ ?_ <;> intro _) | (refine sL_guard rfl rfl ?_ ?_ <;> intro _)
  (repeat first | refine ret_then ?_ | refine ret_block ?_); apply retI; (repeat' first | exact res_nil | apply res_tmp ?_ rfl | apply res_cell ?_ rfl)
  · exact ⟨q, ys, rfl, hy, rfl⟩
  · (repeat first | exact ent_emp _ | exact ent_purL (by first | assumption | rfl | simp; done) | exact ent_atomL | refine ent_atom ?_ | refine ent_asc ?_ | refine ent_pur (by first | assumption | rfl) ?_)
theorem hBoard (p : Nat) (x : (Nat × Nat × Nat) × List (Str × Str) × List Row × List Nat) (hx : x.2.2.2.length ≤ 255) :
    Con Tryz.prog 17 [ptr p] (isHost p x) (fun v B => ∃ q, v = ptr q ∧ B = ((star (isBrd q x.2.2.2) (isHost p x)))) := by
  obtain ⟨⟨pe, pt, pb⟩, m, rs, rel⟩ := x
  refine Con.of_body Tryz.func17 rfl rfl Tryz.ntmps17 Tryz.results17 rfl ?_
  unfold isHost
  simp only at hx ⊢
  repeat' first | (refine sL_call1c ?_ rfl rfl (fun l' (h : l' = rel) => h ▸ bCopy pb rel hx) rfl; rintro _ _ ⟨q, rfl, rfl⟩) | refine sF_nilO ?_ | refine sF_add ?_ | refine sF_sub ?_ | refine sF_conv ?_ | refine sF_pure ?_ | refine sF_load ?_ rfl | refine sF_off ?_ | (refine sF_guardD rfl rfl rfl ?_ ?_ <;> intro _) | refine sF_op ?_ | refine sF_end0 ?_ | refine sF_end2 ?_ | refine sF_end ?_ | refine sL_add ?_ | refine sL_sub ?_ | refine sL_conv ?_ | refine sL_pure ?_ | refine sL_nil ?_ | refine sL_load ?_ rfl | refine sL_store ?_ rfl | refine sL_loadI ?_ rfl | (refine sL_box ?_; intro _) | (refine sL_alloc ?_; intro _) | (refine sL_lit ?_; intro _) | (refine sL_appendL ?_ rfl rfl rfl rfl rfl; intro _ _) | refine sL_off ?_ | refine sW_seq ?_ | refine sW_region ?_ | refine sW_ret ?_ | refine sW_block ?_ | refine sW_condT rfl ?_ | refine sW_condF rfl ?_ | (refine sW_if rfl ?_ ?_ <;> intro _) | (refine sW_ifn rfl ?_ ?_ <;> intro _) | (refine sW_cond rfl ?_ ?_ <;> intro _) | refine sW_skip ?_ | refine sW_exit ?_ | (refine sL_guardD rfl rfl ?_ ?_ <;> intro _) | (refine sL_guardN rfl rfl ?_ ?_ <;> intro _) | (refine sL_guard rfl rfl ?_ ?_ <;> intro _)
  (repeat first | refine ret_then ?_ | refine ret_block ?_); apply retI; (repeat' first | exact res_nil | apply res_tmp ?_ rfl | apply res_cell ?_ rfl)
  · exact ⟨q, rfl, rfl⟩
  · (repeat first | exact ent_emp _ | exact ent_purL (by first | assumption | rfl | simp; done) | exact ent_atomL | refine ent_atom ?_ | refine ent_asc ?_ | refine ent_pur (by first | assumption | rfl) ?_)
end Go.Proofs.YtmkdbdkaheiaaaaGreatDoor
namespace Go.Proofs.YtmkdbdkaheiaaaaGreatDoor
open Go Go.Sl
variable [Amb]
set_option linter.unusedSectionVars false
set_option linter.unusedVariables false
set_option maxRecDepth 100000
attribute [local irreducible] sW sL sF
theorem fMost : Con Tryz.prog 37 [] emp (fun v _ => v = .int .i64 1733) := by
  refine Con.of_body Tryz.func37 rfl rfl Tryz.ntmps37 Tryz.results37 rfl ?_
  repeat' first | refine sF_nilO ?_ | refine sF_add ?_ | refine sF_sub ?_ | refine sF_conv ?_ | refine sF_pure ?_ | refine sF_load ?_ rfl | refine sF_off ?_ | (refine sF_guardD rfl rfl rfl ?_ ?_ <;> intro _) | refine sF_op ?_ | refine sF_end0 ?_ | refine sF_end2 ?_ | refine sF_end ?_ | refine sL_add ?_ | refine sL_sub ?_ | refine sL_conv ?_ | refine sL_pure ?_ | refine sL_nil ?_ | refine sL_load ?_ rfl | refine sL_store ?_ rfl | refine sL_loadI ?_ rfl | (refine sL_box ?_; intro _) | (refine sL_alloc ?_; intro _) | (refine sL_lit ?_; intro _) | (refine sL_appendL ?_ rfl rfl rfl rfl rfl; intro _ _) | refine sL_off ?_ | refine sW_seq ?_ | refine sW_region ?_ | refine sW_ret ?_ | refine sW_block ?_ | refine sW_condT rfl ?_ | refine sW_condF rfl ?_ | (refine sW_if rfl ?_ ?_ <;> intro _) | (refine sW_ifn rfl ?_ ?_ <;> intro _) | (refine sW_cond rfl ?_ ?_ <;> intro _) | refine sW_skip ?_ | refine sW_exit ?_ | (refine sL_guardD rfl rfl ?_ ?_ <;> intro _) | (refine sL_guardN rfl rfl ?_ ?_ <;> intro _) | (refine sL_guard rfl rfl ?_ ?_ <;> intro _)
  (repeat first | refine ret_then ?_ | refine ret_block ?_); apply retI; (repeat' first | exact res_nil | apply res_tmp ?_ rfl | apply res_cell ?_ rfl)
  · rfl
  · exact ent_refl _
theorem rRight (n : Int) : Con Tryz.prog 10 [.int .i64 n] emp (fun v _ => v = .bool (decide (right n))) := by
  refine Con.of_body Tryz.func10 rfl rfl Tryz.ntmps10 Tryz.results10 rfl ?_
  repeat' first | refine sF_nilO ?_ | refine sF_add ?_ | refine sF_sub ?_ | refine sF_conv ?_ | refine sF_pure ?_ | refine sF_load ?_ rfl | refine sF_off ?_ | (refine sF_guardD rfl rfl rfl ?_ ?_ <;> intro _) | refine sF_op ?_ | refine sF_end0 ?_ | refine sF_end2 ?_ | refine sF_end ?_ | refine sL_add ?_ | refine sL_sub ?_ | refine sL_conv ?_ | refine sL_pure ?_ | refine sL_nil ?_ | refine sL_load ?_ rfl | refine sL_store ?_ rfl | refine sL_loadI ?_ rfl | (refine sL_box ?_; intro _) | (refine sL_alloc ?_; intro _) | (refine sL_lit ?_; intro _) | (refine sL_appendL ?_ rfl rfl rfl rfl rfl; intro _ _) | refine sL_off ?_ | refine sW_seq ?_ | refine sW_region ?_ | refine sW_ret ?_ | refine sW_block ?_ | refine sW_condT rfl ?_ | refine sW_condF rfl ?_ | (refine sW_if rfl ?_ ?_ <;> intro _) | (refine sW_ifn rfl ?_ ?_ <;> intro _) | (refine sW_cond rfl ?_ ?_ <;> intro _) | refine sW_skip ?_ | refine sW_exit ?_ | (refine sL_guardD rfl rfl ?_ ?_ <;> intro _) | (refine sL_guardN rfl rfl ?_ ?_ <;> intro _) | (refine sL_guard rfl rfl ?_ ?_ <;> intro _)
  all_goals (repeat first | refine ret_then ?_ | refine ret_block ?_); apply retI; (repeat' first | exact res_nil | apply res_tmp ?_ rfl | apply res_cell ?_ rfl)
  all_goals first | exact ent_refl _ | skip
  all_goals (simp only [tupV, right]; congr 1; simp_all)
theorem iMost (n : Nat) (hn : right n) : Con Tryz.prog 11 [.int .i64 n] emp (fun v _ => v = .int .i64 (5041 + n)) := by
  have h : n = 3 ∨ n = 5 ∨ n = 7 := by unfold right at hn; omega
  refine Con.of_body Tryz.func11 rfl rfl Tryz.ntmps11 Tryz.results11 rfl ?_
  repeat' first | (refine sL_call0 ?_ rfl rfl (bNew n hn); rintro _ _ ⟨pb, rfl, rfl⟩) | (refine sL_callV ?_ rfl rfl fMost) | refine sF_nilO ?_ | refine sF_add ?_ | refine sF_sub ?_ | refine sF_conv ?_ | refine sF_pure ?_ | refine sF_load ?_ rfl | refine sF_off ?_ | (refine sF_guardD rfl rfl rfl ?_ ?_ <;> intro _) | refine sF_op ?_ | refine sF_end0 ?_ | refine sF_end2 ?_ | refine sF_end ?_ | refine sL_add ?_ | refine sL_sub ?_ | refine sL_conv ?_ | refine sL_pure ?_ | refine sL_nil ?_ | refine sL_load ?_ rfl | refine sL_store ?_ rfl | refine sL_loadI ?_ rfl | (refine sL_box ?_; intro _) | (refine sL_alloc ?_; intro _) | (refine sL_lit ?_; intro _) | (refine sL_appendL ?_ rfl rfl rfl rfl rfl; intro _ _) | refine sL_off ?_ | refine sW_seq ?_ | refine sW_region ?_ | refine sW_ret ?_ | refine sW_block ?_ | refine sW_condT rfl ?_ | refine sW_condF rfl ?_ | (refine sW_if rfl ?_ ?_ <;> intro _) | (refine sW_ifn rfl ?_ ?_ <;> intro _) | (refine sW_cond rfl ?_ ?_ <;> intro _) | refine sW_skip ?_ | refine sW_exit ?_ | (refine sL_guardD rfl rfl ?_ ?_ <;> intro _) | (refine sL_guardN rfl rfl ?_ ?_ <;> intro _) | (refine sL_guard rfl rfl ?_ ?_ <;> intro _)
  (repeat first | refine ret_then ?_ | refine ret_block ?_); apply retI; (repeat' first | exact res_nil | apply res_tmp ?_ rfl | apply res_cell ?_ rfl)
  · simp only [tupV]; congr 1
  · exact ent_emp _
theorem iMostBad (n : Int) (hn : ¬ right n) : Con Tryz.prog 11 [.int .i64 n] emp (fun v _ => v = .int .i64 0) := by
  refine Con.of_body Tryz.func11 rfl rfl Tryz.ntmps11 Tryz.results11 rfl ?_
  repeat' first | (refine sL_callV ?_ rfl rfl (bNewBad n hn)) | refine sF_nilO ?_ | refine sF_add ?_ | refine sF_sub ?_ | refine sF_conv ?_ | refine sF_pure ?_ | refine sF_load ?_ rfl | refine sF_off ?_ | (refine sF_guardD rfl rfl rfl ?_ ?_ <;> intro _) | refine sF_op ?_ | refine sF_end0 ?_ | refine sF_end2 ?_ | refine sF_end ?_ | refine sL_add ?_ | refine sL_sub ?_ | refine sL_conv ?_ | refine sL_pure ?_ | refine sL_nil ?_ | refine sL_load ?_ rfl | refine sL_store ?_ rfl | refine sL_loadI ?_ rfl | (refine sL_box ?_; intro _) | (refine sL_alloc ?_; intro _) | (refine sL_lit ?_; intro _) | (refine sL_appendL ?_ rfl rfl rfl rfl rfl; intro _ _) | refine sL_off ?_ | refine sW_seq ?_ | refine sW_region ?_ | refine sW_ret ?_ | refine sW_block ?_ | refine sW_condT rfl ?_ | refine sW_condF rfl ?_ | (refine sW_if rfl ?_ ?_ <;> intro _) | (refine sW_ifn rfl ?_ ?_ <;> intro _) | (refine sW_cond rfl ?_ ?_ <;> intro _) | refine sW_skip ?_ | refine sW_exit ?_ | (refine sL_guardD rfl rfl ?_ ?_ <;> intro _) | (refine sL_guardN rfl rfl ?_ ?_ <;> intro _) | (refine sL_guard rfl rfl ?_ ?_ <;> intro _)
  (repeat first | refine ret_then ?_ | refine ret_block ?_); apply retI; (repeat' first | exact res_nil | apply res_tmp ?_ rfl | apply res_cell ?_ rfl)
  · rfl
  · exact ent_refl _
end Go.Proofs.YtmkdbdkaheiaaaaGreatDoor
