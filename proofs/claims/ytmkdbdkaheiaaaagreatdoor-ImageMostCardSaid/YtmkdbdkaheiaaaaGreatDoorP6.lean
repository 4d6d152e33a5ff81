/- Helpers for the claim (a logic of assertions over the heap, contracts of the program's functions): no condition beyond each theorem's own premises. -/
import Derived.Test.YtmkdbdkaheiaaaaGreatDoorP3
import Derived.Test.YtmkdbdkaheiaaaaGreatDoorP5
import Derived.Test.YtmkdbdkaheiaaaaGreatDoorP4
set_option linter.all false
namespace Go.Proofs.YtmkdbdkaheiaaaaGreatDoor
open Go Go.Sl
variable [Amb]
set_option linter.unusedSectionVars false
set_option linter.unusedVariables false
set_option maxRecDepth 100000
attribute [local irreducible] sW sL sF

abbrev Str := List UInt8
/-- a string, as the machine has it -/
def sv (l : Str) : Value := .string ⟨⟨l⟩⟩
def strsV (l : List Str) : List Value := l.map sv

/-- a Writer: bytes that grow -/
def isW (p : Nat) (bs : Str) : HProp :=
  ex fun a : Option Addr => ex fun c : Nat => (star (blk p (.cells ⟨[.slice a bs.length c]⟩ 136 (0, 0))) (own 5 1 a (bs.length, c, bytesV bs)))
theorem isW_fold {p n c c' : Nat} {a : Option Addr} {cs : List Value} {bs : Str} {H R R' : HProp} [t : Take blk p H (.cells ⟨[.slice a n c]⟩ 136 (0, 0)) R] [t' : Take (own 5 1) a R (n, c', cs) R']
    (hn : n = bs.length) (hcc : c' = c) (hc : cs = bytesV bs) : (ent (H) (((star (isW p bs) (R'))))) := by
  subst hn hc hcc
  refine ent_trans t.eqv (ent_trans (star_mono (ent_refl _) t'.eqv) (ent_trans (star_assoc' _ _ _) (star_mono ?_ (ent_refl _))))
  exact ent_ex a (ent_ex _ (ent_refl _))
/-- a number's bytes, the lowest one first -/
def le : Nat → Nat → Str
  | 0, _ => []
  | k + 1, x => UInt8.ofNat x :: le k (x / 256)
theorem le_len (k x : Nat) : (le k x).length = k := by induction k generalizing x <;> simp_all [le]
theorem le_succ (k x : Nat) : le (k + 1) x = le k x ++ [UInt8.ofNat (x / 256 ^ k)] := by
  induction k generalizing x with
  | zero => simp [le]
  | succ k ih =>
    have h := ih (x / 256)
    have : x / 256 / 256 ^ k = x / 256 ^ (k + 1) := by rw [Nat.div_div_eq_div_mul, Nat.pow_succ, Nat.mul_comm]
    rw [this] at h
    show UInt8.ofNat x :: le (k + 1) (x / 256) = _
    rw [h]; rfl
theorem byte_of (x : Nat) : (.int .u8 (IntKind.u8.wrap (x : Int)) : Value) = byteV (UInt8.ofNat x) := by
  unfold byteV
  simp [IntKind.wrap, IntKind.signed, IntKind.bits]
theorem shr8 (x : Nat) : ((x : Int).fdiv (2 ^ min 8 IntKind.u64.bits)) = ((x / 256 : Nat) : Int) := by
  have : (2 ^ min 8 IntKind.u64.bits : Int) = 256 := by decide
  rw [this]; exact Int.fdiv_eq_ediv_of_nonneg _ (by omega)

theorem wNum (p : Nat) (x k : Nat) (hk : k ≤ 8) (bs : Str) (hb : bs.length ≤ 2147483648) :
    Con Tryz.prog 132 [.pointer (some ⟨p, 0, none⟩), .int .u64 x, .int .i64 k] (isW p bs) (fun v B => v = .pointer (some ⟨p, 0, none⟩) ∧ B = isW p (bs ++ le k x)) := by
  refine Con.of_body Tryz.func132 rfl rfl Tryz.ntmps132 Tryz.results132 rfl ?_
  unfold isW
  refine sW_ex1 fun a => sW_ex1 fun c => ?_
  repeat' first | refine sF_nilO ?_ | refine sF_add ?_ | refine sF_sub ?_ | refine sF_conv ?_ | refine sF_pure ?_ | refine sF_load ?_ rfl | refine sF_off ?_ | (refine sF_guardD rfl rfl rfl ?_ ?_ <;> intro _) | refine sF_op ?_ | refine sF_end0 ?_ | refine sF_end2 ?_ | refine sF_end ?_ | refine sL_add ?_ | refine sL_sub ?_ | refine sL_conv ?_ | refine sL_pure ?_ | refine sL_nil ?_ | refine sL_load ?_ rfl | refine sL_store ?_ rfl | refine sL_loadI ?_ rfl | (refine sL_box ?_; intro _) | (refine sL_alloc ?_; intro _) | (refine sL_lit ?_; intro _) | (refine sL_appendL ?_ rfl rfl rfl rfl rfl; intro _ _) | refine sL_off ?_ | refine sW_seq ?_ | refine sW_region ?_ | refine sW_ret ?_ | refine sW_block ?_ | refine sW_condT rfl ?_ | refine sW_condF rfl ?_ | (refine sW_if rfl ?_ ?_ <;> intro _) | (refine sW_ifn rfl ?_ ?_ <;> intro _) | (refine sW_cond rfl ?_ ?_ <;> intro _) | refine sW_skip ?_ | refine sW_exit ?_ | (refine sL_guardD rfl rfl ?_ ?_ <;> intro _) | (refine sL_guardN rfl rfl ?_ ?_ <;> intro _) | (refine sL_guard rfl rfl ?_ ?_ <;> intro _)
  · refine sW_for (α := Nat × Option Addr × Nat) (fun y => [(0, .pointer (some ⟨p, 0, none⟩)), (1, .int .u64 ((x / 256 ^ y.1 : Nat) : Int)), (7, .int .i64 k), (8, .int .i64 y.1)])
      (fun y => (star (blk p (.cells ⟨[.slice y.2.1 (bs.length + y.1) y.2.2]⟩ 136 (0, 0))) (own 5 1 y.2.1 (bs.length + y.1, y.2.2, bytesV (bs ++ le y.1 x)))))
      (fun y => y.1 ≤ k) (fun y => k - y.1) (0, a, c) (Nat.zero_le _) ?_ ?_ ?_
    · refine ⟨rfl, ?_, rfl, rfl, trivial⟩
      simp only [Nat.pow_zero, Nat.div_one]; rfl
    · simp only [Nat.add_zero, le, List.append_nil]; exact ent_refl _
    · rintro ⟨i, a, c⟩ hi
      simp only at hi ⊢
      repeat' first | refine sF_nilO ?_ | refine sF_add ?_ | refine sF_sub ?_ | refine sF_conv ?_ | refine sF_pure ?_ | refine sF_load ?_ rfl | refine sF_off ?_ | (refine sF_guardD rfl rfl rfl ?_ ?_ <;> intro _) | refine sF_op ?_ | refine sF_end0 ?_ | refine sF_end2 ?_ | refine sF_end ?_ | refine sL_add ?_ | refine sL_sub ?_ | refine sL_conv ?_ | refine sL_pure ?_ | refine sL_nil ?_ | refine sL_load ?_ rfl | refine sL_store ?_ rfl | refine sL_loadI ?_ rfl | (refine sL_box ?_; intro _) | (refine sL_alloc ?_; intro _) | (refine sL_lit ?_; intro _) | (refine sL_appendL ?_ rfl rfl rfl rfl rfl; intro _ _) | refine sL_off ?_ | refine sW_seq ?_ | refine sW_region ?_ | refine sW_ret ?_ | refine sW_block ?_ | refine sW_condT rfl ?_ | refine sW_condF rfl ?_ | (refine sW_if rfl ?_ ?_ <;> intro _) | (refine sW_ifn rfl ?_ ?_ <;> intro _) | (refine sW_cond rfl ?_ ?_ <;> intro _) | refine sW_skip ?_ | refine sW_exit ?_ | (refine sL_guardD rfl rfl ?_ ?_ <;> intro _) | (refine sL_guardN rfl rfl ?_ ?_ <;> intro _) | (refine sL_guard rfl rfl ?_ ?_ <;> intro _)
      · have hb : bytesV (bs ++ le i x) ++ [.int .u8 (IntKind.u8.wrap ((x / 256 ^ i : Nat) : Int))] = bytesV (bs ++ le (i + 1) x) := by
          rw [byte_of, le_succ]; simp [bytesV]
        rw [hb, shr8, Nat.div_div_eq_div_mul, ← Nat.pow_succ]
        exact ⟨(i + 1, _, _), by simp only; omega, ⟨rfl, rfl, rfl, rfl, trivial⟩, ent_refl _, by simp only; omega⟩
      · have hik : i = k := by omega
        subst hik
        have hl : bs.length + i = (bs ++ le i x).length := by rw [List.length_append, le_len]
        (repeat first | refine ret_then ?_ | refine ret_block ?_); apply retI; (repeat' first | exact res_nil | apply res_tmp ?_ rfl | apply res_cell ?_ rfl)
        · exact ⟨rfl, rfl⟩
        rw [hl]
        exact ent_ex _ (ent_ex _ (ent_refl _))

theorem wByte (p : Nat) (x : Nat) (hx : x < 256) (bs : Str) (hb : bs.length ≤ 2147483648) :
    Con Tryz.prog 71 [.pointer (some ⟨p, 0, none⟩), .int .u8 x] (isW p bs) (fun v B => v = .pointer (some ⟨p, 0, none⟩) ∧ B = isW p (bs ++ le 1 x)) := by
  refine Con.of_body Tryz.func71 rfl rfl Tryz.ntmps71 Tryz.results71 rfl ?_
  repeat' first | (refine sL_call1c ?_ rfl rfl (wNum p x 1 (by omega)); rintro _ _ ⟨rfl, rfl⟩) | refine sF_nilO ?_ | refine sF_add ?_ | refine sF_sub ?_ | refine sF_conv ?_ | refine sF_pure ?_ | refine sF_load ?_ rfl | refine sF_off ?_ | (refine sF_guardD rfl rfl rfl ?_ ?_ <;> intro _) | refine sF_op ?_ | refine sF_end0 ?_ | refine sF_end2 ?_ | refine sF_end ?_ | refine sL_add ?_ | refine sL_sub ?_ | refine sL_conv ?_ | refine sL_pure ?_ | refine sL_nil ?_ | refine sL_load ?_ rfl | refine sL_store ?_ rfl | refine sL_loadI ?_ rfl | (refine sL_box ?_; intro _) | (refine sL_alloc ?_; intro _) | (refine sL_lit ?_; intro _) | (refine sL_appendL ?_ rfl rfl rfl rfl rfl; intro _ _) | refine sL_off ?_ | refine sW_seq ?_ | refine sW_region ?_ | refine sW_ret ?_ | refine sW_block ?_ | refine sW_condT rfl ?_ | refine sW_condF rfl ?_ | (refine sW_if rfl ?_ ?_ <;> intro _) | (refine sW_ifn rfl ?_ ?_ <;> intro _) | (refine sW_cond rfl ?_ ?_ <;> intro _) | refine sW_skip ?_ | refine sW_exit ?_ | (refine sL_guardD rfl rfl ?_ ?_ <;> intro _) | (refine sL_guardN rfl rfl ?_ ?_ <;> intro _) | (refine sL_guard rfl rfl ?_ ?_ <;> intro _)
  ((repeat first | refine ret_then ?_ | refine ret_block ?_); apply retI; (repeat' first | exact res_nil | apply res_tmp ?_ rfl | apply res_cell ?_ rfl); exact ⟨rfl, rfl⟩; exact ent_last)
theorem wTwo (p : Nat) (x : Nat) (hx : x < 65536) (bs : Str) (hb : bs.length ≤ 2147483648) :
    Con Tryz.prog 104 [.pointer (some ⟨p, 0, none⟩), .int .u16 x] (isW p bs) (fun v B => v = .pointer (some ⟨p, 0, none⟩) ∧ B = isW p (bs ++ le 2 x)) := by
  refine Con.of_body Tryz.func104 rfl rfl Tryz.ntmps104 Tryz.results104 rfl ?_
  repeat' first | (refine sL_call1c ?_ rfl rfl (wNum p x 2 (by omega)); rintro _ _ ⟨rfl, rfl⟩) | refine sF_nilO ?_ | refine sF_add ?_ | refine sF_sub ?_ | refine sF_conv ?_ | refine sF_pure ?_ | refine sF_load ?_ rfl | refine sF_off ?_ | (refine sF_guardD rfl rfl rfl ?_ ?_ <;> intro _) | refine sF_op ?_ | refine sF_end0 ?_ | refine sF_end2 ?_ | refine sF_end ?_ | refine sL_add ?_ | refine sL_sub ?_ | refine sL_conv ?_ | refine sL_pure ?_ | refine sL_nil ?_ | refine sL_load ?_ rfl | refine sL_store ?_ rfl | refine sL_loadI ?_ rfl | (refine sL_box ?_; intro _) | (refine sL_alloc ?_; intro _) | (refine sL_lit ?_; intro _) | (refine sL_appendL ?_ rfl rfl rfl rfl rfl; intro _ _) | refine sL_off ?_ | refine sW_seq ?_ | refine sW_region ?_ | refine sW_ret ?_ | refine sW_block ?_ | refine sW_condT rfl ?_ | refine sW_condF rfl ?_ | (refine sW_if rfl ?_ ?_ <;> intro _) | (refine sW_ifn rfl ?_ ?_ <;> intro _) | (refine sW_cond rfl ?_ ?_ <;> intro _) | refine sW_skip ?_ | refine sW_exit ?_ | (refine sL_guardD rfl rfl ?_ ?_ <;> intro _) | (refine sL_guardN rfl rfl ?_ ?_ <;> intro _) | (refine sL_guard rfl rfl ?_ ?_ <;> intro _)
  ((repeat first | refine ret_then ?_ | refine ret_block ?_); apply retI; (repeat' first | exact res_nil | apply res_tmp ?_ rfl | apply res_cell ?_ rfl); exact ⟨rfl, rfl⟩; exact ent_last)
theorem wEight (p : Nat) (x : Nat) (hx : x < 18446744073709551616) (bs : Str) (hb : bs.length ≤ 2147483648) :
    Con Tryz.prog 133 [.pointer (some ⟨p, 0, none⟩), .int .u64 x] (isW p bs) (fun v B => v = .pointer (some ⟨p, 0, none⟩) ∧ B = isW p (bs ++ le 8 x)) := by
  refine Con.of_body Tryz.func133 rfl rfl Tryz.ntmps133 Tryz.results133 rfl ?_
  repeat' first | (refine sL_call1c ?_ rfl rfl (wNum p x 8 (by omega)); rintro _ _ ⟨rfl, rfl⟩) | refine sF_nilO ?_ | refine sF_add ?_ | refine sF_sub ?_ | refine sF_conv ?_ | refine sF_pure ?_ | refine sF_load ?_ rfl | refine sF_off ?_ | (refine sF_guardD rfl rfl rfl ?_ ?_ <;> intro _) | refine sF_op ?_ | refine sF_end0 ?_ | refine sF_end2 ?_ | refine sF_end ?_ | refine sL_add ?_ | refine sL_sub ?_ | refine sL_conv ?_ | refine sL_pure ?_ | refine sL_nil ?_ | refine sL_load ?_ rfl | refine sL_store ?_ rfl | refine sL_loadI ?_ rfl | (refine sL_box ?_; intro _) | (refine sL_alloc ?_; intro _) | (refine sL_lit ?_; intro _) | (refine sL_appendL ?_ rfl rfl rfl rfl rfl; intro _ _) | refine sL_off ?_ | refine sW_seq ?_ | refine sW_region ?_ | refine sW_ret ?_ | refine sW_block ?_ | refine sW_condT rfl ?_ | refine sW_condF rfl ?_ | (refine sW_if rfl ?_ ?_ <;> intro _) | (refine sW_ifn rfl ?_ ?_ <;> intro _) | (refine sW_cond rfl ?_ ?_ <;> intro _) | refine sW_skip ?_ | refine sW_exit ?_ | (refine sL_guardD rfl rfl ?_ ?_ <;> intro _) | (refine sL_guardN rfl rfl ?_ ?_ <;> intro _) | (refine sL_guard rfl rfl ?_ ?_ <;> intro _)
  ((repeat first | refine ret_then ?_ | refine ret_block ?_); apply retI; (repeat' first | exact res_nil | apply res_tmp ?_ rfl | apply res_cell ?_ rfl); exact ⟨rfl, rfl⟩; exact ent_last)
theorem wTruth (p : Nat) (t : Bool) (bs : Str) (hb : bs.length ≤ 2147483648) :
    Con Tryz.prog 171 [.pointer (some ⟨p, 0, none⟩), .bool t] (isW p bs) (fun v B => v = .pointer (some ⟨p, 0, none⟩) ∧ B = isW p (bs ++ [if t then 1 else 0])) := by
  refine Con.of_body Tryz.func171 rfl rfl Tryz.ntmps171 Tryz.results171 rfl ?_
  repeat' first | (refine sL_call1c ?_ rfl rfl (wByte p 1 (by omega)); rintro _ _ ⟨rfl, rfl⟩) | (refine sL_call1c ?_ rfl rfl (wByte p 0 (by omega)); rintro _ _ ⟨rfl, rfl⟩) | refine sF_nilO ?_ | refine sF_add ?_ | refine sF_sub ?_ | refine sF_conv ?_ | refine sF_pure ?_ | refine sF_load ?_ rfl | refine sF_off ?_ | (refine sF_guardD rfl rfl rfl ?_ ?_ <;> intro _) | refine sF_op ?_ | refine sF_end0 ?_ | refine sF_end2 ?_ | refine sF_end ?_ | refine sL_add ?_ | refine sL_sub ?_ | refine sL_conv ?_ | refine sL_pure ?_ | refine sL_nil ?_ | refine sL_load ?_ rfl | refine sL_store ?_ rfl | refine sL_loadI ?_ rfl | (refine sL_box ?_; intro _) | (refine sL_alloc ?_; intro _) | (refine sL_lit ?_; intro _) | (refine sL_appendL ?_ rfl rfl rfl rfl rfl; intro _ _) | refine sL_off ?_ | refine sW_seq ?_ | refine sW_region ?_ | refine sW_ret ?_ | refine sW_block ?_ | refine sW_condT rfl ?_ | refine sW_condF rfl ?_ | (refine sW_if rfl ?_ ?_ <;> intro _) | (refine sW_ifn rfl ?_ ?_ <;> intro _) | (refine sW_cond rfl ?_ ?_ <;> intro _) | refine sW_skip ?_ | refine sW_exit ?_ | (refine sL_guardD rfl rfl ?_ ?_ <;> intro _) | (refine sL_guardN rfl rfl ?_ ?_ <;> intro _) | (refine sL_guard rfl rfl ?_ ?_ <;> intro _)
  all_goals subst t
  all_goals ((repeat first | refine ret_then ?_ | refine ret_block ?_); apply retI; (repeat' first | exact res_nil | apply res_tmp ?_ rfl | apply res_cell ?_ rfl); exact ⟨rfl, rfl⟩; exact ent_last)

/-- a text: its length, and it -/
def tx (l : Str) : Str := le 2 l.length ++ l
theorem tx_len (l : Str) : (tx l).length = 2 + l.length := by simp [tx, le_len]
theorem bytesV_app (a b : Str) : bytesV (a ++ b) = bytesV a ++ bytesV b := by simp [bytesV]

theorem wText (p : Nat) (l : Str) (hl : l.length ≤ 65535) (bs : Str) (hb : bs.length + l.length ≤ 2147483000) :
    Con Tryz.prog 72 [.pointer (some ⟨p, 0, none⟩), sv l] (isW p bs) (fun v B => v = .pointer (some ⟨p, 0, none⟩) ∧ B = isW p (bs ++ tx l)) := by
  refine Con.of_body Tryz.func72 rfl rfl Tryz.ntmps72 Tryz.results72 rfl ?_
  unfold sv
  have hmin : (if (65535 : Int) < (l.length : Int) then 65535 else (l.length : Int)) = l.length := by rw [if_neg]; omega
  repeat' first | refine sF_nilO ?_ | refine sF_add ?_ | refine sF_sub ?_ | refine sF_conv ?_ | refine sF_pure ?_ | refine sF_load ?_ rfl | refine sF_off ?_ | (refine sF_guardD rfl rfl rfl ?_ ?_ <;> intro _) | refine sF_op ?_ | refine sF_end0 ?_ | refine sF_end2 ?_ | refine sF_end ?_ | refine sL_add ?_ | refine sL_sub ?_ | refine sL_conv ?_ | refine sL_pure ?_ | refine sL_nil ?_ | refine sL_load ?_ rfl | refine sL_store ?_ rfl | refine sL_loadI ?_ rfl | (refine sL_box ?_; intro _) | (refine sL_alloc ?_; intro _) | (refine sL_lit ?_; intro _) | (refine sL_appendL ?_ rfl rfl rfl rfl rfl; intro _ _) | refine sL_off ?_ | refine sW_seq ?_ | refine sW_region ?_ | refine sW_ret ?_ | refine sW_block ?_ | refine sW_condT rfl ?_ | refine sW_condF rfl ?_ | (refine sW_if rfl ?_ ?_ <;> intro _) | (refine sW_ifn rfl ?_ ?_ <;> intro _) | (refine sW_cond rfl ?_ ?_ <;> intro _) | refine sW_skip ?_ | refine sW_exit ?_ | (refine sL_guardD rfl rfl ?_ ?_ <;> intro _) | (refine sL_guardN rfl rfl ?_ ?_ <;> intro _) | (refine sL_guard rfl rfl ?_ ?_ <;> intro _)
  rw [hmin]
  refine sL_strSl ?_ rfl rfl rfl
  refine sL_as (v' := sv l) (by simp [sv]) ?_
  unfold sv
  repeat' first | (refine sL_call1c ?_ rfl rfl (wTwo p l.length (by omega)); rintro _ _ ⟨rfl, rfl⟩) | refine sF_nilO ?_ | refine sF_add ?_ | refine sF_sub ?_ | refine sF_conv ?_ | refine sF_pure ?_ | refine sF_load ?_ rfl | refine sF_off ?_ | (refine sF_guardD rfl rfl rfl ?_ ?_ <;> intro _) | refine sF_op ?_ | refine sF_end0 ?_ | refine sF_end2 ?_ | refine sF_end ?_ | refine sL_add ?_ | refine sL_sub ?_ | refine sL_conv ?_ | refine sL_pure ?_ | refine sL_nil ?_ | refine sL_load ?_ rfl | refine sL_store ?_ rfl | refine sL_loadI ?_ rfl | (refine sL_box ?_; intro _) | (refine sL_alloc ?_; intro _) | (refine sL_lit ?_; intro _) | (refine sL_appendL ?_ rfl rfl rfl rfl rfl; intro _ _) | refine sL_off ?_ | refine sW_seq ?_ | refine sW_region ?_ | refine sW_ret ?_ | refine sW_block ?_ | refine sW_condT rfl ?_ | refine sW_condF rfl ?_ | (refine sW_if rfl ?_ ?_ <;> intro _) | (refine sW_ifn rfl ?_ ?_ <;> intro _) | (refine sW_cond rfl ?_ ?_ <;> intro _) | refine sW_skip ?_ | refine sW_exit ?_ | (refine sL_guardD rfl rfl ?_ ?_ <;> intro _) | (refine sL_guardN rfl rfl ?_ ?_ <;> intro _) | (refine sL_guard rfl rfl ?_ ?_ <;> intro _)
  refine sL_take (p := isW) (b := p) ?_
  unfold isW
  refine sL_ex fun a => sL_ex fun c => ?_
  repeat' first | (refine sL_appendS ?_ rfl rfl rfl rfl rfl (hbig := by simp only [List.length_append, le_len]; omega); intro _ _) | refine sF_nilO ?_ | refine sF_add ?_ | refine sF_sub ?_ | refine sF_conv ?_ | refine sF_pure ?_ | refine sF_load ?_ rfl | refine sF_off ?_ | (refine sF_guardD rfl rfl rfl ?_ ?_ <;> intro _) | refine sF_op ?_ | refine sF_end0 ?_ | refine sF_end2 ?_ | refine sF_end ?_ | refine sL_add ?_ | refine sL_sub ?_ | refine sL_conv ?_ | refine sL_pure ?_ | refine sL_nil ?_ | refine sL_load ?_ rfl | refine sL_store ?_ rfl | refine sL_loadI ?_ rfl | (refine sL_box ?_; intro _) | (refine sL_alloc ?_; intro _) | (refine sL_lit ?_; intro _) | (refine sL_appendL ?_ rfl rfl rfl rfl rfl; intro _ _) | refine sL_off ?_ | refine sW_seq ?_ | refine sW_region ?_ | refine sW_ret ?_ | refine sW_block ?_ | refine sW_condT rfl ?_ | refine sW_condF rfl ?_ | (refine sW_if rfl ?_ ?_ <;> intro _) | (refine sW_ifn rfl ?_ ?_ <;> intro _) | (refine sW_cond rfl ?_ ?_ <;> intro _) | refine sW_skip ?_ | refine sW_exit ?_ | (refine sL_guardD rfl rfl ?_ ?_ <;> intro _) | (refine sL_guardN rfl rfl ?_ ?_ <;> intro _) | (refine sL_guard rfl rfl ?_ ?_ <;> intro _)
  (repeat first | refine ret_then ?_ | refine ret_block ?_); apply retI; (repeat' first | exact res_nil | apply res_tmp ?_ rfl | apply res_cell ?_ rfl)
  · exact ⟨rfl, rfl⟩
  refine ent_trans (isW_fold (bs := bs ++ tx l) ?_ rfl ?_) (star_left _ _)
  · simp [tx, Nat.add_assoc]
  · rw [← bytesV_app, tx, List.append_assoc]
end Go.Proofs.YtmkdbdkaheiaaaaGreatDoor
namespace Go.Proofs.YtmkdbdkaheiaaaaGreatDoor
open Go Go.Sl
variable [Amb]
set_option linter.unusedSectionVars false
set_option linter.unusedVariables false
set_option maxRecDepth 100000
attribute [local irreducible] sW sL sF
theorem ro_nil {k n c : Nat} {cs : List Value} : (ent (ro k none (n, c, cs)) (pure (n = 0 ∧ c = 0 ∧ cs = []))) := by
  rintro O I ⟨h1, h2, h3, h | ⟨b, off, c', El, fr, h, _⟩⟩
  · obtain ⟨_, hn, hc⟩ := h
    simp only at hn hc h1
    subst hn hc
    exact ⟨rfl, rfl, List.eq_nil_of_length_eq_zero (by simpa using h1)⟩
  · cases h
theorem blk_own {b El k : Nat} : (ent (blk b (.cells ⟨[]⟩ El (0, 0))) (own El k (some ⟨b, 0, none⟩) (0, 0, []))) := by
  have := own_of_blk (El := El) (k := k) (n := 0) (c := 0) (g := b) (xs := []) (sp := []) rfl (by simp) (Nat.le_refl _) (Nat.zero_le _) (by simp)
  simpa using this
theorem bClone (a : Option Addr) (n c : Nat) (x : Nat × Nat × List Value) (hx : x.1 = n ∧ n ≤ 4294967296) : Con Tryz.prog 112 [.slice a n c] (ro 1 a x) (fun v B => ∃ a' c', v = .slice a' n c' ∧ B = own 5 1 a' (n, c', x.2.2)) := by
  obtain ⟨n', c', cs⟩ := x
  obtain ⟨rfl, hn⟩ := hx
  simp only at hn ⊢
  refine Con.of_body Tryz.func112 rfl rfl Tryz.ntmps112 Tryz.results112 rfl ?_
  cases a with
  | none =>
    refine sW_pre (H' := (star (pure (n' = 0 ∧ c' = 0 ∧ cs = [])) (emp))) ?_ (ent_trans ro_nil (fun O I h => ⟨Hp.emp, O, fun _ => .inl rfl, Hp.emp_le _, Hp.le_refl _, h, trivial⟩))
    refine sW_pur ?_
    rintro ⟨rfl, rfl, rfl⟩
    repeat' first | refine sF_nilO ?_ | refine sF_add ?_ | refine sF_sub ?_ | refine sF_conv ?_ | refine sF_pure ?_ | refine sF_load ?_ rfl | refine sF_off ?_ | (refine sF_guardD rfl rfl rfl ?_ ?_ <;> intro _) | refine sF_op ?_ | refine sF_end0 ?_ | refine sF_end2 ?_ | refine sF_end ?_ | refine sL_add ?_ | refine sL_sub ?_ | refine sL_conv ?_ | refine sL_pure ?_ | refine sL_nil ?_ | refine sL_load ?_ rfl | refine sL_store ?_ rfl | refine sL_loadI ?_ rfl | (refine sL_box ?_; intro _) | (refine sL_alloc ?_; intro _) | (refine sL_lit ?_; intro _) | (refine sL_appendL ?_ rfl rfl rfl rfl rfl; intro _ _) | refine sL_off ?_ | refine sW_seq ?_ | refine sW_region ?_ | refine sW_ret ?_ | refine sW_block ?_ | refine sW_condT rfl ?_ | refine sW_condF rfl ?_ | (refine sW_if rfl ?_ ?_ <;> intro _) | (refine sW_ifn rfl ?_ ?_ <;> intro _) | (refine sW_cond rfl ?_ ?_ <;> intro _) | refine sW_skip ?_ | refine sW_exit ?_ | (refine sL_guardD rfl rfl ?_ ?_ <;> intro _) | (refine sL_guardN rfl rfl ?_ ?_ <;> intro _) | (refine sL_guard rfl rfl ?_ ?_ <;> intro _)
    (repeat first | refine ret_then ?_ | refine ret_block ?_); apply retI; (repeat' first | exact res_nil | apply res_tmp ?_ rfl | apply res_cell ?_ rfl)
    · exact ⟨none, 0, rfl, rfl⟩
    · exact ent_trans (own_nil 5 1 emp) (star_left _ _)
  | some a =>
    repeat' first | refine sF_nilO ?_ | refine sF_add ?_ | refine sF_sub ?_ | refine sF_conv ?_ | refine sF_pure ?_ | refine sF_load ?_ rfl | refine sF_off ?_ | (refine sF_guardD rfl rfl rfl ?_ ?_ <;> intro _) | refine sF_op ?_ | refine sF_end0 ?_ | refine sF_end2 ?_ | refine sF_end ?_ | refine sL_add ?_ | refine sL_sub ?_ | refine sL_conv ?_ | refine sL_pure ?_ | refine sL_nil ?_ | refine sL_load ?_ rfl | refine sL_store ?_ rfl | refine sL_loadI ?_ rfl | (refine sL_box ?_; intro _) | (refine sL_alloc ?_; intro _) | (refine sL_lit ?_; intro _) | (refine sL_appendL ?_ rfl rfl rfl rfl rfl; intro _ _) | refine sL_off ?_ | refine sW_seq ?_ | refine sW_region ?_ | refine sW_ret ?_ | refine sW_block ?_ | refine sW_condT rfl ?_ | refine sW_condF rfl ?_ | (refine sW_if rfl ?_ ?_ <;> intro _) | (refine sW_ifn rfl ?_ ?_ <;> intro _) | (refine sW_cond rfl ?_ ?_ <;> intro _) | refine sW_skip ?_ | refine sW_exit ?_ | (refine sL_guardD rfl rfl ?_ ?_ <;> intro _) | (refine sL_guardN rfl rfl ?_ ?_ <;> intro _) | (refine sL_guard rfl rfl ?_ ?_ <;> intro _)
    refine sL_lit0 ?_
    intro b
    refine sL_pre (H' := (star (own 5 1 (some ⟨b, 0, none⟩) (0, 0, [])) (ro 1 (some a) (n', c', cs)))) ?_ (star_mono blk_own (ent_refl _))
    repeat' first | (refine sL_appendR ?_ rfl rfl rfl rfl rfl (hbig := by omega); intro _ _) | refine sF_nilO ?_ | refine sF_add ?_ | refine sF_sub ?_ | refine sF_conv ?_ | refine sF_pure ?_ | refine sF_load ?_ rfl | refine sF_off ?_ | (refine sF_guardD rfl rfl rfl ?_ ?_ <;> intro _) | refine sF_op ?_ | refine sF_end0 ?_ | refine sF_end2 ?_ | refine sF_end ?_ | refine sL_add ?_ | refine sL_sub ?_ | refine sL_conv ?_ | refine sL_pure ?_ | refine sL_nil ?_ | refine sL_load ?_ rfl | refine sL_store ?_ rfl | refine sL_loadI ?_ rfl | (refine sL_box ?_; intro _) | (refine sL_alloc ?_; intro _) | (refine sL_lit ?_; intro _) | (refine sL_appendL ?_ rfl rfl rfl rfl rfl; intro _ _) | refine sL_off ?_ | refine sW_seq ?_ | refine sW_region ?_ | refine sW_ret ?_ | refine sW_block ?_ | refine sW_condT rfl ?_ | refine sW_condF rfl ?_ | (refine sW_if rfl ?_ ?_ <;> intro _) | (refine sW_ifn rfl ?_ ?_ <;> intro _) | (refine sW_cond rfl ?_ ?_ <;> intro _) | refine sW_skip ?_ | refine sW_exit ?_ | (refine sL_guardD rfl rfl ?_ ?_ <;> intro _) | (refine sL_guardN rfl rfl ?_ ?_ <;> intro _) | (refine sL_guard rfl rfl ?_ ?_ <;> intro _)
    simp only [Nat.zero_add, List.nil_append]
    (repeat first | refine ret_then ?_ | refine ret_block ?_); apply retI; (repeat' first | exact res_nil | apply res_tmp ?_ rfl | apply res_cell ?_ rfl)
    · exact ⟨_, _, rfl, rfl⟩
    · exact star_left _ _
theorem wBytes (p : Nat) (bs : Str) (hb : bs.length ≤ 4294967296) : Con Tryz.prog 75 [.pointer (some ⟨p, 0, none⟩)] (isW p bs) (fun v B => ∃ a c, v = .slice a bs.length c ∧ B = own 5 1 a (bs.length, c, bytesV bs)) := by
  refine Con.of_body Tryz.func75 rfl rfl Tryz.ntmps75 Tryz.results75 rfl ?_
  unfold isW
  refine sW_ex1 fun a => sW_ex1 fun c => ?_
  repeat' first | refine sF_nilO ?_ | refine sF_add ?_ | refine sF_sub ?_ | refine sF_conv ?_ | refine sF_pure ?_ | refine sF_load ?_ rfl | refine sF_off ?_ | (refine sF_guardD rfl rfl rfl ?_ ?_ <;> intro _) | refine sF_op ?_ | refine sF_end0 ?_ | refine sF_end2 ?_ | refine sF_end ?_ | refine sL_add ?_ | refine sL_sub ?_ | refine sL_conv ?_ | refine sL_pure ?_ | refine sL_nil ?_ | refine sL_load ?_ rfl | refine sL_store ?_ rfl | refine sL_loadI ?_ rfl | (refine sL_box ?_; intro _) | (refine sL_alloc ?_; intro _) | (refine sL_lit ?_; intro _) | (refine sL_appendL ?_ rfl rfl rfl rfl rfl; intro _ _) | refine sL_off ?_ | refine sW_seq ?_ | refine sW_region ?_ | refine sW_ret ?_ | refine sW_block ?_ | refine sW_condT rfl ?_ | refine sW_condF rfl ?_ | (refine sW_if rfl ?_ ?_ <;> intro _) | (refine sW_ifn rfl ?_ ?_ <;> intro _) | (refine sW_cond rfl ?_ ?_ <;> intro _) | refine sW_skip ?_ | refine sW_exit ?_ | (refine sL_guardD rfl rfl ?_ ?_ <;> intro _) | (refine sL_guardN rfl rfl ?_ ?_ <;> intro _) | (refine sL_guard rfl rfl ?_ ?_ <;> intro _)
  refine sL_freeze (El := 5) (k := 1) (a := a) ?_
  repeat' first | (refine sL_callR ?_ rfl rfl (bClone _ _ _) ⟨rfl, hb⟩; rintro _ _ ⟨_, _, rfl, rfl⟩) | refine sF_nilO ?_ | refine sF_add ?_ | refine sF_sub ?_ | refine sF_conv ?_ | refine sF_pure ?_ | refine sF_load ?_ rfl | refine sF_off ?_ | (refine sF_guardD rfl rfl rfl ?_ ?_ <;> intro _) | refine sF_op ?_ | refine sF_end0 ?_ | refine sF_end2 ?_ | refine sF_end ?_ | refine sL_add ?_ | refine sL_sub ?_ | refine sL_conv ?_ | refine sL_pure ?_ | refine sL_nil ?_ | refine sL_load ?_ rfl | refine sL_store ?_ rfl | refine sL_loadI ?_ rfl | (refine sL_box ?_; intro _) | (refine sL_alloc ?_; intro _) | (refine sL_lit ?_; intro _) | (refine sL_appendL ?_ rfl rfl rfl rfl rfl; intro _ _) | refine sL_off ?_ | refine sW_seq ?_ | refine sW_region ?_ | refine sW_ret ?_ | refine sW_block ?_ | refine sW_condT rfl ?_ | refine sW_condF rfl ?_ | (refine sW_if rfl ?_ ?_ <;> intro _) | (refine sW_ifn rfl ?_ ?_ <;> intro _) | (refine sW_cond rfl ?_ ?_ <;> intro _) | refine sW_skip ?_ | refine sW_exit ?_ | (refine sL_guardD rfl rfl ?_ ?_ <;> intro _) | (refine sL_guardN rfl rfl ?_ ?_ <;> intro _) | (refine sL_guard rfl rfl ?_ ?_ <;> intro _)
  (repeat first | refine ret_then ?_ | refine ret_block ?_); apply retI; (repeat' first | exact res_nil | apply res_tmp ?_ rfl | apply res_cell ?_ rfl)
  · exact ⟨_, _, rfl, rfl⟩
  · exact star_left _ _
end Go.Proofs.YtmkdbdkaheiaaaaGreatDoor
namespace Go.Proofs.YtmkdbdkaheiaaaaGreatDoor
open Go Go.Sl
variable [Amb]
set_option linter.unusedSectionVars false
set_option linter.unusedVariables false
set_option maxRecDepth 100000
attribute [local irreducible] sW sL sF
/-- a row of texts: how many, and they -/
def rowB (l : List Str) : Str := le 2 l.length ++ l.flatMap tx
theorem strsV_take (l : List Str) (n : Nat) : (strsV l).take n = strsV (l.take n) := by simp [strsV, List.map_take]
theorem ldStr {l : List Str} {i k : Nat} (h : i < l.length) (hk : k = 1) : ldV ⟨.str, 1, 16, [.string ⟨⟨[]⟩⟩]⟩ (strsV l) (((i : Nat) : Int).toNat * k) = some (sv l[i]) := by
  subst hk
  simp only [ldV, Int.toNat_natCast, Nat.mul_one, strsV]
  exact getL_map sv l i h
theorem wRow (p : Nat) (a : Option Addr) (c : Nat) (l : List Str) (hl : l.length ≤ 65535) (hs : ∀ s ∈ l, s.length ≤ 65535) (bs : Str) (hb : bs.length + (rowB l).length ≤ 2147483000) :
    Con Tryz.prog 108 [.pointer (some ⟨p, 0, none⟩), .slice a l.length c] ((star (isW p bs) (ro 1 a (l.length, c, strsV l)))) (fun v B => v = .pointer (some ⟨p, 0, none⟩) ∧ B = isW p (bs ++ rowB l)) := by
  refine Con.of_body Tryz.func108 rfl rfl Tryz.ntmps108 Tryz.results108 rfl ?_
  have hmin : (if (65535 : Int) < (l.length : Int) then 65535 else (l.length : Int)) = l.length := by rw [if_neg]; omega
  repeat' first | refine sF_nilO ?_ | refine sF_add ?_ | refine sF_sub ?_ | refine sF_conv ?_ | refine sF_pure ?_ | refine sF_load ?_ rfl | refine sF_off ?_ | (refine sF_guardD rfl rfl rfl ?_ ?_ <;> intro _) | refine sF_op ?_ | refine sF_end0 ?_ | refine sF_end2 ?_ | refine sF_end ?_ | refine sL_add ?_ | refine sL_sub ?_ | refine sL_conv ?_ | refine sL_pure ?_ | refine sL_nil ?_ | refine sL_load ?_ rfl | refine sL_store ?_ rfl | refine sL_loadI ?_ rfl | (refine sL_box ?_; intro _) | (refine sL_alloc ?_; intro _) | (refine sL_lit ?_; intro _) | (refine sL_appendL ?_ rfl rfl rfl rfl rfl; intro _ _) | refine sL_off ?_ | refine sW_seq ?_ | refine sW_region ?_ | refine sW_ret ?_ | refine sW_block ?_ | refine sW_condT rfl ?_ | refine sW_condF rfl ?_ | (refine sW_if rfl ?_ ?_ <;> intro _) | (refine sW_ifn rfl ?_ ?_ <;> intro _) | (refine sW_cond rfl ?_ ?_ <;> intro _) | refine sW_skip ?_ | refine sW_exit ?_ | (refine sL_guardD rfl rfl ?_ ?_ <;> intro _) | (refine sL_guardN rfl rfl ?_ ?_ <;> intro _) | (refine sL_guard rfl rfl ?_ ?_ <;> intro _)
  rw [hmin]
  refine sL_roSl ?_ rfl rfl rfl rfl rfl rfl
  intro a' c''
  have hf : ((strsV l).drop ((0 : Int).toNat * 1)).take ((((l.length : Nat) : Int).toNat - (0 : Int).toNat) * 1) = strsV l := by simp [strsV, ← List.map_take]
  rw [hf]
  simp only [Int.toNat_natCast, Int.toNat_zero, Nat.sub_zero]
  have hbr : bs.length + 2 + (l.flatMap tx).length ≤ 2147483000 := by simp only [rowB, List.length_append, le_len] at hb; omega
  repeat' first | (refine sL_call1c ?_ rfl rfl (wTwo p l.length (by omega)); rintro _ _ ⟨rfl, rfl⟩) | refine sF_nilO ?_ | refine sF_add ?_ | refine sF_sub ?_ | refine sF_conv ?_ | refine sF_pure ?_ | refine sF_load ?_ rfl | refine sF_off ?_ | (refine sF_guardD rfl rfl rfl ?_ ?_ <;> intro _) | refine sF_op ?_ | refine sF_end0 ?_ | refine sF_end2 ?_ | refine sF_end ?_ | refine sL_add ?_ | refine sL_sub ?_ | refine sL_conv ?_ | refine sL_pure ?_ | refine sL_nil ?_ | refine sL_load ?_ rfl | refine sL_store ?_ rfl | refine sL_loadI ?_ rfl | (refine sL_box ?_; intro _) | (refine sL_alloc ?_; intro _) | (refine sL_lit ?_; intro _) | (refine sL_appendL ?_ rfl rfl rfl rfl rfl; intro _ _) | refine sL_off ?_ | refine sW_seq ?_ | refine sW_region ?_ | refine sW_ret ?_ | refine sW_block ?_ | refine sW_condT rfl ?_ | refine sW_condF rfl ?_ | (refine sW_if rfl ?_ ?_ <;> intro _) | (refine sW_ifn rfl ?_ ?_ <;> intro _) | (refine sW_cond rfl ?_ ?_ <;> intro _) | refine sW_skip ?_ | refine sW_exit ?_ | (refine sL_guardD rfl rfl ?_ ?_ <;> intro _) | (refine sL_guardN rfl rfl ?_ ?_ <;> intro _) | (refine sL_guard rfl rfl ?_ ?_ <;> intro _)
  · refine sW_for (α := Nat) (fun i => [(0, .pointer (some ⟨p, 0, none⟩)), (17, .slice a' l.length c''), (18, .int .i64 l.length), (19, .int .i64 i)])
      (fun i => (star (isW p ((bs ++ le 2 l.length) ++ (l.take i).flatMap tx)) (ro 1 a' (l.length, c'', strsV l)))) (fun i => i ≤ l.length) (fun i => l.length - i) 0 (Nat.zero_le _) ⟨rfl, rfl, rfl, rfl, trivial⟩ ?_ ?_
    · simp only [List.take_zero, List.flatMap_nil, List.append_nil]
      exact star_mono (ent_refl _) (star_left _ _)
    · intro i hi
      have hpre : ((bs ++ le 2 l.length) ++ (l.take i).flatMap tx).length + (if h : i < l.length then 2 + l[i].length else 0) ≤ 2147483000 := by
        have : ((l.take i).flatMap tx).length + (if h : i < l.length then 2 + l[i].length else 0) ≤ (l.flatMap tx).length := by
          split
          · rename_i h
            conv => rhs; rw [← List.take_append_drop i l, List.flatMap_append, List.length_append, List.drop_eq_getElem_cons h, List.flatMap_cons, List.length_append, tx_len]
            omega
          · conv => rhs; rw [← List.take_append_drop i l, List.flatMap_append, List.length_append]
            omega
        simp only [List.length_append, le_len]
        omega
      repeat' first | refine sF_nilO ?_ | refine sF_add ?_ | refine sF_sub ?_ | refine sF_conv ?_ | refine sF_pure ?_ | refine sF_load ?_ rfl | refine sF_off ?_ | (refine sF_guardD rfl rfl rfl ?_ ?_ <;> intro _) | refine sF_op ?_ | refine sF_end0 ?_ | refine sF_end2 ?_ | refine sF_end ?_ | refine sL_add ?_ | refine sL_sub ?_ | refine sL_conv ?_ | refine sL_pure ?_ | refine sL_nil ?_ | refine sL_load ?_ rfl | refine sL_store ?_ rfl | refine sL_loadI ?_ rfl | (refine sL_box ?_; intro _) | (refine sL_alloc ?_; intro _) | (refine sL_lit ?_; intro _) | (refine sL_appendL ?_ rfl rfl rfl rfl rfl; intro _ _) | refine sL_off ?_ | refine sW_seq ?_ | refine sW_region ?_ | refine sW_ret ?_ | refine sW_block ?_ | refine sW_condT rfl ?_ | refine sW_condF rfl ?_ | (refine sW_if rfl ?_ ?_ <;> intro _) | (refine sW_ifn rfl ?_ ?_ <;> intro _) | (refine sW_cond rfl ?_ ?_ <;> intro _) | refine sW_skip ?_ | refine sW_exit ?_ | (refine sL_guardD rfl rfl ?_ ?_ <;> intro _) | (refine sL_guardN rfl rfl ?_ ?_ <;> intro _) | (refine sL_guard rfl rfl ?_ ?_ <;> intro _)
      · rename_i hlt
        have hlt' : i < l.length := by omega
        simp only [hlt', dite_true] at hpre
        have hsi := hs _ (List.getElem_mem hlt')
        repeat' first | (refine sL_idxR ?_ rfl rfl rfl rfl rfl) | (refine sL_loadR (k := 1) ?_ rfl (ldStr hlt' rfl)) | (refine sL_call1c ?_ rfl rfl (wText p l[i] hsi) (by omega); rintro _ _ ⟨rfl, rfl⟩) | refine sF_nilO ?_ | refine sF_add ?_ | refine sF_sub ?_ | refine sF_conv ?_ | refine sF_pure ?_ | refine sF_load ?_ rfl | refine sF_off ?_ | (refine sF_guardD rfl rfl rfl ?_ ?_ <;> intro _) | refine sF_op ?_ | refine sF_end0 ?_ | refine sF_end2 ?_ | refine sF_end ?_ | refine sL_add ?_ | refine sL_sub ?_ | refine sL_conv ?_ | refine sL_pure ?_ | refine sL_nil ?_ | refine sL_load ?_ rfl | refine sL_store ?_ rfl | refine sL_loadI ?_ rfl | (refine sL_box ?_; intro _) | (refine sL_alloc ?_; intro _) | (refine sL_lit ?_; intro _) | (refine sL_appendL ?_ rfl rfl rfl rfl rfl; intro _ _) | refine sL_off ?_ | refine sW_seq ?_ | refine sW_region ?_ | refine sW_ret ?_ | refine sW_block ?_ | refine sW_condT rfl ?_ | refine sW_condF rfl ?_ | (refine sW_if rfl ?_ ?_ <;> intro _) | (refine sW_ifn rfl ?_ ?_ <;> intro _) | (refine sW_cond rfl ?_ ?_ <;> intro _) | refine sW_skip ?_ | refine sW_exit ?_ | (refine sL_guardD rfl rfl ?_ ?_ <;> intro _) | (refine sL_guardN rfl rfl ?_ ?_ <;> intro _) | (refine sL_guard rfl rfl ?_ ?_ <;> intro _)
        refine ⟨i + 1, by omega, ⟨rfl, rfl, rfl, rfl, trivial⟩, ?_, by omega⟩
        have : ((bs ++ le 2 l.length) ++ (l.take i).flatMap tx) ++ tx l[i] = (bs ++ le 2 l.length) ++ (l.take (i + 1)).flatMap tx := by
          rw [List.append_assoc, ← List.take_append_getElem hlt', List.flatMap_append]; simp
        rw [this]
        exact ent_refl _
      · have hil : i = l.length := by omega
        subst hil
        (repeat first | refine ret_then ?_ | refine ret_block ?_); apply retI; (repeat' first | exact res_nil | apply res_tmp ?_ rfl | apply res_cell ?_ rfl)
        · exact ⟨rfl, rfl⟩
        · rw [List.take_length, rowB, List.append_assoc]
          exact star_left _ _
end Go.Proofs.YtmkdbdkaheiaaaaGreatDoor
namespace Go.Proofs.YtmkdbdkaheiaaaaGreatDoor
open Go Go.Sl
variable [Amb]
set_option linter.unusedSectionVars false
set_option linter.unusedVariables false
set_option maxRecDepth 100000
attribute [local irreducible] sW sL sF
theorem isW_new {p : Nat} {R : HProp} : (ent (((star (blk p (.cells ⟨[.slice none 0 0]⟩ 136 (0, 0))) (R)))) (((star (isW p []) (R))))) :=
  star_mono (ent_trans (own_nil 5 1 _) (ent_trans (star_comm _ _) (ent_ex none (ent_ex 0 (ent_refl _))))) (ent_refl _)
theorem wRow' (p : Nat) (a : Option Addr) (c : Nat) (l : List Str) (hl : l.length ≤ 65535) (hs : ∀ s ∈ l, s.length ≤ 65535) (bs : Str) (x : Nat × Nat × List Value) (h : x = (l.length, c, strsV l) ∧ bs.length + (rowB l).length ≤ 2147483000) :
    Con Tryz.prog 108 [.pointer (some ⟨p, 0, none⟩), .slice a l.length c] ((star (isW p bs) (ro 1 a x))) (fun v B => v = .pointer (some ⟨p, 0, none⟩) ∧ B = isW p (bs ++ rowB l)) := by
  obtain ⟨rfl, hb⟩ := h
  exact wRow p a c l hl hs bs hb
theorem ro_none {k : Nat} {R : HProp} : (ent (R) (((star (ro k none (0, 0, [])) (R))))) :=
  fun O _ h => ⟨Hp.emp, O, fun _ => .inl rfl, Hp.emp_le _, Hp.le_refl _, ⟨by simp, Nat.le_refl _, rfl, .inl ⟨rfl, rfl, rfl⟩⟩, h⟩
/-- a reply's bytes -/
def putB (e : Nat) (l : List Str) : Str := le 1 e ++ rowB (if e = 0 then l else [])
theorem opPut (e : Nat) (a : Option Addr) (c : Nat) (l : List Str) (he : e < 256) (hl : l.length ≤ 65535) (hs : ∀ s ∈ l, s.length ≤ 65535) (hb : (rowB l).length ≤ 1000000) (x : Nat × Nat × List Value) (hx : x = (l.length, c, strsV l)) :
    Con Tryz.prog 134 [.agg ⟨[.int .i64 e, .slice a l.length c]⟩] (ro 1 a x) (fun v B => ∃ a' c', v = .slice a' (putB e l).length c' ∧ B = own 5 1 a' ((putB e l).length, c', bytesV (putB e l))) := by
  subst hx
  refine Con.of_body Tryz.func134 rfl rfl Tryz.ntmps134 Tryz.results134 rfl ?_
  have h1 : 2 ≤ (rowB l).length := by simp only [rowB, List.length_append, le_len]; omega
  have h3 : (rowB []).length = 2 := rfl
  repeat' first | refine sF_nilO ?_ | refine sF_add ?_ | refine sF_sub ?_ | refine sF_conv ?_ | refine sF_pure ?_ | refine sF_load ?_ rfl | refine sF_off ?_ | (refine sF_guardD rfl rfl rfl ?_ ?_ <;> intro _) | refine sF_op ?_ | refine sF_end0 ?_ | refine sF_end2 ?_ | refine sF_end ?_ | refine sL_add ?_ | refine sL_sub ?_ | refine sL_conv ?_ | refine sL_pure ?_ | refine sL_nil ?_ | refine sL_load ?_ rfl | refine sL_store ?_ rfl | refine sL_loadI ?_ rfl | (refine sL_box ?_; intro _) | (refine sL_alloc ?_; intro _) | (refine sL_lit ?_; intro _) | (refine sL_appendL ?_ rfl rfl rfl rfl rfl; intro _ _) | refine sL_off ?_ | refine sW_seq ?_ | refine sW_region ?_ | refine sW_ret ?_ | refine sW_block ?_ | refine sW_condT rfl ?_ | refine sW_condF rfl ?_ | (refine sW_if rfl ?_ ?_ <;> intro _) | (refine sW_ifn rfl ?_ ?_ <;> intro _) | (refine sW_cond rfl ?_ ?_ <;> intro _) | refine sW_skip ?_ | refine sW_exit ?_ | (refine sL_guardD rfl rfl ?_ ?_ <;> intro _) | (refine sL_guardN rfl rfl ?_ ?_ <;> intro _) | (refine sL_guard rfl rfl ?_ ?_ <;> intro _)
  · rename_i b h
    have hp : putB e l = [] ++ le 1 e ++ rowB [] := by rw [putB, if_neg (by omega)]; rfl
    rw [hp]
    refine sW_drawn1 (p := blk) b [3, 7] [] ?_ rfl rfl
    repeat' first | (refine sL_pre ?_ isW_new; refine sL_call1c ?_ rfl rfl (wByte _ e he) (by simp); rintro _ _ ⟨rfl, rfl⟩) | (refine sL_pre ?_ (ro_none (k := 1)); refine sL_call2c ?_ rfl rfl (wRow' _ none 0 [] (by simp) (by simp)) ⟨rfl, by simp [le_len, h3]⟩; rintro _ _ ⟨rfl, rfl⟩) | (refine sL_call1c ?_ rfl rfl (wBytes _) (by simp [le_len, h3]); rintro _ _ ⟨_, _, rfl, rfl⟩) | refine sF_nilO ?_ | refine sF_add ?_ | refine sF_sub ?_ | refine sF_conv ?_ | refine sF_pure ?_ | refine sF_load ?_ rfl | refine sF_off ?_ | (refine sF_guardD rfl rfl rfl ?_ ?_ <;> intro _) | refine sF_op ?_ | refine sF_end0 ?_ | refine sF_end2 ?_ | refine sF_end ?_ | refine sL_add ?_ | refine sL_sub ?_ | refine sL_conv ?_ | refine sL_pure ?_ | refine sL_nil ?_ | refine sL_load ?_ rfl | refine sL_store ?_ rfl | refine sL_loadI ?_ rfl | (refine sL_box ?_; intro _) | (refine sL_alloc ?_; intro _) | (refine sL_lit ?_; intro _) | (refine sL_appendL ?_ rfl rfl rfl rfl rfl; intro _ _) | refine sL_off ?_ | refine sW_seq ?_ | refine sW_region ?_ | refine sW_ret ?_ | refine sW_block ?_ | refine sW_condT rfl ?_ | refine sW_condF rfl ?_ | (refine sW_if rfl ?_ ?_ <;> intro _) | (refine sW_ifn rfl ?_ ?_ <;> intro _) | (refine sW_cond rfl ?_ ?_ <;> intro _) | refine sW_skip ?_ | refine sW_exit ?_ | (refine sL_guardD rfl rfl ?_ ?_ <;> intro _) | (refine sL_guardN rfl rfl ?_ ?_ <;> intro _) | (refine sL_guard rfl rfl ?_ ?_ <;> intro _)
    (repeat first | refine ret_then ?_ | refine ret_block ?_); apply retI; (repeat' first | exact res_nil | apply res_tmp ?_ rfl | apply res_cell ?_ rfl)
    · exact ⟨_, _, rfl, rfl⟩
    · exact ent_last
  · rename_i b h
    have hp : putB e l = [] ++ le 1 e ++ rowB l := by rw [putB, if_pos (by omega)]; rfl
    rw [hp]
    refine sW_drawn1 (p := blk) b [3, 7] [] ?_ rfl rfl
    repeat' first | (refine sL_pre ?_ isW_new; refine sL_call1c ?_ rfl rfl (wByte _ e he) (by simp); rintro _ _ ⟨rfl, rfl⟩) | (refine sL_call2c ?_ rfl rfl (wRow' _ a c l hl hs) ⟨rfl, by simp only [List.length_append, le_len, List.length_nil]; omega⟩; rintro _ _ ⟨rfl, rfl⟩) | (refine sL_call1c ?_ rfl rfl (wBytes _) (by simp only [List.length_append, le_len, List.length_nil]; omega); rintro _ _ ⟨_, _, rfl, rfl⟩) | refine sF_nilO ?_ | refine sF_add ?_ | refine sF_sub ?_ | refine sF_conv ?_ | refine sF_pure ?_ | refine sF_load ?_ rfl | refine sF_off ?_ | (refine sF_guardD rfl rfl rfl ?_ ?_ <;> intro _) | refine sF_op ?_ | refine sF_end0 ?_ | refine sF_end2 ?_ | refine sF_end ?_ | refine sL_add ?_ | refine sL_sub ?_ | refine sL_conv ?_ | refine sL_pure ?_ | refine sL_nil ?_ | refine sL_load ?_ rfl | refine sL_store ?_ rfl | refine sL_loadI ?_ rfl | (refine sL_box ?_; intro _) | (refine sL_alloc ?_; intro _) | (refine sL_lit ?_; intro _) | (refine sL_appendL ?_ rfl rfl rfl rfl rfl; intro _ _) | refine sL_off ?_ | refine sW_seq ?_ | refine sW_region ?_ | refine sW_ret ?_ | refine sW_block ?_ | refine sW_condT rfl ?_ | refine sW_condF rfl ?_ | (refine sW_if rfl ?_ ?_ <;> intro _) | (refine sW_ifn rfl ?_ ?_ <;> intro _) | (refine sW_cond rfl ?_ ?_ <;> intro _) | refine sW_skip ?_ | refine sW_exit ?_ | (refine sL_guardD rfl rfl ?_ ?_ <;> intro _) | (refine sL_guardN rfl rfl ?_ ?_ <;> intro _) | (refine sL_guard rfl rfl ?_ ?_ <;> intro _)
    (repeat first | refine ret_then ?_ | refine ret_block ?_); apply retI; (repeat' first | exact res_nil | apply res_tmp ?_ rfl | apply res_cell ?_ rfl)
    · exact ⟨_, _, rfl, rfl⟩
    · exact ent_last
end Go.Proofs.YtmkdbdkaheiaaaaGreatDoor
namespace Go.Proofs.YtmkdbdkaheiaaaaGreatDoor
open Go Go.Sl
variable [Amb]
set_option linter.unusedSectionVars false
set_option linter.unusedVariables false
set_option maxRecDepth 100000
attribute [local irreducible] sW sL sF
theorem sClone (a : Option Addr) (n c : Nat) (x : Nat × Nat × List Value) (hx : x.1 = n ∧ n ≤ 4294967296) : Con Tryz.prog 143 [.slice a n c] (ro 1 a x) (fun v B => ∃ a' c', v = .slice a' n c' ∧ B = own 9 1 a' (n, c', x.2.2)) := by
  obtain ⟨n', c', cs⟩ := x
  obtain ⟨rfl, hn⟩ := hx
  simp only at hn ⊢
  refine Con.of_body Tryz.func143 rfl rfl Tryz.ntmps143 Tryz.results143 rfl ?_
  cases a with
  | none =>
    refine sW_pre (H' := (star (pure (n' = 0 ∧ c' = 0 ∧ cs = [])) (emp))) ?_ (ent_trans ro_nil (fun O I h => ⟨Hp.emp, O, fun _ => .inl rfl, Hp.emp_le _, Hp.le_refl _, h, trivial⟩))
    refine sW_pur ?_
    rintro ⟨rfl, rfl, rfl⟩
    repeat' first | refine sF_nilO ?_ | refine sF_add ?_ | refine sF_sub ?_ | refine sF_conv ?_ | refine sF_pure ?_ | refine sF_load ?_ rfl | refine sF_off ?_ | (refine sF_guardD rfl rfl rfl ?_ ?_ <;> intro _) | refine sF_op ?_ | refine sF_end0 ?_ | refine sF_end2 ?_ | refine sF_end ?_ | refine sL_add ?_ | refine sL_sub ?_ | refine sL_conv ?_ | refine sL_pure ?_ | refine sL_nil ?_ | refine sL_load ?_ rfl | refine sL_store ?_ rfl | refine sL_loadI ?_ rfl | (refine sL_box ?_; intro _) | (refine sL_alloc ?_; intro _) | (refine sL_lit ?_; intro _) | (refine sL_appendL ?_ rfl rfl rfl rfl rfl; intro _ _) | refine sL_off ?_ | refine sW_seq ?_ | refine sW_region ?_ | refine sW_ret ?_ | refine sW_block ?_ | refine sW_condT rfl ?_ | refine sW_condF rfl ?_ | (refine sW_if rfl ?_ ?_ <;> intro _) | (refine sW_ifn rfl ?_ ?_ <;> intro _) | (refine sW_cond rfl ?_ ?_ <;> intro _) | refine sW_skip ?_ | refine sW_exit ?_ | (refine sL_guardD rfl rfl ?_ ?_ <;> intro _) | (refine sL_guardN rfl rfl ?_ ?_ <;> intro _) | (refine sL_guard rfl rfl ?_ ?_ <;> intro _)
    (repeat first | refine ret_then ?_ | refine ret_block ?_); apply retI; (repeat' first | exact res_nil | apply res_tmp ?_ rfl | apply res_cell ?_ rfl)
    · exact ⟨none, 0, rfl, rfl⟩
    · exact ent_trans (own_nil 9 1 emp) (star_left _ _)
  | some a =>
    repeat' first | refine sF_nilO ?_ | refine sF_add ?_ | refine sF_sub ?_ | refine sF_conv ?_ | refine sF_pure ?_ | refine sF_load ?_ rfl | refine sF_off ?_ | (refine sF_guardD rfl rfl rfl ?_ ?_ <;> intro _) | refine sF_op ?_ | refine sF_end0 ?_ | refine sF_end2 ?_ | refine sF_end ?_ | refine sL_add ?_ | refine sL_sub ?_ | refine sL_conv ?_ | refine sL_pure ?_ | refine sL_nil ?_ | refine sL_load ?_ rfl | refine sL_store ?_ rfl | refine sL_loadI ?_ rfl | (refine sL_box ?_; intro _) | (refine sL_alloc ?_; intro _) | (refine sL_lit ?_; intro _) | (refine sL_appendL ?_ rfl rfl rfl rfl rfl; intro _ _) | refine sL_off ?_ | refine sW_seq ?_ | refine sW_region ?_ | refine sW_ret ?_ | refine sW_block ?_ | refine sW_condT rfl ?_ | refine sW_condF rfl ?_ | (refine sW_if rfl ?_ ?_ <;> intro _) | (refine sW_ifn rfl ?_ ?_ <;> intro _) | (refine sW_cond rfl ?_ ?_ <;> intro _) | refine sW_skip ?_ | refine sW_exit ?_ | (refine sL_guardD rfl rfl ?_ ?_ <;> intro _) | (refine sL_guardN rfl rfl ?_ ?_ <;> intro _) | (refine sL_guard rfl rfl ?_ ?_ <;> intro _)
    refine sL_lit0 ?_
    intro b
    refine sL_pre (H' := (star (own 9 1 (some ⟨b, 0, none⟩) (0, 0, [])) (ro 1 (some a) (n', c', cs)))) ?_ (star_mono blk_own (ent_refl _))
    repeat' first | (refine sL_appendR ?_ rfl rfl rfl rfl rfl (hbig := by omega); intro _ _) | refine sF_nilO ?_ | refine sF_add ?_ | refine sF_sub ?_ | refine sF_conv ?_ | refine sF_pure ?_ | refine sF_load ?_ rfl | refine sF_off ?_ | (refine sF_guardD rfl rfl rfl ?_ ?_ <;> intro _) | refine sF_op ?_ | refine sF_end0 ?_ | refine sF_end2 ?_ | refine sF_end ?_ | refine sL_add ?_ | refine sL_sub ?_ | refine sL_conv ?_ | refine sL_pure ?_ | refine sL_nil ?_ | refine sL_load ?_ rfl | refine sL_store ?_ rfl | refine sL_loadI ?_ rfl | (refine sL_box ?_; intro _) | (refine sL_alloc ?_; intro _) | (refine sL_lit ?_; intro _) | (refine sL_appendL ?_ rfl rfl rfl rfl rfl; intro _ _) | refine sL_off ?_ | refine sW_seq ?_ | refine sW_region ?_ | refine sW_ret ?_ | refine sW_block ?_ | refine sW_condT rfl ?_ | refine sW_condF rfl ?_ | (refine sW_if rfl ?_ ?_ <;> intro _) | (refine sW_ifn rfl ?_ ?_ <;> intro _) | (refine sW_cond rfl ?_ ?_ <;> intro _) | refine sW_skip ?_ | refine sW_exit ?_ | (refine sL_guardD rfl rfl ?_ ?_ <;> intro _) | (refine sL_guardN rfl rfl ?_ ?_ <;> intro _) | (refine sL_guard rfl rfl ?_ ?_ <;> intro _)
    simp only [Nat.zero_add, List.nil_append]
    (repeat first | refine ret_then ?_ | refine ret_block ?_); apply retI; (repeat' first | exact res_nil | apply res_tmp ?_ rfl | apply res_cell ?_ rfl)
    · exact ⟨_, _, rfl, rfl⟩
    · exact star_left _ _

theorem rClone (a : Option Addr) (n c : Nat) (x : Nat × Nat × List Value) (hx : x.1 = n ∧ x.2.1 = c ∧ n ≤ 4294967296) : Con Tryz.prog 88 [.slice a n c] (own 30 1 a x) (fun v B => ∃ a' c', v = .slice a' n c' ∧ B = ((star (own 30 1 a' (n, c', x.2.2)) (own 30 1 a x)))) := by
  obtain ⟨n', c', cs⟩ := x
  obtain ⟨rfl, rfl, hn⟩ := hx
  simp only at hn ⊢
  refine Con.of_body Tryz.func88 rfl rfl Tryz.ntmps88 Tryz.results88 rfl ?_
  cases a with
  | none =>
    refine sW_pre (H' := (star (pure (n' = 0 ∧ c' = 0 ∧ cs = [])) (emp))) ?_ (ent_trans own_none (fun O I h => ⟨Hp.emp, O, fun _ => .inl rfl, Hp.emp_le _, Hp.le_refl _, h, trivial⟩))
    refine sW_pur ?_
    rintro ⟨rfl, rfl, rfl⟩
    repeat' first | refine sF_nilO ?_ | refine sF_add ?_ | refine sF_sub ?_ | refine sF_conv ?_ | refine sF_pure ?_ | refine sF_load ?_ rfl | refine sF_off ?_ | (refine sF_guardD rfl rfl rfl ?_ ?_ <;> intro _) | refine sF_op ?_ | refine sF_end0 ?_ | refine sF_end2 ?_ | refine sF_end ?_ | refine sL_add ?_ | refine sL_sub ?_ | refine sL_conv ?_ | refine sL_pure ?_ | refine sL_nil ?_ | refine sL_load ?_ rfl | refine sL_store ?_ rfl | refine sL_loadI ?_ rfl | (refine sL_box ?_; intro _) | (refine sL_alloc ?_; intro _) | (refine sL_lit ?_; intro _) | (refine sL_appendL ?_ rfl rfl rfl rfl rfl; intro _ _) | refine sL_off ?_ | refine sW_seq ?_ | refine sW_region ?_ | refine sW_ret ?_ | refine sW_block ?_ | refine sW_condT rfl ?_ | refine sW_condF rfl ?_ | (refine sW_if rfl ?_ ?_ <;> intro _) | (refine sW_ifn rfl ?_ ?_ <;> intro _) | (refine sW_cond rfl ?_ ?_ <;> intro _) | refine sW_skip ?_ | refine sW_exit ?_ | (refine sL_guardD rfl rfl ?_ ?_ <;> intro _) | (refine sL_guardN rfl rfl ?_ ?_ <;> intro _) | (refine sL_guard rfl rfl ?_ ?_ <;> intro _)
    (repeat first | refine ret_then ?_ | refine ret_block ?_); apply retI; (repeat' first | exact res_nil | apply res_tmp ?_ rfl | apply res_cell ?_ rfl)
    · exact ⟨none, 0, rfl, rfl⟩
    · exact ent_trans (own_nil 30 1 emp) (star_mono (ent_refl _) (ent_trans (own_nil 30 1 emp) (star_left _ _)))
  | some a =>
    repeat' first | refine sF_nilO ?_ | refine sF_add ?_ | refine sF_sub ?_ | refine sF_conv ?_ | refine sF_pure ?_ | refine sF_load ?_ rfl | refine sF_off ?_ | (refine sF_guardD rfl rfl rfl ?_ ?_ <;> intro _) | refine sF_op ?_ | refine sF_end0 ?_ | refine sF_end2 ?_ | refine sF_end ?_ | refine sL_add ?_ | refine sL_sub ?_ | refine sL_conv ?_ | refine sL_pure ?_ | refine sL_nil ?_ | refine sL_load ?_ rfl | refine sL_store ?_ rfl | refine sL_loadI ?_ rfl | (refine sL_box ?_; intro _) | (refine sL_alloc ?_; intro _) | (refine sL_lit ?_; intro _) | (refine sL_appendL ?_ rfl rfl rfl rfl rfl; intro _ _) | refine sL_off ?_ | refine sW_seq ?_ | refine sW_region ?_ | refine sW_ret ?_ | refine sW_block ?_ | refine sW_condT rfl ?_ | refine sW_condF rfl ?_ | (refine sW_if rfl ?_ ?_ <;> intro _) | (refine sW_ifn rfl ?_ ?_ <;> intro _) | (refine sW_cond rfl ?_ ?_ <;> intro _) | refine sW_skip ?_ | refine sW_exit ?_ | (refine sL_guardD rfl rfl ?_ ?_ <;> intro _) | (refine sL_guardN rfl rfl ?_ ?_ <;> intro _) | (refine sL_guard rfl rfl ?_ ?_ <;> intro _)
    refine sL_lit0 ?_
    intro b
    refine sL_pre (H' := (star (own 30 1 (some ⟨b, 0, none⟩) (0, 0, [])) (own 30 1 (some a) (n', c', cs)))) ?_ (star_mono blk_own (ent_refl _))
    repeat' first | (refine sL_appendO (El2 := 30) ?_ rfl rfl rfl rfl rfl (hbig := by omega); intro _ _) | refine sF_nilO ?_ | refine sF_add ?_ | refine sF_sub ?_ | refine sF_conv ?_ | refine sF_pure ?_ | refine sF_load ?_ rfl | refine sF_off ?_ | (refine sF_guardD rfl rfl rfl ?_ ?_ <;> intro _) | refine sF_op ?_ | refine sF_end0 ?_ | refine sF_end2 ?_ | refine sF_end ?_ | refine sL_add ?_ | refine sL_sub ?_ | refine sL_conv ?_ | refine sL_pure ?_ | refine sL_nil ?_ | refine sL_load ?_ rfl | refine sL_store ?_ rfl | refine sL_loadI ?_ rfl | (refine sL_box ?_; intro _) | (refine sL_alloc ?_; intro _) | (refine sL_lit ?_; intro _) | (refine sL_appendL ?_ rfl rfl rfl rfl rfl; intro _ _) | refine sL_off ?_ | refine sW_seq ?_ | refine sW_region ?_ | refine sW_ret ?_ | refine sW_block ?_ | refine sW_condT rfl ?_ | refine sW_condF rfl ?_ | (refine sW_if rfl ?_ ?_ <;> intro _) | (refine sW_ifn rfl ?_ ?_ <;> intro _) | (refine sW_cond rfl ?_ ?_ <;> intro _) | refine sW_skip ?_ | refine sW_exit ?_ | (refine sL_guardD rfl rfl ?_ ?_ <;> intro _) | (refine sL_guardN rfl rfl ?_ ?_ <;> intro _) | (refine sL_guard rfl rfl ?_ ?_ <;> intro _)
    simp only [Nat.zero_add, List.nil_append]
    (repeat first | refine ret_then ?_ | refine ret_block ?_); apply retI; (repeat' first | exact res_nil | apply res_tmp ?_ rfl | apply res_cell ?_ rfl)
    · exact ⟨_, _, rfl, rfl⟩
    · exact star_mono (ent_refl _) (star_left _ _)

theorem nanU (a : Int) : Con Tryz.prog 142 [.int .u64 a] emp (fun v _ => v = .bool false) := by
  refine Con.of_body Tryz.func142 rfl rfl Tryz.ntmps142 Tryz.results142 rfl ?_
  repeat' first | refine sF_nilO ?_ | refine sF_add ?_ | refine sF_sub ?_ | refine sF_conv ?_ | refine sF_pure ?_ | refine sF_load ?_ rfl | refine sF_off ?_ | (refine sF_guardD rfl rfl rfl ?_ ?_ <;> intro _) | refine sF_op ?_ | refine sF_end0 ?_ | refine sF_end2 ?_ | refine sF_end ?_ | refine sL_add ?_ | refine sL_sub ?_ | refine sL_conv ?_ | refine sL_pure ?_ | refine sL_nil ?_ | refine sL_load ?_ rfl | refine sL_store ?_ rfl | refine sL_loadI ?_ rfl | (refine sL_box ?_; intro _) | (refine sL_alloc ?_; intro _) | (refine sL_lit ?_; intro _) | (refine sL_appendL ?_ rfl rfl rfl rfl rfl; intro _ _) | refine sL_off ?_ | refine sW_seq ?_ | refine sW_region ?_ | refine sW_ret ?_ | refine sW_block ?_ | refine sW_condT rfl ?_ | refine sW_condF rfl ?_ | (refine sW_if rfl ?_ ?_ <;> intro _) | (refine sW_ifn rfl ?_ ?_ <;> intro _) | (refine sW_cond rfl ?_ ?_ <;> intro _) | refine sW_skip ?_ | refine sW_exit ?_ | (refine sL_guardD rfl rfl ?_ ?_ <;> intro _) | (refine sL_guardN rfl rfl ?_ ?_ <;> intro _) | (refine sL_guard rfl rfl ?_ ?_ <;> intro _)
  (repeat first | refine ret_then ?_ | refine ret_block ?_); apply retI; (repeat' first | exact res_nil | apply res_tmp ?_ rfl | apply res_cell ?_ rfl)
  · simp [tupV]
  · exact ent_refl _
def cmpI (a b : Int) : Int := if a < b then -1 else if a > b then 1 else 0
theorem cmpU (a b : Int) : Con Tryz.prog 87 [.int .u64 a, .int .u64 b] emp (fun v _ => v = .int .i64 (cmpI a b)) := by
  refine Con.of_body Tryz.func87 rfl rfl Tryz.ntmps87 Tryz.results87 rfl ?_
  repeat' first | (refine sL_callV ?_ rfl rfl (nanU _)) | refine sF_nilO ?_ | refine sF_add ?_ | refine sF_sub ?_ | refine sF_conv ?_ | refine sF_pure ?_ | refine sF_load ?_ rfl | refine sF_off ?_ | (refine sF_guardD rfl rfl rfl ?_ ?_ <;> intro _) | refine sF_op ?_ | refine sF_end0 ?_ | refine sF_end2 ?_ | refine sF_end ?_ | refine sL_add ?_ | refine sL_sub ?_ | refine sL_conv ?_ | refine sL_pure ?_ | refine sL_nil ?_ | refine sL_load ?_ rfl | refine sL_store ?_ rfl | refine sL_loadI ?_ rfl | (refine sL_box ?_; intro _) | (refine sL_alloc ?_; intro _) | (refine sL_lit ?_; intro _) | (refine sL_appendL ?_ rfl rfl rfl rfl rfl; intro _ _) | refine sL_off ?_ | refine sW_seq ?_ | refine sW_region ?_ | refine sW_ret ?_ | refine sW_block ?_ | refine sW_condT rfl ?_ | refine sW_condF rfl ?_ | (refine sW_if rfl ?_ ?_ <;> intro _) | (refine sW_ifn rfl ?_ ?_ <;> intro _) | (refine sW_cond rfl ?_ ?_ <;> intro _) | refine sW_skip ?_ | refine sW_exit ?_ | (refine sL_guardD rfl rfl ?_ ?_ <;> intro _) | (refine sL_guardN rfl rfl ?_ ?_ <;> intro _) | (refine sL_guard rfl rfl ?_ ?_ <;> intro _)
  all_goals (repeat first | refine ret_then ?_ | refine ret_block ?_); apply retI; (repeat' first | exact res_nil | apply res_tmp ?_ rfl | apply res_cell ?_ rfl)
  all_goals first | exact ent_refl _ | (simp only [tupV, cmpI]; congr 1; split <;> (try split) <;> omega)
end Go.Proofs.YtmkdbdkaheiaaaaGreatDoor
namespace Go.Proofs.YtmkdbdkaheiaaaaGreatDoor
open Go Go.Sl
variable [Amb]
set_option linter.unusedSectionVars false
set_option linter.unusedVariables false
set_option maxRecDepth 100000
attribute [local irreducible] sW sL sF
/-- a client's row: its number, its reply's error, and where its texts lie -/
structure Row where
  num : Nat
  e : Nat
  a : Option Addr
  c : Nat
  l : List Str
instance : Inhabited Row := ⟨0, 0, none, 0, []⟩
abbrev zRow : Row := ⟨0, 0, none, 0, []⟩
def replC (e : Nat) (a : Option Addr) (c : Nat) (l : List Str) : List Value := [.int .i64 e, .slice a l.length c]
def rowC (r : Row) : List Value := .int .u64 r.num :: replC r.e r.a r.c r.l
def roRow (r : Row) : HProp := ro 1 r.a (r.l.length, r.c, strsV r.l)
def roAll : List Row → HProp
  | [] => emp
  | r :: rs => (star (roRow r) (roAll rs))
instance (r : Row) : Pers (roRow r) := by unfold roRow; infer_instance
instance roAll_pers : (rs : List Row) → Pers (roAll rs)
  | [] => by unfold roAll; infer_instance
  | r :: rs => by have := roAll_pers rs; unfold roAll; infer_instance
theorem roAll_get {rs : List Row} {i : Nat} (h : i < rs.length) : (ent (roAll rs) (roRow (rs.getD i zRow))) := by
  induction rs generalizing i with
  | nil => simp at h
  | cons r rs ih =>
    cases i with
    | zero => exact star_left _ _
    | succ i => exact ent_trans (star_right _ _) (by simpa using ih (by simpa using h))
theorem roAll_set {rs : List Row} {i : Nat} {r : Row} (h : i < rs.length) : (ent (((star (roRow r) (roAll rs)))) (roAll (rs.set i r))) := by
  induction rs generalizing i with
  | nil => simp at h
  | cons x rs ih =>
    cases i with
    | zero => exact star_mono (ent_refl _) (star_right _ _)
    | succ i =>
      show (ent (((star (roRow r) (((star (roRow x) (roAll rs))))))) (((star (roRow x) (roAll (rs.set i r))))))
      refine ent_trans (star_assoc' _ _ _) (ent_trans (star_mono (star_comm _ _) (ent_refl _)) (ent_trans (star_assoc _ _ _) (star_mono (ent_refl _) (ih (by simpa using h)))))
def isTab (p : Nat) (rs : List Row) : HProp := (star (blk p (.cells ⟨rs.flatMap rowC⟩ 104 (0, 0))) (((star (roAll rs) (pure (rs.length = 8))))))

theorem flat_get {rs : List Row} {i j : Nat} (h : i < rs.length) (hj : j < 3) : getL (rs.flatMap rowC) (i * 3 + j) = getL (rowC (rs.getD i zRow)) j := by
  induction rs generalizing i with
  | nil => simp at h
  | cons r rs ih =>
    cases i with
    | zero =>
      simp only [Nat.zero_mul, Nat.zero_add, List.flatMap_cons, List.getD_cons_zero, rowC, replC]
      match j, hj with
      | 0, _ => rfl
      | 1, _ => rfl
      | 2, _ => rfl
    | succ i =>
      have := ih (i := i) (by simpa using h)
      simp only [List.getD_cons_succ, ← this, List.flatMap_cons]
      have e : (i + 1) * 3 + j = (i * 3 + j) + 1 + 1 + 1 := by omega
      rw [e]; rfl
theorem flat_drop {rs : List Row} {i : Nat} (h : i < rs.length) : ∃ r, dropL (i * 3) (rs.flatMap rowC) = some (rowC (rs.getD i zRow) ++ r) := by
  induction rs generalizing i with
  | nil => simp at h
  | cons r rs ih =>
    cases i with
    | zero => exact ⟨rs.flatMap rowC, by simp only [List.flatMap_cons, List.getD_cons_zero, dropL]⟩
    | succ i =>
      obtain ⟨q, hq⟩ := ih (i := i) (by simpa using h)
      refine ⟨q, ?_⟩
      have e : (i + 1) * 3 = i * 3 + 1 + 1 + 1 := by omega
      rw [e, List.flatMap_cons, List.getD_cons_succ, ← hq]
      rfl
theorem flat_set {rs : List Row} {i : Nat} {r : Row} (h : i < rs.length) : putC (rs.flatMap rowC) (i * 3) (rowC r) = some ((rs.set i r).flatMap rowC) := by
  induction rs generalizing i with
  | nil => simp at h
  | cons x rs ih =>
    cases i with
    | zero => rfl
    | succ i =>
      have := ih (i := i) (by simpa using h)
      have e : (i + 1) * 3 = i * 3 + 1 + 1 + 1 := by omega
      have sh : ∀ (vs l q : List Value) (j : Nat) (a : Value), putC l j vs = some q → putC (a :: l) (j + 1) vs = some (a :: q) := by
        intro vs
        induction vs with
        | nil => intro l q j a h; cases h; rfl
        | cons v vs ihv =>
          intro l q j a h
          simp only [putC] at h ⊢
          cases hv : isCell v <;> rw [hv] at h <;> simp only [cond_true, cond_false] at h ⊢
          · cases h
          · split at h
            · rename_i q' hq'
              simp only [setL, hq']
              exact ihv _ _ _ _ h
            · cases h
      rw [e, List.set_cons_succ, List.flatMap_cons, List.flatMap_cons]
      exact sh _ _ _ _ _ (sh _ _ _ _ _ (sh _ _ _ _ _ this))

theorem tNew : Con Tryz.prog 39 [] emp (fun v B => ∃ p, v = .pointer (some ⟨p, 0, none⟩) ∧ B = isTab p (List.replicate 8 zRow)) := by
  refine Con.of_body Tryz.func39 rfl rfl Tryz.ntmps39 Tryz.results39 rfl ?_
  repeat' first | refine sF_nilO ?_ | refine sF_add ?_ | refine sF_sub ?_ | refine sF_conv ?_ | refine sF_pure ?_ | refine sF_load ?_ rfl | refine sF_off ?_ | (refine sF_guardD rfl rfl rfl ?_ ?_ <;> intro _) | refine sF_op ?_ | refine sF_end0 ?_ | refine sF_end2 ?_ | refine sF_end ?_ | refine sL_add ?_ | refine sL_sub ?_ | refine sL_conv ?_ | refine sL_pure ?_ | refine sL_nil ?_ | refine sL_load ?_ rfl | refine sL_store ?_ rfl | refine sL_loadI ?_ rfl | (refine sL_box ?_; intro _) | (refine sL_alloc ?_; intro _) | (refine sL_lit ?_; intro _) | (refine sL_appendL ?_ rfl rfl rfl rfl rfl; intro _ _) | refine sL_off ?_ | refine sW_seq ?_ | refine sW_region ?_ | refine sW_ret ?_ | refine sW_block ?_ | refine sW_condT rfl ?_ | refine sW_condF rfl ?_ | (refine sW_if rfl ?_ ?_ <;> intro _) | (refine sW_ifn rfl ?_ ?_ <;> intro _) | (refine sW_cond rfl ?_ ?_ <;> intro _) | refine sW_skip ?_ | refine sW_exit ?_ | (refine sL_guardD rfl rfl ?_ ?_ <;> intro _) | (refine sL_guardN rfl rfl ?_ ?_ <;> intro _) | (refine sL_guard rfl rfl ?_ ?_ <;> intro _)
  (repeat first | refine ret_then ?_ | refine ret_block ?_); apply retI; (repeat' first | exact res_nil | apply res_tmp ?_ rfl | apply res_cell ?_ rfl)
  · exact ⟨_, rfl, rfl⟩
  · refine star_mono (ent_refl _) ?_
    refine ent_trans ?_ (ent_trans (star_pure (p := (List.replicate 8 zRow).length = 8) rfl) (star_comm _ _))
    have z : ∀ k (R : HProp), (ent (R) ((roAll (List.replicate k zRow)))) := by
      intro k R
      induction k with
      | zero => exact ent_emp _
      | succ k ih => exact ent_trans (ro_none (k := 1)) (star_mono (ent_refl _) ih)
    exact z 8 _

theorem tab_len {p : Nat} {rs : List Row} : (ent (isTab p rs) (((star (pure (rs.length = 8)) (isTab p rs))))) := pers_dup (ent_trans (star_right _ _) (star_right _ _))
theorem ldNum {rs : List Row} {i s b : Nat} {z : List Value} (h : i < rs.length) : ldV ⟨.int .u64, s, b, z⟩ (rs.flatMap rowC) (0 + ((i : Nat) : Int).toNat * 3) = some (.int .u64 (rs.getD i zRow).num) := by
  have := flat_get (j := 0) h (by omega)
  simp only [ldV, Int.toNat_natCast, Nat.zero_add]
  exact this
theorem tLast (p : Nat) (cl : Nat) (rs : List Row) : Con Tryz.prog 22 [.pointer (some ⟨p, 0, none⟩), .int .u8 cl] (isTab p rs) (fun v B => v = .int .u64 (if cl < 8 then (rs.getD cl zRow).num else 0) ∧ B = isTab p rs) := by
  refine Con.of_body Tryz.func22 rfl rfl Tryz.ntmps22 Tryz.results22 rfl ?_
  refine sW_pre ?_ tab_len
  refine sW_pur fun h8 => ?_
  unfold isTab
  repeat' first | refine sF_nilO ?_ | refine sF_add ?_ | refine sF_sub ?_ | refine sF_conv ?_ | refine sF_pure ?_ | refine sF_load ?_ rfl | refine sF_off ?_ | (refine sF_guardD rfl rfl rfl ?_ ?_ <;> intro _) | refine sF_op ?_ | refine sF_end0 ?_ | refine sF_end2 ?_ | refine sF_end ?_ | refine sL_add ?_ | refine sL_sub ?_ | refine sL_conv ?_ | refine sL_pure ?_ | refine sL_nil ?_ | refine sL_load ?_ rfl | refine sL_store ?_ rfl | refine sL_loadI ?_ rfl | (refine sL_box ?_; intro _) | (refine sL_alloc ?_; intro _) | (refine sL_lit ?_; intro _) | (refine sL_appendL ?_ rfl rfl rfl rfl rfl; intro _ _) | refine sL_off ?_ | refine sW_seq ?_ | refine sW_region ?_ | refine sW_ret ?_ | refine sW_block ?_ | refine sW_condT rfl ?_ | refine sW_condF rfl ?_ | (refine sW_if rfl ?_ ?_ <;> intro _) | (refine sW_ifn rfl ?_ ?_ <;> intro _) | (refine sW_cond rfl ?_ ?_ <;> intro _) | refine sW_skip ?_ | refine sW_exit ?_ | (refine sL_guardD rfl rfl ?_ ?_ <;> intro _) | (refine sL_guardN rfl rfl ?_ ?_ <;> intro _) | (refine sL_guard rfl rfl ?_ ?_ <;> intro _)
  · have : ¬ cl < 8 := by omega
    simp only [this, if_false]
    (repeat first | refine ret_then ?_ | refine ret_block ?_); apply retI; (repeat' first | exact res_nil | apply res_tmp ?_ rfl | apply res_cell ?_ rfl)
    · exact ⟨rfl, rfl⟩
    · exact ent_refl _
  · have : cl < 8 := by omega
    simp only [this, if_true]
    repeat' first | (refine sL_idxA ?_ rfl rfl rfl rfl rfl) | (refine sL_load (hv := ldNum (by omega)) ?_ rfl) | refine sF_nilO ?_ | refine sF_add ?_ | refine sF_sub ?_ | refine sF_conv ?_ | refine sF_pure ?_ | refine sF_load ?_ rfl | refine sF_off ?_ | (refine sF_guardD rfl rfl rfl ?_ ?_ <;> intro _) | refine sF_op ?_ | refine sF_end0 ?_ | refine sF_end2 ?_ | refine sF_end ?_ | refine sL_add ?_ | refine sL_sub ?_ | refine sL_conv ?_ | refine sL_pure ?_ | refine sL_nil ?_ | refine sL_load ?_ rfl | refine sL_store ?_ rfl | refine sL_loadI ?_ rfl | (refine sL_box ?_; intro _) | (refine sL_alloc ?_; intro _) | (refine sL_lit ?_; intro _) | (refine sL_appendL ?_ rfl rfl rfl rfl rfl; intro _ _) | refine sL_off ?_ | refine sW_seq ?_ | refine sW_region ?_ | refine sW_ret ?_ | refine sW_block ?_ | refine sW_condT rfl ?_ | refine sW_condF rfl ?_ | (refine sW_if rfl ?_ ?_ <;> intro _) | (refine sW_ifn rfl ?_ ?_ <;> intro _) | (refine sW_cond rfl ?_ ?_ <;> intro _) | refine sW_skip ?_ | refine sW_exit ?_ | (refine sL_guardD rfl rfl ?_ ?_ <;> intro _) | (refine sL_guardN rfl rfl ?_ ?_ <;> intro _) | (refine sL_guard rfl rfl ?_ ?_ <;> intro _)
    (repeat first | refine ret_then ?_ | refine ret_block ?_); apply retI; (repeat' first | exact res_nil | apply res_tmp ?_ rfl | apply res_cell ?_ rfl)
    · exact ⟨rfl, rfl⟩
    · exact ent_refl _
/-- what a number is to a client: 0: none, 1: stale, 2: again, 3: next -/
def judge (rs : List Row) (cl num : Nat) : Nat :=
  if 8 ≤ cl ∨ num = 0 ∨ 1099511627776 < num then 0 else if num < (rs.getD cl zRow).num then 1 else if num = (rs.getD cl zRow).num then 2 else 3
theorem tJudge (p : Nat) (cl num : Nat) (rs : List Row) : Con Tryz.prog 40 [.pointer (some ⟨p, 0, none⟩), .int .u8 cl, .int .u64 num] (isTab p rs) (fun v B => v = .int .i64 (judge rs cl num) ∧ B = isTab p rs) := by
  refine Con.of_body Tryz.func40 rfl rfl Tryz.ntmps40 Tryz.results40 rfl ?_
  refine sW_pre ?_ tab_len
  refine sW_pur fun h8 => ?_
  unfold isTab
  repeat' first | (refine sL_idxA ?_ rfl rfl rfl rfl rfl) | (refine sL_load (hv := ldNum (by omega)) ?_ rfl) | (refine sL_callV ?_ rfl rfl (cmpU _ _)) | refine sF_nilO ?_ | refine sF_add ?_ | refine sF_sub ?_ | refine sF_conv ?_ | refine sF_pure ?_ | refine sF_load ?_ rfl | refine sF_off ?_ | (refine sF_guardD rfl rfl rfl ?_ ?_ <;> intro _) | refine sF_op ?_ | refine sF_end0 ?_ | refine sF_end2 ?_ | refine sF_end ?_ | refine sL_add ?_ | refine sL_sub ?_ | refine sL_conv ?_ | refine sL_pure ?_ | refine sL_nil ?_ | refine sL_load ?_ rfl | refine sL_store ?_ rfl | refine sL_loadI ?_ rfl | (refine sL_box ?_; intro _) | (refine sL_alloc ?_; intro _) | (refine sL_lit ?_; intro _) | (refine sL_appendL ?_ rfl rfl rfl rfl rfl; intro _ _) | refine sL_off ?_ | refine sW_seq ?_ | refine sW_region ?_ | refine sW_ret ?_ | refine sW_block ?_ | refine sW_condT rfl ?_ | refine sW_condF rfl ?_ | (refine sW_if rfl ?_ ?_ <;> intro _) | (refine sW_ifn rfl ?_ ?_ <;> intro _) | (refine sW_cond rfl ?_ ?_ <;> intro _) | refine sW_skip ?_ | refine sW_exit ?_ | (refine sL_guardD rfl rfl ?_ ?_ <;> intro _) | (refine sL_guardN rfl rfl ?_ ?_ <;> intro _) | (refine sL_guard rfl rfl ?_ ?_ <;> intro _)
  all_goals (repeat first | refine ret_then ?_ | refine ret_block ?_); apply retI; (repeat' first | exact res_nil | apply res_tmp ?_ rfl | apply res_cell ?_ rfl)
  all_goals first | exact ent_refl _ | skip
  · exact ⟨by simp only [tupV, judge]; rw [if_pos (by omega)]; rfl, rfl⟩
  · exact ⟨by simp only [tupV, judge]; rw [if_pos (by omega)]; rfl, rfl⟩
  · exact ⟨by simp only [tupV, judge]; rw [if_pos (by omega)]; rfl, rfl⟩
  · refine ⟨?_, rfl⟩
    have hz : ¬ (8 ≤ cl ∨ num = 0 ∨ 1099511627776 < num) := by omega
    simp only [tupV, judge, cmpI, hz, if_false]
    rcases Nat.lt_trichotomy num (rs.getD cl zRow).num with h | h | h
    · simp only [h, if_true, show (num : Int) < ((rs.getD cl zRow).num : Int) by omega]; rfl
    · simp only [h, Nat.lt_irrefl, Int.lt_irrefl, gt_iff_lt, if_true, if_false]; rfl
    · simp only [show ¬ num < (rs.getD cl zRow).num by omega, show ¬ num = (rs.getD cl zRow).num by omega, show ¬ (num : Int) < ((rs.getD cl zRow).num : Int) by omega, show (num : Int) > ((rs.getD cl zRow).num : Int) by omega, if_true, if_false]; rfl

theorem tClone (e : Nat) (a : Option Addr) (c : Nat) (l : List Str) (hl : l.length ≤ 65535) (x : Nat × Nat × List Value) (hx : x = (l.length, c, strsV l)) :
    Con Tryz.prog 90 [.agg ⟨replC e a c l⟩] (ro 1 a x) (fun v B => ∃ a' c', v = .agg ⟨replC e a' c' (if e = 0 then l else [])⟩ ∧ B = ro 1 a' ((if e = 0 then l else []).length, c', strsV (if e = 0 then l else []))) := by
  subst hx
  refine Con.of_body Tryz.func90 rfl rfl Tryz.ntmps90 Tryz.results90 rfl ?_
  unfold replC
  repeat' first | (refine sL_callR ?_ rfl rfl (sClone _ _ _) ⟨rfl, by omega⟩; rintro _ _ ⟨a', c', rfl, rfl⟩; refine sL_freeze (El := 9) (k := 1) (a := a') ?_) | refine sF_nilO ?_ | refine sF_add ?_ | refine sF_sub ?_ | refine sF_conv ?_ | refine sF_pure ?_ | refine sF_load ?_ rfl | refine sF_off ?_ | (refine sF_guardD rfl rfl rfl ?_ ?_ <;> intro _) | refine sF_op ?_ | refine sF_end0 ?_ | refine sF_end2 ?_ | refine sF_end ?_ | refine sL_add ?_ | refine sL_sub ?_ | refine sL_conv ?_ | refine sL_pure ?_ | refine sL_nil ?_ | refine sL_load ?_ rfl | refine sL_store ?_ rfl | refine sL_loadI ?_ rfl | (refine sL_box ?_; intro _) | (refine sL_alloc ?_; intro _) | (refine sL_lit ?_; intro _) | (refine sL_appendL ?_ rfl rfl rfl rfl rfl; intro _ _) | refine sL_off ?_ | refine sW_seq ?_ | refine sW_region ?_ | refine sW_ret ?_ | refine sW_block ?_ | refine sW_condT rfl ?_ | refine sW_condF rfl ?_ | (refine sW_if rfl ?_ ?_ <;> intro _) | (refine sW_ifn rfl ?_ ?_ <;> intro _) | (refine sW_cond rfl ?_ ?_ <;> intro _) | refine sW_skip ?_ | refine sW_exit ?_ | (refine sL_guardD rfl rfl ?_ ?_ <;> intro _) | (refine sL_guardN rfl rfl ?_ ?_ <;> intro _) | (refine sL_guard rfl rfl ?_ ?_ <;> intro _)
  · rw [if_neg (by omega)]
    (repeat first | refine ret_then ?_ | refine ret_block ?_); apply retI; (repeat' first | exact res_nil | apply res_tmp ?_ rfl | apply res_cell ?_ rfl)
    · exact ⟨_, _, rfl, rfl⟩
    · exact ent_trans ro_none (star_left _ _)
  · rw [if_pos (by omega)]
    (repeat first | refine ret_then ?_ | refine ret_block ?_); apply retI; (repeat' first | exact res_nil | apply res_tmp ?_ rfl | apply res_cell ?_ rfl)
    · exact ⟨_, _, rfl, rfl⟩
    · exact ent_last
theorem ldRepl {rs : List Row} {i s b : Nat} {fs : List (Nat × Nat × Bool)} {z : List Value} (h : i < rs.length) (hs : s = 2) : ldV ⟨.struct fs, s, b, z⟩ (rs.flatMap rowC) (0 + ((i : Nat) : Int).toNat * 3 + (0 + 1)) = some (.agg ⟨replC (rs.getD i zRow).e (rs.getD i zRow).a (rs.getD i zRow).c (rs.getD i zRow).l⟩) := by
  subst hs
  obtain ⟨q, hq⟩ := flat_drop h
  have d1 : ∀ (k : Nat) (l : List Value) (x : Value) (r : List Value), dropL k l = some (x :: r) → dropL (k + 1) l = some r := by
    intro k
    induction k with
    | zero => intro l x r h; cases h; rfl
    | succ k ih => intro l x r h; cases l with
      | nil => cases h
      | cons y l => exact ih l x r h
  have := d1 _ _ _ _ hq
  simp only [ldV, Int.toNat_natCast, Nat.zero_add, partV, cond_true, this]
  rfl
theorem tReply (p : Nat) (cl : Nat) (rs : List Row) (hl : ∀ r ∈ rs, r.l.length ≤ 65535) : Con Tryz.prog 47 [.pointer (some ⟨p, 0, none⟩), .int .u8 cl] (isTab p rs) (fun v B => ∃ a' c', v = .agg ⟨replC (if cl < 8 then (rs.getD cl zRow).e else 0) a' c' (if cl < 8 then (if (rs.getD cl zRow).e = 0 then (rs.getD cl zRow).l else []) else [])⟩ ∧
    B = ((star (isTab p rs) (ro 1 a' ((if cl < 8 then (if (rs.getD cl zRow).e = 0 then (rs.getD cl zRow).l else []) else []).length, c', strsV (if cl < 8 then (if (rs.getD cl zRow).e = 0 then (rs.getD cl zRow).l else []) else [])))))) := by
  refine Con.of_body Tryz.func47 rfl rfl Tryz.ntmps47 Tryz.results47 rfl ?_
  refine sW_pre ?_ tab_len
  refine sW_pur fun h8 => ?_
  unfold isTab
  repeat' first | refine sF_nilO ?_ | refine sF_add ?_ | refine sF_sub ?_ | refine sF_conv ?_ | refine sF_pure ?_ | refine sF_load ?_ rfl | refine sF_off ?_ | (refine sF_guardD rfl rfl rfl ?_ ?_ <;> intro _) | refine sF_op ?_ | refine sF_end0 ?_ | refine sF_end2 ?_ | refine sF_end ?_ | refine sL_add ?_ | refine sL_sub ?_ | refine sL_conv ?_ | refine sL_pure ?_ | refine sL_nil ?_ | refine sL_load ?_ rfl | refine sL_store ?_ rfl | refine sL_loadI ?_ rfl | (refine sL_box ?_; intro _) | (refine sL_alloc ?_; intro _) | (refine sL_lit ?_; intro _) | (refine sL_appendL ?_ rfl rfl rfl rfl rfl; intro _ _) | refine sL_off ?_ | refine sW_seq ?_ | refine sW_region ?_ | refine sW_ret ?_ | refine sW_block ?_ | refine sW_condT rfl ?_ | refine sW_condF rfl ?_ | (refine sW_if rfl ?_ ?_ <;> intro _) | (refine sW_ifn rfl ?_ ?_ <;> intro _) | (refine sW_cond rfl ?_ ?_ <;> intro _) | refine sW_skip ?_ | refine sW_exit ?_ | (refine sL_guardD rfl rfl ?_ ?_ <;> intro _) | (refine sL_guardN rfl rfl ?_ ?_ <;> intro _) | (refine sL_guard rfl rfl ?_ ?_ <;> intro _)
  · have : ¬ cl < 8 := by omega
    simp only [this, if_false]
    (repeat first | refine ret_then ?_ | refine ret_block ?_); apply retI; (repeat' first | exact res_nil | apply res_tmp ?_ rfl | apply res_cell ?_ rfl)
    · exact ⟨none, 0, rfl, rfl⟩
    · exact ent_trans (ent_trans (star_right _ _) (ro_none (k := 1))) (star_comm _ _)
  · have hc : cl < 8 := by omega
    simp only [hc, if_true]
    have hcl : cl < rs.length := by omega
    have hll : (rs.getD cl zRow).l.length ≤ 65535 := by
      rw [List.getD_eq_getElem?_getD, List.getElem?_eq_getElem hcl]; exact hl _ (List.getElem_mem hcl)
    repeat' first | (refine sL_idxA ?_ rfl rfl rfl rfl rfl) | (refine sL_load (hv := ldRepl (by omega) rfl) ?_ rfl) | refine sF_nilO ?_ | refine sF_add ?_ | refine sF_sub ?_ | refine sF_conv ?_ | refine sF_pure ?_ | refine sF_load ?_ rfl | refine sF_off ?_ | (refine sF_guardD rfl rfl rfl ?_ ?_ <;> intro _) | refine sF_op ?_ | refine sF_end0 ?_ | refine sF_end2 ?_ | refine sF_end ?_ | refine sL_add ?_ | refine sL_sub ?_ | refine sL_conv ?_ | refine sL_pure ?_ | refine sL_nil ?_ | refine sL_load ?_ rfl | refine sL_store ?_ rfl | refine sL_loadI ?_ rfl | (refine sL_box ?_; intro _) | (refine sL_alloc ?_; intro _) | (refine sL_lit ?_; intro _) | (refine sL_appendL ?_ rfl rfl rfl rfl rfl; intro _ _) | refine sL_off ?_ | refine sW_seq ?_ | refine sW_region ?_ | refine sW_ret ?_ | refine sW_block ?_ | refine sW_condT rfl ?_ | refine sW_condF rfl ?_ | (refine sW_if rfl ?_ ?_ <;> intro _) | (refine sW_ifn rfl ?_ ?_ <;> intro _) | (refine sW_cond rfl ?_ ?_ <;> intro _) | refine sW_skip ?_ | refine sW_exit ?_ | (refine sL_guardD rfl rfl ?_ ?_ <;> intro _) | (refine sL_guardN rfl rfl ?_ ?_ <;> intro _) | (refine sL_guard rfl rfl ?_ ?_ <;> intro _)
    refine sL_pre ?_ (pers_dup (A := roRow (rs.getD cl zRow)) (ent_trans (star_right _ _) (ent_trans (star_right _ _) (ent_trans (star_left _ _) (roAll_get hcl)))))
    unfold roRow
    repeat' first | (refine sL_callR ?_ rfl rfl (tClone _ _ _ _ hll) rfl; rintro _ _ ⟨_, _, rfl, rfl⟩) | refine sF_nilO ?_ | refine sF_add ?_ | refine sF_sub ?_ | refine sF_conv ?_ | refine sF_pure ?_ | refine sF_load ?_ rfl | refine sF_off ?_ | (refine sF_guardD rfl rfl rfl ?_ ?_ <;> intro _) | refine sF_op ?_ | refine sF_end0 ?_ | refine sF_end2 ?_ | refine sF_end ?_ | refine sL_add ?_ | refine sL_sub ?_ | refine sL_conv ?_ | refine sL_pure ?_ | refine sL_nil ?_ | refine sL_load ?_ rfl | refine sL_store ?_ rfl | refine sL_loadI ?_ rfl | (refine sL_box ?_; intro _) | (refine sL_alloc ?_; intro _) | (refine sL_lit ?_; intro _) | (refine sL_appendL ?_ rfl rfl rfl rfl rfl; intro _ _) | refine sL_off ?_ | refine sW_seq ?_ | refine sW_region ?_ | refine sW_ret ?_ | refine sW_block ?_ | refine sW_condT rfl ?_ | refine sW_condF rfl ?_ | (refine sW_if rfl ?_ ?_ <;> intro _) | (refine sW_ifn rfl ?_ ?_ <;> intro _) | (refine sW_cond rfl ?_ ?_ <;> intro _) | refine sW_skip ?_ | refine sW_exit ?_ | (refine sL_guardD rfl rfl ?_ ?_ <;> intro _) | (refine sL_guardN rfl rfl ?_ ?_ <;> intro _) | (refine sL_guard rfl rfl ?_ ?_ <;> intro _)
    (repeat first | refine ret_then ?_ | refine ret_block ?_); apply retI; (repeat' first | exact res_nil | apply res_tmp ?_ rfl | apply res_cell ?_ rfl)
    · exact ⟨_, _, rfl, rfl⟩
    · (repeat first | exact ent_emp _ | exact ent_purL (by first | assumption | rfl | simp; done) | exact ent_atomL | refine ent_atom ?_ | refine ent_asc ?_ | refine ent_pur (by first | assumption | rfl) ?_)
end Go.Proofs.YtmkdbdkaheiaaaaGreatDoor
namespace Go.Proofs.YtmkdbdkaheiaaaaGreatDoor
open Go Go.Sl
variable [Amb]
set_option linter.unusedSectionVars false
set_option linter.unusedVariables false
set_option maxRecDepth 100000
attribute [local irreducible] sW sL sF
theorem stRow {rs : List Row} {i s b : Nat} {fs : List (Nat × Nat × Bool)} {z : List Value} {num e c : Nat} {a : Option Addr} {l : List Str} (h : i < rs.length) (hs : s = 3) :
    stV ⟨.struct fs, s, b, z⟩ (rs.flatMap rowC) (0 + ((i : Nat) : Int).toNat * 3) (.agg ⟨[.int .u64 num, .int .i64 e, .slice a l.length c]⟩) = some ((rs.set i ⟨num, e, a, c, l⟩).flatMap rowC) := by
  subst hs
  have := flat_set (r := ⟨num, e, a, c, l⟩) h
  simp only [Int.toNat_natCast, Nat.zero_add]
  exact this
theorem tab_set {p cl : Nat} {rs : List Row} {r : Row} (h8 : rs.length = 8) (h : cl < 8) : (ent (((star (blk p (.cells ⟨(rs.set cl r).flatMap rowC⟩ 104 (0, 0))) (((star (roRow r) (((star (roAll rs) (pure (rs.length = 8))))))))))) (isTab p (rs.set cl r))) := by
  refine star_mono (ent_refl _) ?_
  refine ent_trans (star_assoc' _ _ _) (star_mono (roAll_set (by omega)) ?_)
  exact ent_purL (by rw [List.length_set]; exact h8)
theorem tPut (p : Nat) (cl num : Nat) (rs : List Row) (e : Nat) (a : Option Addr) (c : Nat) (l : List Str) (hl : l.length ≤ 65535) (x : Nat × Nat × List Value) (hx : x = (l.length, c, strsV l)) :
    Con Tryz.prog 49 [.pointer (some ⟨p, 0, none⟩), .int .u8 cl, .int .u64 num, .agg ⟨replC e a c l⟩] ((star (isTab p rs) (ro 1 a x)))
      (fun v B => ∃ a' c', v = .int .i64 (if judge rs cl num = 0 then 1 else if judge rs cl num = 3 then 0 else 12) ∧ B = isTab p (if judge rs cl num = 3 then rs.set cl ⟨num, e, a', c', if e = 0 then l else []⟩ else rs)) := by
  subst hx
  refine Con.of_body Tryz.func49 rfl rfl Tryz.ntmps49 Tryz.results49 rfl ?_
  repeat' first | (refine sL_call1 ?_ rfl rfl (tJudge p cl num); rintro _ _ ⟨rfl, rfl⟩) | refine sF_nilO ?_ | refine sF_add ?_ | refine sF_sub ?_ | refine sF_conv ?_ | refine sF_pure ?_ | refine sF_load ?_ rfl | refine sF_off ?_ | (refine sF_guardD rfl rfl rfl ?_ ?_ <;> intro _) | refine sF_op ?_ | refine sF_end0 ?_ | refine sF_end2 ?_ | refine sF_end ?_ | refine sL_add ?_ | refine sL_sub ?_ | refine sL_conv ?_ | refine sL_pure ?_ | refine sL_nil ?_ | refine sL_load ?_ rfl | refine sL_store ?_ rfl | refine sL_loadI ?_ rfl | (refine sL_box ?_; intro _) | (refine sL_alloc ?_; intro _) | (refine sL_lit ?_; intro _) | (refine sL_appendL ?_ rfl rfl rfl rfl rfl; intro _ _) | refine sL_off ?_ | refine sW_seq ?_ | refine sW_region ?_ | refine sW_ret ?_ | refine sW_block ?_ | refine sW_condT rfl ?_ | refine sW_condF rfl ?_ | (refine sW_if rfl ?_ ?_ <;> intro _) | (refine sW_ifn rfl ?_ ?_ <;> intro _) | (refine sW_cond rfl ?_ ?_ <;> intro _) | refine sW_skip ?_ | refine sW_exit ?_ | (refine sL_guardD rfl rfl ?_ ?_ <;> intro _) | (refine sL_guardN rfl rfl ?_ ?_ <;> intro _) | (refine sL_guard rfl rfl ?_ ?_ <;> intro _)
  · rename_i h
    have h0 : judge rs cl num = 0 := by omega
    simp only [h0, if_true, show ¬ (0 : Nat) = 3 by omega, if_false]
    (repeat first | refine ret_then ?_ | refine ret_block ?_); apply retI; (repeat' first | exact res_nil | apply res_tmp ?_ rfl | apply res_cell ?_ rfl)
    · exact ⟨none, 0, rfl, rfl⟩
    · (repeat first | exact ent_emp _ | exact ent_purL (by first | assumption | rfl | simp; done) | exact ent_atomL | refine ent_atom ?_ | refine ent_asc ?_ | refine ent_pur (by first | assumption | rfl) ?_)
  · rename_i b h0 h3
    have h3 : judge rs cl num = 3 := by omega
    have hcl : cl < 8 := by
      unfold judge at h3
      by_cases h : 8 ≤ cl ∨ num = 0 ∨ 1099511627776 < num
      · rw [if_pos h] at h3; omega
      · omega
    simp only [h3, if_true, show ¬ (3 : Nat) = 0 by omega, if_false]
    refine sW_take (p := isTab) (b := p) ?_
    refine sW_pre ?_ (star_mono tab_len (ent_refl _))
    refine sW_assoc (sW_pur fun h8 => ?_)
    unfold isTab
    refine sW_drawn1 (p := blk) b [3] [] ?_ rfl rfl
    repeat' first | (refine sF_idxA ?_ rfl rfl rfl rfl rfl) | (refine sL_callR ?_ rfl rfl (tClone _ _ _ _ hl) rfl; rintro _ _ ⟨a', c', rfl, rfl⟩) | (refine sL_store (hv := stRow (by omega) rfl) ?_ rfl) | refine sF_nilO ?_ | refine sF_add ?_ | refine sF_sub ?_ | refine sF_conv ?_ | refine sF_pure ?_ | refine sF_load ?_ rfl | refine sF_off ?_ | (refine sF_guardD rfl rfl rfl ?_ ?_ <;> intro _) | refine sF_op ?_ | refine sF_end0 ?_ | refine sF_end2 ?_ | refine sF_end ?_ | refine sL_add ?_ | refine sL_sub ?_ | refine sL_conv ?_ | refine sL_pure ?_ | refine sL_nil ?_ | refine sL_load ?_ rfl | refine sL_store ?_ rfl | refine sL_loadI ?_ rfl | (refine sL_box ?_; intro _) | (refine sL_alloc ?_; intro _) | (refine sL_lit ?_; intro _) | (refine sL_appendL ?_ rfl rfl rfl rfl rfl; intro _ _) | refine sL_off ?_ | refine sW_seq ?_ | refine sW_region ?_ | refine sW_ret ?_ | refine sW_block ?_ | refine sW_condT rfl ?_ | refine sW_condF rfl ?_ | (refine sW_if rfl ?_ ?_ <;> intro _) | (refine sW_ifn rfl ?_ ?_ <;> intro _) | (refine sW_cond rfl ?_ ?_ <;> intro _) | refine sW_skip ?_ | refine sW_exit ?_ | (refine sL_guardD rfl rfl ?_ ?_ <;> intro _) | (refine sL_guardN rfl rfl ?_ ?_ <;> intro _) | (refine sL_guard rfl rfl ?_ ?_ <;> intro _)
    (repeat first | refine ret_then ?_ | refine ret_block ?_); apply retI; (repeat' first | exact res_nil | apply res_tmp ?_ rfl | apply res_cell ?_ rfl)
    · exact ⟨a', c', rfl, rfl⟩
    · refine ent_trans ?_ (tab_set (r := ⟨num, e, a', c', if e = 0 then l else []⟩) h8 hcl)
      unfold roRow
      (repeat first | exact ent_emp _ | exact ent_purL (by first | assumption | rfl | simp; done) | exact ent_atomL | refine ent_atom ?_ | refine ent_asc ?_ | refine ent_pur (by first | assumption | rfl) ?_)
  · rename_i h0 h3
    simp only [show ¬ judge rs cl num = 0 by omega, show ¬ judge rs cl num = 3 by omega, if_false]
    (repeat first | refine ret_then ?_ | refine ret_block ?_); apply retI; (repeat' first | exact res_nil | apply res_tmp ?_ rfl | apply res_cell ?_ rfl)
    · exact ⟨none, 0, rfl, rfl⟩
    · (repeat first | exact ent_emp _ | exact ent_purL (by first | assumption | rfl | simp; done) | exact ent_atomL | refine ent_atom ?_ | refine ent_asc ?_ | refine ent_pur (by first | assumption | rfl) ?_)

/-- a table as bytes -/
def rowW (r : Row) : Str := le 8 r.num ++ (if r.num = 0 then [] else tx (putB r.e r.l))
def tabB (rs : List Row) : Str := rs.flatMap rowW
/-- rows that may be written -/
def okRow (r : Row) : Prop := r.num < 18446744073709551616 ∧ r.e < 256 ∧ (∀ s ∈ r.l, s.length ≤ 65535) ∧ (rowB r.l).length ≤ 60000
theorem okRow_len {r : Row} (h : okRow r) : r.l.length ≤ 65535 := by
  obtain ⟨_, _, _, h⟩ := h
  have : ∀ l : List Str, l.length ≤ (l.flatMap tx).length := by
    intro l; induction l with
    | nil => simp
    | cons x l ih => simp only [List.flatMap_cons, List.length_append, List.length_cons, tx_len]; omega
  have := this r.l
  simp only [rowB, List.length_append] at h
  omega
theorem putB_len (e : Nat) (l : List Str) : (putB e l).length ≤ 3 + (rowB l).length := by
  have : (rowB []).length = 2 := rfl
  have h2 : 2 ≤ (rowB l).length := by simp only [rowB, List.length_append, le_len]; omega
  unfold putB
  simp only [List.length_append, le_len]
  split <;> omega
theorem rowW_len {r : Row} (h : okRow r) : (rowW r).length ≤ 60013 := by
  unfold rowW
  have := putB_len r.e r.l
  have := h.2.2.2
  split <;> simp only [List.length_append, le_len, tx_len, List.length_nil] <;> omega
theorem tabB_len {rs : List Row} (h : ∀ r ∈ rs, okRow r) : (tabB rs).length ≤ rs.length * 60013 := by
  induction rs with
  | nil => simp [tabB]
  | cons r rs ih =>
    have h1 := rowW_len (h r List.mem_cons_self)
    have h2 := ih fun x hx => h x (List.mem_cons_of_mem _ hx)
    simp only [tabB, List.flatMap_cons, List.length_append, List.length_cons] at h2 ⊢
    omega
theorem ixRow {rs : List Row} {i : Nat} (h : i < rs.length) : partV (((i : Nat) : Int).toNat * 3) 3 true (rs.flatMap rowC) = some (.agg ⟨[.int .u64 (rs.getD i zRow).num, .int .i64 (rs.getD i zRow).e, .slice (rs.getD i zRow).a (rs.getD i zRow).l.length (rs.getD i zRow).c]⟩) := by
  obtain ⟨q, hq⟩ := flat_drop h
  simp only [partV, cond_true, Int.toNat_natCast, hq]
  rfl
theorem flat_len (rs : List Row) : (rs.flatMap rowC).length = rs.length * 3 := by
  induction rs with
  | nil => rfl
  | cons r rs ih => simp only [List.flatMap_cons, List.length_append, ih, rowC, replC, List.length_cons, List.length_nil]; omega
theorem ldAll {rs : List Row} {s b m e : Nat} {z : List Value} (h : rs.length = 8) (hs : s = 24) : ldV ⟨.array m e, s, b, z⟩ (rs.flatMap rowC) 0 = some (.agg ⟨rs.flatMap rowC⟩) := by
  subst hs
  have h1 : (rs.flatMap rowC).length = 24 := by rw [flat_len, h]
  simp only [ldV, partV, cond_true, dropL, takeL_some (Nat.le_of_eq h1.symm)]
  rw [← h1, List.take_length]
theorem tWrite (p q : Nat) (rs : List Row) (bs : Str) (hr : ∀ r ∈ rs, okRow r) (hb : bs.length ≤ 1000000000) :
    Con Tryz.prog 73 [.pointer (some ⟨p, 0, none⟩), .pointer (some ⟨q, 0, none⟩)] ((star (isTab p rs) (isW q bs))) (fun v B => v = .tuple #[] ∧ B = ((star (isTab p rs) (isW q (bs ++ tabB rs))))) := by
  refine Con.of_body Tryz.func73 rfl rfl Tryz.ntmps73 Tryz.results73 rfl ?_
  refine sW_pre ?_ (star_mono tab_len (ent_refl _))
  refine sW_assoc (sW_pur fun h8 => ?_)
  unfold isTab
  refine sW_assoc ?_
  repeat' first | (refine sL_load (hv := ldAll h8 rfl) ?_ rfl) | refine sF_nilO ?_ | refine sF_add ?_ | refine sF_sub ?_ | refine sF_conv ?_ | refine sF_pure ?_ | refine sF_load ?_ rfl | refine sF_off ?_ | (refine sF_guardD rfl rfl rfl ?_ ?_ <;> intro _) | refine sF_op ?_ | refine sF_end0 ?_ | refine sF_end2 ?_ | refine sF_end ?_ | refine sL_add ?_ | refine sL_sub ?_ | refine sL_conv ?_ | refine sL_pure ?_ | refine sL_nil ?_ | refine sL_load ?_ rfl | refine sL_store ?_ rfl | refine sL_loadI ?_ rfl | (refine sL_box ?_; intro _) | (refine sL_alloc ?_; intro _) | (refine sL_lit ?_; intro _) | (refine sL_appendL ?_ rfl rfl rfl rfl rfl; intro _ _) | refine sL_off ?_ | refine sW_seq ?_ | refine sW_region ?_ | refine sW_ret ?_ | refine sW_block ?_ | refine sW_condT rfl ?_ | refine sW_condF rfl ?_ | (refine sW_if rfl ?_ ?_ <;> intro _) | (refine sW_ifn rfl ?_ ?_ <;> intro _) | (refine sW_cond rfl ?_ ?_ <;> intro _) | refine sW_skip ?_ | refine sW_exit ?_ | (refine sL_guardD rfl rfl ?_ ?_ <;> intro _) | (refine sL_guardN rfl rfl ?_ ?_ <;> intro _) | (refine sL_guard rfl rfl ?_ ?_ <;> intro _)
  · refine sW_for (α := Nat) (fun i => [(1, .pointer (some ⟨q, 0, none⟩)), (9, .agg ⟨rs.flatMap rowC⟩), (10, .int .i64 i)])
      (fun i => (star (isW q (bs ++ tabB (rs.take i))) (((star (blk p (.cells ⟨rs.flatMap rowC⟩ 104 (0, 0))) (((star (roAll rs) (pure (rs.length = 8)))))))))) (fun i => i ≤ 8) (fun i => 8 - i) 0 (Nat.zero_le _) ⟨rfl, rfl, rfl, trivial⟩ ?_ ?_
    · simp only [List.take_zero, tabB, List.flatMap_nil, List.append_nil]
      (repeat first | exact ent_emp _ | exact ent_purL (by first | assumption | rfl | simp; done) | exact ent_atomL | refine ent_atom ?_ | refine ent_asc ?_ | refine ent_pur (by first | assumption | rfl) ?_)
    · intro i hi
      repeat' first | refine sF_nilO ?_ | refine sF_add ?_ | refine sF_sub ?_ | refine sF_conv ?_ | refine sF_pure ?_ | refine sF_load ?_ rfl | refine sF_off ?_ | (refine sF_guardD rfl rfl rfl ?_ ?_ <;> intro _) | refine sF_op ?_ | refine sF_end0 ?_ | refine sF_end2 ?_ | refine sF_end ?_ | refine sL_add ?_ | refine sL_sub ?_ | refine sL_conv ?_ | refine sL_pure ?_ | refine sL_nil ?_ | refine sL_load ?_ rfl | refine sL_store ?_ rfl | refine sL_loadI ?_ rfl | (refine sL_box ?_; intro _) | (refine sL_alloc ?_; intro _) | (refine sL_lit ?_; intro _) | (refine sL_appendL ?_ rfl rfl rfl rfl rfl; intro _ _) | refine sL_off ?_ | refine sW_seq ?_ | refine sW_region ?_ | refine sW_ret ?_ | refine sW_block ?_ | refine sW_condT rfl ?_ | refine sW_condF rfl ?_ | (refine sW_if rfl ?_ ?_ <;> intro _) | (refine sW_ifn rfl ?_ ?_ <;> intro _) | (refine sW_cond rfl ?_ ?_ <;> intro _) | refine sW_skip ?_ | refine sW_exit ?_ | (refine sL_guardD rfl rfl ?_ ?_ <;> intro _) | (refine sL_guardN rfl rfl ?_ ?_ <;> intro _) | (refine sL_guard rfl rfl ?_ ?_ <;> intro _)
      · rename_i hlt
        have hi8 : i < rs.length := by omega
        have hok : okRow (rs.getD i zRow) := by rw [List.getD_eq_getElem?_getD, List.getElem?_eq_getElem hi8]; exact hr _ (List.getElem_mem hi8)
        have hpre : (bs ++ tabB (rs.take i)).length ≤ 1000600000 := by
          have h1 := tabB_len (rs := rs.take i) fun x hx => hr x (List.mem_of_mem_take hx)
          have h2 : (rs.take i).length ≤ 8 := by rw [List.length_take]; omega
          simp only [List.length_append]
          omega
        have hpl := putB_len (rs.getD i zRow).e (rs.getD i zRow).l
        have hrl := hok.2.2.2
        have hnext : tabB (rs.take (i + 1)) = tabB (rs.take i) ++ rowW (rs.getD i zRow) := by
          rw [← List.take_append_getElem hi8, tabB, List.flatMap_append, List.getD_eq_getElem?_getD, List.getElem?_eq_getElem hi8]
          simp [tabB]
        refine sL_pre ?_ (pers_dup (A := roRow (rs.getD i zRow)) (ent_trans (star_right _ _) (ent_trans (star_right _ _) (ent_trans (star_left _ _) (roAll_get hi8)))))
        unfold roRow
        repeat' first | (refine sL_index (hv := ixRow hi8) ?_ rfl rfl rfl rfl rfl) | (refine sL_call1c ?_ rfl rfl (wEight q _ hok.1) (by omega); rintro _ _ ⟨rfl, rfl⟩) | (refine sL_callR ?_ rfl rfl (opPut _ _ _ _ hok.2.1 (okRow_len hok) hok.2.2.1 (by omega)) rfl; rintro _ _ ⟨a', c', rfl, rfl⟩; refine sL_freeze (El := 5) (k := 1) (a := a') ?_) | (refine sL_toStrR ?_ rfl rfl rfl rfl rfl rfl rfl rfl) | (refine sL_call1c ?_ rfl rfl (wText q (putB (rs.getD i zRow).e (rs.getD i zRow).l) (by omega)) (by simp only [List.length_append, le_len] at hpre ⊢; omega); rintro _ _ ⟨rfl, rfl⟩) | refine sF_nilO ?_ | refine sF_add ?_ | refine sF_sub ?_ | refine sF_conv ?_ | refine sF_pure ?_ | refine sF_load ?_ rfl | refine sF_off ?_ | (refine sF_guardD rfl rfl rfl ?_ ?_ <;> intro _) | refine sF_op ?_ | refine sF_end0 ?_ | refine sF_end2 ?_ | refine sF_end ?_ | refine sL_add ?_ | refine sL_sub ?_ | refine sL_conv ?_ | refine sL_pure ?_ | refine sL_nil ?_ | refine sL_load ?_ rfl | refine sL_store ?_ rfl | refine sL_loadI ?_ rfl | (refine sL_box ?_; intro _) | (refine sL_alloc ?_; intro _) | (refine sL_lit ?_; intro _) | (refine sL_appendL ?_ rfl rfl rfl rfl rfl; intro _ _) | refine sL_off ?_ | refine sW_seq ?_ | refine sW_region ?_ | refine sW_ret ?_ | refine sW_block ?_ | refine sW_condT rfl ?_ | refine sW_condF rfl ?_ | (refine sW_if rfl ?_ ?_ <;> intro _) | (refine sW_ifn rfl ?_ ?_ <;> intro _) | (refine sW_cond rfl ?_ ?_ <;> intro _) | refine sW_skip ?_ | refine sW_exit ?_ | (refine sL_guardD rfl rfl ?_ ?_ <;> intro _) | (refine sL_guardN rfl rfl ?_ ?_ <;> intro _) | (refine sL_guard rfl rfl ?_ ?_ <;> intro _)
        all_goals refine ⟨i + 1, by omega, ⟨rfl, rfl, rfl, trivial⟩, ?_, by omega⟩
        · have hw : (bs ++ tabB (rs.take i)) ++ le 8 (rs.getD i zRow).num ++ tx (putB (rs.getD i zRow).e (rs.getD i zRow).l) = bs ++ tabB (rs.take (i + 1)) := by
            rw [hnext, rowW, if_neg (by omega)]; simp only [List.append_assoc]
          rw [hw]
          (repeat first | exact ent_emp _ | exact ent_purL (by first | assumption | rfl | simp; done) | exact ent_atomL | refine ent_atom ?_ | refine ent_asc ?_ | refine ent_pur (by first | assumption | rfl) ?_)
        · have hw : (bs ++ tabB (rs.take i)) ++ le 8 (rs.getD i zRow).num = bs ++ tabB (rs.take (i + 1)) := by
            rw [hnext, rowW, if_pos (by omega)]; simp only [List.append_assoc, List.append_nil]
          rw [hw]
          (repeat first | exact ent_emp _ | exact ent_purL (by first | assumption | rfl | simp; done) | exact ent_atomL | refine ent_atom ?_ | refine ent_asc ?_ | refine ent_pur (by first | assumption | rfl) ?_)
      · have : i = 8 := by omega
        subst this
        (repeat first | refine th_exit ?_ | refine bl_exit ?_ | refine bl_normal ?_); apply retN; (repeat' first | exact res_nil | apply res_tmp ?_ rfl | apply res_cell ?_ rfl)
        · exact ⟨rfl, rfl⟩
        · rw [List.take_of_length_le (by omega)]
          (repeat first | exact ent_emp _ | exact ent_purL (by first | assumption | rfl | simp; done) | exact ent_atomL | refine ent_atom ?_ | refine ent_asc ?_ | refine ent_pur (by first | assumption | rfl) ?_)
end Go.Proofs.YtmkdbdkaheiaaaaGreatDoor
namespace Go.Proofs.YtmkdbdkaheiaaaaGreatDoor
open Go Go.Sl
variable [Amb]
set_option linter.unusedSectionVars false
set_option linter.unusedVariables false
set_option maxRecDepth 100000
attribute [local irreducible] sW sL sF
/-- a row as it is told -/
def ab (r : Row) : Nat × Nat × List Str := (r.num, r.e, r.l)
/-- with an error there are no texts -/
def neat (r : Row) : Prop := r.e ≠ 0 → r.l = []
theorem tCopy (p : Nat) (rs : List Row) (hl : ∀ r ∈ rs, r.l.length ≤ 65535) (hn : ∀ r ∈ rs, neat r) :
    Con Tryz.prog 43 [.pointer (some ⟨p, 0, none⟩)] (isTab p rs) (fun v B => ∃ q ys, v = .pointer (some ⟨q, 0, none⟩) ∧ ys.map ab = rs.map ab ∧ B = ((star (isTab q ys) (isTab p rs)))) := by
  refine Con.of_body Tryz.func43 rfl rfl Tryz.ntmps43 Tryz.results43 rfl ?_
  refine sW_pre ?_ tab_len
  refine sW_pur fun h8 => ?_
  repeat' first | (refine sL_call0 ?_ rfl rfl tNew; rintro _ _ ⟨q, rfl, rfl⟩) | refine sF_nilO ?_ | refine sF_add ?_ | refine sF_sub ?_ | refine sF_conv ?_ | refine sF_pure ?_ | refine sF_load ?_ rfl | refine sF_off ?_ | (refine sF_guardD rfl rfl rfl ?_ ?_ <;> intro _) | refine sF_op ?_ | refine sF_end0 ?_ | refine sF_end2 ?_ | refine sF_end ?_ | refine sL_add ?_ | refine sL_sub ?_ | refine sL_conv ?_ | refine sL_pure ?_ | refine sL_nil ?_ | refine sL_load ?_ rfl | refine sL_store ?_ rfl | refine sL_loadI ?_ rfl | (refine sL_box ?_; intro _) | (refine sL_alloc ?_; intro _) | (refine sL_lit ?_; intro _) | (refine sL_appendL ?_ rfl rfl rfl rfl rfl; intro _ _) | refine sL_off ?_ | refine sW_seq ?_ | refine sW_region ?_ | refine sW_ret ?_ | refine sW_block ?_ | refine sW_condT rfl ?_ | refine sW_condF rfl ?_ | (refine sW_if rfl ?_ ?_ <;> intro _) | (refine sW_ifn rfl ?_ ?_ <;> intro _) | (refine sW_cond rfl ?_ ?_ <;> intro _) | refine sW_skip ?_ | refine sW_exit ?_ | (refine sL_guardD rfl rfl ?_ ?_ <;> intro _) | (refine sL_guardN rfl rfl ?_ ?_ <;> intro _) | (refine sL_guard rfl rfl ?_ ?_ <;> intro _)
  refine sL_take (p := isTab) (b := p) ?_
  unfold isTab
  refine sL_assoc ?_
  repeat' first | (refine sL_load (hv := ldAll h8 rfl) ?_ rfl) | refine sF_nilO ?_ | refine sF_add ?_ | refine sF_sub ?_ | refine sF_conv ?_ | refine sF_pure ?_ | refine sF_load ?_ rfl | refine sF_off ?_ | (refine sF_guardD rfl rfl rfl ?_ ?_ <;> intro _) | refine sF_op ?_ | refine sF_end0 ?_ | refine sF_end2 ?_ | refine sF_end ?_ | refine sL_add ?_ | refine sL_sub ?_ | refine sL_conv ?_ | refine sL_pure ?_ | refine sL_nil ?_ | refine sL_load ?_ rfl | refine sL_store ?_ rfl | refine sL_loadI ?_ rfl | (refine sL_box ?_; intro _) | (refine sL_alloc ?_; intro _) | (refine sL_lit ?_; intro _) | (refine sL_appendL ?_ rfl rfl rfl rfl rfl; intro _ _) | refine sL_off ?_ | refine sW_seq ?_ | refine sW_region ?_ | refine sW_ret ?_ | refine sW_block ?_ | refine sW_condT rfl ?_ | refine sW_condF rfl ?_ | (refine sW_if rfl ?_ ?_ <;> intro _) | (refine sW_ifn rfl ?_ ?_ <;> intro _) | (refine sW_cond rfl ?_ ?_ <;> intro _) | refine sW_skip ?_ | refine sW_exit ?_ | (refine sL_guardD rfl rfl ?_ ?_ <;> intro _) | (refine sL_guardN rfl rfl ?_ ?_ <;> intro _) | (refine sL_guard rfl rfl ?_ ?_ <;> intro _)
  refine sW_pre (H' := (star (isTab q (List.replicate 8 zRow)) (isTab p rs))) ?_ (by unfold isTab; (repeat first | exact ent_emp _ | exact ent_purL (by first | assumption | rfl | simp; done) | exact ent_atomL | refine ent_atom ?_ | refine ent_asc ?_ | refine ent_pur (by first | assumption | rfl) ?_))
  · refine sW_for (α := Nat × List Row) (fun y => [(3, .pointer (some ⟨q, 0, none⟩)), (10, .agg ⟨rs.flatMap rowC⟩), (11, .int .i64 y.1)])
      (fun y => (star (isTab q y.2) (isTab p rs))) (fun y => y.1 ≤ 8 ∧ y.2.length = 8 ∧ (y.2.take y.1).map ab = (rs.take y.1).map ab) (fun y => 8 - y.1) (0, List.replicate 8 zRow) ⟨Nat.zero_le _, rfl, rfl⟩ ⟨rfl, rfl, rfl, trivial⟩ (ent_refl _) ?_
    rintro ⟨i, ys⟩ ⟨hi, hy8, hys⟩
    simp only at hi hy8 hys ⊢
    repeat' first | refine sF_nilO ?_ | refine sF_add ?_ | refine sF_sub ?_ | refine sF_conv ?_ | refine sF_pure ?_ | refine sF_load ?_ rfl | refine sF_off ?_ | (refine sF_guardD rfl rfl rfl ?_ ?_ <;> intro _) | refine sF_op ?_ | refine sF_end0 ?_ | refine sF_end2 ?_ | refine sF_end ?_ | refine sL_add ?_ | refine sL_sub ?_ | refine sL_conv ?_ | refine sL_pure ?_ | refine sL_nil ?_ | refine sL_load ?_ rfl | refine sL_store ?_ rfl | refine sL_loadI ?_ rfl | (refine sL_box ?_; intro _) | (refine sL_alloc ?_; intro _) | (refine sL_lit ?_; intro _) | (refine sL_appendL ?_ rfl rfl rfl rfl rfl; intro _ _) | refine sL_off ?_ | refine sW_seq ?_ | refine sW_region ?_ | refine sW_ret ?_ | refine sW_block ?_ | refine sW_condT rfl ?_ | refine sW_condF rfl ?_ | (refine sW_if rfl ?_ ?_ <;> intro _) | (refine sW_ifn rfl ?_ ?_ <;> intro _) | (refine sW_cond rfl ?_ ?_ <;> intro _) | refine sW_skip ?_ | refine sW_exit ?_ | (refine sL_guardD rfl rfl ?_ ?_ <;> intro _) | (refine sL_guardN rfl rfl ?_ ?_ <;> intro _) | (refine sL_guard rfl rfl ?_ ?_ <;> intro _)
    · rename_i hlt
      have hi8 : i < rs.length := by omega
      have hll : (rs.getD i zRow).l.length ≤ 65535 := by
        rw [List.getD_eq_getElem?_getD, List.getElem?_eq_getElem hi8]; exact hl _ (List.getElem_mem hi8)
      have hnn : neat (rs.getD i zRow) := by
        rw [List.getD_eq_getElem?_getD, List.getElem?_eq_getElem hi8]; exact hn _ (List.getElem_mem hi8)
      repeat' first | (refine sL_index (hv := ixRow hi8) ?_ rfl rfl rfl rfl rfl) | refine sF_nilO ?_ | refine sF_add ?_ | refine sF_sub ?_ | refine sF_conv ?_ | refine sF_pure ?_ | refine sF_load ?_ rfl | refine sF_off ?_ | (refine sF_guardD rfl rfl rfl ?_ ?_ <;> intro _) | refine sF_op ?_ | refine sF_end0 ?_ | refine sF_end2 ?_ | refine sF_end ?_ | refine sL_add ?_ | refine sL_sub ?_ | refine sL_conv ?_ | refine sL_pure ?_ | refine sL_nil ?_ | refine sL_load ?_ rfl | refine sL_store ?_ rfl | refine sL_loadI ?_ rfl | (refine sL_box ?_; intro _) | (refine sL_alloc ?_; intro _) | (refine sL_lit ?_; intro _) | (refine sL_appendL ?_ rfl rfl rfl rfl rfl; intro _ _) | refine sL_off ?_ | refine sW_seq ?_ | refine sW_region ?_ | refine sW_ret ?_ | refine sW_block ?_ | refine sW_condT rfl ?_ | refine sW_condF rfl ?_ | (refine sW_if rfl ?_ ?_ <;> intro _) | (refine sW_ifn rfl ?_ ?_ <;> intro _) | (refine sW_cond rfl ?_ ?_ <;> intro _) | refine sW_skip ?_ | refine sW_exit ?_ | (refine sL_guardD rfl rfl ?_ ?_ <;> intro _) | (refine sL_guardN rfl rfl ?_ ?_ <;> intro _) | (refine sL_guard rfl rfl ?_ ?_ <;> intro _)
      rename_i b
      refine sW_pre (H' := (star (blk b (.cells ⟨[.int .u64 (rs.getD i zRow).num, .int .i64 (rs.getD i zRow).e, .slice (rs.getD i zRow).a (rs.getD i zRow).l.length (rs.getD i zRow).c]⟩ 101 (0, 0))) (((star (roRow (rs.getD i zRow)) (((star (isTab q ys) (isTab p rs))))))))) ?_
        (star_mono (ent_refl _) (pers_dup (A := roRow (rs.getD i zRow)) (ent_trans (star_right _ _) (ent_trans (star_right _ _) (ent_trans (star_left _ _) (roAll_get hi8))))))
      unfold roRow
      refine sW_drawn1 (p := blk) b [3, 5] [] ?_ rfl rfl
      repeat' first | (refine sL_callR ?_ rfl rfl (tClone _ _ _ _ hll) rfl; rintro _ _ ⟨a', c', rfl, rfl⟩) | (refine sF_idxA ?_ rfl rfl rfl rfl rfl) | refine sF_nilO ?_ | refine sF_add ?_ | refine sF_sub ?_ | refine sF_conv ?_ | refine sF_pure ?_ | refine sF_load ?_ rfl | refine sF_off ?_ | (refine sF_guardD rfl rfl rfl ?_ ?_ <;> intro _) | refine sF_op ?_ | refine sF_end0 ?_ | refine sF_end2 ?_ | refine sF_end ?_ | refine sL_add ?_ | refine sL_sub ?_ | refine sL_conv ?_ | refine sL_pure ?_ | refine sL_nil ?_ | refine sL_load ?_ rfl | refine sL_store ?_ rfl | refine sL_loadI ?_ rfl | (refine sL_box ?_; intro _) | (refine sL_alloc ?_; intro _) | (refine sL_lit ?_; intro _) | (refine sL_appendL ?_ rfl rfl rfl rfl rfl; intro _ _) | refine sL_off ?_ | refine sW_seq ?_ | refine sW_region ?_ | refine sW_ret ?_ | refine sW_block ?_ | refine sW_condT rfl ?_ | refine sW_condF rfl ?_ | (refine sW_if rfl ?_ ?_ <;> intro _) | (refine sW_ifn rfl ?_ ?_ <;> intro _) | (refine sW_cond rfl ?_ ?_ <;> intro _) | refine sW_skip ?_ | refine sW_exit ?_ | (refine sL_guardD rfl rfl ?_ ?_ <;> intro _) | (refine sL_guardN rfl rfl ?_ ?_ <;> intro _) | (refine sL_guard rfl rfl ?_ ?_ <;> intro _)
      refine sL_take (p := isTab) (b := q) ?_
      refine sL_pre (H' := (star (((star (blk q (.cells ⟨ys.flatMap rowC⟩ 104 (0, 0))) (((star (roAll ys) (pure (ys.length = 8)))))))) (_))) ?_ (ent_refl _)
      refine sL_assoc ?_
      repeat' first | (refine sL_store (hv := stRow (by omega) rfl) ?_ rfl) | refine sF_nilO ?_ | refine sF_add ?_ | refine sF_sub ?_ | refine sF_conv ?_ | refine sF_pure ?_ | refine sF_load ?_ rfl | refine sF_off ?_ | (refine sF_guardD rfl rfl rfl ?_ ?_ <;> intro _) | refine sF_op ?_ | refine sF_end0 ?_ | refine sF_end2 ?_ | refine sF_end ?_ | refine sL_add ?_ | refine sL_sub ?_ | refine sL_conv ?_ | refine sL_pure ?_ | refine sL_nil ?_ | refine sL_load ?_ rfl | refine sL_store ?_ rfl | refine sL_loadI ?_ rfl | (refine sL_box ?_; intro _) | (refine sL_alloc ?_; intro _) | (refine sL_lit ?_; intro _) | (refine sL_appendL ?_ rfl rfl rfl rfl rfl; intro _ _) | refine sL_off ?_ | refine sW_seq ?_ | refine sW_region ?_ | refine sW_ret ?_ | refine sW_block ?_ | refine sW_condT rfl ?_ | refine sW_condF rfl ?_ | (refine sW_if rfl ?_ ?_ <;> intro _) | (refine sW_ifn rfl ?_ ?_ <;> intro _) | (refine sW_cond rfl ?_ ?_ <;> intro _) | refine sW_skip ?_ | refine sW_exit ?_ | (refine sL_guardD rfl rfl ?_ ?_ <;> intro _) | (refine sL_guardN rfl rfl ?_ ?_ <;> intro _) | (refine sL_guard rfl rfl ?_ ?_ <;> intro _)
      refine ⟨(i + 1, ys.set i ⟨(rs.getD i zRow).num, (rs.getD i zRow).e, a', c', if (rs.getD i zRow).e = 0 then (rs.getD i zRow).l else []⟩), ⟨by simp only; omega, by simp [hy8], ?_⟩, ⟨rfl, rfl, rfl, trivial⟩, ?_, by simp only; omega⟩
      · simp only
        have h1 : i < (ys.set i ⟨(rs.getD i zRow).num, (rs.getD i zRow).e, a', c', if (rs.getD i zRow).e = 0 then (rs.getD i zRow).l else []⟩).length := by simp; omega
        rw [← List.take_append_getElem h1, ← List.take_append_getElem hi8, List.map_append, List.map_append, List.take_set_of_le (Nat.le_refl i), hys]
        congr 1
        simp only [List.map_cons, List.map_nil, List.getElem_set_self, ab, List.getD_eq_getElem?_getD, List.getElem?_eq_getElem hi8, Option.getD_some]
        have hnn' := hnn
        rw [List.getD_eq_getElem?_getD, List.getElem?_eq_getElem hi8, Option.getD_some] at hnn'
        by_cases he : (rs[i]).e = 0
        · simp [he]
        · have := hnn' he
          simp [he, this]
      · refine ent_trans ?_ (star_mono (tab_set (p := q) (cl := i) (r := ⟨(rs.getD i zRow).num, (rs.getD i zRow).e, a', c', if (rs.getD i zRow).e = 0 then (rs.getD i zRow).l else []⟩) hy8 (by omega)) (ent_refl _))
        unfold roRow
        (repeat first | exact ent_emp _ | exact ent_purL (by first | assumption | rfl | simp; done) | exact ent_atomL | refine ent_atom ?_ | refine ent_asc ?_ | refine ent_pur (by first | assumption | rfl) ?_)
    · have hi8 : i = 8 := by omega
      subst hi8
      (repeat first | refine ret_then ?_ | refine ret_block ?_); apply retI; (repeat' first | exact res_nil | apply res_tmp ?_ rfl | apply res_cell ?_ rfl)
      · refine ⟨q, ys, rfl, ?_, rfl⟩
        rw [List.take_of_length_le (by omega), List.take_of_length_le (by omega)] at hys
        exact hys
      · exact ent_refl _
end Go.Proofs.YtmkdbdkaheiaaaaGreatDoor
namespace Go.Proofs.YtmkdbdkaheiaaaaGreatDoor
open Go Go.Sl
variable [Amb]
set_option linter.unusedSectionVars false
set_option linter.unusedVariables false
set_option maxRecDepth 100000
attribute [local irreducible] sW sL sF
attribute [local irreducible] sR sY sM
theorem nextY_n {P : Program} {n : Nat} {ops : Array Oper} {rest : List Oper} {E : Env} {H : HProp} {Q : Post} (h : sY P n ops rest E H Q) : nextY P n ops rest Q .normal E H := h
/-- slices.AppendSeq(nil, seq) -/
theorem appSeq (gf : Nat) (caps : List Value) (A : HProp) (keys : List Str) (hf : isFn Tryz.prog gf = true) (hI : IterM Tryz.prog gf caps A keys) (hk : keys.length ≤ 65535) :
    Con Tryz.prog 293 [.slice none 0 0, .func (.func gf) #[] ⟨caps⟩] A (fun v B => ∃ ss a c, ss.Perm keys ∧ v = .slice a ss.length c ∧ B = ((star (A) (own 9 1 a (ss.length, c, strsV ss))))) := by
  refine Con.of_range (p := 7) (keys := keys) Tryz.func293 rfl rfl Tryz.ntmps293 Tryz.results293 rfl rfl hf hI ?_
  repeat' first | refine sF_nilO ?_ | refine sF_add ?_ | refine sF_sub ?_ | refine sF_conv ?_ | refine sF_pure ?_ | refine sF_load ?_ rfl | refine sF_off ?_ | (refine sF_guardD rfl rfl rfl ?_ ?_ <;> intro _) | refine sF_op ?_ | refine sF_end0 ?_ | refine sF_end2 ?_ | refine sF_end ?_ | refine sL_add ?_ | refine sL_sub ?_ | refine sL_conv ?_ | refine sL_pure ?_ | refine sL_nil ?_ | refine sL_load ?_ rfl | refine sL_store ?_ rfl | refine sL_loadI ?_ rfl | (refine sL_box ?_; intro _) | (refine sL_alloc ?_; intro _) | (refine sL_lit ?_; intro _) | (refine sL_appendL ?_ rfl rfl rfl rfl rfl; intro _ _) | refine sL_off ?_ | refine sW_seq ?_ | refine sW_region ?_ | refine sW_ret ?_ | refine sW_block ?_ | refine sW_condT rfl ?_ | refine sW_condF rfl ?_ | (refine sW_if rfl ?_ ?_ <;> intro _) | (refine sW_ifn rfl ?_ ?_ <;> intro _) | (refine sW_cond rfl ?_ ?_ <;> intro _) | refine sW_skip ?_ | refine sW_exit ?_ | (refine sL_guardD rfl rfl ?_ ?_ <;> intro _) | (refine sL_guardN rfl rfl ?_ ?_ <;> intro _) | (refine sL_guard rfl rfl ?_ ?_ <;> intro _)
  refine ⟨rfl, ?_⟩
  repeat' first | refine sF_nilO ?_ | refine sF_add ?_ | refine sF_sub ?_ | refine sF_conv ?_ | refine sF_pure ?_ | refine sF_load ?_ rfl | refine sF_off ?_ | (refine sF_guardD rfl rfl rfl ?_ ?_ <;> intro _) | refine sF_op ?_ | refine sF_end0 ?_ | refine sF_end2 ?_ | refine sF_end ?_ | refine sL_add ?_ | refine sL_sub ?_ | refine sL_conv ?_ | refine sL_pure ?_ | refine sL_nil ?_ | refine sL_load ?_ rfl | refine sL_store ?_ rfl | refine sL_loadI ?_ rfl | (refine sL_box ?_; intro _) | (refine sL_alloc ?_; intro _) | (refine sL_lit ?_; intro _) | (refine sL_appendL ?_ rfl rfl rfl rfl rfl; intro _ _) | refine sL_off ?_ | refine sW_seq ?_ | refine sW_region ?_ | refine sW_ret ?_ | refine sW_block ?_ | refine sW_condT rfl ?_ | refine sW_condF rfl ?_ | (refine sW_if rfl ?_ ?_ <;> intro _) | (refine sW_ifn rfl ?_ ?_ <;> intro _) | (refine sW_cond rfl ?_ ?_ <;> intro _) | refine sW_skip ?_ | refine sW_exit ?_ | (refine sL_guardD rfl rfl ?_ ?_ <;> intro _) | (refine sL_guardN rfl rfl ?_ ?_ <;> intro _) | (refine sL_guard rfl rfl ?_ ?_ <;> intro _)
  rename_i b
  refine ⟨rfl, rfl, fun ss => ex fun a : Option Addr => ex fun c : Nat => (star (blk b (.cells ⟨[.slice a ss.length c]⟩ 42 (0, 0))) (own 9 1 a (ss.length, c, strsV ss))), ?_, ?_, ?_⟩
  · refine ent_trans (own_nil 9 1 _) ?_
    refine ent_trans ?_ (star_mono (ent_refl _) (ent_ex none (ent_ex 0 (ent_refl _))))
    simp only [List.length_nil, strsV, List.map_nil]
    (repeat first | exact ent_emp _ | exact ent_purL (by first | assumption | rfl | simp; done) | exact ent_atomL | refine ent_atom ?_ | refine ent_asc ?_ | refine ent_pur (by first | assumption | rfl) ?_)
  · intro l pre k hlen
    refine sR_region ?_ rfl (fun _ _ h => by cases h.1)
    repeat' first | refine sF_nilO ?_ | refine sF_add ?_ | refine sF_sub ?_ | refine sF_conv ?_ | refine sF_pure ?_ | refine sF_load ?_ rfl | refine sF_off ?_ | (refine sF_guardD rfl rfl rfl ?_ ?_ <;> intro _) | refine sF_op ?_ | refine sF_end0 ?_ | refine sF_end2 ?_ | refine sF_end ?_ | refine sL_add ?_ | refine sL_sub ?_ | refine sL_conv ?_ | refine sL_pure ?_ | refine sL_nil ?_ | refine sL_load ?_ rfl | refine sL_store ?_ rfl | refine sL_loadI ?_ rfl | (refine sL_box ?_; intro _) | (refine sL_alloc ?_; intro _) | (refine sL_lit ?_; intro _) | (refine sL_appendL ?_ rfl rfl rfl rfl rfl; intro _ _) | refine sL_off ?_ | refine sW_seq ?_ | refine sW_region ?_ | refine sW_ret ?_ | refine sW_block ?_ | refine sW_condT rfl ?_ | refine sW_condF rfl ?_ | (refine sW_if rfl ?_ ?_ <;> intro _) | (refine sW_ifn rfl ?_ ?_ <;> intro _) | (refine sW_cond rfl ?_ ?_ <;> intro _) | refine sW_skip ?_ | refine sW_exit ?_ | (refine sL_guardD rfl rfl ?_ ?_ <;> intro _) | (refine sL_guardN rfl rfl ?_ ?_ <;> intro _) | (refine sL_guard rfl rfl ?_ ?_ <;> intro _)
    refine ⟨rfl, ?_⟩
    refine sR_block ?_
    refine sR_region ?_ rfl (fun _ _ h => by cases h.1)
    refine sL_pre (H' := (star ((ex fun a : Option Addr => ex fun c : Nat => (star (blk b (.cells ⟨[.slice a pre.length c]⟩ 42 (0, 0))) (own 9 1 a (pre.length, c, strsV pre))))) (emp))) ?_ (ent_trans (star_emp _) (star_comm _ _))
    refine sL_ex fun a => sL_ex fun c => sL_assoc ?_
    repeat' first | refine sF_nilO ?_ | refine sF_add ?_ | refine sF_sub ?_ | refine sF_conv ?_ | refine sF_pure ?_ | refine sF_load ?_ rfl | refine sF_off ?_ | (refine sF_guardD rfl rfl rfl ?_ ?_ <;> intro _) | refine sF_op ?_ | refine sF_end0 ?_ | refine sF_end2 ?_ | refine sF_end ?_ | refine sL_add ?_ | refine sL_sub ?_ | refine sL_conv ?_ | refine sL_pure ?_ | refine sL_nil ?_ | refine sL_load ?_ rfl | refine sL_store ?_ rfl | refine sL_loadI ?_ rfl | (refine sL_box ?_; intro _) | (refine sL_alloc ?_; intro _) | (refine sL_lit ?_; intro _) | (refine sL_appendL ?_ rfl rfl rfl rfl rfl; intro _ _) | refine sL_off ?_ | refine sW_seq ?_ | refine sW_region ?_ | refine sW_ret ?_ | refine sW_block ?_ | refine sW_condT rfl ?_ | refine sW_condF rfl ?_ | (refine sW_if rfl ?_ ?_ <;> intro _) | (refine sW_ifn rfl ?_ ?_ <;> intro _) | (refine sW_cond rfl ?_ ?_ <;> intro _) | refine sW_skip ?_ | refine sW_exit ?_ | (refine sL_guardD rfl rfl ?_ ?_ <;> intro _) | (refine sL_guardN rfl rfl ?_ ?_ <;> intro _) | (refine sL_guard rfl rfl ?_ ?_ <;> intro _)
    rename_i a' c'
    refine ⟨rfl, ?_⟩
    refine ent_trans ?_ (ent_ex a' (ent_ex c' (ent_refl _)))
    simp only [List.length_append, List.length_cons, List.length_nil, Nat.zero_add]
    have : strsV (pre ++ [k]) = strsV pre ++ [sval k] := by simp [strsV, sv, sval]
    rw [this]
    (repeat first | exact ent_emp _ | exact ent_purL (by first | assumption | rfl | simp; done) | exact ent_atomL | refine ent_atom ?_ | refine ent_asc ?_ | refine ent_pur (by first | assumption | rfl) ?_)
  · intro ds ss hss
    refine sM_seq (sM_region ?_)
    refine sL_pre ?_ (star_comm _ _)
    refine sL_ex fun a => sL_ex fun c => sL_assoc ?_
    repeat' first | refine sF_nilO ?_ | refine sF_add ?_ | refine sF_sub ?_ | refine sF_conv ?_ | refine sF_pure ?_ | refine sF_load ?_ rfl | refine sF_off ?_ | (refine sF_guardD rfl rfl rfl ?_ ?_ <;> intro _) | refine sF_op ?_ | refine sF_end0 ?_ | refine sF_end2 ?_ | refine sF_end ?_ | refine sL_add ?_ | refine sL_sub ?_ | refine sL_conv ?_ | refine sL_pure ?_ | refine sL_nil ?_ | refine sL_load ?_ rfl | refine sL_store ?_ rfl | refine sL_loadI ?_ rfl | (refine sL_box ?_; intro _) | (refine sL_alloc ?_; intro _) | (refine sL_lit ?_; intro _) | (refine sL_appendL ?_ rfl rfl rfl rfl rfl; intro _ _) | refine sL_off ?_ | refine sW_seq ?_ | refine sW_region ?_ | refine sW_ret ?_ | refine sW_block ?_ | refine sW_condT rfl ?_ | refine sW_condF rfl ?_ | (refine sW_if rfl ?_ ?_ <;> intro _) | (refine sW_ifn rfl ?_ ?_ <;> intro _) | (refine sW_cond rfl ?_ ?_ <;> intro _) | refine sW_skip ?_ | refine sW_exit ?_ | (refine sL_guardD rfl rfl ?_ ?_ <;> intro _) | (refine sL_guardN rfl rfl ?_ ?_ <;> intro _) | (refine sL_guard rfl rfl ?_ ?_ <;> intro _)
    refine sM_ret ?_
    (repeat first | refine ret_then ?_ | refine ret_block ?_); apply retI; (repeat' first | exact res_nil | apply res_tmp ?_ rfl | apply res_cell ?_ rfl)
    · exact ⟨ss, a, c, hss, rfl, rfl⟩
    · (repeat first | exact ent_emp _ | exact ent_purL (by first | assumption | rfl | simp; done) | exact ent_atomL | refine ent_atom ?_ | refine ent_asc ?_ | refine ent_pur (by first | assumption | rfl) ?_)
theorem colSeq (gf : Nat) (caps : List Value) (A : HProp) (keys : List Str) (hf : isFn Tryz.prog gf = true) (hI : IterM Tryz.prog gf caps A keys) (hk : keys.length ≤ 65535) :
    Con Tryz.prog 262 [.func (.func gf) #[] ⟨caps⟩] A (fun v B => ∃ ss a c, ss.Perm keys ∧ v = .slice a ss.length c ∧ B = ((star (A) (own 9 1 a (ss.length, c, strsV ss))))) := by
  refine Con.of_body Tryz.func262 rfl rfl Tryz.ntmps262 Tryz.results262 rfl ?_
  repeat' first | (refine sL_call (Rem := emp) rfl rfl rfl rfl (appSeq gf caps A keys hf hI hk) (ent_trans (star_emp _) (star_comm _ _)) ?_; rintro _ _ ⟨ss, a, c, hss, rfl, rfl⟩) | refine sF_nilO ?_ | refine sF_add ?_ | refine sF_sub ?_ | refine sF_conv ?_ | refine sF_pure ?_ | refine sF_load ?_ rfl | refine sF_off ?_ | (refine sF_guardD rfl rfl rfl ?_ ?_ <;> intro _) | refine sF_op ?_ | refine sF_end0 ?_ | refine sF_end2 ?_ | refine sF_end ?_ | refine sL_add ?_ | refine sL_sub ?_ | refine sL_conv ?_ | refine sL_pure ?_ | refine sL_nil ?_ | refine sL_load ?_ rfl | refine sL_store ?_ rfl | refine sL_loadI ?_ rfl | (refine sL_box ?_; intro _) | (refine sL_alloc ?_; intro _) | (refine sL_lit ?_; intro _) | (refine sL_appendL ?_ rfl rfl rfl rfl rfl; intro _ _) | refine sL_off ?_ | refine sW_seq ?_ | refine sW_region ?_ | refine sW_ret ?_ | refine sW_block ?_ | refine sW_condT rfl ?_ | refine sW_condF rfl ?_ | (refine sW_if rfl ?_ ?_ <;> intro _) | (refine sW_ifn rfl ?_ ?_ <;> intro _) | (refine sW_cond rfl ?_ ?_ <;> intro _) | refine sW_skip ?_ | refine sW_exit ?_ | (refine sL_guardD rfl rfl ?_ ?_ <;> intro _) | (refine sL_guardN rfl rfl ?_ ?_ <;> intro _) | (refine sL_guard rfl rfl ?_ ?_ <;> intro _)
  (repeat first | refine ret_then ?_ | refine ret_block ?_); apply retI; (repeat' first | exact res_nil | apply res_tmp ?_ rfl | apply res_cell ?_ rfl)
  · exact ⟨ss, a, c, hss, rfl, rfl⟩
  · exact star_left _ _
end Go.Proofs.YtmkdbdkaheiaaaaGreatDoor
