/- Helpers for the claim (a logic of assertions over the heap, contracts of the program's functions): no condition beyond each theorem's own premises. -/
import Derived.Test.YtmkdbdkaheiaaaaGreatDoorP1
import Derived.Laws.Append
import Derived.Laws.AppendOwn
import Derived.Laws.IdiomStrings
import Derived.Laws.BytesString
import Derived.Lib.ConvBytes
import Derived.Laws.MakeOwn
set_option linter.all false
namespace Go.Sl
open Go
variable [Amb]

/-- a slice value that alone holds its array: address, length, capacity, cells (k of them an element) -/
def own (El k : Nat) (a : Option Addr) (x : Nat × Nat × List Value) : HProp :=
  ⟨fun O _ => x.2.2.length = x.1 * k ∧ x.2.2.all isCell = true ∧ ((a = none ∧ x.1 = 0 ∧ x.2.1 = 0) ∨
     ∃ g cur, a = some ⟨g, 0, none⟩ ∧ O g = some (.cells cur El (0, 0)) ∧ x.1 ≤ x.2.1 ∧ x.2.1 ≤ maxLen ∧ cur.size = x.2.1 * k ∧ cur.toList.take (x.1 * k) = x.2.2),
   fun hO _ ⟨h1, h0, h2⟩ => ⟨h1, h0, h2.imp id fun ⟨g, cur, h3, h4, h5⟩ => ⟨g, cur, h3, hO _ _ h4, h5⟩⟩⟩

theorem own_nil (El k : Nat) (A : HProp) : (ent (A) (((star (own El k none (0, 0, [])) (A))))) :=
  fun O _ a => ⟨Hp.emp, O, fun _ => .inl rfl, Hp.emp_le _, Hp.le_refl _, ⟨by simp, rfl, .inl ⟨rfl, rfl, rfl⟩⟩, a⟩
theorem own_of_blk {El k n c : Nat} {g : Nat} {xs sp : List Value} (h0 : xs.all isCell = true) (h1 : xs.length = n * k) (h2 : n ≤ c) (h3 : c ≤ maxLen) (h4 : xs.length + sp.length = c * k) :
    (ent (blk g (.cells ⟨xs ++ sp⟩ El (0, 0))) (own El k (some ⟨g, 0, none⟩) (n, c, xs))) :=
  fun O _ h => ⟨h1, h0, .inr ⟨g, ⟨xs ++ sp⟩, rfl, h, h2, h3, by simp [h4], by simp [← h1]⟩⟩

/-- of an owned slice: nothing is there, or a block -/
theorem own_cases {w : World} {El k : Nat} {a : Option Addr} {n c : Nat} {xs : List Value} {G : HProp} (hm : MW w ((star (own El k a (n, c, xs)) (G)))) :
    xs.length = n * k ∧ xs.all isCell = true ∧ ((a = none ∧ n = 0 ∧ c = 0 ∧ MW w G) ∨
      ∃ g cur, a = some ⟨g, 0, none⟩ ∧ n ≤ c ∧ c ≤ maxLen ∧ cur.size = c * k ∧ cur.toList.take (n * k) = xs ∧ MW w ((star (blk g (.cells cur El (0, 0))) (G)))) := by
  obtain ⟨O, I, d, ho, hi, O₁, O₂, dd, l₁, l₂, ⟨h1, h0, h2⟩, b⟩ := hm
  refine ⟨h1, h0, ?_⟩
  rcases h2 with ⟨h3, h4, h5⟩ | ⟨g, cur, h3, h4, h5, h6, h7, h8⟩
  · exact .inl ⟨h3, h4, h5, O₂, I, ⟨Hp.dis_mono d.1 l₂ (Hp.le_refl _), d.2⟩, fun b o h => ho b o (l₂ b o h), hi, b⟩
  · exact .inr ⟨g, cur, h3, h5, h6, h7, h8, O, I, d, ho, hi, O₁, O₂, dd, l₁, l₂, h4, b⟩

/-- the cells that an argument of append brings -/
def Brings (P : Program) (w : World) (size m : Nat) (x : Value) (news : List Value) : Prop :=
  (Builtin.lenOf x).run P w = .ok m w ∧ (∀ d, (Builtin.firstCells size m x).run P { w with drawn := d } = .ok news.toArray { w with drawn := d }) ∧ news.length = m * size ∧ news.all isCell = true

theorem putC_of : ∀ (vs : List Value) (off : Nat) (l : List Value), vs.all isCell = true → off + vs.length ≤ l.length →
    putC l off vs = some (l.take off ++ vs ++ l.drop (off + vs.length)) := by
  intro vs
  induction vs with
  | nil => intro off l _ _; simp [putC]
  | cons v vs ih =>
    intro off l h1 h2
    simp only [List.all_cons, Bool.and_eq_true] at h1
    simp only [List.length_cons] at h2
    have hs : setL l off v = some (l.set off v) := by
      have : ∀ (l : List Value) (n : Nat), n < l.length → setL l n v = some (l.set n v) := by
        intro l
        induction l with
        | nil => intro n h; cases h
        | cons u l ih => intro n h; cases n with | zero => rfl | succ n => (simp only [setL]; rw [ih _ (by simpa using h)]; rfl)
      exact this l off (by omega)
    simp only [putC, h1.1, cond_true, hs]
    rw [ih (off + 1) _ h1.2 (by simp; omega)]
    congr 1
    have hlt : off < l.length := by omega
    rw [List.take_set, List.drop_set]
    simp only [List.length_cons]
    rw [if_pos (by omega)]
    have h3 : (l.take (off + 1)).set off v = l.take off ++ [v] := by
      rw [List.take_succ_eq_append_getElem hlt]
      rw [List.set_append_right _ _ (by simp; omega)]
      simp [Nat.min_eq_left (Nat.le_of_lt hlt)]
    rw [h3]
    have h4 : off + 1 + vs.length = off + (vs.length + 1) := by omega
    rw [h4]
    simp

section
variable {P : Program} {T : Tab}
theorem append_room (hT : TabOk P T) {w : World} {st xt ty El : Nat} {si ei : TI} {xi : TypeDesc} (hst : T st = some si) (hsk : si.k = .slice El) (hei : T El = some ei)
    (hxi : P.underlying xt = some xi) (hxk : ∀ k, xi ≠ .int k) {k : Nat} (hk : ei.size = k) {n c m : Nat} {news : List Value} {x : Value}
    (hx : Brings P w k m x news) (hroom : n + m ≤ c) {g : Nat} {cur : List Value} (hg : w.heap[g]? = some (.cells ⟨cur⟩ El (0, 0))) (hc : cur.length = c * k) :
    ∃ w', (Builtin.append_ #[st, xt] ty #[.slice (some ⟨g, 0, none⟩) n c, x]).run P w = .ok (.slice (some ⟨g, 0, none⟩) (n + m) c) w' ∧
      Upd w w' g (.cells ⟨cur.take (n * k) ++ news ++ cur.drop (n * k + news.length)⟩ El (0, 0)) := by
  obtain ⟨hx1, hx2, hx3, hx4⟩ := hx
  have hu := und_slice (hT _ _ hst) hsk
  have hz := size_of (hT _ _ hei) w
  rw [hk] at hz
  have hm : ((match xi with | .int _ => true | _ => false) : Bool) = false := by cases xi <;> first | rfl | exact absurd rfl (hxk _)
  have hfit : n * k + news.length ≤ cur.length := by rw [hx3, hc, ← Nat.add_mul]; exact Nat.mul_le_mul_right _ hroom
  have hf := hx2 w.drawn
  obtain ⟨w', hw', hh⟩ := storeCells_run (P := P) (fr := (0, 0)) (El := El) (b := g) (Nat.le_refl 0) news cur _ (n * k) 0 w hg (putC_of news (n * k) cur hx4 hfit)
  refine ⟨w', ?_, hh⟩
  have ha : (⟨g, 0, none⟩ : Addr).add (n * k) = ⟨g, n * k, none⟩ := by
    unfold Addr.add; split
    · rename_i h0; rw [h0]
    · simp
  simp [Builtin.append_, underlying_run hu w, underlying_run hxi w, hz, hx1, hroom, hf, ha, hw']

theorem append_new (hT : TabOk P T) {w : World} {st xt ty El : Nat} {si ei : TI} {xi : TypeDesc} (hst : T st = some si) (hsk : si.k = .slice El) (hei : T El = some ei)
    (hxi : P.underlying xt = some xi) (hxk : ∀ k, xi ≠ .int k) {k : Nat} (hk : ei.size = k) (hzl : ei.zero.length = k) {a : Option Addr} {n c m : Nat} {olds news : List Value} {x : Value}
    (hx : Brings P w k m x news) (hroom : c < n + m) (hbig : n + m ≤ 4294967296) (hby : ei.bytes ≤ 16384) (hol : olds.length = n * k)
    (hold : (Builtin.firstCells k n (.slice a n c)).run P w.drew = .ok olds.toArray w.drew) :
    ∃ c' sp w', (Builtin.append_ #[st, xt] ty #[.slice a n c, x]).run P w = .ok (.slice (some ⟨w.heap.size, 0, none⟩) (n + m) c') w' ∧ n + m ≤ c' ∧ c' ≤ maxLen ∧
      (olds ++ news).length + sp.length = c' * k ∧ w'.heap = w.heap.push (.cells ⟨(olds ++ news) ++ sp⟩ El (0, 0)) ∧ w'.os = w.os ∧ w'.output = w.output := by
  obtain ⟨hx1, hx2, hx3, hx4⟩ := hx
  have hu := und_slice (hT _ _ hst) hsk
  have hz := size_of (hT _ _ hei)
  rw [hk] at hz
  obtain ⟨ej, hej, hes, heb⟩ := info_of (hT _ _ hei)
  obtain ⟨z, hzv, hzc, _⟩ := zero_of (hT _ _ hei)
  have hf := hx2 (w.drawn + 1)
  have hinf : ∀ w : World, (typeInfo El).run P w = .ok ej w := fun w => by simp [typeInfo, program, hej, Sem.run]
  have hmul : (n + m) * ej.bytes ≤ 140737488355328 := by
    rw [heb]
    exact Nat.le_trans (Nat.mul_le_mul hbig hby) (by omega)
  have hfits := growslice_fits hroom hmul
  have h1 : ¬ (n + m ≤ c) := by omega
  have h2 : ¬ ((9223372036854775807 : Int) < (n : Int) + (m : Int)) := by omega
  have h3 : ¬ (281474976710656 < Builtin.nextslicecap (n + m) c * ej.bytes) := by omega
  have hcm : n + m ≤ maxLen := by unfold maxLen; omega
  have hcap := grownCap_le_maxLen w (n + m) c El hcm
  have hcap' := grownCap_ge w (n + m) c El
  refine ⟨grownCap w (n + m) c El, (Builtin.zeroCells ⟨ei.zero⟩ (grownCap w (n + m) c El - (n + m))).toList,
    w.drew.alloc (.cells ⟨(olds ++ news) ++ (Builtin.zeroCells ⟨ei.zero⟩ (grownCap w (n + m) c El - (n + m))).toList⟩ El), ?_, hcap', hcap, ?_, rfl, rfl, rfl⟩
  · have hd : ({ w with drawn := w.drawn + 1 } : World) = w.drew := rfl
    rw [hd] at hf
    simp [Builtin.append_, underlying_run hu w, underlying_run hxi w, hz, hx1, h1, h2, h3, hf, hold, hinf, hzv, hzc, Question.forced, newRow, grownCap]
    cases xi <;> (try exact absurd rfl (hxk _)) <;> (congr 2; apply Array.ext'; simp)
  · have : (Builtin.zeroCells ⟨ei.zero⟩ (grownCap w (n + m) c El - (n + m))).toList.length = (grownCap w (n + m) c El - (n + m)) * k := by
      rw [← hzl]; simp [Builtin.zeroCells]
    rw [this, List.length_append, hol, hx3, ← Nat.add_mul, ← Nat.add_mul]
    congr 1
    omega

/-- what a slice that is read has: cells that lie in a row -/
theorem brings_cells {w : World} {b off El k m c : Nat} {fr : Nat × Nat} {cells news : List Value} (hb : w.heap[b]? = some (.cells ⟨cells⟩ El fr)) (hl : news.length = m * k)
    (hn : (cells.drop off).take (m * k) = news) (hc : news.all isCell = true) : Brings P w k m (.slice (some ⟨b, off, none⟩) m c) news := by
  refine ⟨rfl, fun d => ?_, hl, hc⟩
  have hle : off + m * k ≤ cells.length ∨ m * k = 0 := by
    have := congrArg List.length hn
    simp [hl] at this
    omega
  rcases hle with hle | hle
  · have := loadCells_run (P := P) (w := { w with drawn := d }) (off := off) hb (m * k) 0 #[] (by omega)
    simp only [Builtin.firstCells, loadCells, this]
    simp [hn]
  · have hnil : news = [] := by rw [hle] at hl; exact List.eq_nil_of_length_eq_zero hl
    subst hnil
    simp [Builtin.firstCells, loadCells, hle, loadCellsFrom]
theorem brings_nil {w : World} (k : Nat) {m c : Nat} (hm : m = 0) : Brings P w k m (.slice none m c) [] := by
  subst hm
  exact ⟨rfl, fun d => by simp [Builtin.firstCells], by simp, rfl⟩
def byteV (b : UInt8) : Value := .int .u8 (b.toNat : Int)
def bytesV (l : List UInt8) : List Value := l.map byteV
theorem bytesV_cells (l : List UInt8) : (bytesV l).all isCell = true := by induction l <;> simp_all [bytesV, byteV, isCell]
theorem brings_str {w : World} (l : List UInt8) : Brings P w 1 l.length (.string ⟨⟨l⟩⟩) (bytesV l) := by
  refine ⟨rfl, fun d => ?_, by simp [bytesV], bytesV_cells l⟩
  simp only [Builtin.firstCells, Sem.run_pure]
  congr 1
  apply Array.ext'
  have : (ByteArray.mk (Array.mk l)).extract 0 l.length = ByteArray.mk (Array.mk l) := by
    apply ByteArray.ext
    simp [ByteArray.data_extract]
  rw [this]
  simp [bytesV, byteV]

variable {n : Nat} {ops : Array Oper} {rest : List Oper} {E : Env} {H R : HProp} {Q : Post} {pos : String} {after : Array Edge} {g : Option (Nat × Bool)} {ty : TypeId} {dst : Option Tmp}

theorem set_list {w w' : World} {A : HProp} {b El : Nat} {c c' : List Value} (h : MW w ((star (blk b (.cells ⟨c⟩ El (0, 0))) (A)))) (hw : Upd w w' b (.cells ⟨c'⟩ El (0, 0))) :
    MW w' ((star (blk b (.cells ⟨c'⟩ El (0, 0))) (A))) := h.set _ w' hw

def seqK : TK → Bool
  | .slice _ => true
  | .str => true
  | _ => false
/-- append onto an owned slice -/
theorem sL_append [hTT : HasTab P T] {st xt El k : Nat} {si ei xti : TI} {sx xx : Operand} {a : Option Addr} {sn sc m : Nat} {xs news : List Value} {x : Value}
    (hg : gdV ops g E = some true) (hd : okD n dst = true) (hs : ev E sx = some (.slice a sn sc)) (hx : ev E xx = some x)
    (hst : T st = some si) (hsk : si.k = .slice El) (hei : T El = some ei) (hxt : T xt = some xti) (hxk' : seqK xti.k = true) (hk : ei.size = k) (hzl : ei.zero.length = k) (hby : Nat.ble ei.bytes 16384 = true)
    [tk : Take (own El k) a H (sn, sc, xs) R] (hbr : ∀ w G, MW w ((star (R) (G))) → Brings P w k m x news) (hbig : sn + m ≤ 4294967296)
    (kk : ∀ a' c', sL P n ops rest (putE dst (.slice a' (sn + m) c') E) ((star (own El k a' (sn + m, c', xs ++ news)) (R))) Q) :
    sL P n ops (⟨dst, .call ⟨.builtin .append, ⟨[sx, xx]⟩, ⟨[st, xt]⟩⟩, ty, pos, after, g⟩ :: rest) E H Q :=
  sL_op hg hd fun ac w G he hm => by
    have hm1 : MW w ((star (own El k a (sn, sc, xs)) (((star (R) (G)))))) := hm.mono (ent_trans (star_mono tk.eqv (ent_refl _)) (star_assoc _ _ _))
    have hmR : MW w ((star (R) (G))) := hm1.mono (star_right _ _)
    obtain ⟨xi, hxi, hxk⟩ : ∃ xi, P.underlying xt = some xi ∧ ∀ k, xi ≠ .int k := by
      cases hk : xti.k <;> rw [hk] at hxk' <;> simp only [seqK, Bool.false_eq_true] at hxk'
      · exact ⟨_, und_str (hTT.ok _ _ hxt) hk, fun _ h => by cases h⟩
      · exact ⟨_, und_slice (hTT.ok _ _ hxt) hk, fun _ h => by cases h⟩
    have hB := hbr w G hmR
    have hby' : ei.bytes ≤ 16384 := Nat.le_of_ble_eq_true hby
    obtain ⟨hlen, hall, hcase⟩ := own_cases hm1
    have hall' : (xs ++ news).all isCell = true := by rw [List.all_append, hall, hB.2.2.2]; rfl
    have hlen' : (xs ++ news).length = (sn + m) * k := by rw [List.length_append, hlen, hB.2.2.1, Nat.add_mul]
    have hexec : ∀ v w', (Builtin.append_ ⟨[st, xt]⟩ ty ⟨[.slice a sn sc, x]⟩).run P w = .ok v w' → (execOp ac.eval ⟨dst, .call ⟨.builtin .append, ⟨[sx, xx]⟩, ⟨[st, xt]⟩⟩, ty, pos, after, g⟩).run P w = .ok (.value v) w' := by
      intro v w' h
      have ha : Array.map ac.eval ⟨[sx, xx]⟩ = ⟨[.slice a sn sc, x]⟩ := by simp [he.ev hs, he.ev hx]
      simp only [execOp, resolve, Sem.run_bind, Sem.run_pure, Result.andThen_ok, invoke, builtin, ha, h]
    have newc : ∀ {c' : Nat} {sp : List Value} {w' : World}, sn + m ≤ c' → c' ≤ maxLen → (xs ++ news).length + sp.length = c' * k → w'.heap = w.heap.push (.cells ⟨(xs ++ news) ++ sp⟩ El (0, 0)) → w'.os = w.os → w'.output = w.output → MW w ((star (R) (G))) →
        MW w' ((star (((star (own El k (some ⟨w.heap.size, 0, none⟩) (sn + m, c', xs ++ news)) (R)))) (G))) := by
      intro c' sp w' h1 h2 h3 h4 h4o h4p h5
      have := (h5.push (.cells ⟨(xs ++ news) ++ sp⟩ El (0, 0)))
      have := (MW.heap_eq this (w' := w') h4 h4o h4p).mono (star_mono (own_of_blk hall' hlen' h1 h2 h3) (ent_refl _))
      exact this.mono (star_assoc' _ _ _)
    rcases hcase with ⟨rfl, rfl, rfl, hmG⟩ | ⟨gb, cur, rfl, hnc, hcm, hcs, htake, hmb⟩
    · have hxs : xs = [] := List.eq_nil_of_length_eq_zero (by simpa using hlen)
      by_cases hm0 : m = 0
      · subst hm0
        have hn0 : news = [] := List.eq_nil_of_length_eq_zero (by simpa using hB.2.2.1)
        refine ⟨.slice none (0 + 0) 0, w, (star (own El k none (0 + 0, 0, xs ++ news)) (R)), .inl (hexec _ _ ?_), ?_, kk _ _⟩
        · obtain ⟨hx1, hx2, hx3, hx4⟩ := hB
          have hf := hx2 w.drawn
          have hu := und_slice (hTT.ok _ _ hst) hsk
          have hz := size_of (hTT.ok _ _ hei) w
          simp [Builtin.append_, underlying_run hu w, underlying_run hxi w, hz, hx1, hk]
          have hf' : (Builtin.firstCells k 0 x).run P w = .ok news.toArray w := hf
          cases xi <;> (try exact absurd rfl (hxk _)) <;> simp [hf']
        · rw [hxs, hn0]
          exact (hmG.mono (own_nil El k _)).mono (star_assoc' _ _ _)
      · obtain ⟨c', sp, w', hr, h1, h2, h3, h4, h4o, h4p⟩ := append_new hTT.ok (ty := ty) hst hsk hei hxi hxk hk hzl (a := none) (n := 0) (c := 0) (olds := xs) hB (by omega) hbig hby' hlen (by rw [hxs]; simp [Builtin.firstCells])
        exact ⟨_, w', _, .inl (hexec _ _ hr), newc h1 h2 h3 h4 h4o h4p hmR, kk _ _⟩
    · by_cases hroom : sn + m ≤ sc
      · obtain ⟨w', hr, hh⟩ := append_room hTT.ok (ty := ty) hst hsk hei hxi hxk hk hB hroom (g := gb) (cur := cur.toList) hmb.blk (by simpa using hcs)
        refine ⟨_, w', (star (own El k (some ⟨gb, 0, none⟩) (sn + m, sc, xs ++ news)) (R)), .inl (hexec _ _ hr), ?_, kk _ _⟩
        rw [htake] at hh
        have h5 := set_list (c := cur.toList) hmb hh
        have hle : sn * k + news.length ≤ cur.size := by rw [hB.2.2.1, hcs, ← Nat.add_mul]; exact Nat.mul_le_mul_right _ hroom
        refine (h5.mono (star_mono (own_of_blk hall' hlen' hroom hcm ?_) (ent_refl _))).mono (star_assoc' _ _ _)
        simp only [List.length_drop, Array.length_toList, List.length_append]
        omega
      · have hold : (Builtin.firstCells k sn (.slice (some ⟨gb, 0, none⟩) sn sc)).run P w.drew = .ok xs.toArray w.drew := by
          have hcl : 0 + 0 + sn * k ≤ cur.toList.length := by simp [hcs]; exact Nat.mul_le_mul_right _ hnc
          have := loadCells_run (P := P) (w := w.drew) (off := 0) (c := cur.toList) hmb.blk (sn * k) 0 #[] hcl
          simp only [Builtin.firstCells, loadCells, this]
          simp [htake]
        obtain ⟨c', sp, w', hr, h1, h2, h3, h4, h4o, h4p⟩ := append_new hTT.ok (ty := ty) hst hsk hei hxi hxk hk hzl (a := some ⟨gb, 0, none⟩) (c := sc) (olds := xs) hB (by omega) hbig hby' hlen hold
        exact ⟨_, w', _, .inl (hexec _ _ hr), newc h1 h2 h3 h4 h4o h4p hmR, kk _ _⟩

/-- so many elements, all zero -/
def appL : List Value → List Value → Option (List Value)
  | [], r => some r
  | v :: l, r => match appL l r with | some q => some (v :: q) | none => none
def baseL : Nat → List Value → Option (List Value)
  | 0, _ => some []
  | m + 1, z => match baseL m z with | some r => appL z r | none => none
theorem appL_eq {l r q : List Value} (h : appL l r = some q) : q = l ++ r := by
  induction l generalizing q with
  | nil => cases h; rfl
  | cons v l ih =>
    simp only [appL] at h
    split at h
    · rename_i q' hq; cases h; rw [ih hq]; rfl
    · cases h
theorem baseL_eq {m : Nat} {z r : List Value} (h : baseL m z = some r) : r.length = m * z.length ∧ ∀ i, i < r.length → r[i]! = z[i % z.length]! := by
  induction m generalizing r with
  | zero => cases h; simp
  | succ m ih =>
    simp only [baseL] at h
    split at h
    · rename_i r' hr
      have := appL_eq h
      subst this
      obtain ⟨h1, h2⟩ := ih hr
      refine ⟨by rw [List.length_append, h1, Nat.add_mul]; omega, fun i hi => ?_⟩
      by_cases hlt : i < z.length
      · rw [List.getElem!_eq_getElem?_getD, List.getElem?_append_left hlt, Nat.mod_eq_of_lt hlt, List.getElem!_eq_getElem?_getD]
      · have hge : z.length ≤ i := by omega
        rw [List.getElem!_eq_getElem?_getD, List.getElem?_append_right hge, ← List.getElem!_eq_getElem?_getD]
        rw [h2 (i - z.length) (by simp at hi; omega)]
        rw [← Nat.mod_eq_sub_mod hge]
    · cases h
/-- append of what a literal has (it is let go) -/
theorem sL_appendL [hTT : HasTab P T] {st xt El k eb : Nat} {ek : TK} {ez : List Value} {si xti : TI} {sx xx : Operand} {a : Option Addr} {sn sc m mc b El' : Nat} {fr : Nat × Nat} {xs news : List Value} {R2 : HProp} [tk : Take (own El k) a H (sn, sc, xs) R] [tk2 : Take blk b R (.cells ⟨news⟩ El' fr) R2] (kk : ∀ a' c', sL P n ops rest (putE dst (.slice a' (sn + m) c') E) ((star (own El k a' (sn + m, c', xs ++ news)) (R2))) Q) (hs : ev E sx = some (.slice a sn sc)) (hx : ev E xx = some (.slice (some ⟨b, 0, none⟩) m mc)) (hst : T st = some si) (hsk : si.k = .slice El) (hei : T El = some ⟨ek, k, eb, ez⟩) (hg : gdV ops g E = some true := by rfl) (hd : okD n dst = true := by rfl) (hxt : T xt = some xti := by rfl) (hxk' : seqK xti.k = true := by rfl) (hzl : lenIs ez k = true := by rfl) (hby : Nat.ble eb 16384 = true := by rfl) (hl : lenIs news (m * k) = true := by rfl) (hc : news.all isCell = true := by rfl) (hbig : sn + m ≤ 4294967296 := by first | omega | (simp only [List.length_append]; omega)) :
    sL P n ops (⟨dst, .call ⟨.builtin .append, ⟨[sx, xx]⟩, ⟨[st, xt]⟩⟩, ty, pos, after, g⟩ :: rest) E H Q := by
  refine sL_append (m := m) (news := news) hg hd hs hx hst hsk hei hxt hxk' rfl (lenIs_eq hzl) hby (fun w G hm => ?_) hbig fun a' c' => sL_pre (kk a' c') (star_mono (ent_refl _) (ent_trans tk2.eqv (star_right _ _)))
  have hb := (take_heap tk2 hm).blk
  have hlen := lenIs_eq hl
  exact brings_cells hb hlen (by simp [← hlen]) hc
theorem sL_appendS [hTT : HasTab P T] {st xt El eb : Nat} {ek : TK} {ez : List Value} {si xti : TI} {sx xx : Operand} {a : Option Addr} {sn sc : Nat} {xs : List Value} {l : List UInt8} [tk : Take (own El 1) a H (sn, sc, xs) R] (kk : ∀ a' c', sL P n ops rest (putE dst (.slice a' (sn + l.length) c') E) ((star (own El 1 a' (sn + l.length, c', xs ++ bytesV l)) (R))) Q) (hs : ev E sx = some (.slice a sn sc)) (hx : ev E xx = some (.string ⟨⟨l⟩⟩)) (hst : T st = some si) (hsk : si.k = .slice El) (hei : T El = some ⟨ek, 1, eb, ez⟩) (hg : gdV ops g E = some true := by rfl) (hd : okD n dst = true := by rfl) (hxt : T xt = some xti := by rfl) (hxk' : seqK xti.k = true := by rfl) (hzl : lenIs ez 1 = true := by rfl) (hby : Nat.ble eb 16384 = true := by rfl) (hbig : sn + l.length ≤ 4294967296 := by first | omega | (simp only [List.length_append]; omega)) :
    sL P n ops (⟨dst, .call ⟨.builtin .append, ⟨[sx, xx]⟩, ⟨[st, xt]⟩⟩, ty, pos, after, g⟩ :: rest) E H Q :=
  sL_append (m := l.length) (news := bytesV l) hg hd hs hx hst hsk hei hxt hxk' rfl (lenIs_eq hzl) hby (fun _ _ _ => brings_str l) hbig kk

/-- a slice that is only read: its cells lie in a block that nobody changes; k cells an element -/
def ro (k : Nat) (a : Option Addr) (x : Nat × Nat × List Value) : HProp :=
  ⟨fun _ I => x.2.2.length = x.1 * k ∧ x.1 ≤ x.2.1 ∧ x.2.2.all isCell = true ∧ ((a = none ∧ x.1 = 0 ∧ x.2.1 = 0) ∨ ∃ b off c El fr, a = some ⟨b, off, none⟩ ∧ (x.2.2 = [] ∨ (I b = some (.cells ⟨c⟩ El fr) ∧ (c.drop off).take x.2.2.length = x.2.2))),
   fun _ hI ⟨h1, h2, h0, h⟩ => ⟨h1, h2, h0, h.imp id fun ⟨b, off, c, El, fr, h1, h2⟩ => ⟨b, off, c, El, fr, h1, h2.imp id fun h => ⟨hI _ _ h.1, h.2⟩⟩⟩⟩
theorem ro_cases {w : World} {k : Nat} {a : Option Addr} {n c : Nat} {cs : List Value} {G : HProp} (hm : MW w ((star (ro k a (n, c, cs)) (G)))) :
    cs.length = n * k ∧ n ≤ c ∧ cs.all isCell = true ∧ ((a = none ∧ n = 0 ∧ c = 0) ∨ ∃ b off c' El fr, a = some ⟨b, off, none⟩ ∧ (cs = [] ∨ (w.heap[b]? = some (.cells ⟨c'⟩ El fr) ∧ (c'.drop off).take cs.length = cs))) := by
  obtain ⟨O, I, d, ho, hi, h⟩ := hm
  obtain ⟨h1, h2, h0, h⟩ := star_left _ _ O I h
  exact ⟨h1, h2, h0, h.imp id fun ⟨b, off, c', El, fr, h3, h4⟩ => ⟨b, off, c', El, fr, h3, h4.imp id fun h => ⟨hi _ _ h.1, h.2⟩⟩⟩
theorem brings_ro {w : World} {k : Nat} {a : Option Addr} {m c : Nat} {cs : List Value} {G : HProp} (hm : MW w ((star (ro k a (m, c, cs)) (G)))) (mc : Nat) : Brings P w k m (.slice a m mc) cs := by
  obtain ⟨hl, _, hc, h⟩ := ro_cases hm
  rcases h with ⟨rfl, rfl, _⟩ | ⟨b, off, c', El, fr, rfl, h3 | ⟨h3, h4⟩⟩
  · have : cs = [] := List.eq_nil_of_length_eq_zero (by simpa using hl)
    subst this
    exact brings_nil k rfl
  · subst h3
    refine ⟨rfl, fun d => ?_, hl, rfl⟩
    have hz : m * k = 0 := by rw [← hl]; rfl
    simp [Builtin.firstCells, loadCells, hz, loadCellsFrom]
  · exact brings_cells h3 hl (by rw [← hl]; exact h4) hc
theorem sL_appendR [hTT : HasTab P T] {st xt El k eb : Nat} {ek : TK} {ez : List Value} {si xti : TI} {sx xx : Operand} {a a2 : Option Addr} {sn sc m mc mc' : Nat} {xs cs : List Value} [tk : Take (own El k) a H (sn, sc, xs) R] [lk : Look (ro k) a2 R (m, mc', cs)] (kk : ∀ a' c', sL P n ops rest (putE dst (.slice a' (sn + m) c') E) ((star (own El k a' (sn + m, c', xs ++ cs)) (R))) Q) (hs : ev E sx = some (.slice a sn sc)) (hx : ev E xx = some (.slice a2 m mc)) (hst : T st = some si) (hsk : si.k = .slice El) (hei : T El = some ⟨ek, k, eb, ez⟩) (hg : gdV ops g E = some true := by rfl) (hd : okD n dst = true := by rfl) (hxt : T xt = some xti := by rfl) (hxk' : seqK xti.k = true := by rfl) (hzl : lenIs ez k = true := by rfl) (hby : Nat.ble eb 16384 = true := by rfl) (hbig : sn + m ≤ 4294967296 := by first | omega | (simp only [List.length_append]; omega)) :
    sL P n ops (⟨dst, .call ⟨.builtin .append, ⟨[sx, xx]⟩, ⟨[st, xt]⟩⟩, ty, pos, after, g⟩ :: rest) E H Q :=
  sL_append (m := m) (news := cs) hg hd hs hx hst hsk hei hxt hxk' rfl (lenIs_eq hzl) hby (fun _ _ hm => brings_ro (hm.mono (star_mono lk.eqv (ent_refl _))) mc) hbig kk

/-- a slice literal -/
theorem sL_lit [hTT : HasTab P T] {st El m : Nat} {si ei : TI} {parts : Array (Nat × Operand)} {cs : List Value} {base : List Value} (kk : ∀ b, sL P n ops rest (putE dst (.slice (some ⟨b, 0, none⟩) m m) E) ((star (blk b (.cells ⟨cs⟩ El (0, 0))) (H))) Q) (hg : gdV ops g E = some true := by rfl) (hd : okD n dst = true := by rfl) (hst : T st = some si := by rfl) (hsk : si.k = .slice El := by rfl) (hei : T El = some ei := by rfl) (hsm : Nat.ble (m * ei.size) 16777216 = true := by rfl) (hpos : Nat.blt 0 (m * ei.size) = true := by rfl) (hzl : ei.zero.length = ei.size := by rfl) (hbl : baseL m ei.zero = some base := by rfl) (hf : fillV (fun i => some (i * ei.size, ei.size)) base parts.toList E = some cs := by rfl) :
    sL P n ops (⟨dst, .buildSlice st m parts, ty, pos, after, g⟩ :: rest) E H Q :=
  sL_op hg hd fun ac w G he hm => by
    have hfe := fill_eq he (place' := fun i => some (i * ei.size, ei.size)) (fun _ _ h => h) _ _ _ hf
    refine ⟨_, _, _, .inl ?_, (hm.push (.cells ⟨cs⟩ El (0, 0))).mono (star_assoc' _ _ _), kk _⟩
    simp only [execOp]
    refine run_value ?_
    have hz := size_of (hTT.ok _ _ hei) w
    obtain ⟨z, hzv, hzc, _⟩ := zero_of (hTT.ok _ _ hei)
    have hlt : ¬ (16777216 < m * ei.size) := by have := Nat.le_of_ble_eq_true hsm; omega
    have hp : (parts.map fun x => (x.1, ac.eval x.2)).toList = parts.toList.map fun p => (p.1, ac.eval p.2) := by simp
    have hu := und_slice (hTT.ok _ _ hst) hsk
    have h0 : ¬ (m * ei.size = 0) := by have : 0 < m * ei.size := Nat.le_of_ble_eq_true hpos; omega
    have hr : (Array.range (m * ei.size)).map (fun i => z.cells[i % z.cells.size]!) = ⟨base⟩ := by
      rw [hzc]
      obtain ⟨h1, h2⟩ := baseL_eq hbl
      rw [hzl] at h1
      apply Array.ext'
      apply List.ext_getElem
      · simp [h1]
      · intro i hi hi'
        have := h2 i hi'
        simp only [List.getElem!_eq_getElem?_getD, List.getElem?_eq_getElem hi', Option.getD_some] at this
        simp [this]
    simp only [Instr.buildSlice, Sem.run_bind, underlying_run hu w, Result.andThen_ok, hz, gt_iff_lt, hlt, if_false, h0, hzv w, Sem.run_pure, hp, hr, hfe]
    simp [newRow, newObj, Sem.run]
/-- the empty slice literal -/
theorem sL_lit0 [hTT : HasTab P T] {st El : Nat} {si : TI} {ei : TI} (kk : ∀ b, sL P n ops rest (putE dst (.slice (some ⟨b, 0, none⟩) 0 0) E) ((star (blk b (.cells ⟨[]⟩ El (0, 0))) (H))) Q) (hg : gdV ops g E = some true := by rfl) (hd : okD n dst = true := by rfl) (hst : T st = some si := by rfl) (hsk : si.k = .slice El := by rfl) (hei : T El = some ei := by rfl) :
    sL P n ops (⟨dst, .buildSlice st 0 #[], ty, pos, after, g⟩ :: rest) E H Q :=
  sL_op hg hd fun ac w G he hm => by
    refine ⟨_, _, _, .inl ?_, (hm.push (.cells ⟨[]⟩ El (0, 0))).mono (star_assoc' _ _ _), kk _⟩
    simp only [execOp]
    refine run_value ?_
    have hz := size_of (hTT.ok _ _ hei) w
    have hu := und_slice (hTT.ok _ _ hst) hsk
    simp [Instr.buildSlice, underlying_run hu w, hz, Instr.fill, newRow, newObj, Sem.run]
    congr 2; apply Array.ext'; simp
end
end Go.Sl
namespace Go.Sl
open Go
variable [Amb]

/-- all that one frame knows, another one knows, too -/
def sub : Env → Env → Prop
  | [], _ => True
  | (t, v) :: E', E => look t E = some v ∧ sub E' E
theorem sub_look {E' E : Env} (h : sub E' E) : ∀ t v, look t E' = some v → look t E = some v := by
  induction E' with
  | nil => intro t v e; cases e
  | cons x E' ih =>
    obtain ⟨k, u⟩ := x
    intro t v e
    simp only [look] at e
    cases hb : Nat.beq k t <;> rw [hb] at e <;> simp only [cond_true, cond_false] at e
    · exact ih h.2 t v e
    · have := Nat.eq_of_beq_eq_true hb
      subst this
      cases e
      exact h.1

section
variable {P : Program} {n : Nat} {c : Code} {ops : Array Oper} {os : List Oper} {E : Env} {H R : HProp} {Q : Post}

/-- a loop: what is known at each round's head, by a value that comes down -/
theorem sW_for {α : Type} (Es : α → Env) (Hs : α → HProp) (φ : α → Prop) (μ : α → Nat) (x₀ : α) (h₀ : φ x₀) (he : sub (Es x₀) E) (hh : (ent (H) (Hs x₀)))
    (round : ∀ x, φ x → sW P n c (Es x) (Hs x) (thenP (fun E' H' => ∃ y, φ y ∧ sub (Es y) E' ∧ ((ent (H') (Hs y))) ∧ μ y < μ x) Q)) : sW P n (.loop c) E H Q := by
  refine sW_pre (sW_env (E' := Es x₀) ?_ (sub_look he)) hh
  refine sW_loop (fun x E H => φ x ∧ (∀ t v, look t (Es x) = some v → look t E = some v) ∧ ((ent (H) (Hs x)))) μ x₀ ⟨h₀, fun _ _ h => h, ent_refl _⟩ ?_
  · rintro x E H ⟨hφ, hs, hh⟩
    refine sW_pre (sW_env (E' := Es x) ?_ hs) hh
    refine sW_mono (round x hφ) ?_
    rintro e E' H' hq
    cases e with
    | normal =>
      obtain ⟨y, h1, h2, h3, h4⟩ := hq
      exact ⟨y, ⟨h1, sub_look h2, h3⟩, h4⟩
    | _ => exact hq
theorem sW_take {κ α : Type} {p : κ → α → HProp} {b : κ} {x : α} [t : Take p b H x R] (h : sW P n c E ((star (p b x) (R))) Q) : sW P n c E H Q := sW_pre h t.eqv
theorem sL_take {κ α : Type} {p : κ → α → HProp} {b : κ} {x : α} [t : Take p b H x R] (h : sL P n ops os E ((star (p b x) (R))) Q) : sL P n ops os E H Q := sL_pre h t.eqv
theorem sW_ex {α : Type} {A : α → HProp} (h : ∀ x, sW P n c E ((star (A x) (R))) Q) : sW P n c E ((star (Sl.ex A) (R))) Q := fun a w G he hm => by
  obtain ⟨x, hx⟩ := (hm.mono (star_assoc _ _ _)).ex
  exact h x a w G he (hx.mono (star_assoc' _ _ _))
theorem sL_ex {α : Type} {A : α → HProp} (h : ∀ x, sL P n ops os E ((star (A x) (R))) Q) : sL P n ops os E ((star (Sl.ex A) (R))) Q := fun a w G he hm => by
  obtain ⟨x, hx⟩ := (hm.mono (star_assoc _ _ _)).ex
  exact h x a w G he (hx.mono (star_assoc' _ _ _))
theorem sW_ex1 {α : Type} {A : α → HProp} (h : ∀ x, sW P n c E (A x) Q) : sW P n c E (Sl.ex A) Q := fun a w G he hm => by
  obtain ⟨x, hx⟩ := hm.ex
  exact h x a w G he hx
theorem sW_pur {φ : Prop} (h : φ → sW P n c E R Q) : sW P n c E ((star (pure φ) (R))) Q := fun a w G he hm => by
  obtain ⟨hp, hm⟩ := MW.pure (hm.mono (star_assoc _ _ _))
  exact h hp a w G he hm
theorem sL_pur {φ : Prop} (h : φ → sL P n ops os E R Q) : sL P n ops os E ((star (pure φ) (R))) Q := fun a w G he hm => by
  obtain ⟨hp, hm⟩ := MW.pure (hm.mono (star_assoc _ _ _))
  exact h hp a w G he hm
theorem sW_assoc {A B : HProp} (h : sW P n c E ((star (A) (((star (B) (R)))))) Q) : sW P n c E ((star (((star (A) (B)))) (R))) Q := sW_pre h (star_assoc _ _ _)
theorem sL_assoc {A B : HProp} (h : sL P n ops os E ((star (A) (((star (B) (R)))))) Q) : sL P n ops os E ((star (((star (A) (B)))) (R))) Q := sL_pre h (star_assoc _ _ _)
end

/- ---------- what follows from what ---------- -/
theorem ent_take {κ α : Type} {p : κ → α → HProp} {b : κ} {x : α} {H R K : HProp} [t : Take p b H x R] (h : (ent (R) (K))) : (ent (H) (((star (p b x) (K))))) := ent_trans t.eqv (star_mono (ent_refl _) h)
theorem ent_last {κ α : Type} {p : κ → α → HProp} {b : κ} {x : α} {H R : HProp} [t : Take p b H x R] : (ent (H) (p b x)) := ent_trans t.eqv (star_left _ _)
theorem ent_ex {α : Type} {A : α → HProp} {H : HProp} (x : α) (h : (ent (H) (A x))) : (ent (H) (Sl.ex A)) := fun O I hh => ⟨x, h O I hh⟩
theorem ent_exl {α : Type} {A : α → HProp} {K : HProp} (h : ∀ x, (ent (A x) (K))) : (ent (Sl.ex A) (K)) := fun O I ⟨x, hh⟩ => h x O I hh
theorem ent_pur {φ : Prop} {H K : HProp} (hp : φ) (h : (ent (H) (K))) : (ent (H) (((star (pure φ) (K))))) := ent_trans h (star_pure hp)
/- ---------- arithmetic that stays in its bounds ---------- -/
def Fits : IntKind → Int → Prop
  | .i8, n => -128 ≤ n ∧ n ≤ 127
  | .i16, n => -32768 ≤ n ∧ n ≤ 32767
  | .i32, n => -2147483648 ≤ n ∧ n ≤ 2147483647
  | .i64, n => -9223372036854775808 ≤ n ∧ n ≤ 9223372036854775807
  | .u8, n => 0 ≤ n ∧ n ≤ 255
  | .u16, n => 0 ≤ n ∧ n ≤ 65535
  | .u32, n => 0 ≤ n ∧ n ≤ 4294967295
  | .u64, n => 0 ≤ n ∧ n ≤ 18446744073709551615
theorem wrap_fits {k : IntKind} {n : Int} (h : Fits k n) : k.wrap n = n := by
  cases k <;> simp only [Fits] at h <;> simp [IntKind.wrap, IntKind.bits, IntKind.signed] <;> omega

section
variable {P : Program} {T : Tab} {n : Nat} {ops : Array Oper} {os : List Oper} {E : Env} {H : HProp} {Q : Post} {d ty t t' : Nat} {pos : String} {after : Array Edge} {g : Option (Nat × Bool)} {x y : Operand} {k : IntKind} {a b : Int}
theorem sL_add [hTT : HasTab P T] (kk : sL P n ops os ((d, .int k (a + b)) :: E) H Q) (hg : gdV ops g E = some true := by rfl) (hd : Nat.blt d n = true := by rfl) (hx : ev E x = some (.int k a) := by rfl) (hy : ev E y = some (.int k b) := by rfl) (hf : Fits k (a + b) := by simp only [Fits]; omega) : sL P n ops (⟨some d, .binOp .add t x y t', ty, pos, after, g⟩ :: os) E H Q :=
  sL_pure (v := .int k (a + b)) kk hg hd (by simp [evalPure, hx, hy, binV, wrap_fits hf])
theorem sL_sub [hTT : HasTab P T] (kk : sL P n ops os ((d, .int k (a - b)) :: E) H Q) (hg : gdV ops g E = some true := by rfl) (hd : Nat.blt d n = true := by rfl) (hx : ev E x = some (.int k a) := by rfl) (hy : ev E y = some (.int k b) := by rfl) (hf : Fits k (a - b) := by simp only [Fits]; omega) : sL P n ops (⟨some d, .binOp .sub t x y t', ty, pos, after, g⟩ :: os) E H Q :=
  sL_pure (v := .int k (a - b)) kk hg hd (by simp [evalPure, hx, hy, binV, wrap_fits hf])
theorem sL_mul [hTT : HasTab P T] (kk : sL P n ops os ((d, .int k (a * b)) :: E) H Q) (hg : gdV ops g E = some true := by rfl) (hd : Nat.blt d n = true := by rfl) (hx : ev E x = some (.int k a) := by rfl) (hy : ev E y = some (.int k b) := by rfl) (hf : Fits k (a * b) := by simp only [Fits]; omega) : sL P n ops (⟨some d, .binOp .mul t x y t', ty, pos, after, g⟩ :: os) E H Q :=
  sL_pure (v := .int k (a * b)) kk hg hd (by simp [evalPure, hx, hy, binV, wrap_fits hf])
theorem sL_conv [hTT : HasTab P T] {k' : IntKind} {s1 s2 b1 b2 : Nat} {z1 z2 : List Value} (kk : sL P n ops os ((d, .int k' a) :: E) H Q) (hg : gdV ops g E = some true := by rfl) (hd : Nat.blt d n = true := by rfl) (hx : ev E x = some (.int k a) := by rfl) (hs : T t = some ⟨.int k, s1, b1, z1⟩ := by rfl) (ht : T t' = some ⟨.int k', s2, b2, z2⟩ := by rfl) (hf : Fits k' a := by simp only [Fits]; omega) : sL P n ops (⟨some d, .convert t t' x, ty, pos, after, g⟩ :: os) E H Q :=
  sL_pure (v := .int k' a) kk hg hd (by simp [evalPure, hx, hs, ht, wrap_fits hf])
/-- what was reckoned, spelled otherwise -/
theorem sL_as {v v' : Value} {E' : Env} (h : v = v') (kk : sL P n ops os ((d, v') :: E') H Q) : sL P n ops os ((d, v) :: E') H Q := h ▸ kk
end
end Go.Sl
namespace Go.Sl
open Go
variable [Amb]

/-- what is owned may be given up -/
theorem MW.own_ro {w : World} {El k : Nat} {a : Option Addr} {n c : Nat} {cs : List Value} {G : HProp} (hm : MW w ((star (own El k a (n, c, cs)) (G)))) : MW w ((star (ro k a (n, c, cs)) (G))) := by
  obtain ⟨hl, hall, h⟩ := own_cases hm
  rcases h with ⟨rfl, rfl, rfl, h⟩ | ⟨g, cur, rfl, h1, h2, h3, h4, h⟩
  · refine h.mono fun O I hg => ⟨Hp.emp, O, fun _ => .inl rfl, Hp.emp_le _, Hp.le_refl _, ⟨hl, Nat.le_refl _, hall, .inl ⟨rfl, rfl, rfl⟩⟩, hg⟩
  · refine h.freeze.mono (star_mono ?_ (ent_refl _))
    intro O I hi
    have hi' : I g = some (.cells ⟨cur.toList⟩ El (0, 0)) := hi
    refine ⟨hl, h1, hall, .inr ⟨g, 0, cur.toList, El, (0, 0), rfl, .inr ⟨hi', ?_⟩⟩⟩
    rw [hl, List.drop_zero, h4]
theorem blk_ro {w : World} {b El n : Nat} {fr : Nat × Nat} {cs : List Value} {k : Nat} {G : HProp} (hm : MW w ((star (blk b (.cells ⟨cs⟩ El fr)) (G)))) (hl : cs.length = n * k) (hc : cs.all isCell = true) : MW w ((star (ro k (some ⟨b, 0, none⟩) (n, n, cs)) (G))) := by
  refine hm.freeze.mono (star_mono ?_ (ent_refl _))
  intro O I hi
  exact ⟨hl, Nat.le_refl _, hc, .inr ⟨b, 0, cs, El, fr, rfl, .inr ⟨hi, by simp⟩⟩⟩

section
variable {P : Program} {T : Tab} {n : Nat} {c : Code} {ops : Array Oper} {os : List Oper} {E : Env} {H R : HProp} {Q : Post}
theorem sL_freeze {El k : Nat} {a : Option Addr} {x : Nat × Nat × List Value} [t : Take (own El k) a H x R] (h : sL P n ops os E ((star (ro k a x) (R))) Q) : sL P n ops os E H Q := fun ac w G he hm =>
  h ac w G he ((MW.own_ro ((hm.mono (star_mono t.eqv (ent_refl _))).mono (star_assoc _ _ _))).mono (star_assoc' _ _ _))
theorem sW_freeze {El k : Nat} {a : Option Addr} {x : Nat × Nat × List Value} [t : Take (own El k) a H x R] (h : sW P n c E ((star (ro k a x) (R))) Q) : sW P n c E H Q := fun ac w G he hm =>
  h ac w G he ((MW.own_ro ((hm.mono (star_mono t.eqv (ent_refl _))).mono (star_assoc _ _ _))).mono (star_assoc' _ _ _))
/-- a literal's block becomes a slice that is only read -/
theorem sL_litro (k m : Nat) {b El : Nat} {fr : Nat × Nat} {cs : List Value} [t : Take blk b H (.cells ⟨cs⟩ El fr) R] (h : sL P n ops os E ((star (ro k (some ⟨b, 0, none⟩) (m, m, cs)) (R))) Q) (hl : lenIs cs (m * k) = true := by rfl) (hc : cs.all isCell = true := by rfl) : sL P n ops os E H Q := fun ac w G he hm =>
  h ac w G he ((blk_ro ((hm.mono (star_mono t.eqv (ent_refl _))).mono (star_assoc _ _ _)) (lenIs_eq hl) hc).mono (star_assoc' _ _ _))
end

/- ---------- guards ---------- -/
section
variable {P : Program} {n : Nat} {ops : Array Oper} {rest : List Oper} {E : Env} {H : HProp} {Q : Post} {op : Op} {ty : Nat} {pos : String} {after : Array Edge} {j d : Nat} {want : Bool} {dst : Option Tmp}
theorem sL_guard {b : Bool} (hj : dstAt ops.toList j = some d) (hb : look d E = some (.bool b)) (ht : b = true → sL P n ops (⟨dst, op, ty, pos, after, some (j, want)⟩ :: rest) ((d, .bool true) :: E) H Q)
    (hf : b = false → sL P n ops (⟨dst, op, ty, pos, after, some (j, want)⟩ :: rest) ((d, .bool false) :: E) H Q) : sL P n ops (⟨dst, op, ty, pos, after, some (j, want)⟩ :: rest) E H Q := have _ := hj; sL_split ht hf hb
theorem sL_guardD {p : Prop} {dp : Decidable p} (hj : dstAt ops.toList j = some d) (hb : look d E = some (.bool (@decide p dp))) (ht : p → sL P n ops (⟨dst, op, ty, pos, after, some (j, want)⟩ :: rest) ((d, .bool true) :: E) H Q)
    (hf : ¬ p → sL P n ops (⟨dst, op, ty, pos, after, some (j, want)⟩ :: rest) ((d, .bool false) :: E) H Q) : sL P n ops (⟨dst, op, ty, pos, after, some (j, want)⟩ :: rest) E H Q :=
  sL_guard hj hb (fun h => ht (of_decide_eq_true h)) (fun h => hf (of_decide_eq_false h))
theorem sL_guardN {p : Prop} {dp : Decidable p} (hj : dstAt ops.toList j = some d) (hb : look d E = some (.bool (!@decide p dp))) (ht : ¬ p → sL P n ops (⟨dst, op, ty, pos, after, some (j, want)⟩ :: rest) ((d, .bool true) :: E) H Q)
    (hf : p → sL P n ops (⟨dst, op, ty, pos, after, some (j, want)⟩ :: rest) ((d, .bool false) :: E) H Q) : sL P n ops (⟨dst, op, ty, pos, after, some (j, want)⟩ :: rest) E H Q :=
  sL_guard hj hb (fun h => ht (of_decide_eq_false (by simpa using h))) (fun h => hf (of_decide_eq_true (by simpa using h)))
end

/- ---------- elements, parts of slices and strings ---------- -/
/-- the address of a cell of a slice -/
def elemP (a : Option Addr) (j : Nat) : Value := .pointer (a.map (·.add j))

section
variable {P : Program} {T : Tab} {n : Nat} {ops : Array Oper} {rest : List Oper} {E : Env} {H R : HProp} {Q : Post} {pos : String} {after : Array Edge} {g : Option (Nat × Bool)} {ty : TypeId} {d : Nat} {dst : Option Tmp}

theorem idx_run {st El : Nat} {si ei : TI} (hT : TabOk P T) (hst : T st = some si) (hsk : si.k = .slice El) (hei : T El = some ei) {b : Addr} {sn sc : Nat} {ik : IntKind} {i : Int} (h0 : 0 ≤ i) (h1 : i < sn) (w : World) :
    (Instr.indexAt st (.slice (some b) sn sc) (.int ik i)).run P w = .ok (.pointer (some (b.add (i.toNat * ei.size)))) w := by
  have hu := underlying_run (und_slice (hT _ _ hst) hsk) w
  have hz := size_of (hT _ _ hei) w
  simp [Instr.indexAt, asIntOf, hu, hz, h0, h1]

/-- an element's address, of a slice that is owned or only read -/
theorem sL_idx [hTT : HasTab P T] {st El k eb : Nat} {ek : TK} {ez : List Value} {si : TI} {sx ix : Operand} {a : Option Addr} {sn sc : Nat} {ik : IntKind} {i : Int}
    (kk : sL P n ops rest ((d, elemP a (i.toNat * k)) :: E) H Q)
    (hs : ev E sx = some (.slice a sn sc)) (hi : ev E ix = some (.int ik i)) (h0 : 0 ≤ i) (h1 : i < sn) (hne : ∀ w G, MW w ((star (H) (G))) → a = none → sn = 0)
    (hst : T st = some si := by rfl) (hsk : si.k = .slice El := by rfl) (hei : T El = some ⟨ek, k, eb, ez⟩ := by rfl) (hg : gdV ops g E = some true := by rfl) (hd : Nat.blt d n = true := by rfl) :
    sL P n ops (⟨some d, .indexAddr st sx ix, ty, pos, after, g⟩ :: rest) E H Q :=
  sL_op hg hd fun ac w G he hm => by
    refine ⟨elemP a (i.toNat * k), w, H, .inl ?_, hm, kk⟩
    cases a with
    | none => have := hne w G hm rfl; omega
    | some b =>
      simp only [execOp, he.ev hs, he.ev hi]
      refine run_value ?_
      rw [idx_run hTT.ok hst hsk hei h0 h1]
      rfl
theorem sL_idxR [hTT : HasTab P T] {st El k eb : Nat} {ek : TK} {ez : List Value} {si : TI} {sx ix : Operand} {a : Option Addr} {sn sc sc' : Nat} {cs : List Value} {ik : IntKind} {i : Int} [lk : Look (ro k) a H (sn, sc', cs)]
    (kk : sL P n ops rest ((d, elemP a (i.toNat * k)) :: E) H Q)
    (hs : ev E sx = some (.slice a sn sc)) (hi : ev E ix = some (.int ik i)) (hst : T st = some si) (hsk : si.k = .slice El) (hei : T El = some ⟨ek, k, eb, ez⟩) (h0 : 0 ≤ i := by omega) (h1 : i < sn := by omega)
    (hg : gdV ops g E = some true := by rfl) (hd : Nat.blt d n = true := by rfl) :
    sL P n ops (⟨some d, .indexAddr st sx ix, ty, pos, after, g⟩ :: rest) E H Q :=
  sL_idx kk hs hi h0 h1 (fun w G hm ha => by
    obtain ⟨_, _, _, h⟩ := ro_cases (hm.mono (star_mono lk.eqv (ent_refl _)))
    rcases h with ⟨_, h, _⟩ | ⟨b, _, _, _, _, h, _⟩
    · exact h
    · rw [ha] at h; cases h) hst hsk hei hg hd
theorem sL_idxO [hTT : HasTab P T] {st El k eb : Nat} {ek : TK} {ez : List Value} {si : TI} {sx ix : Operand} {a : Option Addr} {sn sc sc' : Nat} {cs : List Value} {ik : IntKind} {i : Int} [tk : Take (own El k) a H (sn, sc', cs) R]
    (kk : sL P n ops rest ((d, elemP a (i.toNat * k)) :: E) H Q)
    (hs : ev E sx = some (.slice a sn sc)) (hi : ev E ix = some (.int ik i)) (hst : T st = some si) (hsk : si.k = .slice El) (hei : T El = some ⟨ek, k, eb, ez⟩) (h0 : 0 ≤ i := by omega) (h1 : i < sn := by omega)
    (hg : gdV ops g E = some true := by rfl) (hd : Nat.blt d n = true := by rfl) :
    sL P n ops (⟨some d, .indexAddr st sx ix, ty, pos, after, g⟩ :: rest) E H Q :=
  sL_idx kk hs hi h0 h1 (fun w G hm ha => by
    obtain ⟨_, _, h⟩ := own_cases ((hm.mono (star_mono tk.eqv (ent_refl _))).mono (star_assoc _ _ _))
    rcases h with ⟨_, h, _⟩ | ⟨b, _, h, _⟩
    · exact h
    · rw [ha] at h; cases h) hst hsk hei hg hd

theorem add_none (b off j : Nat) : (⟨b, off, none⟩ : Addr).add j = ⟨b, off + j, none⟩ := by
  unfold Addr.add; split
  · rename_i h; subst h; rfl
  · rfl

theorem dropL_some {n : Nat} {l : List Value} (h : n ≤ l.length) : dropL n l = some (l.drop n) := by
  induction n generalizing l with
  | zero => rfl
  | succ n ih => cases l with
    | nil => simp at h
    | cons v l => simp only [dropL, List.drop_succ_cons]; exact ih (by simpa using h)
theorem takeL_some {n : Nat} {l : List Value} (h : n ≤ l.length) : takeL n l = some (l.take n) := by
  induction n generalizing l with
  | zero => rfl
  | succ n ih => cases l with
    | nil => simp at h
    | cons v l => simp only [takeL, ih (show n ≤ l.length by simpa using h), List.take_succ_cons]
/-- what a cell, or some, of a slice holds -/
theorem ldV_slice {i : TI} {c cs : List Value} {off j m : Nat} {v : Value} (hz : 0 < i.size) (hc : (c.drop off).take m = cs) (h : ldV i cs j = some v) : ldV i c (off + j) = some v := by
  have one : ∀ j v, getL cs j = some v → getL c (off + j) = some v := by
    intro j v h
    rw [getL_eq] at h ⊢
    rw [← hc, List.getElem?_take] at h
    split at h
    · simpa using h
    · cases h
  have agg : ∀ v, partV j i.size true cs = some v → partV (off + j) i.size true c = some v := by
    intro v h
    unfold partV at h ⊢
    rw [cond_true] at h ⊢
    split at h
    · rename_i r hr
      split at h
      · rename_i q hq
        cases h
        obtain ⟨h1, h2⟩ := dropL_eq hr
        obtain ⟨h3, h4⟩ := takeL_eq hq
        have hlen : cs.length ≤ c.length - off := by rw [← hc]; simp; omega
        have hr' : r.length = cs.length - j := by rw [← h1]; simp
        have hm : cs.length ≤ m := by rw [← hc]; simp; omega
        rw [dropL_some (show off + j ≤ c.length by omega)]
        simp only
        rw [takeL_some (show i.size ≤ (c.drop (off + j)).length by simp; omega)]
        simp only [Option.some.injEq, Value.agg.injEq, Array.mk.injEq]
        rw [← h3, ← h1, ← hc, List.drop_take, List.take_take, List.drop_drop]
        congr 1
        omega
      · cases h
    · cases h
  unfold ldV at h ⊢
  cases hk : i.k <;> rw [hk] at h <;> simp only at h ⊢ <;> first | exact agg _ h | exact one _ _ h | cases h
theorem elem_run {w : World} {b off j El t : Nat} {c cs : List Value} {fr : Nat × Nat} {i : TI} {v : Value} (hT : TabOk P T) (hb : w.heap[b]? = some (.cells ⟨c⟩ El fr)) {m : Nat} (hc : (c.drop off).take m = cs) (ht : T t = some i) (hz : 0 < i.size) (hv : ldV i cs j = some v) :
    (Instr.loadAt t (elemP (some ⟨b, off, none⟩) j)).run P w = .ok v w := by
  simp only [Instr.loadAt, elemP, Option.map_some, Instr.sureAddr, Sem.run_bind, Sem.run_pure, Result.andThen_ok, add_none]
  exact loadVar_run hT hb ht (ldV_slice hz hc hv)

theorem sL_loadR [hTT : HasTab P T] {t k : Nat} {x : Operand} {a : Option Addr} {j sn sc : Nat} {cs : List Value} {i : TI} {v : Value} [lk : Look (ro k) a H (sn, sc, cs)] (kk : sL P n ops rest (putE dst v E) H Q)
    (hx : ev E x = some (elemP a j)) (hv : ldV i cs j = some v) (ht : T t = some i := by rfl) (hz : Nat.blt 0 i.size = true := by rfl) (hg : gdV ops g E = some true := by rfl) (hd : okD n dst = true := by rfl) :
    sL P n ops (⟨dst, .load t x, ty, pos, after, g⟩ :: rest) E H Q :=
  sL_op hg hd fun ac w G he hm => by
    refine ⟨v, w, H, .inl ?_, hm, kk⟩
    simp only [execOp, he.ev hx]
    refine run_value ?_
    have hz' : 0 < i.size := Nat.le_of_ble_eq_true hz
    obtain ⟨h1, h2, h3, h⟩ := ro_cases (hm.mono (star_mono lk.eqv (ent_refl _)))
    have hnil : cs = [] → False := by
      intro hcs
      subst hcs
      unfold ldV at hv
      have hp : partV j i.size true [] = some v → False := by
        intro h
        unfold partV at h
        rw [cond_true] at h
        split at h
        · rename_i r hr
          split at h
          · rename_i q hq
            obtain ⟨e1, e2⟩ := dropL_eq hr
            obtain ⟨e3, e4⟩ := takeL_eq hq
            simp at e1 e2
            subst e1
            simp at e4
            omega
          · cases h
        · cases h
      cases hk : i.k <;> rw [hk] at hv <;> simp only at hv <;> first | exact hp hv | (cases hv) | (cases j <;> cases hv)
    rcases h with ⟨_, h4, _⟩ | ⟨b, off, c', El, fr, rfl, h4 | ⟨h4, h5⟩⟩
    · exact absurd (List.eq_nil_of_length_eq_zero (by rw [h1, h4]; simp)) hnil
    · exact absurd h4 hnil
    · exact elem_run hTT.ok h4 h5 ht hz' hv
theorem sL_loadO [hTT : HasTab P T] {t El k : Nat} {x : Operand} {a : Option Addr} {j sn sc : Nat} {cs : List Value} {i : TI} {v : Value} [tk : Take (own El k) a H (sn, sc, cs) R] (kk : sL P n ops rest (putE dst v E) H Q)
    (hx : ev E x = some (elemP a j)) (hv : ldV i cs j = some v) (ht : T t = some i := by rfl) (hz : Nat.blt 0 i.size = true := by rfl) (hg : gdV ops g E = some true := by rfl) (hd : okD n dst = true := by rfl) :
    sL P n ops (⟨dst, .load t x, ty, pos, after, g⟩ :: rest) E H Q :=
  sL_op hg hd fun ac w G he hm => by
    refine ⟨v, w, H, .inl ?_, hm, kk⟩
    simp only [execOp, he.ev hx]
    refine run_value ?_
    have hz' : 0 < i.size := Nat.le_of_ble_eq_true hz
    obtain ⟨h1, h2, h⟩ := own_cases ((hm.mono (star_mono tk.eqv (ent_refl _))).mono (star_assoc _ _ _))
    rcases h with ⟨rfl, rfl, _⟩ | ⟨b, cur, rfl, h3, h4, h5, h6, hmb⟩
    · have : cs = [] := List.eq_nil_of_length_eq_zero (by simpa using h1)
      subst this
      exfalso
      have hp : partV j i.size true [] = some v → False := by
        intro h
        unfold partV at h
        rw [cond_true] at h
        split at h
        · rename_i r hr
          split at h
          · rename_i q hq
            obtain ⟨e1, e2⟩ := dropL_eq hr
            obtain ⟨e3, e4⟩ := takeL_eq hq
            simp at e1 e2
            subst e1
            simp at e4
            omega
          · cases h
        · cases h
      unfold ldV at hv
      cases hk : i.k <;> rw [hk] at hv <;> simp only at hv <;> first | exact hp hv | (cases hv) | (cases j <;> cases hv)
    · exact elem_run hTT.ok (c := cur.toList) hmb.blk (m := sn * k) (by simpa using h6) ht hz' hv

/-- a string's byte -/
theorem sL_strIdx [hTT : HasTab P T] {t : Nat} {x ix : Operand} {l : List UInt8} {ik : IntKind} {i : Int} {si : TI} (kk : sL P n ops rest ((d, byteV (l.getD i.toNat 0)) :: E) H Q)
    (hx : ev E x = some (.string ⟨⟨l⟩⟩)) (hi : ev E ix = some (.int ik i)) (h0 : 0 ≤ i := by omega) (h1 : i < l.length := by omega) (ht : T t = some si := by rfl) (hk : si.k = .str := by rfl) (hg : gdV ops g E = some true := by rfl) (hd : Nat.blt d n = true := by rfl) :
    sL P n ops (⟨some d, .index t x ix, ty, pos, after, g⟩ :: rest) E H Q :=
  sL_op hg hd fun ac w G he hm => by
    refine ⟨byteV (l.getD i.toNat 0), w, H, .inl ?_, hm, kk⟩
    simp only [execOp, he.ev hx, he.ev hi]
    refine run_value ?_
    have hu := underlying_run (und_str (hTT.ok _ _ ht) hk) w
    have hlt : i.toNat < l.length := by omega
    have hb : (ByteArray.mk (Array.mk l))[i.toNat]? = some l[i.toNat] := by
      have : i.toNat < (ByteArray.mk (Array.mk l)).size := hlt
      rw [getElem?_pos (c := ByteArray.mk (Array.mk l)) (i := i.toNat) (h := this)]; rfl
    simp [Instr.index, asIntOf, hu, h0, hb, byteV, List.getD_eq_getElem?_getD, hlt]

/-- bounds of a part -/
def bndV (E : Env) (dflt : Int) : Option Operand → Option Int
  | none => some dflt
  | some x => match ev E x with | some (.int _ i) => some i | _ => none
theorem bounds_run {E : Env} {ac : Act} (he : EnvOk n E ac) {lo hi : Option Operand} {len cap : Nat} {li hi' : Int} (hlo : bndV E 0 lo = some li) (hhi : bndV E len hi = some hi') (h0 : 0 ≤ li) (h1 : li ≤ hi') (h2 : hi' ≤ cap) (b : Bool) (w : World) :
    (Instr.sliceBounds b len cap (lo.map ac.eval) (hi.map ac.eval) none).run P w = .ok (li.toNat, hi'.toNat, cap) w := by
  have h3 : li ≤ (hi'.toNat : Int) := by omega
  have h4 : 0 ≤ hi' := by omega
  have key : ∀ (o : Option Operand) (dflt i : Int), bndV E dflt o = some i → (o = none ∧ i = dflt) ∨ ∃ x k, o = some x ∧ ac.eval x = .int k i := by
    intro o dflt i h
    cases o with
    | none => simp only [bndV, Option.some.injEq] at h; exact .inl ⟨rfl, h.symm⟩
    | some x =>
      simp only [bndV] at h
      split at h
      · rename_i k j hj; cases h; exact .inr ⟨x, k, rfl, he.ev hj⟩
      · cases h
  rcases key _ _ _ hlo with ⟨rfl, rfl⟩ | ⟨x, k, rfl, hx⟩ <;> rcases key _ _ _ hhi with ⟨rfl, rfl⟩ | ⟨y, k', rfl, hy⟩
  · simp [Instr.sliceBounds]
  · simp [Instr.sliceBounds, Instr.sliceBound, asIntOf, hy, h2, h4]
  · have h5 : li ≤ (len : Int) := by omega
    simp [Instr.sliceBounds, Instr.sliceBound, asIntOf, hx, h0, h5]
  · have h6 : li ≤ max hi' 0 := by omega
    simp [Instr.sliceBounds, Instr.sliceBound, asIntOf, hx, hy, h0, h2, h3, h4, h6]

/-- a part of a string -/
theorem sL_strSl [hTT : HasTab P T] {t : Nat} {x : Operand} {lo hi : Option Operand} {l : List UInt8} {li hi' : Int} {si : TI} (kk : sL P n ops rest ((d, .string ⟨⟨(l.take hi'.toNat).drop li.toNat⟩⟩) :: E) H Q)
    (hx : ev E x = some (.string ⟨⟨l⟩⟩)) (hlo : bndV E 0 lo = some li) (hhi : bndV E l.length hi = some hi') (h0 : 0 ≤ li := by omega) (h1 : li ≤ hi' := by omega) (h2 : hi' ≤ l.length := by omega)
    (ht : T t = some si := by rfl) (hk : si.k = .str := by rfl) (hg : gdV ops g E = some true := by rfl) (hd : Nat.blt d n = true := by rfl) :
    sL P n ops (⟨some d, .slice t x lo hi none, ty, pos, after, g⟩ :: rest) E H Q :=
  sL_op hg hd fun ac w G he hm => by
    refine ⟨_, w, H, .inl ?_, hm, kk⟩
    simp only [execOp, he.ev hx]
    refine run_value ?_
    have hu := underlying_run (und_str (hTT.ok _ _ ht) hk) w
    have hsz : (ByteArray.mk (Array.mk l)).size = l.length := rfl
    have hb := bounds_run (P := P) he (cap := l.length) hlo hhi h0 h1 h2 false w
    have hex : (ByteArray.mk (Array.mk l)).extract li.toNat hi'.toNat = ByteArray.mk (Array.mk ((l.take hi'.toNat).drop li.toNat)) := by
      apply ByteArray.ext
      rw [ByteArray.data_extract]
      apply Array.ext'
      simp [List.extract_eq_take_drop, List.drop_take]
    have hsl : (Instr.slice t (.string ⟨⟨l⟩⟩) (lo.map ac.eval) (hi.map ac.eval) none).run P w = .ok (.string ⟨⟨(l.take hi'.toNat).drop li.toNat⟩⟩) w := by
      simp [Instr.slice, hu, hsz, hb, hex]
    simp [Instr.sliceAt, hu, hsl]

/-- a part of a slice that is only read -/
theorem sL_roSl [hTT : HasTab P T] {st El k eb : Nat} {ek : TK} {ez : List Value} {si : TI} {x : Operand} {lo hi : Option Operand} {a : Option Addr} {sn sc : Nat} {cs : List Value} {li hi' : Int} [lk : Look (ro k) a H (sn, sc, cs)]
    (kk : ∀ a' c', sL P n ops rest ((d, .slice a' (hi'.toNat - li.toNat) c') :: E) ((star (ro k a' (hi'.toNat - li.toNat, c', (cs.drop (li.toNat * k)).take ((hi'.toNat - li.toNat) * k))) (H))) Q)
    (hx : ev E x = some (.slice a sn sc)) (hlo : bndV E 0 lo = some li) (hhi : bndV E sn hi = some hi') (hst : T st = some si) (hsk : si.k = .slice El) (hei : T El = some ⟨ek, k, eb, ez⟩) (h0 : 0 ≤ li := by omega) (h1 : li ≤ hi' := by omega) (h2 : hi' ≤ sn := by omega)
    (hg : gdV ops g E = some true := by rfl) (hd : Nat.blt d n = true := by rfl) :
    sL P n ops (⟨some d, .slice st x lo hi none, ty, pos, after, g⟩ :: rest) E H Q :=
  sL_op hg hd fun ac w G he hm => by
    obtain ⟨e1, e2, e3, h⟩ := ro_cases (hm.mono (star_mono lk.eqv (ent_refl _)))
    have hu := underlying_run (und_slice (hTT.ok _ _ hst) hsk) w
    have hz := size_of (hTT.ok _ _ hei) w
    have hb := bounds_run (P := P) he (len := sn) (cap := sc) hlo hhi h0 h1 (by omega) true w
    have hle : li.toNat ≤ hi'.toNat ∧ hi'.toNat ≤ sn := by omega
    refine ⟨_, w, (star (ro k (if sc = li.toNat then a else a.map (·.add (li.toNat * k))) (hi'.toNat - li.toNat, sc - li.toNat, (cs.drop (li.toNat * k)).take ((hi'.toNat - li.toNat) * k))) (H)), .inl ?_, ?_, kk _ _⟩
    · simp only [execOp, he.ev hx]
      refine run_value ?_
      have hsl : (Instr.slice st (.slice a sn sc) (lo.map ac.eval) (hi.map ac.eval) none).run P w = .ok (.slice (if sc = li.toNat then a else a.map (·.add (li.toNat * k))) (hi'.toNat - li.toNat) (sc - li.toNat)) w := by
        simp [Instr.slice, hu, hb, hz]
      simp [Instr.sliceAt, hu, hsl]
    · refine hm.mono (star_mono ?_ (ent_refl _))
      intro O I hh
      have hr := lk.eqv O I hh
      refine ⟨Hp.emp, O, fun _ => .inl rfl, Hp.emp_le _, Hp.le_refl _, ?_, hh⟩
      obtain ⟨f1, f2, f3, f4⟩ := hr
      simp only at f1 f2 f3 f4
      have hmul : (hi'.toNat - li.toNat) * k ≤ cs.length - li.toNat * k := by
        rw [f1, ← Nat.sub_mul]; exact Nat.mul_le_mul_right _ (by omega)
      have hlen : ((cs.drop (li.toNat * k)).take ((hi'.toNat - li.toNat) * k)).length = (hi'.toNat - li.toNat) * k := by
        rw [List.length_take, List.length_drop]; omega
      refine ⟨hlen, by simp only; omega, ?_, ?_⟩
      · rw [List.all_eq_true] at f3 ⊢
        intro v hv
        exact f3 v (List.mem_of_mem_drop (List.mem_of_mem_take hv))
      · rcases f4 with ⟨ha, hn, hc0⟩ | ⟨b, off, c, El', fr, ha, hcs⟩
        · left
          subst ha
          refine ⟨by split <;> rfl, by simp only; omega, by simp only; omega⟩
        · right
          subst ha
          by_cases hcl : sc = li.toNat
          · refine ⟨b, off, c, El', fr, by simp [hcl], .inl ?_⟩
            apply List.eq_nil_of_length_eq_zero
            rw [hlen]
            have : hi'.toNat - li.toNat = 0 := by omega
            rw [this]; simp
          · refine ⟨b, off + li.toNat * k, c, El', fr, by simp [hcl, add_none], ?_⟩
            rcases hcs with hcs | ⟨hI, hcs⟩
            · left; simp [hcs]
            · right
              refine ⟨hI, ?_⟩
              rw [hlen, ← List.drop_drop]
              conv => rhs; rw [← hcs]
              rw [List.drop_take, List.take_take]
              congr 1
              omega
end
end Go.Sl
namespace Go.Sl
open Go
variable [Amb]
section
variable {P : Program} {T : Tab} {n : Nat} {ops : Array Oper} {rest : List Oper} {E : Env} {H R : HProp} {Q : Post} {pos : String} {after : Array Edge} {g : Option (Nat × Bool)} {ty : TypeId} {d : Nat} {dst : Option Tmp}

theorem toStr_run {w : World} {a : Option Addr} {sn sc : Nat} {l : List UInt8} (hb : Brings P w 1 sn (.slice a sn sc) (bytesV l)) : (Conv.bytesToString (.slice a sn sc)).run P w = .ok (.string ⟨⟨l⟩⟩) w := by
  obtain ⟨_, hf, hl, _⟩ := hb
  have hf' := hf w.drawn
  cases a with
  | none =>
    simp only [Builtin.firstCells, Sem.run_pure] at hf'
    have : l = [] := by
      have h := (Result.ok.injEq _ _ _ _ |>.mp hf').1
      have h2 := congrArg Array.size h
      simp [bytesV] at h2
      exact List.eq_nil_of_length_eq_zero h2.symm
    rw [this]; rfl
  | some x =>
    simp only [Builtin.firstCells, Nat.mul_one] at hf'
    have hcells : (bytesV l).toArray = ((l.map fun b => (b.toNat : Int)).map (Value.int .u8)).toArray := by
      simp [bytesV, byteV, Function.comp_def]
    rw [hcells] at hf'
    rw [run_bytesToString w x sn sc _ hf', foldl_push_byteCells]
    congr 3
    simp [ByteArray.empty, ByteArray.emptyWithCapacity]
    rfl

theorem conv_str {w : World} {s t : Nat} {si ti ei : TI} {e : Nat} {v r : Value} (hT : TabOk P T) (hs : T s = some si) (hsk : si.k = .slice e) (he : T e = some ei) (hek : ei.k = .int .u8) (ht : T t = some ti) (htk : ti.k = .str)
    {a : Option Addr} {sn sc : Nat} (hv : v = .slice a sn sc) (h : (Conv.bytesToString v).run P w = .ok r w) : (convert s t v).run P w = .ok r w := by
  subst hv
  rw [run_convert_bytes_string w s t e a sn sc (und_slice (hT _ _ hs) hsk) (und_int (hT _ _ he) hek) (und_str (hT _ _ ht) htk)]
  exact h

theorem sL_toStrR [hTT : HasTab P T] {s t e : Nat} {si ti ei : TI} {x : Operand} {a : Option Addr} {sn sc sc' : Nat} {l : List UInt8} {cs : List Value} [lk : Look (ro 1) a H (sn, sc', cs)] (kk : sL P n ops rest (putE dst (.string ⟨⟨l⟩⟩) E) H Q)
    (hx : ev E x = some (.slice a sn sc)) (hcs : cs = bytesV l := by rfl) (hs : T s = some si := by rfl) (hsk : si.k = .slice e := by rfl) (he : T e = some ei := by rfl) (hek : ei.k = .int .u8 := by rfl) (ht : T t = some ti := by rfl) (htk : ti.k = .str := by rfl)
    (hg : gdV ops g E = some true := by rfl) (hd : okD n dst = true := by rfl) : sL P n ops (⟨dst, .convert s t x, ty, pos, after, g⟩ :: rest) E H Q :=
  sL_op hg hd fun ac w G hE hm => by
    subst hcs
    refine ⟨_, w, H, .inl ?_, hm, kk⟩
    simp only [execOp, hE.ev hx]
    exact run_value (conv_str hTT.ok hs hsk he hek ht htk rfl (toStr_run (brings_ro (hm.mono (star_mono lk.eqv (ent_refl _))) sc)))
theorem brings_own {w : World} {El k : Nat} {a : Option Addr} {m c : Nat} {cs : List Value} {G : HProp} (hm : MW w ((star (own El k a (m, c, cs)) (G)))) (mc : Nat) : Brings P w k m (.slice a m mc) cs := brings_ro (MW.own_ro hm) mc
theorem sL_toStrO [hTT : HasTab P T] {s t e El : Nat} {si ti ei : TI} {x : Operand} {a : Option Addr} {sn sc sc' : Nat} {l : List UInt8} {cs : List Value} [tk : Take (own El 1) a H (sn, sc', cs) R] (kk : sL P n ops rest (putE dst (.string ⟨⟨l⟩⟩) E) H Q)
    (hx : ev E x = some (.slice a sn sc)) (hcs : cs = bytesV l := by rfl) (hs : T s = some si := by rfl) (hsk : si.k = .slice e := by rfl) (he : T e = some ei := by rfl) (hek : ei.k = .int .u8 := by rfl) (ht : T t = some ti := by rfl) (htk : ti.k = .str := by rfl)
    (hg : gdV ops g E = some true := by rfl) (hd : okD n dst = true := by rfl) : sL P n ops (⟨dst, .convert s t x, ty, pos, after, g⟩ :: rest) E H Q :=
  sL_op hg hd fun ac w G hE hm => by
    subst hcs
    refine ⟨_, w, H, .inl ?_, hm, kk⟩
    simp only [execOp, hE.ev hx]
    exact run_value (conv_str hTT.ok hs hsk he hek ht htk rfl (toStr_run (brings_own ((hm.mono (star_mono tk.eqv (ent_refl _))).mono (star_assoc _ _ _)) sc)))

/-- bytes out of a string: they are only read -/
theorem sL_toBytes [hTT : HasTab P T] {s t e : Nat} {si ti ei : TI} {x : Operand} {l : List UInt8} (kk : ∀ a c, sL P n ops rest (putE dst (.slice a l.length c) E) ((star (ro 1 a (l.length, c, bytesV l)) (H))) Q)
    (hx : ev E x = some (.string ⟨⟨l⟩⟩)) (hs : T s = some si := by rfl) (hsk : si.k = .str := by rfl) (ht : T t = some ti := by rfl) (htk : ti.k = .slice e := by rfl) (he : T e = some ei := by rfl) (hek : ei.k = .int .u8 := by rfl)
    (hg : gdV ops g E = some true := by rfl) (hd : okD n dst = true := by rfl) : sL P n ops (⟨dst, .convert s t x, ty, pos, after, g⟩ :: rest) E H Q :=
  sL_op hg hd fun ac w G hE hm => by
    have hr := Lib.run_convert_string_bytes (P := P) w s t e ⟨⟨l⟩⟩ (und_str (hTT.ok _ _ hs) hsk) (und_slice (hTT.ok _ _ ht) htk) (und_int (hTT.ok _ _ he) hek)
    refine ⟨_, _, (star (ro 1 (some ⟨w.heap.size, 0, none⟩) (l.length, grownCap w l.length 0 e, bytesV l)) (H)), .inl (by simp only [execOp, hE.ev hx]; exact run_value hr), ?_, kk _ _⟩
    obtain ⟨O, I, ⟨dd, dw⟩, ho, hi, h⟩ := hm
    have hI : I w.heap.size = none := by
      cases e : I w.heap.size with
      | none => rfl
      | some o' => have := hi _ _ e; simp at this
    have hO : O w.heap.size = none := by
      cases e : O w.heap.size with
      | none => rfl
      | some o' => have := ho _ _ e; simp at this
    have old : ∀ (b : Nat) (o : Obj), w.heap[b]? = some o → (Lib.bytesWorld w e ⟨⟨l⟩⟩).heap[b]? = some o := by
      intro b o hb
      have hlt : b < w.heap.size := by
        rcases Nat.lt_or_ge b w.heap.size with h | h
        · exact h
        · simp [Array.getElem?_eq_none h] at hb
      rw [Lib.bytesWorld_at_old w e _ b hlt, hb]
    have hnew := Lib.bytesWorld_at_new w e ⟨⟨l⟩⟩
    refine ⟨O, (Hp.one w.heap.size (.cells (Lib.bytesCells w e ⟨⟨l⟩⟩) e ((Lib.bytesCells w e ⟨⟨l⟩⟩).size, (Lib.bytesCells w e ⟨⟨l⟩⟩).size + 1))).un I, ⟨?_, dw⟩, fun b o hb => old b o (ho b o hb), ?_, ?_⟩
    · refine Hp.dis_symm (Hp.dis_un (fun b => ?_) (Hp.dis_symm dd))
      by_cases hb : b = w.heap.size
      · right; rw [hb]; exact hO
      · left; simp [Hp.one, hb]
    · intro b o hb
      unfold Hp.un at hb
      split at hb
      · rename_i o' ho'
        cases hb
        unfold Hp.one at ho'
        split at ho'
        · rename_i hbb; cases ho'; rw [hbb]; exact hnew
        · cases ho'
      · exact old b o (hi b o hb)
    · have dI : (Hp.one w.heap.size (.cells (Lib.bytesCells w e ⟨⟨l⟩⟩) e ((Lib.bytesCells w e ⟨⟨l⟩⟩).size, (Lib.bytesCells w e ⟨⟨l⟩⟩).size + 1))).dis I := by
        intro b
        by_cases hb : b = w.heap.size
        · right; rw [hb]; exact hI
        · left; simp [Hp.one, hb]
      have h' := ((star (H) (G))).mono (Hp.le_refl O) (Hp.le_un_right dI) h
      obtain ⟨O₁, O₂, d1, l1, l2, a1, a2⟩ := h'
      refine ⟨O₁, O₂, d1, l1, l2, ⟨Hp.emp, O₁, fun _ => .inl rfl, Hp.emp_le _, Hp.le_refl _, ?_, a1⟩, a2⟩
      have hge := grownCap_ge w l.length 0 e
      refine ⟨by simp [bytesV], hge, bytesV_cells l, .inr ⟨w.heap.size, 0, (Lib.bytesCells w e ⟨⟨l⟩⟩).toList, e, ((Lib.bytesCells w e ⟨⟨l⟩⟩).size, (Lib.bytesCells w e ⟨⟨l⟩⟩).size + 1), rfl, .inr ⟨?_, ?_⟩⟩⟩
      · simp [Hp.un, Hp.one]
      · have hbc : (Lib.bytesCells w e ⟨⟨l⟩⟩).toList = bytesV l ++ List.replicate (grownCap w l.length 0 e - l.length) (.int .u8 0) := by
          simp [Lib.bytesCells, bytesV, byteV, size_mk]
        rw [hbc, List.drop_zero, List.take_left]

/-- a slice that is made, with zeros -/
theorem sL_make [hTT : HasTab P T] {st El k eb : Nat} {ek : TK} {ez base : List Value} {si : TI} {lx cx : Operand} {kl kc : IntKind} {m : Nat} (kk : ∀ a, sL P n ops rest (putE dst (.slice a m m) E) ((star (own El k a (m, m, base)) (H))) Q)
    (hl : ev E lx = some (.int kl (m : Int))) (hc : ev E cx = some (.int kc (m : Int))) (hm : m ≤ 1048576) (hbl : baseL m ez = some base) (hst : T st = some si := by rfl) (hsk : si.k = .slice El := by rfl) (hei : T El = some ⟨ek, k, eb, ez⟩ := by rfl) (hzl : lenIs ez k = true := by rfl) (hall : ez.all isCell = true := by rfl) (hby : Nat.ble eb 16384 = true := by rfl)
    (hg : gdV ops g E = some true := by rfl) (hd : okD n dst = true := by rfl) : sL P n ops (⟨dst, .makeSlice st lx cx, ty, pos, after, g⟩ :: rest) E H Q :=
  sL_op hg hd fun ac w G hE hmw => by
    obtain ⟨ej, hej, hes, heb⟩ := info_of (hTT.ok _ _ hei)
    obtain ⟨jj, z, hjj, hjz, hzo, _⟩ := tiOf_info (hTT.ok _ _ hei)
    obtain ⟨z', hzv, hzc, _⟩ := zero_of (hTT.ok _ _ hei)
    have hz : z' = z := by
      have := hzv w
      simp [zeroValue, typeInfo, program, hjj, hjz, Sem.run] at this
      exact this.symm
    subst hz
    have hby' : eb ≤ 16384 := Nat.le_of_ble_eq_true hby
    have hjb : jj.bytes = eb := by rw [hjj] at hej; cases hej; exact heb
    have hjs : jj.size = k := by rw [hjj] at hej; cases hej; exact hes
    have hmul : (jj.bytes : Int) * (m : Int) ≤ 281474976710656 := by
      rw [hjb]
      have : eb * m ≤ 16384 * 1048576 := Nat.mul_le_mul hby' hm
      omega
    have hr := run_make (P := P) w st El jj z' (und_slice (hTT.ok _ _ hst) hsk) hjj hjz kl kc m m (by omega) (by omega) hmul (by omega)
    simp only [Int.toNat_natCast, hjs] at hr
    have hlen := baseL_eq hbl
    have hez := lenIs_eq hzl
    have hmc : madeCells z'.cells (m * k) = ⟨base⟩ := by
      obtain ⟨h1, h2⟩ := hlen
      rw [hez] at h1
      rw [hzc]
      apply Array.ext'
      apply List.ext_getElem
      · simp [madeCells, h1]
      · intro i hi hi'
        have := h2 i hi'
        simp only [List.getElem!_eq_getElem?_getD, List.getElem?_eq_getElem hi', Option.getD_some] at this
        simp [madeCells, this]
    rw [hmc] at hr
    refine ⟨_, _, (star (own El k (some ⟨w.heap.size, 0, none⟩) (m, m, base)) (H)), .inl (by simp only [execOp, hE.ev hl, hE.ev hc]; exact run_value hr), ?_, kk _⟩
    have hball : base.all isCell = true := by
      have : ∀ m r, baseL m ez = some r → r.all isCell = true := by
        intro m
        induction m with
        | zero => intro r h; cases h; rfl
        | succ m ih =>
          intro r h
          simp only [baseL] at h
          split at h
          · rename_i r' hr'
            rw [appL_eq h, List.all_append, hall, ih _ hr']; rfl
          · cases h
      exact this _ _ hbl
    have hp := hmw.push (.cells ⟨base⟩ El (0, 0))
    refine (MW.mono ?_ (star_mono (own_of_blk (sp := []) hball (by rw [hlen.1, hez]) (Nat.le_refl m) (by unfold maxLen; omega) (by rw [hlen.1, hez]; simp)) (ent_refl _))).mono (star_assoc' _ _ _)
    simpa using hp
end
end Go.Sl
