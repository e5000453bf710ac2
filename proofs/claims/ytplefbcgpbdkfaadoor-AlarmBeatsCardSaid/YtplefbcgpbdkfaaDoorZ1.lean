/- Kinds of objects: none here. -/
import Derived.Test.YtplefbcgpbdkfaaDoorFtab
set_option linter.all false
namespace Go.Proofs.YtplefbcgpbdkfaaDoor
open Go Go.Fx
def KK : Env := ⟨fun _ => ⟨.bo, .d .bo, [], [], [], fun _ _ => False⟩, fun _ => ⟨.bo, fun _ _ _ _ _ => False, fun _ _ h => h⟩, []⟩
theorem gtrT {a b : Int} : (litCmp .gtr a b = true) = (b < a) := by simp [litCmp]
theorem gtrF {a b : Int} : (litCmp .gtr a b = false) = (a ≤ b) := by simp [litCmp]
theorem lssT {a b : Int} : (litCmp .lss a b = true) = (a < b) := by simp [litCmp]
theorem lssF {a b : Int} : (litCmp .lss a b = false) = (b ≤ a) := by simp [litCmp]
theorem leqT {a b : Int} : (litCmp .leq a b = true) = (a ≤ b) := by simp [litCmp]
theorem leqF {a b : Int} : (litCmp .leq a b = false) = (b < a) := by simp [litCmp]
theorem geqT {a b : Int} : (litCmp .geq a b = true) = (b ≤ a) := by simp [litCmp]
theorem geqF {a b : Int} : (litCmp .geq a b = false) = (a < b) := by simp [litCmp]
theorem eqlT {a b : Int} : (litCmp .eql a b = true) = (a = b) := by simp [litCmp]
theorem eqlF {a b : Int} : (litCmp .eql a b = false) = (a ≠ b) := by simp [litCmp]
theorem neqT {a b : Int} : (litCmp .neq a b = true) = (a ≠ b) := by simp [litCmp]
theorem neqF {a b : Int} : (litCmp .neq a b = false) = (a = b) := by simp [litCmp]
theorem wrapI_ {x : Int} (h0 : -9223372036854775808 ≤ x) (h1 : x < 9223372036854775808) : IntKind.wrap .i64 x = x := by
  show (if (true && decide (x % 18446744073709551616 ≥ 9223372036854775808)) = true then x % 18446744073709551616 - 18446744073709551616 else x % 18446744073709551616) = x
  simp only [Bool.true_and, decide_eq_true_eq]
  split <;> omega
theorem addI_ {x y : Int} (h0 : -9223372036854775808 ≤ x + y) (h1 : x + y < 9223372036854775808) : litArith .add .i64 x y = x + y := wrapI_ h0 h1
theorem subI_ {x y : Int} (h0 : -9223372036854775808 ≤ x - y) (h1 : x - y < 9223372036854775808) : litArith .sub .i64 x y = x - y := wrapI_ h0 h1
theorem mulI_ {x y : Int} (h0 : -9223372036854775808 ≤ x * y) (h1 : x * y < 9223372036854775808) : litArith .mul .i64 x y = x * y := wrapI_ h0 h1
theorem meas {N i : Int} (h : i < N) : (N - (i + 1)).toNat < (N - i).toNat := by omega
theorem wrapU_ {x : Int} (h0 : 0 ≤ x) (h1 : x < 18446744073709551616) : IntKind.wrap .u64 x = x := by
  show (if (false && decide (x % 18446744073709551616 ≥ (2 ^ 63 : Int))) = true then x % 18446744073709551616 - 18446744073709551616 else x % 18446744073709551616) = x
  rw [Bool.false_and, if_neg (by simp)]; omega
theorem addU_ {x y : Int} (h0 : 0 ≤ x + y) (h1 : x + y < 18446744073709551616) : litArith .add .u64 x y = x + y := wrapU_ h0 h1
theorem subU_ {x y : Int} (h0 : 0 ≤ x - y) (h1 : x - y < 18446744073709551616) : litArith .sub .u64 x y = x - y := wrapU_ h0 h1
theorem shrU_ (x : Int) (k : Nat) (hk : k < 64) : litArith .shr .u64 x (k : Int) = x / 2 ^ k := by
  show x.fdiv (2 ^ min ((k : Int).toNat) 64) = _
  rw [show min ((k : Int).toNat) 64 = k from by omega, Int.fdiv_eq_ediv_of_nonneg _ (Int.le_of_lt (Int.pow_pos (by decide)))]
theorem and63_ {x : Int} (h0 : 0 ≤ x) (h1 : x < 18446744073709551616) : litArith .and .u64 x 63 = x % 64 := by
  obtain ⟨n, rfl⟩ := Int.eq_ofNat_of_zero_le h0
  have e : (BitVec.ofInt 64 (n : Int) &&& BitVec.ofInt 64 ((63 : Nat) : Int)).toNat = n % 64 := by
    rw [BitVec.toNat_and, BitVec.ofInt_natCast, BitVec.ofInt_natCast, BitVec.toNat_ofNat, BitVec.toNat_ofNat, Nat.mod_eq_of_lt (by omega), Nat.mod_eq_of_lt (by omega)]
    exact Nat.and_two_pow_sub_one_eq_mod n 6
  show IntKind.wrap .u64 ((BitVec.ofInt 64 (n : Int) &&& BitVec.ofInt 64 ((63 : Nat) : Int)).toNat : Int) = _
  rw [e, wrapU_ (by omega) (by omega)]
  omega
theorem quo64_ {x : Int} (h0 : 0 ≤ x) (h1 : x < 9223372036854775808) : litArith .quo .i64 x 64 = x / 64 := by
  show IntKind.wrap .i64 (x.tdiv 64) = x / 64
  rw [Int.tdiv_eq_ediv_of_nonneg h0, wrapI_ (by omega) (by omega)]
end Go.Proofs.YtplefbcgpbdkfaaDoor
/- Plain words for lists of small numbers (package chain). -/
namespace Go.Proofs.YtplefbcgpbdkfaaDoor
open Go Go.Fx

abbrev Lk := Int × Int × Int
abbrev tpL : Tp := .p (.i .i64) (.p (.i .i64) (.i .i64))
/-- n numbers, m lists; what is on each; the links, the ends. -/
structure Rep (n m : Nat) (Q : Int → List Int) (L E : List Lk) : Prop where
  nL : L.length = n
  nE : E.length = m
  sn : n ≤ 4096
  sm : m ≤ 4096
  out : ∀ j, j < 0 ∨ (m : Int) ≤ j → Q j = []
  nd : ∀ j, (Q j).Nodup
  one : ∀ i j k, k ∈ Q i → k ∈ Q j → i = j
  mem : ∀ j k, k ∈ Q j → 0 ≤ k ∧ k < n
  ends : ∀ j : Int, 0 ≤ j → j < m → ix E j = ((Q j).headD (-1), (Q j).getLastD (-1), ((Q j).length : Int))
  on : ∀ (j : Int) (a : List Int) (k : Int) (b : List Int), Q j = a ++ k :: b → ix L k = (j, a.getLastD (-1), b.headD (-1))
  off : ∀ k : Int, 0 ≤ k → k < n → (∀ j, k ∉ Q j) → ix L k = (-1, -1, -1)

theorem ix_set {α : Type} [Inhabited α] {l : List α} {i j : Int} {x : α} (h0 : 0 ≤ i) (h1 : i < l.length) (hj : 0 ≤ j) : ix (l.set i.toNat x) j = if i = j then x else ix l j := by
  unfold ix
  rw [List.getD_eq_getElem?_getD, List.getD_eq_getElem?_getD]
  split
  · rename_i e; subst e
    rw [List.getElem?_set_self (by omega)]; rfl
  · rename_i e
    rw [List.getElem?_set_ne (by omega)]
theorem ix_rep {α : Type} [Inhabited α] {n : Nat} {x : α} {i : Int} (h0 : 0 ≤ i) (h1 : i < n) : ix (List.replicate n x) i = x := by
  unfold ix
  rw [List.getD_eq_getElem?_getD, List.getElem?_replicate, if_pos (by omega)]; rfl
theorem list_ext {α : Type} [Inhabited α] {a b : List α} (h : a.length = b.length) (hx : ∀ i : Int, 0 ≤ i → i < a.length → ix a i = ix b i) : a = b := by
  apply List.ext_getElem h
  intro i h1 h2
  have := hx i (by omega) (by omega)
  unfold ix at this
  rw [List.getD_eq_getElem?_getD, List.getD_eq_getElem?_getD] at this
  simp only [Int.toNat_natCast] at this
  rwa [List.getElem?_eq_getElem h1, List.getElem?_eq_getElem h2, Option.getD_some, Option.getD_some] at this
theorem mem_split' {k : Int} {q : List Int} (h : k ∈ q) : ∃ a b, q = a ++ k :: b := List.append_of_mem h
/-- Is a number on a list: and on which. -/
def onC (L : List Lk) (k : Int) : Int × Bool := if 0 ≤ k ∧ k < L.length ∧ (ix L k).1 ≠ -1 then ((ix L k).1, true) else (0, false)
theorem Rep.on_eq {n m : Nat} {Q : Int → List Int} {L E : List Lk} (h : Rep n m Q L E) {j k : Int} (hk : k ∈ Q j) : onC L k = (j, true) ∧ ix L k = (j, (ix L k).2.1, (ix L k).2.2) ∧ 0 ≤ j ∧ j < m := by
  obtain ⟨a, b, e⟩ := mem_split' hk
  have hl := h.on j a k b e
  obtain ⟨h0, h1⟩ := h.mem j k hk
  have hj : ¬ (j < 0 ∨ (m : Int) ≤ j) := fun hj => by rw [h.out j hj] at hk; cases hk
  refine ⟨?_, by rw [hl], by omega, by omega⟩
  unfold onC
  rw [hl, h.nL]
  rw [if_pos ⟨h0, h1, by simp only; omega⟩]
theorem Rep.off_eq {n m : Nat} {Q : Int → List Int} {L E : List Lk} (h : Rep n m Q L E) {k : Int} (hk : ∀ j, k ∉ Q j) : onC L k = (0, false) := by
  unfold onC
  rw [if_neg]
  rintro ⟨h0, h1, h2⟩
  rw [h.nL] at h1
  rw [h.off k h0 h1 hk] at h2
  exact h2 rfl
theorem Rep.on_iff {n m : Nat} {Q : Int → List Int} {L E : List Lk} (h : Rep n m Q L E) {k : Int} : (onC L k).2 = true ↔ ∃ j, k ∈ Q j := by
  by_cases hk : ∃ j, k ∈ Q j
  · obtain ⟨j, hj⟩ := hk
    simp [(h.on_eq hj).1]
    exact ⟨j, hj⟩
  · have : ∀ j, k ∉ Q j := fun j hj => hk ⟨j, hj⟩
    simp [h.off_eq this, this]
/-- How many are on a list. -/
def lenC (E : List Lk) (j : Int) : Int := if j < 0 ∨ (E.length : Int) ≤ j then 0 else (ix E j).2.2
theorem Rep.len_eq {n m : Nat} {Q : Int → List Int} {L E : List Lk} (h : Rep n m Q L E) (j : Int) : lenC E j = (Q j).length := by
  unfold lenC
  rw [h.nE]
  split
  · rename_i hj; rw [h.out j hj]; rfl
  · rename_i hj
    rw [h.ends j (by omega) (by omega)]
def firstC (E : List Lk) (j : Int) : Int × Bool := if lenC E j = 0 then (0, false) else ((ix E j).1, true)
theorem Rep.first_eq {n m : Nat} {Q : Int → List Int} {L E : List Lk} (h : Rep n m Q L E) (j : Int) : firstC E j = if Q j = [] then (0, false) else ((Q j).headD (-1), true) := by
  unfold firstC
  rw [h.len_eq j]
  by_cases hq : Q j = []
  · rw [if_pos hq, if_pos (by rw [hq]; rfl)]
  · have : ¬ (((Q j).length : Int) = 0) := fun e => hq (List.eq_nil_of_length_eq_zero (by omega))
    rw [if_neg hq, if_neg this]
    have hj : ¬ (j < 0 ∨ (m : Int) ≤ j) := fun hj => hq (h.out j hj)
    rw [h.ends j (by omega) (by omega)]
/-- Where the next one stands. -/
theorem Rep.next {n m : Nat} {Q : Int → List Int} {L E : List Lk} (h : Rep n m Q L E) {j : Int} {a : List Int} {k : Int} {b : List Int} (e : Q j = a ++ k :: b) : (ix L k).2.2 = b.headD (-1) := by rw [h.on j a k b e]

/-! ### A number put to a list's end -/
def pushL (L E : List Lk) (j k : Int) : List Lk :=
  let L1 := L.set k.toNat (j, (ix E j).2.1, -1)
  if (ix E j).2.1 = -1 then L1 else L1.set (ix E j).2.1.toNat ((ix L1 (ix E j).2.1).1, (ix L1 (ix E j).2.1).2.1, k)
def pushE (E : List Lk) (j k : Int) : List Lk := E.set j.toNat (if (ix E j).2.1 = -1 then k else (ix E j).1, k, (ix E j).2.2 + 1)
def putQ (Q : Int → List Int) (j k : Int) : Int → List Int := fun i => if i = j then Q j ++ [k] else Q i
theorem mem_putQ {Q : Int → List Int} {j k i x : Int} : x ∈ putQ Q j k i ↔ x ∈ Q i ∨ (i = j ∧ x = k) := by
  unfold putQ
  split
  · rename_i e; subst e; simp
  · rename_i e; simp [e]
theorem split_snoc {q a b : List Int} {k x : Int} (h : q ++ [k] = a ++ x :: b) : (x = k ∧ a = q ∧ b = []) ∨ ∃ b', b = b' ++ [k] ∧ q = a ++ x :: b' := by
  rcases List.eq_nil_or_concat b with rfl | ⟨b', y, rfl⟩
  · have := List.append_inj' h rfl
    simp at this
    exact .inl ⟨this.2.symm, this.1.symm, rfl⟩
  · rw [List.concat_eq_append, ← List.cons_append, ← List.append_assoc] at h
    have := List.append_inj' h rfl
    simp at this
    exact .inr ⟨b', by rw [List.concat_eq_append, this.2], this.1⟩
theorem last_mem {q : List Int} (h : q ≠ []) : q.getLastD (-1) ∈ q := by
  cases q with
  | nil => exact absurd rfl h
  | cons x q => simp [List.getLastD]
theorem head_mem {q : List Int} (h : q ≠ []) : q.headD (-1) ∈ q := by
  cases q with
  | nil => exact absurd rfl h
  | cons x q => simp
theorem Rep.last_none {n m : Nat} {Q : Int → List Int} {L E : List Lk} (h : Rep n m Q L E) (j : Int) : (Q j).getLastD (-1) = -1 ↔ Q j = [] := by
  constructor
  · intro e
    cases hq : Q j with
    | nil => rfl
    | cons x q =>
      have := h.mem j _ (last_mem (q := Q j) (by rw [hq]; simp))
      rw [e] at this; omega
  · intro e; rw [e]; rfl
theorem last_split {q : List Int} (h : q ≠ []) : q = q.dropLast ++ q.getLastD (-1) :: [] := by
  rw [List.getLastD_eq_getLast?, List.getLast?_eq_some_getLast h, Option.getD_some]
  exact (List.dropLast_concat_getLast h).symm
theorem lastD_snoc (q : List Int) (k d : Int) : (q ++ [k]).getLastD d = k := by simp [List.getLastD_eq_getLast?]
theorem lastD_app {a b : List Int} (h : b ≠ []) (d : Int) : (a ++ b).getLastD d = b.getLastD d := by
  rw [List.getLastD_eq_getLast?, List.getLastD_eq_getLast?, List.getLast?_append, List.getLast?_eq_some_getLast h]
  rfl
theorem headD_app {a b : List Int} (h : a ≠ []) (d : Int) : (a ++ b).headD d = a.headD d := by
  cases a with
  | nil => exact absurd rfl h
  | cons x a => rfl
theorem Rep.push {n m : Nat} {Q : Int → List Int} {L E : List Lk} (h : Rep n m Q L E) {j k : Int} (j0 : 0 ≤ j) (j1 : j < m) (k0 : 0 ≤ k) (k1 : k < n) (hk : ∀ i, k ∉ Q i) : Rep n m (putQ Q j k) (pushL L E j k) (pushE E j k) := by
  have hE := h.ends j j0 j1
  have hl := h.last_none j
  have nL1 : (L.set k.toNat (j, (ix E j).2.1, -1)).length = n := by rw [List.length_set, h.nL]
  have lastIn : Q j ≠ [] → 0 ≤ (Q j).getLastD (-1) ∧ (Q j).getLastD (-1) < n ∧ (Q j).getLastD (-1) ≠ k := fun hq => by
    have hm := last_mem hq
    obtain ⟨h0, h1⟩ := h.mem j _ hm
    exact ⟨h0, h1, fun e => hk j (e ▸ hm)⟩
  have ixL : ∀ x : Int, 0 ≤ x → x < n → ix (pushL L E j k) x = if x = k then (j, (Q j).getLastD (-1), -1) else if Q j ≠ [] ∧ x = (Q j).getLastD (-1) then ((ix L x).1, (ix L x).2.1, k) else ix L x := fun x x0 x1 => by
    unfold pushL
    rw [hE]
    simp only
    by_cases hq : Q j = []
    · rw [if_pos (hl.2 hq), ix_set k0 (by rw [h.nL]; exact k1) x0]
      by_cases e : x = k
      · rw [if_pos e.symm, if_pos e]
      · rw [if_neg (fun e' => e e'.symm), if_neg e, if_neg (fun c => c.1 hq)]
    · obtain ⟨l0, l1, l2⟩ := lastIn hq
      rw [if_neg (fun e => hq (hl.1 e)), ix_set l0 (by rw [List.length_set, h.nL]; exact l1) x0]
      by_cases e : x = k
      · rw [if_pos e, if_neg (fun c => l2 (by rw [c, e])), ix_set k0 (by rw [h.nL]; exact k1) x0, if_pos e.symm]
      · rw [if_neg e]
        by_cases e2 : (Q j).getLastD (-1) = x
        · rw [if_pos e2, if_pos ⟨hq, e2.symm⟩, ix_set k0 (by rw [h.nL]; exact k1) (by omega), if_neg (fun c => l2 (by rw [c])), e2]
        · rw [if_neg e2, if_neg (fun c => e2 c.2.symm), ix_set k0 (by rw [h.nL]; exact k1) x0, if_neg (fun e' => e e'.symm)]
  refine ⟨?_, by rw [pushE, List.length_set, h.nE], h.sn, h.sm, fun i hi => ?_, fun i => ?_, fun i i' x hx hx' => ?_, fun i x hx => ?_, fun i i0 i1 => ?_, fun i a x b e => ?_, fun x x0 x1 hx => ?_⟩
  · unfold pushL
    simp only
    split
    · exact nL1
    · rw [List.length_set]; exact nL1
  · unfold putQ
    rw [if_neg (by omega)]
    exact h.out i hi
  · unfold putQ
    split
    · exact List.nodup_append.2 ⟨h.nd j, by simp, fun a ha b hb => by simp at hb; subst hb; intro e; exact hk j (e ▸ ha)⟩
    · exact h.nd i
  · rw [mem_putQ] at hx hx'
    rcases hx with hx | ⟨rfl, rfl⟩ <;> rcases hx' with hx' | ⟨rfl, e⟩
    · exact h.one i i' x hx hx'
    · subst e; exact absurd hx (hk i)
    · exact absurd hx' (hk i')
    · rfl
  · rw [mem_putQ] at hx
    rcases hx with hx | ⟨rfl, rfl⟩
    · exact h.mem i x hx
    · exact ⟨k0, k1⟩
  · unfold pushE putQ
    rw [ix_set j0 (by rw [h.nE]; exact j1) i0]
    by_cases e : j = i
    · subst e
      rw [if_pos rfl, if_pos rfl, hE]
      simp only
      by_cases hq : Q j = []
      · rw [if_pos (hl.2 hq), hq]; rfl
      · rw [if_neg (fun e => hq (hl.1 e))]
        rw [lastD_snoc, headD_app hq, List.length_append]
        rfl
    · rw [if_neg e, if_neg (fun e' => e e'.symm)]
      exact h.ends i i0 i1
  · have hx : x ∈ putQ Q j k i := by rw [e]; simp
    have hxr : 0 ≤ x ∧ x < n := by
      rw [mem_putQ] at hx
      rcases hx with hx | ⟨rfl, rfl⟩
      · exact h.mem i x hx
      · exact ⟨k0, k1⟩
    rw [ixL x hxr.1 hxr.2]
    unfold putQ at e
    split at e
    · rename_i ei
      subst ei
      rcases split_snoc e with ⟨rfl, rfl, rfl⟩ | ⟨b', rfl, eq⟩
      · rw [if_pos rfl]; rfl
      · have hxi : x ∈ Q i := by rw [eq]; simp
        have hxk : x ≠ k := fun c => hk i (c ▸ hxi)
        rw [if_neg hxk, h.on i a x b' eq]
        by_cases hb : b' = []
        · subst hb
          have : x = (Q i).getLastD (-1) := by rw [eq]; simp [List.getLastD_eq_getLast?]
          rw [if_pos ⟨by rw [eq]; simp, this⟩]; rfl
        · have hne : ¬ (Q i ≠ [] ∧ x = (Q i).getLastD (-1)) := by
            rintro ⟨_, c⟩
            have hnd := h.nd i
            rw [eq] at hnd c
            have hl2 : (a ++ x :: b').getLastD (-1) ∈ b' := by
              have : a ++ x :: b' = (a ++ [x]) ++ b' := by simp
              rw [this, lastD_app hb]
              exact last_mem hb
            rw [← c] at hl2
            rw [List.nodup_append] at hnd
            exact (List.nodup_cons.1 hnd.2.1).1 hl2
          rw [if_neg hne]
          cases b' with
          | nil => exact absurd rfl hb
          | cons y b' => rfl
    · rename_i ei
      have hxi : x ∈ Q i := by rw [e]; simp
      have hxk : x ≠ k := fun c => hk i (c ▸ hxi)
      have hne : ¬ (Q j ≠ [] ∧ x = (Q j).getLastD (-1)) := by
        rintro ⟨hq, c⟩
        exact ei (h.one i j x hxi (c ▸ last_mem hq))
      rw [if_neg hxk, if_neg hne]
      exact h.on i a x b e
  · have hxk : x ≠ k := fun c => hx j (by rw [mem_putQ]; exact .inr ⟨rfl, c⟩)
    have hne : ¬ (Q j ≠ [] ∧ x = (Q j).getLastD (-1)) := by
      rintro ⟨hq, c⟩
      exact hx j (by rw [mem_putQ]; exact .inl (c ▸ last_mem hq))
    rw [ixL x x0 x1, if_neg hxk, if_neg hne]
    exact h.off x x0 x1 (fun i hi => hx i (by rw [mem_putQ]; exact .inl hi))

/-! ### A number taken off its list -/
def pullL (L : List Lk) (k : Int) : List Lk :=
  let x := ix L k
  let L1 := if x.2.1 = -1 then L else L.set x.2.1.toNat ((ix L x.2.1).1, (ix L x.2.1).2.1, x.2.2)
  let L2 := if x.2.2 = -1 then L1 else L1.set x.2.2.toNat ((ix L1 x.2.2).1, x.2.1, (ix L1 x.2.2).2.2)
  L2.set k.toNat (-1, -1, -1)
def pullE (L E : List Lk) (k : Int) : List Lk :=
  let x := ix L k
  let e := ix E x.1
  E.set x.1.toNat (if x.2.1 = -1 then x.2.2 else e.1, if x.2.2 = -1 then x.2.1 else e.2.1, e.2.2 - 1)
def cutQ (Q : Int → List Int) (k : Int) : Int → List Int := fun i => (Q i).filter fun x => x != k
theorem mem_cutQ {Q : Int → List Int} {k i x : Int} : x ∈ cutQ Q k i ↔ x ∈ Q i ∧ x ≠ k := by simp [cutQ]
theorem cut_split {a b : List Int} {k : Int} (h : (a ++ k :: b).Nodup) : (a ++ k :: b).filter (fun x => x != k) = a ++ b := by
  have hn := List.nodup_append.1 h
  have h1 : a.filter (fun x => x != k) = a := List.filter_eq_self.2 (fun x hx => by simpa using hn.2.2 x hx k (by simp))
  have h2 : b.filter (fun x => x != k) = b := List.filter_eq_self.2 (fun x hx => by
    simp only [bne_iff_ne, ne_eq]
    rintro rfl
    exact (List.nodup_cons.1 hn.2.1).1 hx)
  rw [List.filter_append, List.filter_cons, h1, h2]
  simp
theorem cut_none {q : List Int} {k : Int} (h : k ∉ q) : q.filter (fun x => x != k) = q := List.filter_eq_self.2 (fun x hx => by
  simp only [bne_iff_ne, ne_eq]
  rintro rfl
  exact h hx)
theorem split_app {a b a' b' : List Int} {x : Int} (h : a ++ b = a' ++ x :: b') : (∃ c, a = a' ++ x :: c ∧ b' = c ++ b) ∨ ∃ c, b = c ++ x :: b' ∧ a' = a ++ c := by
  rcases List.append_eq_append_iff.1 h with ⟨c, e1, e2⟩ | ⟨c, e1, e2⟩
  · exact .inr ⟨c, e2, e1⟩
  · cases c with
    | nil => exact .inr ⟨[], by simpa using e2.symm, by simpa using e1.symm⟩
    | cons y c =>
      simp only [List.cons_append, List.cons.injEq] at e2
      obtain ⟨rfl, e2⟩ := e2
      exact .inl ⟨c, e1, e2⟩
theorem Rep.pull {n m : Nat} {Q : Int → List Int} {L E : List Lk} (h : Rep n m Q L E) {j k : Int} (hk : k ∈ Q j) : Rep n m (cutQ Q k) (pullL L k) (pullE L E k) := by
  obtain ⟨a, b, eq⟩ := mem_split' hk
  have hL := h.on j a k b eq
  obtain ⟨k0, k1⟩ := h.mem j k hk
  have hj : 0 ≤ j ∧ j < m := (h.on_eq hk).2.2
  have hE := h.ends j hj.1 hj.2
  have hnd := h.nd j
  rw [eq] at hnd
  have hn := List.nodup_append.1 hnd
  have hkb : k ∉ b := (List.nodup_cons.1 hn.2.1).1
  have hka : k ∉ a := fun c => hn.2.2 k c k (by simp) rfl
  have inA : ∀ x, x ∈ a → x ∈ Q j := fun x hx => by rw [eq]; simp [hx]
  have inB : ∀ x, x ∈ b → x ∈ Q j := fun x hx => by rw [eq]; simp [hx]
  have ra : ∀ x, x ∈ a → 0 ≤ x ∧ x < n := fun x hx => h.mem j x (inA x hx)
  have rb : ∀ x, x ∈ b → 0 ≤ x ∧ x < n := fun x hx => h.mem j x (inB x hx)
  have pa : a.getLastD (-1) = -1 ↔ a = [] := ⟨fun e => Classical.byContradiction fun c => by have := (ra _ (last_mem c)).1; omega, fun e => by rw [e]; rfl⟩
  have pb : b.headD (-1) = -1 ↔ b = [] := ⟨fun e => Classical.byContradiction fun c => by have := (rb _ (head_mem c)).1; omega, fun e => by rw [e]; rfl⟩
  have lenL : ∀ (l : List Lk), l.length = n → ∀ (c : Prop) [Decidable c] (i : Nat) (y : Lk), (if c then l else l.set i y).length = n := fun l hl c _ i y => by split <;> simp [hl]
  -- what stands where
  have ixL : ∀ x : Int, 0 ≤ x → x < n → ix (pullL L k) x = if x = k then (-1, -1, -1) else
      ((ix L x).1, if b ≠ [] ∧ x = b.headD (-1) then a.getLastD (-1) else (ix L x).2.1, if a ≠ [] ∧ x = a.getLastD (-1) then b.headD (-1) else (ix L x).2.2) := fun x x0 x1 => by
    unfold pullL
    simp only [hL]
    generalize hL1 : (if a.getLastD (-1) = -1 then L else L.set (a.getLastD (-1)).toNat ((ix L (a.getLastD (-1))).1, (ix L (a.getLastD (-1))).2.1, b.headD (-1))) = L1
    have n1 : L1.length = n := by rw [← hL1]; exact lenL L h.nL _ _ _
    have e1 : ∀ y : Int, 0 ≤ y → ix L1 y = if a ≠ [] ∧ y = a.getLastD (-1) then ((ix L y).1, (ix L y).2.1, b.headD (-1)) else ix L y := fun y y0 => by
      rw [← hL1]
      by_cases ha : a = []
      · rw [if_pos (pa.2 ha), if_neg (fun c => c.1 ha)]
      · obtain ⟨l0, l1⟩ := ra _ (last_mem ha)
        rw [if_neg (fun c => ha (pa.1 c)), ix_set l0 (by rw [h.nL]; exact l1) y0]
        by_cases e : a.getLastD (-1) = y
        · rw [if_pos e, if_pos ⟨ha, e.symm⟩, e]
        · rw [if_neg e, if_neg (fun c => e c.2.symm)]
    generalize hL2 : (if b.headD (-1) = -1 then L1 else L1.set (b.headD (-1)).toNat ((ix L1 (b.headD (-1))).1, a.getLastD (-1), (ix L1 (b.headD (-1))).2.2)) = L2
    have n2 : L2.length = n := by rw [← hL2]; exact lenL L1 n1 _ _ _
    have e2 : ∀ y : Int, 0 ≤ y → ix L2 y = if b ≠ [] ∧ y = b.headD (-1) then ((ix L1 y).1, a.getLastD (-1), (ix L1 y).2.2) else ix L1 y := fun y y0 => by
      rw [← hL2]
      by_cases hb : b = []
      · rw [if_pos (pb.2 hb), if_neg (fun c => c.1 hb)]
      · obtain ⟨l0, l1⟩ := rb _ (head_mem hb)
        rw [if_neg (fun c => hb (pb.1 c)), ix_set l0 (by rw [n1]; exact l1) y0]
        by_cases e : b.headD (-1) = y
        · rw [if_pos e, if_pos ⟨hb, e.symm⟩, e]
        · rw [if_neg e, if_neg (fun c => e c.2.symm)]
    rw [ix_set k0 (by rw [n2]; exact k1) x0]
    by_cases e : k = x
    · rw [if_pos e, if_pos e.symm]
    · rw [if_neg e, if_neg (fun c => e c.symm), e2 x x0, e1 x x0]
      split <;> split <;> rfl
  have qj : cutQ Q k j = a ++ b := by unfold cutQ; rw [eq, cut_split hnd]
  have qo : ∀ i, i ≠ j → cutQ Q k i = Q i := fun i hi => cut_none (fun c => hi (h.one i j k c hk))
  have notin : ∀ i x, i ≠ j → x ∈ Q i → x ≠ k ∧ ¬ (b ≠ [] ∧ x = b.headD (-1)) ∧ ¬ (a ≠ [] ∧ x = a.getLastD (-1)) := fun i x hi hx =>
    ⟨fun c => hi (h.one i j k (c ▸ hx) hk), fun c => hi (h.one i j x hx (c.2 ▸ inB _ (head_mem c.1))), fun c => hi (h.one i j x hx (c.2 ▸ inA _ (last_mem c.1)))⟩
  refine ⟨?_, by unfold pullE; simp only [List.length_set]; exact h.nE, h.sn, h.sm, fun i hi => ?_, fun i => (h.nd i).filter _, fun i i' x hx hx' => h.one i i' x (mem_cutQ.1 hx).1 (mem_cutQ.1 hx').1, fun i x hx => h.mem i x (mem_cutQ.1 hx).1, fun i i0 i1 => ?_, fun i a' x b' e => ?_, fun x x0 x1 hx => ?_⟩
  · unfold pullL
    simp only [List.length_set]
    exact lenL _ (lenL _ h.nL _ _ _) _ _ _
  · unfold cutQ; rw [h.out i hi]; rfl
  · unfold pullE
    simp only [hL]
    rw [ix_set hj.1 (by rw [h.nE]; exact hj.2) i0]
    by_cases e : j = i
    · subst e
      rw [if_pos rfl, qj, hE, eq]
      simp only
      have h1 : (if a.getLastD (-1) = -1 then b.headD (-1) else (a ++ k :: b).headD (-1)) = (a ++ b).headD (-1) := by
        by_cases ha : a = []
        · rw [if_pos (pa.2 ha), ha]; rfl
        · rw [if_neg (fun c => ha (pa.1 c)), headD_app ha, headD_app ha]
      have h2 : (if b.headD (-1) = -1 then a.getLastD (-1) else (a ++ k :: b).getLastD (-1)) = (a ++ b).getLastD (-1) := by
        by_cases hb : b = []
        · rw [if_pos (pb.2 hb), hb]; simp
        · have : a ++ k :: b = (a ++ [k]) ++ b := by simp
          rw [if_neg (fun c => hb (pb.1 c)), this, lastD_app hb, lastD_app hb]
      rw [h1, h2]
      congr 2
      simp only [List.length_append, List.length_cons]
      omega
    · rw [if_neg e, qo i (fun c => e c.symm)]
      exact h.ends i i0 i1
  · have hx : x ∈ Q i ∧ x ≠ k := mem_cutQ.1 (by rw [e]; simp)
    obtain ⟨x0, x1⟩ := h.mem i x hx.1
    rw [ixL x x0 x1, if_neg hx.2]
    by_cases ei : i = j
    · subst ei
      rw [qj] at e
      rcases split_app e with ⟨c, ea, eb⟩ | ⟨c, eb, ea⟩
      · -- ahead of it
        have eq' : Q i = a' ++ x :: (c ++ k :: b) := by rw [eq, ea]; simp
        rw [h.on i a' x _ eq']
        have hxa : x ∈ a := by rw [ea]; simp
        have hxb : ¬ (b ≠ [] ∧ x = b.headD (-1)) := fun hc => hn.2.2 x hxa (b.headD (-1)) (List.mem_cons_of_mem _ (head_mem hc.1)) hc.2
        rw [if_neg hxb, eb]
        by_cases hc : c = []
        · subst hc
          have : x = a.getLastD (-1) := by rw [ea, lastD_snoc]
          rw [if_pos ⟨(fun z => by rw [z] at hxa; cases hxa), this⟩]
          rfl
        · have : ¬ (a ≠ [] ∧ x = a.getLastD (-1)) := fun hc' => by
            have e3 : a = (a' ++ [x]) ++ c := by rw [ea]; simp
            have hl : x ∈ c := by
              have := hc'.2
              rw [e3, lastD_app hc] at this
              exact this ▸ last_mem hc
            have hna := hn.1
            rw [ea] at hna
            exact (List.nodup_cons.1 (List.nodup_append.1 hna).2.1).1 hl
          rw [if_neg this, headD_app hc, headD_app hc]
      · have eq' : Q i = (a ++ k :: c) ++ x :: b' := by rw [eq, eb]; simp
        rw [h.on i _ x _ eq']
        have hxb : x ∈ b := by rw [eb]; simp
        have hxa : ¬ (a ≠ [] ∧ x = a.getLastD (-1)) := fun hc => hn.2.2 _ (last_mem hc.1) x (List.mem_cons_of_mem _ hxb) hc.2.symm
        rw [if_neg hxa, ea]
        by_cases hc : c = []
        · subst hc
          have : x = b.headD (-1) := by rw [eb]; rfl
          rw [if_pos ⟨(fun z => by rw [z] at hxb; cases hxb), this⟩]
          simp
        · have : ¬ (b ≠ [] ∧ x = b.headD (-1)) := fun hc' => by
            have hl : x ∈ c := by
              have := hc'.2
              rw [eb, headD_app hc] at this
              exact this ▸ head_mem hc
            have hnb := (List.nodup_cons.1 hn.2.1).2
            rw [eb] at hnb
            exact (List.nodup_append.1 hnb).2.2 x hl x (by simp) rfl
          have e4 : a ++ k :: c = (a ++ [k]) ++ c := by simp
          rw [if_neg this, e4, lastD_app hc, lastD_app hc]
    · rw [qo i ei] at e
      obtain ⟨_, h2, h3⟩ := notin i x ei hx.1
      rw [if_neg h2, if_neg h3]
      rw [h.on i a' x b' e]
  · rw [ixL x x0 x1]
    by_cases e : x = k
    · rw [if_pos e]
    · have hx' : ∀ i, x ∉ Q i := fun i hi => hx i (mem_cutQ.2 ⟨hi, e⟩)
      rw [if_neg e, if_neg (fun c : b ≠ [] ∧ x = b.headD (-1) => hx' j (c.2 ▸ inB _ (head_mem c.1))), if_neg (fun c : a ≠ [] ∧ x = a.getLastD (-1) => hx' j (c.2 ▸ inA _ (last_mem c.1))), h.off x x0 x1 hx']
theorem pigeon : ∀ (n : Nat) (l : List Int), l.Nodup → (∀ x, x ∈ l → 0 ≤ x ∧ x < n) → l.length ≤ n
  | 0, l, _, h => by
    cases l with
    | nil => exact Nat.le_refl _
    | cons x l => have := h x (by simp); omega
  | n + 1, l, hn, h => by
    have key : ∀ l' : List Int, l' = l.filter (fun x => x != (n : Int)) → l'.length ≤ n := fun l' e => by
      refine pigeon n l' (by rw [e]; exact hn.filter _) (fun x hx => ?_)
      rw [e] at hx
      simp only [List.mem_filter, bne_iff_ne, ne_eq] at hx
      have := h x hx.1
      omega
    by_cases hm : (n : Int) ∈ l
    · obtain ⟨a, b, e⟩ := mem_split' hm
      have h1 := key (a ++ b) (by rw [e, cut_split (by rw [← e]; exact hn)])
      rw [e]
      simp only [List.length_append, List.length_cons] at h1 ⊢
      omega
    · have h1 := key l (cut_none hm).symm
      omega
theorem Rep.len_le {n m : Nat} {Q : Int → List Int} {L E : List Lk} (h : Rep n m Q L E) (j : Int) : (Q j).length ≤ n := pigeon n (Q j) (h.nd j) (h.mem j)
theorem Rep.new (n m : Nat) (hn : n ≤ 4096) (hm : m ≤ 4096) : Rep n m (fun _ => []) (List.replicate n (-1, -1, -1)) (List.replicate m (-1, -1, 0)) :=
  { nL := by simp, nE := by simp, sn := hn, sm := hm, out := fun _ _ => rfl, nd := fun _ => .nil, one := fun _ _ _ h => (by cases h), mem := fun _ _ h => (by cases h), ends := fun j h0 h1 => (by rw [ix_rep h0 h1]; rfl), on := fun j a k b e => (by simp at e), off := fun k h0 h1 _ => ix_rep h0 h1 }
end Go.Proofs.YtplefbcgpbdkfaaDoor
/- Package chain: the contracts. -/
namespace Go.Proofs.YtplefbcgpbdkfaaDoor
open Go Go.Fx

def vL : VP := .ls [.is (.own 0), .is (.own 1)]
def vLv : Var := ⟨true, .ls [.own 0, .own 1]⟩
def rL : RP := ⟨true, 125, tpL⟩
def rE : RP := ⟨true, 128, tpL⟩
def fxL (l : List Lk) : Row := ⟨true, true, 125, tpL, .s (l.length : Int), l⟩
def fxE (l : List Lk) : Row := ⟨true, true, 128, tpL, .s (l.length : Int), l⟩
def IsRep (L E : List Lk) : Prop := ∃ n m Q, Rep n m Q L E
def conOn : Con := (mkCon [.is (.lp 0 0), .d (.i .i64)] [vL] [rL, rE] (fun (k : Int) (L E : List Lk) => True) [] (constX True _) (fun (k : Int) (L E : List Lk) => .tup [i64 (onC L k).1, bb (onC L k).2]) (constX [] _) (constX [] _)).look
def conLen : Con := (mkCon [.is (.lp 0 0), .d (.i .i64)] [vL] [rL, rE] (fun (j : Int) (L E : List Lk) => True) [] (constX True _) (fun (j : Int) (L E : List Lk) => i64 (lenC E j)) (constX [] _) (constX [] _)).look
def conFirst : Con := (mkCon [.is (.lp 0 0), .d (.i .i64)] [vL] [rL, rE] (fun (j : Int) (L E : List Lk) => True) [] (constX True _) (fun (j : Int) (L E : List Lk) => .tup [i64 (firstC E j).1, bb (firstC E j).2]) (constX [] _) (constX [] _)).look
def conAll : Con := (mkCon [.is (.lp 0 0), .d (.i .i64)] [vL] [rL, rE] (fun (j : Int) (L E : List Lk) => IsRep L E) [.sl (.i .i64)] (fun (j : Int) (L E : List Lk) (o : List Int) => ∀ n m Q, Rep n m Q L E → o = Q j) (constX (.own 2) _) (constX [] _) (fun (j : Int) (L E : List Lk) (o : List Int) => [mkRow 3 (.i .i64) o])).look
def CanPush (n m : Nat) (Q : Int → List Int) (j k : Int) : Prop := 0 ≤ j ∧ j < m ∧ 0 ≤ k ∧ k < n ∧ ∀ i, k ∉ Q i
def PushPost (j k : Int) (L E L' E' : List Lk) (b : Bool) : Prop := ∀ n m Q, Rep n m Q L E → (CanPush n m Q j k → b = true ∧ Rep n m (putQ Q j k) L' E') ∧ (¬ CanPush n m Q j k → b = false ∧ L' = L ∧ E' = E)
def PullPost (k : Int) (L E L' E' : List Lk) (b : Bool) : Prop := ∀ n m Q, Rep n m Q L E → ((∃ j, k ∈ Q j) → b = true ∧ Rep n m (cutQ Q k) L' E') ∧ ((∀ j, k ∉ Q j) → b = false ∧ L' = L ∧ E' = E)
theorem Rep.first_neg {n m : Nat} {Q : Int → List Int} {L E : List Lk} (h : Rep n m Q L E) {k : Int} (e : (ix L k).1 = -1) (i : Int) : k ∉ Q i := fun hi => by
  obtain ⟨_, h1, h2, _⟩ := h.on_eq hi
  rw [h1] at e
  simp only at e
  omega
theorem push_no {j k : Int} {L E : List Lk} (h : ¬ (0 ≤ j ∧ j < E.length ∧ 0 ≤ k ∧ k < L.length ∧ (ix L k).1 = -1)) : PushPost j k L E L E false := fun n m Q hR => ⟨fun hc => by
  obtain ⟨c1, c2, c3, c4, c5⟩ := hc
  exact absurd ⟨c1, by rw [hR.nE]; exact c2, c3, by rw [hR.nL]; exact c4, by rw [hR.off k c3 c4 c5]⟩ h, fun _ => ⟨rfl, rfl, rfl⟩⟩
theorem push_yes {j k : Int} {L E : List Lk} (j0 : 0 ≤ j) (j1 : j < E.length) (k0 : 0 ≤ k) (k1 : k < L.length) (h : (ix L k).1 = -1) : PushPost j k L E (pushL L E j k) (pushE E j k) true := fun n m Q hR => ⟨fun hc => ⟨rfl, hR.push hc.1 hc.2.1 hc.2.2.1 hc.2.2.2.1 hc.2.2.2.2⟩, fun hc => by
  rw [hR.nE] at j1
  rw [hR.nL] at k1
  exact absurd ⟨j0, j1, k0, k1, hR.first_neg h⟩ hc⟩
theorem pull_no {k : Int} {L E : List Lk} (h : (onC L k).2 = false) : PullPost k L E L E false := fun n m Q hR => ⟨(fun hc => by rw [hR.on_iff.2 hc] at h; cases h), fun _ => ⟨rfl, rfl, rfl⟩⟩
theorem pull_yes {k : Int} {L E : List Lk} (h : (onC L k).2 = true) : PullPost k L E (pullL L k) (pullE L E k) true := fun n m Q hR => ⟨fun ⟨j, hc⟩ => ⟨rfl, hR.pull hc⟩, fun hc => by
  obtain ⟨j, hj⟩ := hR.on_iff.1 h
  exact absurd hj (hc j)⟩
def conPush : Con := mkCon [.is (.lp 0 0), .d (.i .i64), .d (.i .i64)] [vL] [rL, rE] (fun (j k : Int) (L E : List Lk) => IsRep L E) [.sl tpL, .sl tpL, .bo] (fun (j k : Int) (L E L' E' : List Lk) (b : Bool) => PushPost j k L E L' E' b)
  (fun (j k : Int) (L E L' E' : List Lk) (b : Bool) => bb b) (constX [vLv] _) (fun (j k : Int) (L E L' E' : List Lk) (b : Bool) => [fxL L', fxE E'])
def conPull : Con := mkCon [.is (.lp 0 0), .d (.i .i64)] [vL] [rL, rE] (fun (k : Int) (L E : List Lk) => IsRep L E) [.sl tpL, .sl tpL, .bo] (fun (k : Int) (L E L' E' : List Lk) (b : Bool) => PullPost k L E L' E' b)
  (fun (k : Int) (L E L' E' : List Lk) (b : Bool) => bb b) (constX [vLv] _) (fun (k : Int) (L E L' E' : List Lk) (b : Bool) => [fxL L', fxE E'])
def cut4096 (n : Int) : Nat := if n < 0 then 0 else if 4096 < n then 4096 else n.toNat
theorem cutmm (x : Int) : (if (0 : Int) < if (4096 : Int) < x then (4096 : Int) else x then if (4096 : Int) < x then (4096 : Int) else x else (0 : Int)) = (cut4096 x : Int) := by
  unfold cut4096
  split <;> split <;> (try split) <;> (try split) <;> omega
theorem cut_le (x : Int) : cut4096 x ≤ 4096 := by
  unfold cut4096
  split
  · omega
  · split <;> omega
/-- So far filled. -/
def Filled (l : List Lk) (i : Int) (n : Nat) (v : Lk) : Prop := 0 ≤ i ∧ i ≤ n ∧ l.length = n ∧ ∀ t, 0 ≤ t → t < i → ix l t = v
theorem Filled.zero (n : Nat) (v z : Lk) : Filled (List.replicate n z) 0 n v := ⟨Int.le_refl _, Int.natCast_nonneg _, by simp, fun t h0 h1 => by omega⟩
theorem Filled.set {l : List Lk} {i : Int} {n : Nat} {v : Lk} (h : Filled l i n v) (hi : i < n) : Filled (l.set i.toNat v) (i + 1) n v := by
  obtain ⟨h0, h1, h2, h3⟩ := h
  refine ⟨by omega, by omega, by rw [List.length_set, h2], fun t t0 t1 => ?_⟩
  rw [ix_set h0 (by rw [h2]; exact hi) t0]
  split
  · rfl
  · exact h3 t t0 (by omega)
theorem Filled.all {l : List Lk} {i : Int} {n : Nat} {v : Lk} (h : Filled l i n v) (hi : (n : Int) ≤ i) : l = List.replicate n v := by
  obtain ⟨h0, h1, h2, h3⟩ := h
  refine list_ext (by simp [h2]) (fun t t0 t1 => ?_)
  rw [h2] at t1
  rw [h3 t t0 (by omega), ix_rep t0 t1]
def conNewL : Con := mkCon [.d (.i .i64), .d (.i .i64)] [] [] (constX True _) [] (constX True _) (constX (.lp 0 0) _) (constX [vLv] _)
  (fun (n m : Int) => [mkRow 125 tpL (List.replicate (cut4096 n) (-1, -1, -1)), mkRow 128 tpL (List.replicate (cut4096 m) (-1, -1, 0))])
end Go.Proofs.YtplefbcgpbdkfaaDoor
/- Plain words for a wheel's times: where an alarm is to stand, and when its list is gone over. No program in sight. -/
namespace Go.Proofs.YtplefbcgpbdkfaaDoor
open Go Go.Fx

/-- Spans of a row's buckets. -/
def sp : Nat → Int
  | 0 => 1
  | 1 => 64
  | 2 => 4096
  | 3 => 262144
  | _ => 16777216
/-- The list of a time in row r. -/
def slot (r : Nat) (t : Int) : Int := 64 * r + t / sp r % 64
/-- Where an alarm may stand: due, far, or in a row: of time 'now' that its bucket is not behind of. -/
def weak (now at_ j : Int) : Prop := (j = 256 ∧ at_ ≤ now) ∨ (j = 257 ∧ now ≤ at_ / sp 4 * sp 4) ∨ ∃ r, r < 4 ∧ j = slot r at_ ∧ now ≤ at_ / sp r * sp r ∧ at_ / sp r - now / sp r ≤ 64
def strong (now at_ j : Int) : Prop := (j = 256 ∧ at_ ≤ now) ∨ (j = 257 ∧ now / sp 4 < at_ / sp 4) ∨ ∃ r, r < 4 ∧ j = slot r at_ ∧ now / sp r < at_ / sp r ∧ at_ / sp r - now / sp r ≤ 64
def placeW (now at_ : Int) : Int :=
  if at_ ≤ now then 256
  else if at_ - now < 64 then slot 0 at_
  else if at_ - now < 4096 then slot 1 at_
  else if at_ - now < 262144 then slot 2 at_
  else if at_ - now < 16777216 then slot 3 at_
  else 257
theorem place_strong {now at_ : Int} (h0 : 0 ≤ now) (h1 : 0 ≤ at_) : strong now at_ (placeW now at_) := by
  unfold placeW
  split
  · exact .inl ⟨rfl, by assumption⟩
  split
  · exact .inr (.inr ⟨0, by omega, rfl, by simp only [sp]; omega, by simp only [sp]; omega⟩)
  split
  · exact .inr (.inr ⟨1, by omega, rfl, by simp only [sp]; omega, by simp only [sp]; omega⟩)
  split
  · exact .inr (.inr ⟨2, by omega, rfl, by simp only [sp]; omega, by simp only [sp]; omega⟩)
  split
  · exact .inr (.inr ⟨3, by omega, rfl, by simp only [sp]; omega, by simp only [sp]; omega⟩)
  · exact .inr (.inl ⟨rfl, by simp only [sp]; omega⟩)
theorem slot_range {r : Nat} (hr : r < 4) (t : Int) : 64 * (r : Int) ≤ slot r t ∧ slot r t < 64 * (r : Int) + 64 := by
  unfold slot
  omega
theorem place_range {now at_ : Int} : 0 ≤ placeW now at_ ∧ placeW now at_ < 258 := by
  unfold placeW
  have h0 := slot_range (r := 0) (by omega) at_
  have h1 := slot_range (r := 1) (by omega) at_
  have h2 := slot_range (r := 2) (by omega) at_
  have h3 := slot_range (r := 3) (by omega) at_
  repeat' split
  all_goals omega
/-- A step that comes behind of no bucket. -/
def stepOK (to at_ j : Int) : Prop := (j = 257 → to ≤ at_ / sp 4 * sp 4) ∧ ∀ r : Nat, r < 4 → 64 * (r : Int) ≤ j → j < 64 * (r : Int) + 64 → to ≤ at_ / sp r * sp r
theorem step_weak {now to at_ j : Int} (h0 : 0 ≤ now) (hto : now < to) (h : strong now at_ j) (hs : stepOK to at_ j) : weak to at_ j := by
  rcases h with ⟨rfl, h⟩ | ⟨rfl, h⟩ | ⟨r, hr, e, h1, h2⟩
  · exact .inl ⟨rfl, by omega⟩
  · exact .inr (.inl ⟨rfl, hs.1 rfl⟩)
  · have hrg := slot_range hr at_
    refine .inr (.inr ⟨r, hr, e, hs.2 r hr (by omega) (by omega), ?_⟩)
    have : r = 0 ∨ r = 1 ∨ r = 2 ∨ r = 3 := by omega
    rcases this with rfl | rfl | rfl | rfl <;> simp only [sp] at * <;> omega
/-- Which lists need not be gone over at a time: they are right as they stand. -/
theorem step_strong {now to at_ j : Int} (h0 : 0 ≤ now) (hto : now < to) (h : strong now at_ j) (hs : stepOK to at_ j) (hg : (j = 257 → to % sp 4 ≠ 0) ∧ ∀ r : Nat, r < 4 → to % sp r = 0 → j ≠ slot r to) : strong to at_ j := by
  rcases h with ⟨rfl, h⟩ | ⟨rfl, h⟩ | ⟨r, hr, e, h1, h2⟩
  · exact .inl ⟨rfl, by omega⟩
  · refine .inr (.inl ⟨rfl, ?_⟩)
    have a := hs.1 rfl
    have b := hg.1 rfl
    simp only [sp] at *
    omega
  · have hrg := slot_range hr at_
    have a := hs.2 r hr (by omega) (by omega)
    have b := hg.2 r hr
    refine .inr (.inr ⟨r, hr, e, ?_, ?_⟩)
    · have : r = 0 ∨ r = 1 ∨ r = 2 ∨ r = 3 := by omega
      rcases this with rfl | rfl | rfl | rfl <;> simp only [sp, slot] at * <;> omega
    · have : r = 0 ∨ r = 1 ∨ r = 2 ∨ r = 3 := by omega
      rcases this with rfl | rfl | rfl | rfl <;> simp only [sp] at * <;> omega
end Go.Proofs.YtplefbcgpbdkfaaDoor
/- Package chain: the code keeps the contracts. -/
namespace Go.Proofs.YtplefbcgpbdkfaaDoor
open Go Go.Fx
noncomputable def G0 : List (FuncId × Con) := []
theorem G0_ok : GOK KK Tryd.prog G0 := GOK.nil

set_option maxRecDepth 10000 in
theorem con_vc :
  ∀ x0 : Int,
 ∀ x1 : List (Int × (Int × Int)),
 ∀ x2 : List (Int × (Int × Int)),
 True →
 ((litCmp BinOp.lss x0 (0 : Int) = true) →
 (True) ∧
 (((0 : Int) = Prod.fst (onC x1 x0)) ∧
 ((false = Prod.snd (onC x1 x0)) ∧
 ((x1 = x1) ∧
 (((↑(List.length x1) : Int) = (↑(List.length x1) : Int)) ∧
 ((x2 = x2) ∧
 (((↑(List.length x2) : Int) = (↑(List.length x2) : Int)) ∧
 (True)))))))) ∧
 ((litCmp BinOp.lss x0 (0 : Int) = false) →
 ((litCmp BinOp.geq x0 (↑(List.length x1) : Int) = true) →
 (True) ∧
 (((0 : Int) = Prod.fst (onC x1 x0)) ∧
 ((false = Prod.snd (onC x1 x0)) ∧
 ((x1 = x1) ∧
 (((↑(List.length x1) : Int) = (↑(List.length x1) : Int)) ∧
 ((x2 = x2) ∧
 (((↑(List.length x2) : Int) = (↑(List.length x2) : Int)) ∧
 (True)))))))) ∧
 ((litCmp BinOp.geq x0 (↑(List.length x1) : Int) = false) →
 (((0 : Int) ≤ x0) ∧
 (x0 < (↑(List.length x1) : Int))) ∧
 (∀ x3 : Int,
 (x3 = Prod.fst (ix x1 x0)) →
 ((litCmp BinOp.eql x3 (-1 : Int) = true) →
 (True) ∧
 (((0 : Int) = Prod.fst (onC x1 x0)) ∧
 ((false = Prod.snd (onC x1 x0)) ∧
 ((x1 = x1) ∧
 (((↑(List.length x1) : Int) = (↑(List.length x1) : Int)) ∧
 ((x2 = x2) ∧
 (((↑(List.length x2) : Int) = (↑(List.length x2) : Int)) ∧
 (True)))))))) ∧
 ((litCmp BinOp.eql x3 (-1 : Int) = false) →
 (((0 : Int) ≤ x0) ∧
 (x0 < (↑(List.length x1) : Int))) ∧
 (∀ x4 : Int,
 (x4 = Prod.fst (ix x1 x0)) →
 (True) ∧
 ((x4 = Prod.fst (onC x1 x0)) ∧
 ((true = Prod.snd (onC x1 x0)) ∧
 ((x1 = x1) ∧
 (((↑(List.length x1) : Int) = (↑(List.length x1) : Int)) ∧
 ((x2 = x2) ∧
 (((↑(List.length x2) : Int) = (↑(List.length x2) : Int)) ∧
             (True)))))))))))) := by
  intro k L E _
  simp only [gtrT, gtrF, lssT, lssF, leqT, leqF, geqT, geqF, eqlT, eqlF, neqT, neqF, true_and, and_true, true_implies, implies_true, Bool.not_eq_true', Bool.not_eq_false', bne_iff_ne, ne_eq, not_true_eq_false, not_false_eq_true, Int.toNat_natCast, same_self, reduceCtorEq, false_implies, List.nil_append, onC]
  refine ⟨fun h => ?_, fun h => ⟨fun h' => ?_, fun h' => ⟨by omega, fun x e => ⟨fun h2 => ?_, fun h2 => ⟨by omega, fun y e2 => ?_⟩⟩⟩⟩⟩
  · rw [if_neg (by omega)]; simp
  · rw [if_neg (by omega)]; simp
  · rw [if_neg (by omega)]; simp
  · rw [if_pos (by omega)]; simp [e2]
set_option maxRecDepth 10000 in
theorem con_ok : conOn.ok KK Tryd.prog 54 := by
  refine Con.of_vc ([]) ([]) ([]) TT_ok follows Tryd.func54 ?_ G0_ok (@toVC _ _ con_vc ?_)
  · kernel_rfl
  · kernel_rfl
noncomputable def G1 : List (FuncId × Con) := (54, conOn) :: G0
theorem G1_ok : GOK KK Tryd.prog G1 := GOK.cons (Callable.of Tryd.func54 (by kernel_rfl) (by kernel_rfl)) con_ok G0_ok

set_option maxRecDepth 10000 in
theorem clen_vc :
  ∀ x0 : Int,
 ∀ x1 : List (Int × (Int × Int)),
 ∀ x2 : List (Int × (Int × Int)),
 True →
 ((litCmp BinOp.lss x0 (0 : Int) = true) →
 (True) ∧
 (((0 : Int) = lenC x2 x0) ∧
 ((x1 = x1) ∧
 (((↑(List.length x1) : Int) = (↑(List.length x1) : Int)) ∧
 ((x2 = x2) ∧
 (((↑(List.length x2) : Int) = (↑(List.length x2) : Int)) ∧
 (True))))))) ∧
 ((litCmp BinOp.lss x0 (0 : Int) = false) →
 ((litCmp BinOp.geq x0 (↑(List.length x2) : Int) = true) →
 (True) ∧
 (((0 : Int) = lenC x2 x0) ∧
 ((x1 = x1) ∧
 (((↑(List.length x1) : Int) = (↑(List.length x1) : Int)) ∧
 ((x2 = x2) ∧
 (((↑(List.length x2) : Int) = (↑(List.length x2) : Int)) ∧
 (True))))))) ∧
 ((litCmp BinOp.geq x0 (↑(List.length x2) : Int) = false) →
 (((0 : Int) ≤ x0) ∧
 (x0 < (↑(List.length x2) : Int))) ∧
 (∀ x3 : Int,
 (x3 = Prod.snd (Prod.snd (ix x2 x0))) →
 (True) ∧
 ((x3 = lenC x2 x0) ∧
 ((x1 = x1) ∧
 (((↑(List.length x1) : Int) = (↑(List.length x1) : Int)) ∧
 ((x2 = x2) ∧
 (((↑(List.length x2) : Int) = (↑(List.length x2) : Int)) ∧
          (True))))))))) := by
  intro k L E _
  simp only [gtrT, gtrF, lssT, lssF, leqT, leqF, geqT, geqF, eqlT, eqlF, neqT, neqF, true_and, and_true, true_implies, implies_true, Bool.not_eq_true', Bool.not_eq_false', bne_iff_ne, ne_eq, not_true_eq_false, not_false_eq_true, Int.toNat_natCast, same_self, reduceCtorEq, false_implies, List.nil_append, lenC]
  refine ⟨fun h => ?_, fun h => ⟨fun h' => ?_, fun h' => ⟨by omega, fun x e => ?_⟩⟩⟩
  · rw [if_pos (by omega)]
  · rw [if_pos (by omega)]
  · rw [if_neg (by omega)]; simp [e]
set_option maxRecDepth 10000 in
theorem clen_ok : conLen.ok KK Tryd.prog 58 := by
  refine Con.of_vc ([]) ([]) ([]) TT_ok follows Tryd.func58 ?_ G1_ok (@toVC _ _ clen_vc ?_)
  · kernel_rfl
  · kernel_rfl
noncomputable def G2 : List (FuncId × Con) := (58, conLen) :: G1
theorem G2_ok : GOK KK Tryd.prog G2 := GOK.cons (Callable.of Tryd.func58 (by kernel_rfl) (by kernel_rfl)) clen_ok G1_ok

set_option maxRecDepth 10000 in
theorem cfirst_vc :
  ∀ x0 : Int,
 ∀ x1 : List (Int × (Int × Int)),
 ∀ x2 : List (Int × (Int × Int)),
 True →
 (True) ∧
 (True →
 ((litCmp BinOp.eql (lenC x2 x0) (0 : Int) = true) →
 (True) ∧
 (((0 : Int) = Prod.fst (firstC x2 x0)) ∧
 ((false = Prod.snd (firstC x2 x0)) ∧
 ((x1 = x1) ∧
 (((↑(List.length x1) : Int) = (↑(List.length x1) : Int)) ∧
 ((x2 = x2) ∧
 (((↑(List.length x2) : Int) = (↑(List.length x2) : Int)) ∧
 (True)))))))) ∧
 ((litCmp BinOp.eql (lenC x2 x0) (0 : Int) = false) →
 (((0 : Int) ≤ x0) ∧
 (x0 < (↑(List.length x2) : Int))) ∧
 (∀ x3 : Int,
 (x3 = Prod.fst (ix x2 x0)) →
 (True) ∧
 ((x3 = Prod.fst (firstC x2 x0)) ∧
 ((true = Prod.snd (firstC x2 x0)) ∧
 ((x1 = x1) ∧
 (((↑(List.length x1) : Int) = (↑(List.length x1) : Int)) ∧
 ((x2 = x2) ∧
 (((↑(List.length x2) : Int) = (↑(List.length x2) : Int)) ∧
           (True)))))))))) := by
  intro k L E _
  simp only [gtrT, gtrF, lssT, lssF, leqT, leqF, geqT, geqF, eqlT, eqlF, neqT, neqF, true_and, and_true, true_implies, implies_true, Bool.not_eq_true', Bool.not_eq_false', bne_iff_ne, ne_eq, not_true_eq_false, not_false_eq_true, Int.toNat_natCast, same_self, reduceCtorEq, false_implies, List.nil_append, firstC]
  refine ⟨fun h => ?_, fun h => ⟨?_, fun x e => ?_⟩⟩
  · rw [if_pos h]; simp
  · unfold lenC at h
    split at h
    · exact absurd rfl h
    · omega
  · rw [if_neg h]; simp [e]
set_option maxRecDepth 10000 in
theorem cfirst_ok : conFirst.ok KK Tryd.prog 79 := by
  refine Con.of_vc ([]) ([]) ([]) TT_ok follows Tryd.func79 ?_ G2_ok (@toVC _ _ cfirst_vc ?_)
  · kernel_rfl
  · kernel_rfl
noncomputable def G3 : List (FuncId × Con) := (79, conFirst) :: G2
theorem G3_ok : GOK KK Tryd.prog G3 := GOK.cons (Callable.of Tryd.func79 (by kernel_rfl) (by kernel_rfl)) cfirst_ok G2_ok

set_option maxRecDepth 10000 in
theorem call__vc :
  ∀ x0 : Int,
 ∀ x1 : List (Int × (Int × Int)),
 ∀ x2 : List (Int × (Int × Int)),
 (IsRep x1 x2) →
 (True) ∧
 (True →
 ∃ x3 : Int → Bool → List Int → Prop,
 ∃ x4 : Int → Bool → List Int → Nat,
 (x3 (Prod.fst (firstC x2 x0)) (Prod.snd (firstC x2 x0)) []) ∧
 (∀ x5 : Int,
 ∀ x6 : Bool,
 ∀ x7 : List Int,
 (x3 x5 x6 x7) →
 ((x6 = true) →
 ((litCmp BinOp.neq x5 (-1 : Int) = true) →
 (((0 : Int) ≤ (↑(List.length x7) : Int) + (1 : Int)) ∧
 (((↑(List.length x7) : Int) + (1 : Int)) * (8 : Int) ≤ (140737488355328 : Int))) ∧
 (∀ x8 : List Int,
 (x8 = x7 ++ [x5]) →
 (((0 : Int) ≤ x5) ∧
 (x5 < (↑(List.length x1) : Int))) ∧
 (∀ x9 : Int,
 (x9 = Prod.snd (Prod.snd (ix x1 x5))) →
 (x1 = x1) ∧
 (((↑(List.length x1) : Int) = (↑(List.length x1) : Int)) ∧
 ((x2 = x2) ∧
 (((↑(List.length x2) : Int) = (↑(List.length x2) : Int)) ∧
 ((x3 x9 x6 x8) ∧
 (x4 x9 x6 x8 < x4 x5 x6 x7)))))))) ∧
 ((litCmp BinOp.neq x5 (-1 : Int) = false) →
 ∃ x10 : List Int,
 (∀ x11 : Nat,
 ∀ x12 : Nat,
 ∀ x13 : Int → List Int,
 (Rep x11 x12 x13 x1 x2) →
 x10 = x13 x0) ∧
 ((x1 = x1) ∧
 (((↑(List.length x1) : Int) = (↑(List.length x1) : Int)) ∧
 ((x2 = x2) ∧
 (((↑(List.length x2) : Int) = (↑(List.length x2) : Int)) ∧
 ((x7 = x10) ∧
 (((↑(List.length x7) : Int) = (↑(List.length x10) : Int)) ∧
 (True))))))))) ∧
 ((x6 = false) →
 ∃ x14 : List Int,
 (∀ x15 : Nat,
 ∀ x16 : Nat,
 ∀ x17 : Int → List Int,
 (Rep x15 x16 x17 x1 x2) →
 x14 = x17 x0) ∧
 ((x1 = x1) ∧
 (((↑(List.length x1) : Int) = (↑(List.length x1) : Int)) ∧
 ((x2 = x2) ∧
 (((↑(List.length x2) : Int) = (↑(List.length x2) : Int)) ∧
 ((x7 = x14) ∧
 (((↑(List.length x7) : Int) = (↑(List.length x14) : Int)) ∧
           (True)))))))))) := by
  intro j L E hR
  obtain ⟨n0, m0, Q0, h0⟩ := hR
  refine ⟨trivial, fun _ => ⟨fun k ok out => ∀ n m Q, Rep n m Q L E → (ok = true ∧ ∃ b, Q j = out ++ b ∧ k = b.headD (-1)) ∨ (ok = false ∧ Q j = [] ∧ out = []), fun _ _ out => (Q0 j).length - out.length, fun n m Q h => ?_, fun k ok out hI => ?_⟩⟩
  · rw [h.first_eq j]
    by_cases hq : Q j = []
    · rw [if_pos hq]; exact .inr ⟨rfl, hq, rfl⟩
    · rw [if_neg hq]; exact .inl ⟨rfl, Q j, rfl, rfl⟩
  simp only [gtrT, gtrF, lssT, lssF, leqT, leqF, geqT, geqF, eqlT, eqlF, neqT, neqF, true_and, and_true, true_implies, implies_true, Bool.not_eq_true', Bool.not_eq_false', bne_iff_ne, ne_eq, not_true_eq_false, not_false_eq_true, Int.toNat_natCast, same_self, reduceCtorEq, false_implies, List.nil_append]
  refine ⟨fun hok => ⟨fun hk => ?_, fun hk => ⟨out, fun n m Q h => ?_, rfl, rfl⟩⟩, fun hok => ⟨out, fun n m Q h => ?_, rfl, rfl⟩⟩
  · subst hok
    rcases hI n0 m0 Q0 h0 with ⟨_, b0, e0, hb0⟩ | ⟨e, _⟩
    case inr => cases e
    have step : ∀ n m Q, Rep n m Q L E → ∃ b, Q j = out ++ k :: b ∧ (ix L k).2.2 = b.headD (-1) := fun n m Q h => by
      rcases hI n m Q h with ⟨_, b, e, hb⟩ | ⟨e, _⟩
      · cases b with
        | nil => exact absurd hb hk
        | cons x b =>
          simp only [List.headD_cons] at hb
          subst hb
          exact ⟨b, e, h.next e⟩
      · cases e
    obtain ⟨b, e, hb⟩ := step n0 m0 Q0 h0
    have hkr := h0.mem j k (by rw [e]; simp)
    have hle := h0.len_le j
    have hsn := h0.sn
    have hln : (Q0 j).length = out.length + (b.length + 1) := by rw [e]; simp
    refine ⟨by omega, ?_⟩
    rintro _ rfl
    refine ⟨by rw [h0.nL]; omega, ?_⟩
    rintro _ rfl
    refine ⟨fun n m Q h => ?_, ?_⟩
    · obtain ⟨b', e', hb'⟩ := step n m Q h
      exact .inl ⟨rfl, b', by rw [e']; simp, hb'⟩
    · simp only [List.length_append, List.length_singleton]; omega
  · rcases hI n m Q h with ⟨_, b, e, hb⟩ | ⟨_, e1, e2⟩
    · cases b with
      | nil => rw [e]; simp
      | cons x b =>
        have := h.mem j x (by rw [e]; simp)
        simp only [List.headD_cons] at hb
        omega
    · rw [e1, e2]
  · rcases hI n m Q h with ⟨e, _⟩ | ⟨_, e1, e2⟩
    · rw [hok] at e; cases e
    · rw [e1, e2]
set_option maxRecDepth 10000 in
theorem call__ok : conAll.ok KK Tryd.prog 61 := by
  refine Con.of_vc ([(0, ⟨[(5, 3, .i .i64)], [(5, .is (.own 2)), (6, .d (.i .i64)), (7, .d .bo)], [], [2], []⟩)]) ([]) ([]) TT_ok follows Tryd.func61 ?_ G3_ok (@toVC _ _ call__vc ?_)
  · kernel_rfl
  · kernel_rfl
noncomputable def G4 : List (FuncId × Con) := (61, conAll) :: G3
theorem G4_ok : GOK KK Tryd.prog G4 := GOK.cons (Callable.of Tryd.func61 (by kernel_rfl) (by kernel_rfl)) call__ok G3_ok

set_option maxRecDepth 10000 in
theorem cpush_vc :
  ∀ x0 : Int,
 ∀ x1 : Int,
 ∀ x2 : List (Int × (Int × Int)),
 ∀ x3 : List (Int × (Int × Int)),
 (IsRep x2 x3) →
 ((litCmp BinOp.lss x0 (0 : Int) = true) →
 ∃ x4 : List (Int × (Int × Int)),
 ∃ x5 : List (Int × (Int × Int)),
 ∃ x6 : Bool,
 (PushPost x0 x1 x2 x3 x4 x5 x6) ∧
 ((false = x6) ∧
 ((x2 = x4) ∧
 (((↑(List.length x2) : Int) = (↑(List.length x4) : Int)) ∧
 ((x3 = x5) ∧
 (((↑(List.length x3) : Int) = (↑(List.length x5) : Int)) ∧
 (True))))))) ∧
 ((litCmp BinOp.lss x0 (0 : Int) = false) →
 ((litCmp BinOp.geq x0 (↑(List.length x3) : Int) = true) →
 ∃ x7 : List (Int × (Int × Int)),
 ∃ x8 : List (Int × (Int × Int)),
 ∃ x9 : Bool,
 (PushPost x0 x1 x2 x3 x7 x8 x9) ∧
 ((false = x9) ∧
 ((x2 = x7) ∧
 (((↑(List.length x2) : Int) = (↑(List.length x7) : Int)) ∧
 ((x3 = x8) ∧
 (((↑(List.length x3) : Int) = (↑(List.length x8) : Int)) ∧
 (True))))))) ∧
 ((litCmp BinOp.geq x0 (↑(List.length x3) : Int) = false) →
 ((litCmp BinOp.lss x1 (0 : Int) = true) →
 ∃ x10 : List (Int × (Int × Int)),
 ∃ x11 : List (Int × (Int × Int)),
 ∃ x12 : Bool,
 (PushPost x0 x1 x2 x3 x10 x11 x12) ∧
 ((false = x12) ∧
 ((x2 = x10) ∧
 (((↑(List.length x2) : Int) = (↑(List.length x10) : Int)) ∧
 ((x3 = x11) ∧
 (((↑(List.length x3) : Int) = (↑(List.length x11) : Int)) ∧
 (True))))))) ∧
 ((litCmp BinOp.lss x1 (0 : Int) = false) →
 ((litCmp BinOp.geq x1 (↑(List.length x2) : Int) = true) →
 ∃ x13 : List (Int × (Int × Int)),
 ∃ x14 : List (Int × (Int × Int)),
 ∃ x15 : Bool,
 (PushPost x0 x1 x2 x3 x13 x14 x15) ∧
 ((false = x15) ∧
 ((x2 = x13) ∧
 (((↑(List.length x2) : Int) = (↑(List.length x13) : Int)) ∧
 ((x3 = x14) ∧
 (((↑(List.length x3) : Int) = (↑(List.length x14) : Int)) ∧
 (True))))))) ∧
 ((litCmp BinOp.geq x1 (↑(List.length x2) : Int) = false) →
 (((0 : Int) ≤ x1) ∧
 (x1 < (↑(List.length x2) : Int))) ∧
 (∀ x16 : Int,
 (x16 = Prod.fst (ix x2 x1)) →
 ((litCmp BinOp.neq x16 (-1 : Int) = true) →
 ∃ x17 : List (Int × (Int × Int)),
 ∃ x18 : List (Int × (Int × Int)),
 ∃ x19 : Bool,
 (PushPost x0 x1 x2 x3 x17 x18 x19) ∧
 ((false = x19) ∧
 ((x2 = x17) ∧
 (((↑(List.length x2) : Int) = (↑(List.length x17) : Int)) ∧
 ((x3 = x18) ∧
 (((↑(List.length x3) : Int) = (↑(List.length x18) : Int)) ∧
 (True))))))) ∧
 ((litCmp BinOp.neq x16 (-1 : Int) = false) →
 (((0 : Int) ≤ x1) ∧
 (x1 < (↑(List.length x2) : Int))) ∧
 ((((0 : Int) ≤ x0) ∧
 (x0 < (↑(List.length x3) : Int))) ∧
 (∀ x20 : Int,
 (x20 = Prod.fst (Prod.snd (ix x3 x0))) →
 ((litCmp BinOp.eql x20 (-1 : Int) = true) →
 ∀ x21 : List (Int × Int × Int),
 (x21 = List.set x3 (Int.toNat x0) (x1, Prod.snd (ix x3 x0))) →
 ∀ x22 : List (Int × Int × Int),
 (x22 = List.set x21 (Int.toNat x0) (Prod.fst (ix x21 x0), x1, Prod.snd (Prod.snd (ix x21 x0)))) →
 ∀ x23 : Int,
 (x23 = Prod.snd (Prod.snd (ix x22 x0))) →
 ∀ x24 : Int,
 (x24 = litArith BinOp.add IntKind.i64 x23 (1 : Int)) →
 ∀ x25 : List (Int × Int × Int),
 (x25 = List.set x22 (Int.toNat x0) (Prod.fst (ix x22 x0), Prod.fst (Prod.snd (ix x22 x0)), x24)) →
 ∃ x26 : List (Int × (Int × Int)),
 ∃ x27 : List (Int × (Int × Int)),
 ∃ x28 : Bool,
 (PushPost x0 x1 x2 x3 x26 x27 x28) ∧
 ((true = x28) ∧
 ((List.set x2 (Int.toNat x1) (x0, Prod.fst (Prod.snd (ix x3 x0)), (-1 : Int)) = x26) ∧
 (((↑(List.length x2) : Int) = (↑(List.length x26) : Int)) ∧
 ((x25 = x27) ∧
 (((↑(List.length x3) : Int) = (↑(List.length x27) : Int)) ∧
 (True))))))) ∧
 ((litCmp BinOp.eql x20 (-1 : Int) = false) →
 (((0 : Int) ≤ Prod.fst (Prod.snd (ix x3 x0))) ∧
 (Prod.fst (Prod.snd (ix x3 x0)) < (↑(List.length x2) : Int))) ∧
 (∀ x29 : List (Int × Int × Int),
 (x29 = List.set x3 (Int.toNat x0) (Prod.fst (ix x3 x0), x1, Prod.snd (Prod.snd (ix x3 x0)))) →
 ∀ x30 : Int,
 (x30 = Prod.snd (Prod.snd (ix x29 x0))) →
 ∀ x31 : Int,
 (x31 = litArith BinOp.add IntKind.i64 x30 (1 : Int)) →
 ∀ x32 : List (Int × Int × Int),
 (x32 = List.set x29 (Int.toNat x0) (Prod.fst (ix x29 x0), Prod.fst (Prod.snd (ix x29 x0)), x31)) →
 ∃ x33 : List (Int × (Int × Int)),
 ∃ x34 : List (Int × (Int × Int)),
 ∃ x35 : Bool,
 (PushPost x0 x1 x2 x3 x33 x34 x35) ∧
 ((true = x35) ∧
 ((List.set (List.set x2 (Int.toNat x1) (x0, Prod.fst (Prod.snd (ix x3 x0)), (-1 : Int))) (Int.toNat (Prod.fst (Prod.snd (ix x3 x0)))) (Prod.fst (ix (List.set x2 (Int.toNat x1) (x0, Prod.fst (Prod.snd (ix x3 x0)), (-1 : Int))) (Prod.fst (Prod.snd (ix x3 x0)))), Prod.fst (Prod.snd (ix (List.set x2 (Int.toNat x1) (x0, Prod.fst (Prod.snd (ix x3 x0)), (-1 : Int))) (Prod.fst (Prod.snd (ix x3 x0))))), x1) = x33) ∧
 (((↑(List.length x2) : Int) = (↑(List.length x33) : Int)) ∧
 ((x32 = x34) ∧
 (((↑(List.length x3) : Int) = (↑(List.length x34) : Int)) ∧
                 (True)))))))))))))))) := by
  intro j k L E hR
  obtain ⟨n, m, Q, h⟩ := hR
  simp only [gtrT, gtrF, lssT, lssF, leqT, leqF, geqT, geqF, eqlT, eqlF, neqT, neqF, true_and, and_true, true_implies, implies_true, Bool.not_eq_true', Bool.not_eq_false', bne_iff_ne, ne_eq, not_true_eq_false, not_false_eq_true, Int.toNat_natCast, same_self, reduceCtorEq, false_implies, List.nil_append]
  have no : ∀ {c : Prop}, (c → ¬ (0 ≤ j ∧ j < E.length ∧ 0 ≤ k ∧ k < L.length ∧ (ix L k).1 = -1)) → c → ∃ x4 x5 x6, PushPost j k L E x4 x5 x6 ∧ false = x6 ∧ L = x4 ∧ (L.length : Int) = x4.length ∧ E = x5 ∧ (E.length : Int) = x5.length := fun h c => ⟨L, E, false, push_no (h c), rfl, rfl, rfl, rfl, rfl⟩
  refine ⟨no (by omega), fun h1 => ⟨no (by omega), fun h2 => ⟨no (by omega), fun h3 => ⟨no (by omega), fun h4 => ⟨by omega, ?_⟩⟩⟩⟩⟩
  rintro _ rfl
  refine ⟨no (by omega), fun h5 => ⟨by omega, by omega, ?_⟩⟩
  have hl : ∀ (l : List Lk), l.length = E.length → ∀ x, ix (l.set j.toNat x) j = x := fun l e x => by
    rw [ix_set h1 (by rw [e]; exact h2) h1, if_pos rfl]
  have hends := h.ends j h1 (by rw [← h.nE]; exact h2)
  have hlen := h.len_le j
  have hsn := h.sn
  have hcnt : (ix E j).2.2 = ((Q j).length : Int) := by rw [hends]
  rintro _ rfl
  have hadd : litArith .add .i64 (ix E j).2.2 1 = (ix E j).2.2 + 1 := addI_ (by omega) (by omega)
  refine ⟨fun h6 => ?_, fun h6 => ⟨?_, ?_⟩⟩
  · rintro _ rfl _ rfl _ rfl _ rfl _ rfl
    refine ⟨_, _, true, push_yes h1 h2 h3 h4 h5, rfl, ?_, ?_, ?_, ?_⟩
    · unfold pushL; simp only; rw [if_pos h6]
    · unfold pushL; simp only; rw [if_pos h6]; simp
    · simp only [hl E rfl, hl (E.set _ _) (by simp), List.set_set, hadd]
      unfold pushE; rw [if_pos h6]
    · simp [pushE]
  · have hne : Q j ≠ [] := fun e => by rw [hends, e] at h6; exact h6 rfl
    have := h.mem j _ (last_mem hne)
    rw [hends, h.nL]
    exact this
  · rintro _ rfl _ rfl _ rfl _ rfl
    refine ⟨_, _, true, push_yes h1 h2 h3 h4 h5, rfl, ?_, ?_, ?_, ?_⟩
    · unfold pushL; simp only; rw [if_neg h6]
    · unfold pushL; simp only; rw [if_neg h6]; simp
    · simp only [hl E rfl, hl (E.set _ _) (by simp), List.set_set, hadd]
      unfold pushE; rw [if_neg h6]
    · simp [pushE]
set_option maxRecDepth 10000 in
theorem cpush_ok : conPush.ok KK Tryd.prog 77 := by
  refine Con.of_vc ([]) ([]) ([]) TT_ok follows Tryd.func77 ?_ G4_ok (@toVC _ _ cpush_vc ?_)
  · kernel_rfl
  · kernel_rfl
noncomputable def G5 : List (FuncId × Con) := (77, conPush) :: G4
theorem G5_ok : GOK KK Tryd.prog G5 := GOK.cons (Callable.of Tryd.func77 (by kernel_rfl) (by kernel_rfl)) cpush_ok G4_ok

set_option maxRecDepth 10000 in
theorem cpull_vc :
  ∀ x0 : Int,
 ∀ x1 : List (Int × (Int × Int)),
 ∀ x2 : List (Int × (Int × Int)),
 (IsRep x1 x2) →
 (True) ∧
 (True →
 (((!Prod.snd (onC x1 x0)) = true) →
 ∃ x3 : List (Int × (Int × Int)),
 ∃ x4 : List (Int × (Int × Int)),
 ∃ x5 : Bool,
 (PullPost x0 x1 x2 x3 x4 x5) ∧
 ((false = x5) ∧
 ((x1 = x3) ∧
 (((↑(List.length x1) : Int) = (↑(List.length x3) : Int)) ∧
 ((x2 = x4) ∧
 (((↑(List.length x2) : Int) = (↑(List.length x4) : Int)) ∧
 (True))))))) ∧
 (((!Prod.snd (onC x1 x0)) = false) →
 (((0 : Int) ≤ Prod.fst (onC x1 x0)) ∧
 (Prod.fst (onC x1 x0) < (↑(List.length x2) : Int))) ∧
 ((((0 : Int) ≤ x0) ∧
 (x0 < (↑(List.length x1) : Int))) ∧
 (((litCmp BinOp.eql (Prod.fst (Prod.snd (ix x1 x0))) (-1 : Int) = true) →
 ∀ x6 : List (Int × Int × Int),
 (x6 = List.set x2 (Int.toNat (Prod.fst (onC x1 x0))) (Prod.snd (Prod.snd (ix x1 x0)), Prod.snd (ix x2 (Prod.fst (onC x1 x0))))) →
 ((litCmp BinOp.eql (Prod.snd (Prod.snd (ix x1 x0))) (-1 : Int) = true) →
 ∀ x7 : List (Int × Int × Int),
 (x7 = List.set x6 (Int.toNat (Prod.fst (onC x1 x0))) (Prod.fst (ix x6 (Prod.fst (onC x1 x0))), Prod.fst (Prod.snd (ix x1 x0)), Prod.snd (Prod.snd (ix x6 (Prod.fst (onC x1 x0)))))) →
 ∀ x8 : Int,
 (x8 = Prod.snd (Prod.snd (ix x7 (Prod.fst (onC x1 x0))))) →
 ∀ x9 : Int,
 (x9 = litArith BinOp.sub IntKind.i64 x8 (1 : Int)) →
 ∀ x10 : List (Int × Int × Int),
 (x10 = List.set x7 (Int.toNat (Prod.fst (onC x1 x0))) (Prod.fst (ix x7 (Prod.fst (onC x1 x0))), Prod.fst (Prod.snd (ix x7 (Prod.fst (onC x1 x0)))), x9)) →
 (((0 : Int) ≤ x0) ∧
 (x0 < (↑(List.length x1) : Int))) ∧
 (∀ x11 : List (Int × Int × Int),
 (x11 = List.set x1 (Int.toNat x0) ((-1 : Int), (-1 : Int), (-1 : Int))) →
 ∃ x12 : List (Int × (Int × Int)),
 ∃ x13 : List (Int × (Int × Int)),
 ∃ x14 : Bool,
 (PullPost x0 x1 x2 x12 x13 x14) ∧
 ((true = x14) ∧
 ((x11 = x12) ∧
 (((↑(List.length x1) : Int) = (↑(List.length x12) : Int)) ∧
 ((x10 = x13) ∧
 (((↑(List.length x2) : Int) = (↑(List.length x13) : Int)) ∧
 (True)))))))) ∧
 ((litCmp BinOp.eql (Prod.snd (Prod.snd (ix x1 x0))) (-1 : Int) = false) →
 (((0 : Int) ≤ Prod.snd (Prod.snd (ix x1 x0))) ∧
 (Prod.snd (Prod.snd (ix x1 x0)) < (↑(List.length x1) : Int))) ∧
 (∀ x15 : Int,
 (x15 = Prod.snd (Prod.snd (ix x6 (Prod.fst (onC x1 x0))))) →
 ∀ x16 : Int,
 (x16 = litArith BinOp.sub IntKind.i64 x15 (1 : Int)) →
 ∀ x17 : List (Int × Int × Int),
 (x17 = List.set x6 (Int.toNat (Prod.fst (onC x1 x0))) (Prod.fst (ix x6 (Prod.fst (onC x1 x0))), Prod.fst (Prod.snd (ix x6 (Prod.fst (onC x1 x0)))), x16)) →
 (((0 : Int) ≤ x0) ∧
 (x0 < (↑(List.length x1) : Int))) ∧
 (∀ x18 : List (Int × Int × Int),
 (x18 = List.set (List.set x1 (Int.toNat (Prod.snd (Prod.snd (ix x1 x0)))) (Prod.fst (ix x1 (Prod.snd (Prod.snd (ix x1 x0)))), Prod.fst (Prod.snd (ix x1 x0)), Prod.snd (Prod.snd (ix x1 (Prod.snd (Prod.snd (ix x1 x0))))))) (Int.toNat x0) ((-1 : Int), (-1 : Int), (-1 : Int))) →
 ∃ x19 : List (Int × (Int × Int)),
 ∃ x20 : List (Int × (Int × Int)),
 ∃ x21 : Bool,
 (PullPost x0 x1 x2 x19 x20 x21) ∧
 ((true = x21) ∧
 ((x18 = x19) ∧
 (((↑(List.length x1) : Int) = (↑(List.length x19) : Int)) ∧
 ((x17 = x20) ∧
 (((↑(List.length x2) : Int) = (↑(List.length x20) : Int)) ∧
 (True)))))))))) ∧
 ((litCmp BinOp.eql (Prod.fst (Prod.snd (ix x1 x0))) (-1 : Int) = false) →
 (((0 : Int) ≤ Prod.fst (Prod.snd (ix x1 x0))) ∧
 (Prod.fst (Prod.snd (ix x1 x0)) < (↑(List.length x1) : Int))) ∧
 (((litCmp BinOp.eql (Prod.snd (Prod.snd (ix x1 x0))) (-1 : Int) = true) →
 ∀ x22 : List (Int × Int × Int),
 (x22 = List.set x2 (Int.toNat (Prod.fst (onC x1 x0))) (Prod.fst (ix x2 (Prod.fst (onC x1 x0))), Prod.fst (Prod.snd (ix x1 x0)), Prod.snd (Prod.snd (ix x2 (Prod.fst (onC x1 x0)))))) →
 ∀ x23 : Int,
 (x23 = Prod.snd (Prod.snd (ix x22 (Prod.fst (onC x1 x0))))) →
 ∀ x24 : Int,
 (x24 = litArith BinOp.sub IntKind.i64 x23 (1 : Int)) →
 ∀ x25 : List (Int × Int × Int),
 (x25 = List.set x22 (Int.toNat (Prod.fst (onC x1 x0))) (Prod.fst (ix x22 (Prod.fst (onC x1 x0))), Prod.fst (Prod.snd (ix x22 (Prod.fst (onC x1 x0)))), x24)) →
 (((0 : Int) ≤ x0) ∧
 (x0 < (↑(List.length x1) : Int))) ∧
 (∀ x26 : List (Int × Int × Int),
 (x26 = List.set (List.set x1 (Int.toNat (Prod.fst (Prod.snd (ix x1 x0)))) (Prod.fst (ix x1 (Prod.fst (Prod.snd (ix x1 x0)))), Prod.fst (Prod.snd (ix x1 (Prod.fst (Prod.snd (ix x1 x0))))), Prod.snd (Prod.snd (ix x1 x0)))) (Int.toNat x0) ((-1 : Int), (-1 : Int), (-1 : Int))) →
 ∃ x27 : List (Int × (Int × Int)),
 ∃ x28 : List (Int × (Int × Int)),
 ∃ x29 : Bool,
 (PullPost x0 x1 x2 x27 x28 x29) ∧
 ((true = x29) ∧
 ((x26 = x27) ∧
 (((↑(List.length x1) : Int) = (↑(List.length x27) : Int)) ∧
 ((x25 = x28) ∧
 (((↑(List.length x2) : Int) = (↑(List.length x28) : Int)) ∧
 (True)))))))) ∧
 ((litCmp BinOp.eql (Prod.snd (Prod.snd (ix x1 x0))) (-1 : Int) = false) →
 (((0 : Int) ≤ Prod.snd (Prod.snd (ix x1 x0))) ∧
 (Prod.snd (Prod.snd (ix x1 x0)) < (↑(List.length x1) : Int))) ∧
 (∀ x30 : Int,
 (x30 = Prod.snd (Prod.snd (ix x2 (Prod.fst (onC x1 x0))))) →
 ∀ x31 : Int,
 (x31 = litArith BinOp.sub IntKind.i64 x30 (1 : Int)) →
 ∀ x32 : List (Int × Int × Int),
 (x32 = List.set x2 (Int.toNat (Prod.fst (onC x1 x0))) (Prod.fst (ix x2 (Prod.fst (onC x1 x0))), Prod.fst (Prod.snd (ix x2 (Prod.fst (onC x1 x0)))), x31)) →
 (((0 : Int) ≤ x0) ∧
 (x0 < (↑(List.length x1) : Int))) ∧
 (∀ x33 : List (Int × Int × Int),
 (x33 = List.set (List.set (List.set x1 (Int.toNat (Prod.fst (Prod.snd (ix x1 x0)))) (Prod.fst (ix x1 (Prod.fst (Prod.snd (ix x1 x0)))), Prod.fst (Prod.snd (ix x1 (Prod.fst (Prod.snd (ix x1 x0))))), Prod.snd (Prod.snd (ix x1 x0)))) (Int.toNat (Prod.snd (Prod.snd (ix x1 x0)))) (Prod.fst (ix (List.set x1 (Int.toNat (Prod.fst (Prod.snd (ix x1 x0)))) (Prod.fst (ix x1 (Prod.fst (Prod.snd (ix x1 x0)))), Prod.fst (Prod.snd (ix x1 (Prod.fst (Prod.snd (ix x1 x0))))), Prod.snd (Prod.snd (ix x1 x0)))) (Prod.snd (Prod.snd (ix x1 x0)))), Prod.fst (Prod.snd (ix x1 x0)), Prod.snd (Prod.snd (ix (List.set x1 (Int.toNat (Prod.fst (Prod.snd (ix x1 x0)))) (Prod.fst (ix x1 (Prod.fst (Prod.snd (ix x1 x0)))), Prod.fst (Prod.snd (ix x1 (Prod.fst (Prod.snd (ix x1 x0))))), Prod.snd (Prod.snd (ix x1 x0)))) (Prod.snd (Prod.snd (ix x1 x0))))))) (Int.toNat x0) ((-1 : Int), (-1 : Int), (-1 : Int))) →
 ∃ x34 : List (Int × (Int × Int)),
 ∃ x35 : List (Int × (Int × Int)),
 ∃ x36 : Bool,
 (PullPost x0 x1 x2 x34 x35 x36) ∧
 ((true = x36) ∧
 ((x33 = x34) ∧
 (((↑(List.length x1) : Int) = (↑(List.length x34) : Int)) ∧
 ((x32 = x35) ∧
 (((↑(List.length x2) : Int) = (↑(List.length x35) : Int)) ∧
                (True))))))))))))))) := by
  intro k L E hR
  obtain ⟨n, m, Q, h⟩ := hR
  simp only [gtrT, gtrF, lssT, lssF, leqT, leqF, geqT, geqF, eqlT, eqlF, neqT, neqF, true_and, and_true, true_implies, implies_true, Bool.not_eq_true', Bool.not_eq_false', bne_iff_ne, ne_eq, not_true_eq_false, not_false_eq_true, Int.toNat_natCast, same_self, reduceCtorEq, false_implies, List.nil_append]
  refine ⟨fun hf => ⟨L, E, false, pull_no hf, rfl, rfl, rfl, rfl, rfl⟩, fun ht => ?_⟩
  obtain ⟨j, hj⟩ := h.on_iff.1 ht
  obtain ⟨e1, e2, j0, j1⟩ := h.on_eq hj
  obtain ⟨a, b, eq⟩ := mem_split' hj
  have hL := h.on j a k b eq
  obtain ⟨k0, k1⟩ := h.mem j k hj
  rw [← h.nE] at j1
  rw [← h.nL] at k1
  have post := pull_yes (E := E) ht
  have hf : (onC L k).1 = (ix L k).1 := by rw [e1, e2]
  have hj1 : (ix L k).1 = j := by rw [e2]
  have hl : ∀ (l : List Lk), l.length = E.length → ∀ x, ix (l.set j.toNat x) j = x := fun l e x => by
    rw [ix_set j0 (by rw [e]; exact j1) j0, if_pos rfl]
  have hcnt : (ix E j).2.2 = ((Q j).length : Int) := by rw [h.ends j j0 (by rw [← h.nE]; exact j1)]
  have hlen := h.len_le j
  have hsn := h.sn
  have hsub : litArith .sub .i64 (ix E j).2.2 1 = (ix E j).2.2 - 1 := subI_ (by omega) (by omega)
  have hp : (ix L k).2.1 ≠ -1 → 0 ≤ (ix L k).2.1 ∧ (ix L k).2.1 < L.length := fun c => by
    rw [hL] at c ⊢
    have hne : a ≠ [] := fun e => by rw [e] at c; exact c rfl
    have := h.mem j _ (by rw [eq]; exact List.mem_append_left _ (last_mem hne))
    rw [h.nL]; exact this
  have hq : (ix L k).2.2 ≠ -1 → 0 ≤ (ix L k).2.2 ∧ (ix L k).2.2 < L.length := fun c => by
    rw [hL] at c ⊢
    have hne : b ≠ [] := fun e => by rw [e] at c; exact c rfl
    have := h.mem j _ (by rw [eq]; exact List.mem_append_right _ (List.mem_cons_of_mem _ (head_mem hne)))
    rw [h.nL]; exact this
  clear eq hL
  rw [hf, hj1]
  unfold pullL pullE at post
  simp only [hj1] at post
  refine ⟨⟨j0, j1⟩, ⟨k0, k1⟩, fun c1 => ?_, fun c1 => ⟨hp c1, fun c2 => ?_, fun c2 => ⟨hq c2, ?_⟩⟩⟩
  · rintro _ rfl
    refine ⟨fun c2 => ?_, fun c2 => ⟨hq c2, ?_⟩⟩
    · rintro _ rfl _ rfl _ rfl _ rfl
      refine ⟨⟨k0, k1⟩, ?_⟩
      rintro _ rfl
      refine ⟨_, _, true, post, rfl, ?_, ?_, ?_, ?_⟩
      · rw [if_pos c1, if_pos c2]
      · simp [c1, c2]
      · simp only [hl E rfl, hl (E.set _ _) (by simp), List.set_set, hsub, c1, c2, if_true]
      · simp
    · rintro _ rfl _ rfl _ rfl
      refine ⟨⟨k0, k1⟩, ?_⟩
      rintro _ rfl
      refine ⟨_, _, true, post, rfl, ?_, ?_, ?_, ?_⟩
      · rw [if_pos c1, if_neg c2]
      · simp [c1, c2]
      · simp only [hl E rfl, hl (E.set _ _) (by simp), List.set_set, hsub, c1, if_true]
        rw [if_neg c2]
      · simp
  · rintro _ rfl _ rfl _ rfl _ rfl
    refine ⟨⟨k0, k1⟩, ?_⟩
    rintro _ rfl
    refine ⟨_, _, true, post, rfl, ?_, ?_, ?_, ?_⟩
    · rw [if_neg c1, if_pos c2]
    · simp [c1, c2]
    · simp only [hl E rfl, hl (E.set _ _) (by simp), List.set_set, hsub]
      rw [if_neg c1, if_pos c2]
    · simp
  · rintro _ rfl _ rfl _ rfl
    refine ⟨⟨k0, k1⟩, ?_⟩
    rintro _ rfl
    refine ⟨_, _, true, post, rfl, ?_, ?_, ?_, ?_⟩
    · rw [if_neg c1, if_neg c2]
    · simp [c1, c2]
    · simp only [hl E rfl, hl (E.set _ _) (by simp), List.set_set, hsub]
      rw [if_neg c1, if_neg c2]
    · simp
set_option maxRecDepth 10000 in
theorem cpull_ok : conPull.ok KK Tryd.prog 55 := by
  refine Con.of_vc ([]) ([]) ([]) TT_ok follows Tryd.func55 ?_ G5_ok (@toVC _ _ cpull_vc ?_)
  · kernel_rfl
  · kernel_rfl
noncomputable def G6 : List (FuncId × Con) := (55, conPull) :: G5
theorem G6_ok : GOK KK Tryd.prog G6 := GOK.cons (Callable.of Tryd.func55 (by kernel_rfl) (by kernel_rfl)) cpull_ok G5_ok

set_option maxRecDepth 10000 in
theorem cnew_vc :
  ∀ x0 : Int,
 ∀ x1 : Int,
 True →
 ((((0 : Int) ≤ if (0 : Int) < if (4096 : Int) < x1 then (4096 : Int) else x1 then if (4096 : Int) < x1 then (4096 : Int) else x1 else (0 : Int)) ∧
 ((if (0 : Int) < if (4096 : Int) < x1 then (4096 : Int) else x1 then if (4096 : Int) < x1 then (4096 : Int) else x1 else (0 : Int)) * (24 : Int) ≤ (140737488355328 : Int))) ∧
 ((((0 : Int) ≤ if (0 : Int) < if (4096 : Int) < x0 then (4096 : Int) else x0 then if (4096 : Int) < x0 then (4096 : Int) else x0 else (0 : Int)) ∧
 ((if (0 : Int) < if (4096 : Int) < x0 then (4096 : Int) else x0 then if (4096 : Int) < x0 then (4096 : Int) else x0 else (0 : Int)) * (24 : Int) ≤ (140737488355328 : Int))) ∧
 (∃ x2 : Int → List (Int × (Int × Int)) → List (Int × (Int × Int)) → Prop,
 ∃ x3 : Int → List (Int × (Int × Int)) → List (Int × (Int × Int)) → Nat,
 (x2 (0 : Int) (List.replicate (Int.toNat (if (0 : Int) < if (4096 : Int) < x0 then (4096 : Int) else x0 then if (4096 : Int) < x0 then (4096 : Int) else x0 else (0 : Int))) ((0 : Int), (0 : Int), (0 : Int))) (List.replicate (Int.toNat (if (0 : Int) < if (4096 : Int) < x1 then (4096 : Int) else x1 then if (4096 : Int) < x1 then (4096 : Int) else x1 else (0 : Int))) ((0 : Int), (0 : Int), (0 : Int)))) ∧
 (∀ x4 : Int,
 ∀ x5 : List (Int × (Int × Int)),
 ∀ x6 : List (Int × (Int × Int)),
 (x2 x4 x5 x6) →
 ((litCmp BinOp.lss x4 (if (0 : Int) < if (4096 : Int) < x0 then (4096 : Int) else x0 then if (4096 : Int) < x0 then (4096 : Int) else x0 else (0 : Int)) = true) →
 (((0 : Int) ≤ x4) ∧
 (x4 < (↑(List.length x5) : Int))) ∧
 (∀ x7 : List (Int × Int × Int),
 (x7 = List.set x5 (Int.toNat x4) ((-1 : Int), (-1 : Int), (-1 : Int))) →
 ∀ x8 : Int,
 (x8 = litArith BinOp.add IntKind.i64 x4 (1 : Int)) →
 ((if (0 : Int) < if (4096 : Int) < x0 then (4096 : Int) else x0 then if (4096 : Int) < x0 then (4096 : Int) else x0 else (0 : Int)) = if (0 : Int) < if (4096 : Int) < x0 then (4096 : Int) else x0 then if (4096 : Int) < x0 then (4096 : Int) else x0 else (0 : Int)) ∧
 ((x2 x8 x7 x6) ∧
 (x3 x8 x7 x6 < x3 x4 x5 x6)))) ∧
 ((litCmp BinOp.lss x4 (if (0 : Int) < if (4096 : Int) < x0 then (4096 : Int) else x0 then if (4096 : Int) < x0 then (4096 : Int) else x0 else (0 : Int)) = false) →
 ∃ x9 : Int → List (Int × (Int × Int)) → List (Int × (Int × Int)) → Prop,
 ∃ x10 : Int → List (Int × (Int × Int)) → List (Int × (Int × Int)) → Nat,
 (x9 (0 : Int) x5 x6) ∧
 (∀ x11 : Int,
 ∀ x12 : List (Int × (Int × Int)),
 ∀ x13 : List (Int × (Int × Int)),
 (x9 x11 x12 x13) →
 ((litCmp BinOp.lss x11 (↑(List.length x6) : Int) = true) →
 (((0 : Int) ≤ x11) ∧
 (x11 < (↑(List.length x13) : Int))) ∧
 (∀ x14 : List (Int × Int × Int),
 (x14 = List.set x13 (Int.toNat x11) ((-1 : Int), (-1 : Int), (0 : Int))) →
 ∀ x15 : Int,
 (x15 = litArith BinOp.add IntKind.i64 x11 (1 : Int)) →
 ((↑(List.length x6) : Int) = (↑(List.length x6) : Int)) ∧
 ((x9 x15 x12 x14) ∧
 (x10 x15 x12 x14 < x10 x11 x12 x13)))) ∧
 ((litCmp BinOp.lss x11 (↑(List.length x6) : Int) = false) →
 (True) ∧
 ((x12 = List.replicate (cut4096 x0) ((-1 : Int), (-1 : Int), (-1 : Int))) ∧
 (((↑(List.length x12) : Int) = (↑(List.length (List.replicate (cut4096 x0) ((-1 : Int), (-1 : Int), (-1 : Int)))) : Int)) ∧
 ((x13 = List.replicate (cut4096 x1) ((-1 : Int), (-1 : Int), (0 : Int))) ∧
 (((↑(List.length x13) : Int) = (↑(List.length (List.replicate (cut4096 x1) ((-1 : Int), (-1 : Int), (0 : Int)))) : Int)) ∧
 (True)))))))))))) ∧
 ((((0 : Int) ≤ if (0 : Int) < if (4096 : Int) < x0 then (4096 : Int) else x0 then if (4096 : Int) < x0 then (4096 : Int) else x0 else (0 : Int)) ∧
 ((if (0 : Int) < if (4096 : Int) < x0 then (4096 : Int) else x0 then if (4096 : Int) < x0 then (4096 : Int) else x0 else (0 : Int)) * (24 : Int) ≤ (140737488355328 : Int))) ∧
 ((((0 : Int) ≤ if (0 : Int) < if (4096 : Int) < x1 then (4096 : Int) else x1 then if (4096 : Int) < x1 then (4096 : Int) else x1 else (0 : Int)) ∧
 ((if (0 : Int) < if (4096 : Int) < x1 then (4096 : Int) else x1 then if (4096 : Int) < x1 then (4096 : Int) else x1 else (0 : Int)) * (24 : Int) ≤ (140737488355328 : Int))) ∧
 (∃ x16 : Int → List (Int × (Int × Int)) → List (Int × (Int × Int)) → Prop,
 ∃ x17 : Int → List (Int × (Int × Int)) → List (Int × (Int × Int)) → Nat,
 (x16 (0 : Int) (List.replicate (Int.toNat (if (0 : Int) < if (4096 : Int) < x1 then (4096 : Int) else x1 then if (4096 : Int) < x1 then (4096 : Int) else x1 else (0 : Int))) ((0 : Int), (0 : Int), (0 : Int))) (List.replicate (Int.toNat (if (0 : Int) < if (4096 : Int) < x0 then (4096 : Int) else x0 then if (4096 : Int) < x0 then (4096 : Int) else x0 else (0 : Int))) ((0 : Int), (0 : Int), (0 : Int)))) ∧
 (∀ x18 : Int,
 ∀ x19 : List (Int × (Int × Int)),
 ∀ x20 : List (Int × (Int × Int)),
 (x16 x18 x19 x20) →
 ((litCmp BinOp.lss x18 (if (0 : Int) < if (4096 : Int) < x0 then (4096 : Int) else x0 then if (4096 : Int) < x0 then (4096 : Int) else x0 else (0 : Int)) = true) →
 (((0 : Int) ≤ x18) ∧
 (x18 < (↑(List.length x20) : Int))) ∧
 (∀ x21 : List (Int × Int × Int),
 (x21 = List.set x20 (Int.toNat x18) ((-1 : Int), (-1 : Int), (-1 : Int))) →
 ∀ x22 : Int,
 (x22 = litArith BinOp.add IntKind.i64 x18 (1 : Int)) →
 ((if (0 : Int) < if (4096 : Int) < x0 then (4096 : Int) else x0 then if (4096 : Int) < x0 then (4096 : Int) else x0 else (0 : Int)) = if (0 : Int) < if (4096 : Int) < x0 then (4096 : Int) else x0 then if (4096 : Int) < x0 then (4096 : Int) else x0 else (0 : Int)) ∧
 ((x16 x22 x19 x21) ∧
 (x17 x22 x19 x21 < x17 x18 x19 x20)))) ∧
 ((litCmp BinOp.lss x18 (if (0 : Int) < if (4096 : Int) < x0 then (4096 : Int) else x0 then if (4096 : Int) < x0 then (4096 : Int) else x0 else (0 : Int)) = false) →
 ∃ x23 : Int → List (Int × (Int × Int)) → List (Int × (Int × Int)) → Prop,
 ∃ x24 : Int → List (Int × (Int × Int)) → List (Int × (Int × Int)) → Nat,
 (x23 (0 : Int) x19 x20) ∧
 (∀ x25 : Int,
 ∀ x26 : List (Int × (Int × Int)),
 ∀ x27 : List (Int × (Int × Int)),
 (x23 x25 x26 x27) →
 ((litCmp BinOp.lss x25 (↑(List.length x19) : Int) = true) →
 (((0 : Int) ≤ x25) ∧
 (x25 < (↑(List.length x26) : Int))) ∧
 (∀ x28 : List (Int × Int × Int),
 (x28 = List.set x26 (Int.toNat x25) ((-1 : Int), (-1 : Int), (0 : Int))) →
 ∀ x29 : Int,
 (x29 = litArith BinOp.add IntKind.i64 x25 (1 : Int)) →
 ((↑(List.length x19) : Int) = (↑(List.length x19) : Int)) ∧
 ((x23 x29 x28 x27) ∧
 (x24 x29 x28 x27 < x24 x25 x26 x27)))) ∧
 ((litCmp BinOp.lss x25 (↑(List.length x19) : Int) = false) →
 (True) ∧
 ((x27 = List.replicate (cut4096 x0) ((-1 : Int), (-1 : Int), (-1 : Int))) ∧
 (((↑(List.length x27) : Int) = (↑(List.length (List.replicate (cut4096 x0) ((-1 : Int), (-1 : Int), (-1 : Int)))) : Int)) ∧
 ((x26 = List.replicate (cut4096 x1) ((-1 : Int), (-1 : Int), (0 : Int))) ∧
 (((↑(List.length x26) : Int) = (↑(List.length (List.replicate (cut4096 x1) ((-1 : Int), (-1 : Int), (0 : Int)))) : Int)) ∧
             (True)))))))))))) := by
  intro n m _
  simp only [cutmm, gtrT, gtrF, lssT, lssF, leqT, leqF, geqT, geqF, eqlT, eqlF, neqT, neqF, true_and, and_true, true_implies, implies_true, Bool.not_eq_true', Bool.not_eq_false', bne_iff_ne, ne_eq, not_true_eq_false, not_false_eq_true, Int.toNat_natCast, same_self, reduceCtorEq, false_implies, List.nil_append]
  have a1 := cut_le n
  have a2 := cut_le m
  have inc : ∀ {i : Int} {k : Nat}, 0 ≤ i → i ≤ k → k ≤ 4096 → litArith .add .i64 i 1 = i + 1 := fun h0 h1 h2 => addI_ (by omega) (by omega)
  refine ⟨⟨by omega, by omega, ?_⟩, by omega, by omega, ?_⟩
  · refine ⟨fun i l e => Filled l i (cut4096 n) (-1, -1, -1) ∧ e.length = cut4096 m, fun i _ _ => ((cut4096 n : Int) - i).toNat, ⟨Filled.zero _ _ _, by simp⟩, ?_⟩
    rintro i l e ⟨hF, he⟩
    refine ⟨fun hi => ⟨⟨hF.1, by rw [hF.2.2.1]; exact hi⟩, ?_⟩, fun hi => ?_⟩
    · rintro _ rfl _ rfl
      rw [inc hF.1 hF.2.1 a1]
      exact ⟨⟨hF.set hi, he⟩, meas hi⟩
    · refine ⟨fun i x y => Filled y i (cut4096 m) (-1, -1, 0) ∧ x = l, fun i _ _ => ((cut4096 m : Int) - i).toNat, ⟨⟨Int.le_refl _, Int.natCast_nonneg _, he, fun t h0 h1 => by omega⟩, rfl⟩, ?_⟩
      rintro i' x y ⟨hG, rfl⟩
      rw [he]
      refine ⟨fun hi' => ⟨⟨hG.1, by rw [hG.2.2.1]; exact hi'⟩, ?_⟩, fun hi' => ?_⟩
      · rintro _ rfl _ rfl
        rw [inc hG.1 hG.2.1 a2]
        exact ⟨⟨hG.set hi', rfl⟩, meas (by omega)⟩
      · rw [hF.all hi, hG.all hi']
        simp
  · refine ⟨fun i e l => Filled l i (cut4096 n) (-1, -1, -1) ∧ e.length = cut4096 m, fun i _ _ => ((cut4096 n : Int) - i).toNat, ⟨Filled.zero _ _ _, by simp⟩, ?_⟩
    rintro i e l ⟨hF, he⟩
    refine ⟨fun hi => ⟨⟨hF.1, by rw [hF.2.2.1]; exact hi⟩, ?_⟩, fun hi => ?_⟩
    · rintro _ rfl _ rfl
      rw [inc hF.1 hF.2.1 a1]
      exact ⟨⟨hF.set hi, he⟩, meas hi⟩
    · refine ⟨fun i y x => Filled y i (cut4096 m) (-1, -1, 0) ∧ x = l, fun i _ _ => ((cut4096 m : Int) - i).toNat, ⟨⟨Int.le_refl _, Int.natCast_nonneg _, he, fun t h0 h1 => by omega⟩, rfl⟩, ?_⟩
      rintro i' y x ⟨hG, rfl⟩
      rw [he]
      refine ⟨fun hi' => ⟨⟨hG.1, by rw [hG.2.2.1]; exact hi'⟩, ?_⟩, fun hi' => ?_⟩
      · rintro _ rfl _ rfl
        rw [inc hG.1 hG.2.1 a2]
        exact ⟨⟨hG.set hi', rfl⟩, meas (by omega)⟩
      · rw [hF.all hi, hG.all hi']
        simp
set_option maxRecDepth 10000 in
theorem cnew_ok : conNewL.ok KK Tryd.prog 73 := by
  refine Con.of_vc ([(0, ⟨[], [(23, .d (.i .i64))], [], [0, 1], []⟩), (2, ⟨[], [(39, .d (.i .i64))], [], [0, 1], []⟩)]) ([]) ([]) TT_ok follows Tryd.func73 ?_ G6_ok (@toVC _ _ cnew_vc ?_)
  · kernel_rfl
  · kernel_rfl
noncomputable def G7 : List (FuncId × Con) := (73, conNewL) :: G6
theorem G7_ok : GOK KK Tryd.prog G7 := GOK.cons (Callable.of Tryd.func73 (by kernel_rfl) (by kernel_rfl)) cnew_ok G6_ok
end Go.Proofs.YtplefbcgpbdkfaaDoor
/- Plain words for a wheel: its lists and counts. -/
namespace Go.Proofs.YtplefbcgpbdkfaaDoor
open Go Go.Fx

def cntN (Q : Int → List Int) (b : Int) : Nat → Int
  | 0 => 0
  | s + 1 => cntN Q b s + ((Q (b + s)).length : Int)
theorem cntN_put {Q : Int → List Int} {j k b : Int} : ∀ s : Nat, cntN (putQ Q j k) b s = cntN Q b s + if b ≤ j ∧ j < b + s then 1 else 0
  | 0 => by rw [if_neg (by simp only [Int.natCast_zero]; omega)]; rfl
  | s + 1 => by
    simp only [cntN, cntN_put s]
    unfold putQ
    by_cases e : b + (s : Int) = j
    · subst e
      rw [if_pos rfl, if_neg (by omega), if_pos (by push_cast; omega)]
      simp only [List.length_append, List.length_singleton]
      push_cast
      omega
    · rw [if_neg e]
      by_cases c : b ≤ j ∧ j < b + s
      · rw [if_pos c, if_pos (by push_cast; omega)]; omega
      · rw [if_neg c, if_neg (by push_cast; omega)]; omega
theorem cut_len {q : List Int} {k : Int} (hn : q.Nodup) (hk : k ∈ q) : ((q.filter fun x => x != k).length : Int) = q.length - 1 := by
  obtain ⟨a, b, e⟩ := mem_split' hk
  rw [e, cut_split (by rw [← e]; exact hn)]
  simp only [List.length_append, List.length_cons]
  push_cast
  omega
theorem cntN_cut {n m : Nat} {Q : Int → List Int} {L E : List Lk} (h : Rep n m Q L E) {j k b : Int} (hk : k ∈ Q j) : ∀ s : Nat, cntN (cutQ Q k) b s = cntN Q b s - if b ≤ j ∧ j < b + s then 1 else 0
  | 0 => by rw [if_neg (by simp only [Int.natCast_zero]; omega)]; rfl
  | s + 1 => by
    simp only [cntN, cntN_cut h hk s]
    unfold cutQ
    by_cases e : b + (s : Int) = j
    · subst e
      rw [cut_len (h.nd _) hk, if_neg (by omega), if_pos (by push_cast; omega)]
      omega
    · rw [cut_none (fun c => e (h.one _ _ k c hk))]
      by_cases c : b ≤ j ∧ j < b + s
      · rw [if_pos c, if_pos (by push_cast; omega)]; omega
      · rw [if_neg c, if_neg (by push_cast; omega)]; omega
theorem cntN_pos {Q : Int → List Int} {b : Int} : ∀ s : Nat, 0 ≤ cntN Q b s
  | 0 => Int.le_refl _
  | s + 1 => by have := cntN_pos (Q := Q) (b := b) s; simp only [cntN]; omega
theorem cntN_zero {Q : Int → List Int} {b : Int} : ∀ {s : Nat}, cntN Q b s ≤ 0 → ∀ i, b ≤ i → i < b + s → Q i = []
  | 0, _, i, h0, h1 => by push_cast at h1; omega
  | s + 1, h, i, h0, h1 => by
    simp only [cntN] at h
    have := cntN_pos (Q := Q) (b := b) s
    by_cases e : i = b + s
    · rw [e]; exact List.eq_nil_of_length_eq_zero (by omega)
    · exact cntN_zero (s := s) (by omega) i h0 (by push_cast at h1; omega)
theorem cntN_mem {Q : Int → List Int} {b : Int} {s : Nat} (h : 0 < cntN Q b s) : ∃ i k, b ≤ i ∧ i < b + s ∧ k ∈ Q i := by
  refine Classical.byContradiction fun c => ?_
  have : ∀ s' : Nat, s' ≤ s → cntN Q b s' = 0 := fun s' => by
    induction s' with
    | zero => intro _; rfl
    | succ s' ih =>
      intro hs
      simp only [cntN, ih (by omega)]
      have : Q (b + s') = [] := by
        cases hq : Q (b + s') with
        | nil => rfl
        | cons x q => exact absurd ⟨b + s', x, by omega, by omega, by rw [hq]; simp⟩ c
      rw [this]; rfl
  rw [this s (Nat.le_refl _)] at h
  omega
abbrev cnt (Q : Int → List Int) (r : Nat) : Int := cntN Q (64 * r) 64
/-- How many alarms at most are counted in a row. -/
theorem cntN_le {n m : Nat} {Q : Int → List Int} {L E : List Lk} (h : Rep n m Q L E) {b : Int} : ∀ s : Nat, cntN Q b s ≤ 4096 * s
  | 0 => by simp [cntN]
  | s + 1 => by
    have h1 := cntN_le h (b := b) s
    have h2 := h.len_le (b + s)
    have h3 := h.sn
    simp only [cntN]
    push_cast
    omega
structure CQ (n : Nat) (Q : Int → List Int) (c0 c1 c2 c3 : Int) (L E : List Lk) : Prop where
  rep : Rep n 258 Q L E
  e0 : c0 = cnt Q 0
  e1 : c1 = cnt Q 1
  e2 : c2 = cnt Q 2
  e3 : c3 = cnt Q 3
theorem CQ.bound {n : Nat} {Q : Int → List Int} {c0 c1 c2 c3 : Int} {L E : List Lk} (h : CQ n Q c0 c1 c2 c3 L E) : (0 ≤ c0 ∧ c0 ≤ 262144) ∧ (0 ≤ c1 ∧ c1 ≤ 262144) ∧ (0 ≤ c2 ∧ c2 ≤ 262144) ∧ (0 ≤ c3 ∧ c3 ≤ 262144) := by
  obtain ⟨h, rfl, rfl, rfl, rfl⟩ := h
  exact ⟨⟨cntN_pos _, cntN_le h 64⟩, ⟨cntN_pos _, cntN_le h 64⟩, ⟨cntN_pos _, cntN_le h 64⟩, ⟨cntN_pos _, cntN_le h 64⟩⟩
/-- One more in a row. -/
def incr (r j c : Int) : Int := if 64 * r ≤ j ∧ j < 64 * r + 64 then c + 1 else c
def decr (r j c : Int) : Int := if 64 * r ≤ j ∧ j < 64 * r + 64 then c - 1 else c
theorem CQ.put {n : Nat} {Q : Int → List Int} {c0 c1 c2 c3 : Int} {L E L' E' : List Lk} (h : CQ n Q c0 c1 c2 c3 L E) {j k : Int} (h' : Rep n 258 (putQ Q j k) L' E') : CQ n (putQ Q j k) (incr 0 j c0) (incr 1 j c1) (incr 2 j c2) (incr 3 j c3) L' E' := by
  obtain ⟨h, rfl, rfl, rfl, rfl⟩ := h
  refine ⟨h', ?_, ?_, ?_, ?_⟩ <;> (simp only [cnt, incr, cntN_put]; split <;> split <;> omega)
theorem CQ.cut {n : Nat} {Q : Int → List Int} {c0 c1 c2 c3 : Int} {L E L' E' : List Lk} (h : CQ n Q c0 c1 c2 c3 L E) {j k : Int} (hk : k ∈ Q j) (h' : Rep n 258 (cutQ Q k) L' E') : CQ n (cutQ Q k) (decr 0 j c0) (decr 1 j c1) (decr 2 j c2) (decr 3 j c3) L' E' := by
  obtain ⟨h, rfl, rfl, rfl, rfl⟩ := h
  refine ⟨h', ?_, ?_, ?_, ?_⟩ <;> (simp only [cnt, decr, cntN_cut h hk]; split <;> split <;> omega)
theorem CQ.new (n : Nat) (hn : n ≤ 4096) : CQ n (fun _ => []) 0 0 0 0 (List.replicate n (-1, -1, -1)) (List.replicate 258 (-1, -1, 0)) := by
  have z : ∀ (b : Int) (s : Nat), cntN (fun _ => []) b s = 0 := fun b s => by
    induction s with
    | zero => rfl
    | succ s ih => simp [cntN, ih]
  exact ⟨Rep.new n 258 hn (by omega), (z _ _).symm, (z _ _).symm, (z _ _).symm, (z _ _).symm⟩
end Go.Proofs.YtplefbcgpbdkfaaDoor
/- Package wheel: the contracts. -/
namespace Go.Proofs.YtplefbcgpbdkfaaDoor
open Go Go.Fx

abbrev tpM : Tp := .p (.i .u64) (.i .u64)
def u64ok (x : Int) : Prop := 0 ≤ x ∧ x < 18446744073709551616
def vW : VP := .ls [.is (.lp 1 0), .is (.own 2), .d (.i .u64), .d (.i .i64), .d (.i .i64), .d (.i .i64), .d (.i .i64)]
def vWv (now c0 c1 c2 c3 : Int) : Var := ⟨true, .ls [.lp 1 0, .own 2, u64 now, i64 c0, i64 c1, i64 c2, i64 c3]⟩
def rM : RP := ⟨true, 100, tpM⟩
def fxM (l : List (Int × Int)) : Row := ⟨true, true, 100, tpM, .s (l.length : Int), l⟩
/-- What is known of a wheel. -/
structure IsW (now c0 c1 c2 c3 : Int) (L E : List Lk) (M : List (Int × Int)) : Prop where
  q : ∃ n Q, CQ n Q c0 c1 c2 c3 L E ∧ M.length = n
  now : u64ok now
  marks : ∀ k : Int, 0 ≤ k → k < M.length → u64ok (ix M k).1 ∧ u64ok (ix M k).2
theorem IsW.isRep {now c0 c1 c2 c3 : Int} {L E : List Lk} {M : List (Int × Int)} (h : IsW now c0 c1 c2 c3 L E M) : IsRep L E := by
  obtain ⟨n, Q, hq, _⟩ := h.q
  exact ⟨n, 258, Q, hq.rep⟩
theorem CQ.rep_on {n : Nat} {Q : Int → List Int} {c0 c1 c2 c3 : Int} {L E : List Lk} (h : CQ n Q c0 c1 c2 c3 L E) {k : Int} (ho : (onC L k).2 = false) (i : Int) : k ∉ Q i := fun hi => by
  rw [h.rep.on_iff.2 ⟨i, hi⟩] at ho; cases ho
theorem put_core {n : Nat} {Q : Int → List Int} {c0 c1 c2 c3 j k : Int} {L E L' E' : List Lk} {b : Bool} (h : CQ n Q c0 c1 c2 c3 L E) (hp : PushPost j k L E L' E' b) (j0 : 0 ≤ j) (j1 : j < 258) (k0 : 0 ≤ k) (k1 : k < n) (hk : ∀ i, k ∉ Q i) :
    CQ n (putQ Q j k) (incr 0 j c0) (incr 1 j c1) (incr 2 j c2) (incr 3 j c3) L' E' :=
  h.put ((hp n 258 Q h.rep).1 ⟨j0, j1, k0, k1, hk⟩).2
def conNow : Con := (mkCon [.is (.lp 0 0)] [vW, vL] [rL, rE, rM] (fun (now c0 c1 c2 c3 : Int) (L E : List Lk) (M : List (Int × Int)) => True) [] (constX True _)
  (fun (now c0 c1 c2 c3 : Int) (L E : List Lk) (M : List (Int × Int)) => u64 now) (constX [] _) (constX [] _)).look
def lenW (c0 c1 c2 c3 : Int) (E : List Lk) : Int := lenC E 256 + lenC E 257 + c0 + c1 + c2 + c3
def conLenW : Con := (mkCon [.is (.lp 0 0)] [vW, vL] [rL, rE, rM] (fun (now c0 c1 c2 c3 : Int) (L E : List Lk) (M : List (Int × Int)) => IsW now c0 c1 c2 c3 L E M) [] (constX True _)
  (fun (now c0 c1 c2 c3 : Int) (L E : List Lk) (M : List (Int × Int)) => i64 (lenW c0 c1 c2 c3 E)) (constX [] _) (constX [] _)).look
def conPlace : Con := (mkCon [.is (.lp 0 0), .d (.i .u64)] [vW, vL] [rL, rE, rM] (fun (at_ now c0 c1 c2 c3 : Int) (L E : List Lk) (M : List (Int × Int)) => u64ok at_ ∧ u64ok now) [] (constX True _)
  (fun (at_ now c0 c1 c2 c3 : Int) (L E : List Lk) (M : List (Int × Int)) => i64 (placeW now at_)) (constX [] _) (constX [] _)).look
def atC (L : List Lk) (M : List (Int × Int)) (k : Int) : Int × Int × Bool := if (onC L k).2 then ((ix M k).1, (ix M k).2, true) else (0, 0, false)
def conAt : Con := (mkCon [.is (.lp 0 0), .d (.i .i64)] [vW, vL] [rL, rE, rM] (fun (k now c0 c1 c2 c3 : Int) (L E : List Lk) (M : List (Int × Int)) => IsW now c0 c1 c2 c3 L E M) [] (constX True _)
  (fun (k now c0 c1 c2 c3 : Int) (L E : List Lk) (M : List (Int × Int)) => .tup [u64 (atC L M k).1, u64 (atC L M k).2.1, bb (atC L M k).2.2]) (constX [] _) (constX [] _)).look
/-- Put on its list. -/
def conPut : Con := mkCon [.is (.lp 0 0), .d (.i .i64)] [vW, vL] [rL, rE, rM]
  (fun (k now c0 c1 c2 c3 : Int) (L E : List Lk) (M : List (Int × Int)) => IsW now c0 c1 c2 c3 L E M ∧ 0 ≤ k ∧ k < M.length ∧ (onC L k).2 = false)
  [.i .i64, .i .i64, .i .i64, .i .i64, .sl tpL, .sl tpL]
  (fun (k now c0 c1 c2 c3 : Int) (L E : List Lk) (M : List (Int × Int)) (d0 d1 d2 d3 : Int) (L' E' : List Lk) => ∀ n Q, CQ n Q c0 c1 c2 c3 L E → M.length = n → CQ n (putQ Q (placeW now (ix M k).1) k) d0 d1 d2 d3 L' E')
  (constX (.tup []) _) (fun (k now c0 c1 c2 c3 : Int) (L E : List Lk) (M : List (Int × Int)) (d0 d1 d2 d3 : Int) (L' E' : List Lk) => [vWv now d0 d1 d2 d3, vLv])
  (fun (k now c0 c1 c2 c3 : Int) (L E : List Lk) (M : List (Int × Int)) (d0 d1 d2 d3 : Int) (L' E' : List Lk) => [fxL L', fxE E', fxM M])
def UnsetPost (k c0 c1 c2 c3 : Int) (L E : List Lk) (d0 d1 d2 d3 : Int) (L' E' : List Lk) (b : Bool) : Prop :=
  ∀ n Q, CQ n Q c0 c1 c2 c3 L E → ((∃ j, k ∈ Q j) → b = true ∧ CQ n (cutQ Q k) d0 d1 d2 d3 L' E') ∧ ((∀ j, k ∉ Q j) → b = false ∧ d0 = c0 ∧ d1 = c1 ∧ d2 = c2 ∧ d3 = c3 ∧ L' = L ∧ E' = E)
def conUnset : Con := mkCon [.is (.lp 0 0), .d (.i .i64)] [vW, vL] [rL, rE, rM]
  (fun (k now c0 c1 c2 c3 : Int) (L E : List Lk) (M : List (Int × Int)) => IsW now c0 c1 c2 c3 L E M)
  [.i .i64, .i .i64, .i .i64, .i .i64, .sl tpL, .sl tpL, .bo]
  (fun (k now c0 c1 c2 c3 : Int) (L E : List Lk) (M : List (Int × Int)) (d0 d1 d2 d3 : Int) (L' E' : List Lk) (b : Bool) => UnsetPost k c0 c1 c2 c3 L E d0 d1 d2 d3 L' E' b)
  (fun (k now c0 c1 c2 c3 : Int) (L E : List Lk) (M : List (Int × Int)) (d0 d1 d2 d3 : Int) (L' E' : List Lk) (b : Bool) => bb b) (fun (k now c0 c1 c2 c3 : Int) (L E : List Lk) (M : List (Int × Int)) (d0 d1 d2 d3 : Int) (L' E' : List Lk) (b : Bool) => [vWv now d0 d1 d2 d3, vLv])
  (fun (k now c0 c1 c2 c3 : Int) (L E : List Lk) (M : List (Int × Int)) (d0 d1 d2 d3 : Int) (L' E' : List Lk) (b : Bool) => [fxL L', fxE E', fxM M])
def SetPost (k at_ turn now c0 c1 c2 c3 : Int) (L E : List Lk) (M : List (Int × Int)) (d0 d1 d2 d3 : Int) (L' E' : List Lk) (M' : List (Int × Int)) (b : Bool) : Prop :=
  ∀ n Q, CQ n Q c0 c1 c2 c3 L E → M.length = n → (0 ≤ k ∧ k < n ∧ (∀ j, k ∉ Q j) → b = true ∧ M' = M.set k.toNat (at_, turn) ∧ CQ n (putQ Q (placeW now at_) k) d0 d1 d2 d3 L' E') ∧
    (¬ (0 ≤ k ∧ k < n ∧ (∀ j, k ∉ Q j)) → b = false ∧ d0 = c0 ∧ d1 = c1 ∧ d2 = c2 ∧ d3 = c3 ∧ L' = L ∧ E' = E ∧ M' = M)
theorem unset_no {k c0 c1 c2 c3 : Int} {L E : List Lk} (ho : (onC L k).2 = false) : UnsetPost k c0 c1 c2 c3 L E c0 c1 c2 c3 L E false := fun n Q h =>
  ⟨fun ⟨j, hj⟩ => absurd hj (h.rep_on ho j), fun _ => ⟨rfl, rfl, rfl, rfl, rfl, rfl, rfl⟩⟩
theorem unset_yes {k c0 c1 c2 c3 : Int} {L E L' E' : List Lk} {b : Bool} (ho : (onC L k).2 = true) (hp : PullPost k L E L' E' b) :
    UnsetPost k c0 c1 c2 c3 L E (decr 0 (onC L k).1 c0) (decr 1 (onC L k).1 c1) (decr 2 (onC L k).1 c2) (decr 3 (onC L k).1 c3) L' E' true := fun n Q h => by
  obtain ⟨j, hj⟩ := h.rep.on_iff.1 ho
  rw [(h.rep.on_eq hj).1]
  refine ⟨fun _ => ⟨rfl, h.cut hj ((hp n 258 Q h.rep).1 ⟨j, hj⟩).2⟩, fun c => absurd hj (c j)⟩
theorem set_no {k at_ turn now c0 c1 c2 c3 : Int} {L E : List Lk} {M : List (Int × Int)} (h : ¬ (0 ≤ k ∧ k < M.length ∧ (onC L k).2 = false)) : SetPost k at_ turn now c0 c1 c2 c3 L E M c0 c1 c2 c3 L E M false := fun n Q hq hM =>
  ⟨fun ⟨h0, h1, h2⟩ => absurd ⟨h0, by rw [hM]; exact h1, by rw [hq.rep.off_eq h2]⟩ h, fun _ => ⟨rfl, rfl, rfl, rfl, rfl, rfl, rfl, rfl⟩⟩
def conSet : Con := mkCon [.is (.lp 0 0), .d (.i .i64), .d (.i .u64), .d (.i .u64)] [vW, vL] [rL, rE, rM]
  (fun (k at_ turn now c0 c1 c2 c3 : Int) (L E : List Lk) (M : List (Int × Int)) => IsW now c0 c1 c2 c3 L E M ∧ u64ok at_ ∧ u64ok turn)
  [.i .i64, .i .i64, .i .i64, .i .i64, .sl tpL, .sl tpL, .sl tpM, .bo]
  (fun (k at_ turn now c0 c1 c2 c3 : Int) (L E : List Lk) (M : List (Int × Int)) (d0 d1 d2 d3 : Int) (L' E' : List Lk) (M' : List (Int × Int)) (b : Bool) => SetPost k at_ turn now c0 c1 c2 c3 L E M d0 d1 d2 d3 L' E' M' b)
  (fun (k at_ turn now c0 c1 c2 c3 : Int) (L E : List Lk) (M : List (Int × Int)) (d0 d1 d2 d3 : Int) (L' E' : List Lk) (M' : List (Int × Int)) (b : Bool) => bb b)
  (fun (k at_ turn now c0 c1 c2 c3 : Int) (L E : List Lk) (M : List (Int × Int)) (d0 d1 d2 d3 : Int) (L' E' : List Lk) (M' : List (Int × Int)) (b : Bool) => [vWv now d0 d1 d2 d3, vLv])
  (fun (k at_ turn now c0 c1 c2 c3 : Int) (L E : List Lk) (M : List (Int × Int)) (d0 d1 d2 d3 : Int) (L' E' : List Lk) (M' : List (Int × Int)) (b : Bool) => [fxL L', fxE E', fxM M'])
def conNewW : Con := mkCon [.d (.i .i64), .d (.i .u64)] [] [] (fun (n now : Int) => u64ok now) [] (constX True _) (constX (.lp 0 0) _) (fun (n now : Int) => [vWv now 0 0 0 0, vLv])
  (fun (n now : Int) => [mkRow 125 tpL (List.replicate (cut4096 n) (-1, -1, -1)), mkRow 128 tpL (List.replicate 258 (-1, -1, 0)), mkRow 100 tpM (List.replicate (cut4096 n) (0, 0))])
end Go.Proofs.YtplefbcgpbdkfaaDoor
/- Package wheel: the code keeps the contracts. -/
namespace Go.Proofs.YtplefbcgpbdkfaaDoor
open Go Go.Fx

noncomputable def G8 : List (FuncId × Con) := G7
theorem G8_ok : GOK KK Tryd.prog G8 := G7_ok

set_option maxRecDepth 10000 in
theorem wlen_vc :
  ∀ x0 : Int,
 ∀ x1 : Int,
 ∀ x2 : Int,
 ∀ x3 : Int,
 ∀ x4 : Int,
 ∀ x5 : List (Int × (Int × Int)),
 ∀ x6 : List (Int × (Int × Int)),
 ∀ x7 : List (Int × Int),
 (IsW x0 x1 x2 x3 x4 x5 x6 x7) →
 (True) ∧
 (True →
 (True) ∧
 (True →
 ∀ x8 : Int,
 (x8 = litArith BinOp.add IntKind.i64 (litArith BinOp.add IntKind.i64 (lenC x6 (256 : Int)) (lenC x6 (257 : Int))) x1) →
 ∀ x9 : Int,
 (x9 = litArith BinOp.add IntKind.i64 x8 x2) →
 ∀ x10 : Int,
 (x10 = litArith BinOp.add IntKind.i64 x9 x3) →
 ∀ x11 : Int,
 (x11 = litArith BinOp.add IntKind.i64 x10 x4) →
 (True) ∧
 ((x11 = lenW x1 x2 x3 x4 x6) ∧
 ((x0 = x0) ∧
 ((x1 = x1) ∧
 ((x2 = x2) ∧
 ((x3 = x3) ∧
 ((x4 = x4) ∧
 ((x5 = x5) ∧
 (((↑(List.length x5) : Int) = (↑(List.length x5) : Int)) ∧
 ((x6 = x6) ∧
 (((↑(List.length x6) : Int) = (↑(List.length x6) : Int)) ∧
 ((x7 = x7) ∧
 (((↑(List.length x7) : Int) = (↑(List.length x7) : Int)) ∧
                (True))))))))))))))) := by
  intro now c0 c1 c2 c3 L E M h
  obtain ⟨n, Q, hq, hM⟩ := h.q
  have b := hq.bound
  have l1 := hq.rep.len_eq 256
  have l2 := hq.rep.len_eq 257
  have n1 := hq.rep.len_le 256
  have n2 := hq.rep.len_le 257
  have sn := hq.rep.sn
  simp only [gtrT, gtrF, lssT, lssF, leqT, leqF, geqT, geqF, eqlT, eqlF, neqT, neqF, true_and, and_true, true_implies, implies_true, Bool.not_eq_true', Bool.not_eq_false', bne_iff_ne, ne_eq, not_true_eq_false, not_false_eq_true, Int.toNat_natCast, same_self, reduceCtorEq, false_implies, List.nil_append]
  rintro _ rfl _ rfl _ rfl _ rfl
  rw [addI_ (x := lenC E 256) (by omega) (by omega), addI_ (x := lenC E 256 + lenC E 257) (by omega) (by omega), addI_ (x := lenC E 256 + lenC E 257 + c0) (by omega) (by omega), addI_ (x := lenC E 256 + lenC E 257 + c0 + c1) (by omega) (by omega), addI_ (by omega) (by omega)]
  simp [lenW]
set_option maxRecDepth 10000 in
theorem wlen_ok : conLenW.ok KK Tryd.prog 45 := by
  refine Con.of_vc ([]) ([]) ([]) TT_ok follows Tryd.func45 ?_ G8_ok (@toVC _ _ wlen_vc ?_)
  · kernel_rfl
  · kernel_rfl
noncomputable def G9 : List (FuncId × Con) := (45, conLenW) :: G8
theorem G9_ok : GOK KK Tryd.prog G9 := GOK.cons (Callable.of Tryd.func45 (by kernel_rfl) (by kernel_rfl)) wlen_ok G8_ok

set_option maxRecDepth 10000 in
theorem wplace_vc :
  ∀ x0 : Int,
 ∀ x1 : Int,
 ∀ x2 : Int,
 ∀ x3 : Int,
 ∀ x4 : Int,
 ∀ x5 : Int,
 ∀ x6 : List (Int × (Int × Int)),
 ∀ x7 : List (Int × (Int × Int)),
 ∀ x8 : List (Int × Int),
 ((u64ok x0) ∧
 (u64ok x1)) →
 ((litCmp BinOp.leq x0 x1 = true) →
 (True) ∧
 (((256 : Int) = placeW x1 x0) ∧
 ((x1 = x1) ∧
 ((x2 = x2) ∧
 ((x3 = x3) ∧
 ((x4 = x4) ∧
 ((x5 = x5) ∧
 ((x6 = x6) ∧
 (((↑(List.length x6) : Int) = (↑(List.length x6) : Int)) ∧
 ((x7 = x7) ∧
 (((↑(List.length x7) : Int) = (↑(List.length x7) : Int)) ∧
 ((x8 = x8) ∧
 (((↑(List.length x8) : Int) = (↑(List.length x8) : Int)) ∧
 (True)))))))))))))) ∧
 ((litCmp BinOp.leq x0 x1 = false) →
 ∀ x9 : Int,
 (x9 = litArith BinOp.sub IntKind.u64 x0 x1) →
 ((litCmp BinOp.lss x9 (64 : Int) = true) →
 ∀ x10 : Int,
 (x10 = litArith BinOp.shr IntKind.u64 x0 (0 : Int)) →
 ∀ x11 : Int,
 (x11 = litArith BinOp.and IntKind.u64 x10 (63 : Int)) →
 ∀ x12 : Int,
 (x12 = IntKind.wrap IntKind.i64 x11) →
 ∀ x13 : Int,
 (x13 = litArith BinOp.add IntKind.i64 (0 : Int) x12) →
 (True) ∧
 ((x13 = placeW x1 x0) ∧
 ((x1 = x1) ∧
 ((x2 = x2) ∧
 ((x3 = x3) ∧
 ((x4 = x4) ∧
 ((x5 = x5) ∧
 ((x6 = x6) ∧
 (((↑(List.length x6) : Int) = (↑(List.length x6) : Int)) ∧
 ((x7 = x7) ∧
 (((↑(List.length x7) : Int) = (↑(List.length x7) : Int)) ∧
 ((x8 = x8) ∧
 (((↑(List.length x8) : Int) = (↑(List.length x8) : Int)) ∧
 (True)))))))))))))) ∧
 ((litCmp BinOp.lss x9 (64 : Int) = false) →
 ((litCmp BinOp.lss x9 (4096 : Int) = true) →
 ∀ x14 : Int,
 (x14 = litArith BinOp.shr IntKind.u64 x0 (6 : Int)) →
 ∀ x15 : Int,
 (x15 = litArith BinOp.and IntKind.u64 x14 (63 : Int)) →
 ∀ x16 : Int,
 (x16 = IntKind.wrap IntKind.i64 x15) →
 ∀ x17 : Int,
 (x17 = litArith BinOp.add IntKind.i64 (64 : Int) x16) →
 (True) ∧
 ((x17 = placeW x1 x0) ∧
 ((x1 = x1) ∧
 ((x2 = x2) ∧
 ((x3 = x3) ∧
 ((x4 = x4) ∧
 ((x5 = x5) ∧
 ((x6 = x6) ∧
 (((↑(List.length x6) : Int) = (↑(List.length x6) : Int)) ∧
 ((x7 = x7) ∧
 (((↑(List.length x7) : Int) = (↑(List.length x7) : Int)) ∧
 ((x8 = x8) ∧
 (((↑(List.length x8) : Int) = (↑(List.length x8) : Int)) ∧
 (True)))))))))))))) ∧
 ((litCmp BinOp.lss x9 (4096 : Int) = false) →
 ((litCmp BinOp.lss x9 (262144 : Int) = true) →
 ∀ x18 : Int,
 (x18 = litArith BinOp.shr IntKind.u64 x0 (12 : Int)) →
 ∀ x19 : Int,
 (x19 = litArith BinOp.and IntKind.u64 x18 (63 : Int)) →
 ∀ x20 : Int,
 (x20 = IntKind.wrap IntKind.i64 x19) →
 ∀ x21 : Int,
 (x21 = litArith BinOp.add IntKind.i64 (128 : Int) x20) →
 (True) ∧
 ((x21 = placeW x1 x0) ∧
 ((x1 = x1) ∧
 ((x2 = x2) ∧
 ((x3 = x3) ∧
 ((x4 = x4) ∧
 ((x5 = x5) ∧
 ((x6 = x6) ∧
 (((↑(List.length x6) : Int) = (↑(List.length x6) : Int)) ∧
 ((x7 = x7) ∧
 (((↑(List.length x7) : Int) = (↑(List.length x7) : Int)) ∧
 ((x8 = x8) ∧
 (((↑(List.length x8) : Int) = (↑(List.length x8) : Int)) ∧
 (True)))))))))))))) ∧
 ((litCmp BinOp.lss x9 (262144 : Int) = false) →
 ((litCmp BinOp.lss x9 (16777216 : Int) = true) →
 ∀ x22 : Int,
 (x22 = litArith BinOp.shr IntKind.u64 x0 (18 : Int)) →
 ∀ x23 : Int,
 (x23 = litArith BinOp.and IntKind.u64 x22 (63 : Int)) →
 ∀ x24 : Int,
 (x24 = IntKind.wrap IntKind.i64 x23) →
 ∀ x25 : Int,
 (x25 = litArith BinOp.add IntKind.i64 (192 : Int) x24) →
 (True) ∧
 ((x25 = placeW x1 x0) ∧
 ((x1 = x1) ∧
 ((x2 = x2) ∧
 ((x3 = x3) ∧
 ((x4 = x4) ∧
 ((x5 = x5) ∧
 ((x6 = x6) ∧
 (((↑(List.length x6) : Int) = (↑(List.length x6) : Int)) ∧
 ((x7 = x7) ∧
 (((↑(List.length x7) : Int) = (↑(List.length x7) : Int)) ∧
 ((x8 = x8) ∧
 (((↑(List.length x8) : Int) = (↑(List.length x8) : Int)) ∧
 (True)))))))))))))) ∧
 ((litCmp BinOp.lss x9 (16777216 : Int) = false) →
 (True) ∧
 (((257 : Int) = placeW x1 x0) ∧
 ((x1 = x1) ∧
 ((x2 = x2) ∧
 ((x3 = x3) ∧
 ((x4 = x4) ∧
 ((x5 = x5) ∧
 ((x6 = x6) ∧
 (((↑(List.length x6) : Int) = (↑(List.length x6) : Int)) ∧
 ((x7 = x7) ∧
 (((↑(List.length x7) : Int) = (↑(List.length x7) : Int)) ∧
 ((x8 = x8) ∧
 (((↑(List.length x8) : Int) = (↑(List.length x8) : Int)) ∧
                   (True)))))))))))))))))) := by
  intro t now c0 c1 c2 c3 L E M h
  obtain ⟨⟨t0, t1⟩, n0, n1⟩ := h
  have s0 : litArith .shr .u64 t 0 = t / 1 := shrU_ t 0 (by decide)
  have s1 : litArith .shr .u64 t 6 = t / 64 := shrU_ t 6 (by decide)
  have s2 : litArith .shr .u64 t 12 = t / 4096 := shrU_ t 12 (by decide)
  have s3 : litArith .shr .u64 t 18 = t / 262144 := shrU_ t 18 (by decide)
  have pv : ∀ (b q : Int), 0 ≤ b → b ≤ 192 → 0 ≤ q → q < 18446744073709551616 → litArith .add .i64 b (IntKind.wrap .i64 (litArith .and .u64 q 63)) = b + q % 64 := fun b q b0 b1 q0 q1 => by
    rw [and63_ q0 q1, wrapI_ (by omega) (by omega), addI_ (by omega) (by omega)]
  simp only [gtrT, gtrF, lssT, lssF, leqT, leqF, geqT, geqF, eqlT, eqlF, neqT, neqF, true_and, and_true, true_implies, implies_true, Bool.not_eq_true', Bool.not_eq_false', bne_iff_ne, ne_eq, not_true_eq_false, not_false_eq_true, Int.toNat_natCast, same_self, reduceCtorEq, false_implies, List.nil_append, placeW]
  refine ⟨fun h => by rw [if_pos h], fun h => ?_⟩
  rintro _ rfl
  rw [subU_ (by omega) (by omega), if_neg (by omega)]
  refine ⟨fun h1 => ?_, fun h1 => ⟨fun h2 => ?_, fun h2 => ⟨fun h3 => ?_, fun h3 => ⟨fun h4 => ?_, fun h4 => ?_⟩⟩⟩⟩
  · rintro _ rfl _ rfl _ rfl _ rfl
    rw [if_pos h1, s0, pv _ _ (by omega) (by omega) (by omega) (by omega)]
    simp [slot, sp]
  · rintro _ rfl _ rfl _ rfl _ rfl
    rw [if_neg (by omega), if_pos h2, s1, pv _ _ (by omega) (by omega) (by omega) (by omega)]
    simp [slot, sp]
  · rintro _ rfl _ rfl _ rfl _ rfl
    rw [if_neg (by omega), if_neg (by omega), if_pos h3, s2, pv _ _ (by omega) (by omega) (by omega) (by omega)]
    simp [slot, sp]
  · rintro _ rfl _ rfl _ rfl _ rfl
    rw [if_neg (by omega), if_neg (by omega), if_neg (by omega), if_pos h4, s3, pv _ _ (by omega) (by omega) (by omega) (by omega)]
    simp [slot, sp]
  · rw [if_neg (by omega), if_neg (by omega), if_neg (by omega), if_neg (by omega)]
set_option maxRecDepth 10000 in
theorem wplace_ok : conPlace.ok KK Tryd.prog 76 := by
  refine Con.of_vc ([]) ([]) ([]) TT_ok follows Tryd.func76 ?_ G9_ok (@toVC _ _ wplace_vc ?_)
  · kernel_rfl
  · kernel_rfl
noncomputable def G10 : List (FuncId × Con) := (76, conPlace) :: G9
theorem G10_ok : GOK KK Tryd.prog G10 := GOK.cons (Callable.of Tryd.func76 (by kernel_rfl) (by kernel_rfl)) wplace_ok G9_ok

noncomputable def G11 : List (FuncId × Con) := G10
theorem G11_ok : GOK KK Tryd.prog G11 := G10_ok

set_option maxRecDepth 10000 in
theorem wput_vc :
  ∀ x0 : Int,
 ∀ x1 : Int,
 ∀ x2 : Int,
 ∀ x3 : Int,
 ∀ x4 : Int,
 ∀ x5 : Int,
 ∀ x6 : List (Int × (Int × Int)),
 ∀ x7 : List (Int × (Int × Int)),
 ∀ x8 : List (Int × Int),
 ((IsW x1 x2 x3 x4 x5 x6 x7 x8) ∧
 (((0 : Int) ≤ x0) ∧
 ((x0 < (↑(List.length x8) : Int)) ∧
 (Prod.snd (onC x6 x0) = false)))) →
 (((0 : Int) ≤ x0) ∧
 (x0 < (↑(List.length x8) : Int))) ∧
 (∀ x9 : Int,
 (x9 = Prod.fst (ix x8 x0)) →
 ((u64ok x9) ∧
 (u64ok x1)) ∧
 (True →
 (IsRep x6 x7) ∧
 (∀ x10 : List (Int × (Int × Int)),
 ∀ x11 : List (Int × (Int × Int)),
 ∀ x12 : Bool,
 (PushPost (placeW x1 x9) x0 x6 x7 x10 x11 x12) →
 ((litCmp BinOp.lss (placeW x1 x9) (256 : Int) = true) →
 (((0 : Int) ≤ litArith BinOp.quo IntKind.i64 (placeW x1 x9) (64 : Int)) ∧
 (litArith BinOp.quo IntKind.i64 (placeW x1 x9) (64 : Int) < (4 : Int))) ∧
 (((litArith BinOp.quo IntKind.i64 (placeW x1 x9) (64 : Int) = (0 : Int)) →
 ∃ x13 : Int,
 ∃ x14 : Int,
 ∃ x15 : Int,
 ∃ x16 : Int,
 ∃ x17 : List (Int × (Int × Int)),
 ∃ x18 : List (Int × (Int × Int)),
 (∀ x19 : Nat,
 ∀ x20 : Int → List Int,
 (CQ x19 x20 x2 x3 x4 x5 x6 x7) →
 (List.length x8 = x19) →
 CQ x19 (putQ x20 (placeW x1 (Prod.fst (ix x8 x0))) x0) x13 x14 x15 x16 x17 x18) ∧
 ((x1 = x1) ∧
 ((litArith BinOp.add IntKind.i64 x2 (1 : Int) = x13) ∧
 ((x3 = x14) ∧
 ((x4 = x15) ∧
 ((x5 = x16) ∧
 ((x10 = x17) ∧
 (((↑(List.length x10) : Int) = (↑(List.length x17) : Int)) ∧
 ((x11 = x18) ∧
 (((↑(List.length x11) : Int) = (↑(List.length x18) : Int)) ∧
 ((x8 = x8) ∧
 (((↑(List.length x8) : Int) = (↑(List.length x8) : Int)) ∧
 (True))))))))))))) ∧
 (((litArith BinOp.quo IntKind.i64 (placeW x1 x9) (64 : Int) = (1 : Int)) →
 ∃ x21 : Int,
 ∃ x22 : Int,
 ∃ x23 : Int,
 ∃ x24 : Int,
 ∃ x25 : List (Int × (Int × Int)),
 ∃ x26 : List (Int × (Int × Int)),
 (∀ x27 : Nat,
 ∀ x28 : Int → List Int,
 (CQ x27 x28 x2 x3 x4 x5 x6 x7) →
 (List.length x8 = x27) →
 CQ x27 (putQ x28 (placeW x1 (Prod.fst (ix x8 x0))) x0) x21 x22 x23 x24 x25 x26) ∧
 ((x1 = x1) ∧
 ((x2 = x21) ∧
 ((litArith BinOp.add IntKind.i64 x3 (1 : Int) = x22) ∧
 ((x4 = x23) ∧
 ((x5 = x24) ∧
 ((x10 = x25) ∧
 (((↑(List.length x10) : Int) = (↑(List.length x25) : Int)) ∧
 ((x11 = x26) ∧
 (((↑(List.length x11) : Int) = (↑(List.length x26) : Int)) ∧
 ((x8 = x8) ∧
 (((↑(List.length x8) : Int) = (↑(List.length x8) : Int)) ∧
 (True))))))))))))) ∧
 (((litArith BinOp.quo IntKind.i64 (placeW x1 x9) (64 : Int) = (2 : Int)) →
 ∃ x29 : Int,
 ∃ x30 : Int,
 ∃ x31 : Int,
 ∃ x32 : Int,
 ∃ x33 : List (Int × (Int × Int)),
 ∃ x34 : List (Int × (Int × Int)),
 (∀ x35 : Nat,
 ∀ x36 : Int → List Int,
 (CQ x35 x36 x2 x3 x4 x5 x6 x7) →
 (List.length x8 = x35) →
 CQ x35 (putQ x36 (placeW x1 (Prod.fst (ix x8 x0))) x0) x29 x30 x31 x32 x33 x34) ∧
 ((x1 = x1) ∧
 ((x2 = x29) ∧
 ((x3 = x30) ∧
 ((litArith BinOp.add IntKind.i64 x4 (1 : Int) = x31) ∧
 ((x5 = x32) ∧
 ((x10 = x33) ∧
 (((↑(List.length x10) : Int) = (↑(List.length x33) : Int)) ∧
 ((x11 = x34) ∧
 (((↑(List.length x11) : Int) = (↑(List.length x34) : Int)) ∧
 ((x8 = x8) ∧
 (((↑(List.length x8) : Int) = (↑(List.length x8) : Int)) ∧
 (True))))))))))))) ∧
 ((litArith BinOp.quo IntKind.i64 (placeW x1 x9) (64 : Int) = (3 : Int)) →
 ∃ x37 : Int,
 ∃ x38 : Int,
 ∃ x39 : Int,
 ∃ x40 : Int,
 ∃ x41 : List (Int × (Int × Int)),
 ∃ x42 : List (Int × (Int × Int)),
 (∀ x43 : Nat,
 ∀ x44 : Int → List Int,
 (CQ x43 x44 x2 x3 x4 x5 x6 x7) →
 (List.length x8 = x43) →
 CQ x43 (putQ x44 (placeW x1 (Prod.fst (ix x8 x0))) x0) x37 x38 x39 x40 x41 x42) ∧
 ((x1 = x1) ∧
 ((x2 = x37) ∧
 ((x3 = x38) ∧
 ((x4 = x39) ∧
 ((litArith BinOp.add IntKind.i64 x5 (1 : Int) = x40) ∧
 ((x10 = x41) ∧
 (((↑(List.length x10) : Int) = (↑(List.length x41) : Int)) ∧
 ((x11 = x42) ∧
 (((↑(List.length x11) : Int) = (↑(List.length x42) : Int)) ∧
 ((x8 = x8) ∧
 (((↑(List.length x8) : Int) = (↑(List.length x8) : Int)) ∧
 (True))))))))))))))))) ∧
 ((litCmp BinOp.lss (placeW x1 x9) (256 : Int) = false) →
 ∃ x45 : Int,
 ∃ x46 : Int,
 ∃ x47 : Int,
 ∃ x48 : Int,
 ∃ x49 : List (Int × (Int × Int)),
 ∃ x50 : List (Int × (Int × Int)),
 (∀ x51 : Nat,
 ∀ x52 : Int → List Int,
 (CQ x51 x52 x2 x3 x4 x5 x6 x7) →
 (List.length x8 = x51) →
 CQ x51 (putQ x52 (placeW x1 (Prod.fst (ix x8 x0))) x0) x45 x46 x47 x48 x49 x50) ∧
 ((x1 = x1) ∧
 ((x2 = x45) ∧
 ((x3 = x46) ∧
 ((x4 = x47) ∧
 ((x5 = x48) ∧
 ((x10 = x49) ∧
 (((↑(List.length x10) : Int) = (↑(List.length x49) : Int)) ∧
 ((x11 = x50) ∧
 (((↑(List.length x11) : Int) = (↑(List.length x50) : Int)) ∧
 ((x8 = x8) ∧
 (((↑(List.length x8) : Int) = (↑(List.length x8) : Int)) ∧
                 (True)))))))))))))))) := by
  intro k now c0 c1 c2 c3 L E M ⟨h, k0, k1, ho⟩
  obtain ⟨n0, Q0, hq0, hM0⟩ := h.q
  have hm := h.marks k k0 k1
  have b := hq0.bound
  simp only [gtrT, gtrF, lssT, lssF, leqT, leqF, geqT, geqF, eqlT, eqlF, neqT, neqF, true_and, and_true, true_implies, implies_true, Bool.not_eq_true', Bool.not_eq_false', bne_iff_ne, ne_eq, not_true_eq_false, not_false_eq_true, Int.toNat_natCast, same_self, reduceCtorEq, false_implies, List.nil_append]
  refine ⟨⟨k0, k1⟩, ?_⟩
  rintro _ rfl
  have pr := place_range (now := now) (at_ := (ix M k).1)
  have hquo := quo64_ (x := placeW now (ix M k).1) pr.1 (by omega)
  refine ⟨⟨hm.1, h.now⟩, h.isRep, ?_⟩
  intro L' E' bb hp
  have core : ∀ n Q, CQ n Q c0 c1 c2 c3 L E → M.length = n → CQ n (putQ Q (placeW now (ix M k).1) k) (incr 0 (placeW now (ix M k).1) c0) (incr 1 (placeW now (ix M k).1) c1) (incr 2 (placeW now (ix M k).1) c2) (incr 3 (placeW now (ix M k).1) c3) L' E' := fun n Q hq hM =>
    put_core hq hp pr.1 pr.2 k0 (by rw [← hM]; exact k1) (hq.rep_on ho)
  generalize placeW now (ix M k).1 = j at *
  rw [hquo]
  refine ⟨fun hj => ⟨by omega, fun hr => ?_, fun hr => ?_, fun hr => ?_, fun hr => ?_⟩, fun hj => ?_⟩
  all_goals
    refine ⟨_, _, _, _, _, _, core, ?_⟩
    simp only [incr]
    refine ⟨?_, ?_, ?_, ?_, by simp⟩
    all_goals first | (rw [if_neg (by omega)]; done) | (rw [if_pos (by omega)]; exact addI_ (by omega) (by omega))
set_option maxRecDepth 10000 in
theorem wput_ok : conPut.ok KK Tryd.prog 57 := by
  refine Con.of_vc ([]) ([]) ([]) TT_ok follows Tryd.func57 ?_ G11_ok (@toVC _ _ wput_vc ?_)
  · kernel_rfl
  · kernel_rfl
noncomputable def G12 : List (FuncId × Con) := (57, conPut) :: G11
theorem G12_ok : GOK KK Tryd.prog G12 := GOK.cons (Callable.of Tryd.func57 (by kernel_rfl) (by kernel_rfl)) wput_ok G11_ok

set_option maxRecDepth 10000 in
theorem wunset_vc :
  ∀ x0 : Int,
 ∀ x1 : Int,
 ∀ x2 : Int,
 ∀ x3 : Int,
 ∀ x4 : Int,
 ∀ x5 : Int,
 ∀ x6 : List (Int × (Int × Int)),
 ∀ x7 : List (Int × (Int × Int)),
 ∀ x8 : List (Int × Int),
 (IsW x1 x2 x3 x4 x5 x6 x7 x8) →
 (True) ∧
 (True →
 (((!Prod.snd (onC x6 x0)) = true) →
 ∃ x9 : Int,
 ∃ x10 : Int,
 ∃ x11 : Int,
 ∃ x12 : Int,
 ∃ x13 : List (Int × (Int × Int)),
 ∃ x14 : List (Int × (Int × Int)),
 ∃ x15 : Bool,
 (UnsetPost x0 x2 x3 x4 x5 x6 x7 x9 x10 x11 x12 x13 x14 x15) ∧
 ((false = x15) ∧
 ((x1 = x1) ∧
 ((x2 = x9) ∧
 ((x3 = x10) ∧
 ((x4 = x11) ∧
 ((x5 = x12) ∧
 ((x6 = x13) ∧
 (((↑(List.length x6) : Int) = (↑(List.length x13) : Int)) ∧
 ((x7 = x14) ∧
 (((↑(List.length x7) : Int) = (↑(List.length x14) : Int)) ∧
 ((x8 = x8) ∧
 (((↑(List.length x8) : Int) = (↑(List.length x8) : Int)) ∧
 (True)))))))))))))) ∧
 (((!Prod.snd (onC x6 x0)) = false) →
 (IsRep x6 x7) ∧
 (∀ x16 : List (Int × (Int × Int)),
 ∀ x17 : List (Int × (Int × Int)),
 ∀ x18 : Bool,
 (PullPost x0 x6 x7 x16 x17 x18) →
 ((litCmp BinOp.lss (Prod.fst (onC x6 x0)) (256 : Int) = true) →
 (((0 : Int) ≤ litArith BinOp.quo IntKind.i64 (Prod.fst (onC x6 x0)) (64 : Int)) ∧
 (litArith BinOp.quo IntKind.i64 (Prod.fst (onC x6 x0)) (64 : Int) < (4 : Int))) ∧
 (((litArith BinOp.quo IntKind.i64 (Prod.fst (onC x6 x0)) (64 : Int) = (0 : Int)) →
 ∃ x19 : Int,
 ∃ x20 : Int,
 ∃ x21 : Int,
 ∃ x22 : Int,
 ∃ x23 : List (Int × (Int × Int)),
 ∃ x24 : List (Int × (Int × Int)),
 ∃ x25 : Bool,
 (UnsetPost x0 x2 x3 x4 x5 x6 x7 x19 x20 x21 x22 x23 x24 x25) ∧
 ((true = x25) ∧
 ((x1 = x1) ∧
 ((litArith BinOp.sub IntKind.i64 x2 (1 : Int) = x19) ∧
 ((x3 = x20) ∧
 ((x4 = x21) ∧
 ((x5 = x22) ∧
 ((x16 = x23) ∧
 (((↑(List.length x16) : Int) = (↑(List.length x23) : Int)) ∧
 ((x17 = x24) ∧
 (((↑(List.length x17) : Int) = (↑(List.length x24) : Int)) ∧
 ((x8 = x8) ∧
 (((↑(List.length x8) : Int) = (↑(List.length x8) : Int)) ∧
 (True)))))))))))))) ∧
 (((litArith BinOp.quo IntKind.i64 (Prod.fst (onC x6 x0)) (64 : Int) = (1 : Int)) →
 ∃ x26 : Int,
 ∃ x27 : Int,
 ∃ x28 : Int,
 ∃ x29 : Int,
 ∃ x30 : List (Int × (Int × Int)),
 ∃ x31 : List (Int × (Int × Int)),
 ∃ x32 : Bool,
 (UnsetPost x0 x2 x3 x4 x5 x6 x7 x26 x27 x28 x29 x30 x31 x32) ∧
 ((true = x32) ∧
 ((x1 = x1) ∧
 ((x2 = x26) ∧
 ((litArith BinOp.sub IntKind.i64 x3 (1 : Int) = x27) ∧
 ((x4 = x28) ∧
 ((x5 = x29) ∧
 ((x16 = x30) ∧
 (((↑(List.length x16) : Int) = (↑(List.length x30) : Int)) ∧
 ((x17 = x31) ∧
 (((↑(List.length x17) : Int) = (↑(List.length x31) : Int)) ∧
 ((x8 = x8) ∧
 (((↑(List.length x8) : Int) = (↑(List.length x8) : Int)) ∧
 (True)))))))))))))) ∧
 (((litArith BinOp.quo IntKind.i64 (Prod.fst (onC x6 x0)) (64 : Int) = (2 : Int)) →
 ∃ x33 : Int,
 ∃ x34 : Int,
 ∃ x35 : Int,
 ∃ x36 : Int,
 ∃ x37 : List (Int × (Int × Int)),
 ∃ x38 : List (Int × (Int × Int)),
 ∃ x39 : Bool,
 (UnsetPost x0 x2 x3 x4 x5 x6 x7 x33 x34 x35 x36 x37 x38 x39) ∧
 ((true = x39) ∧
 ((x1 = x1) ∧
 ((x2 = x33) ∧
 ((x3 = x34) ∧
 ((litArith BinOp.sub IntKind.i64 x4 (1 : Int) = x35) ∧
 ((x5 = x36) ∧
 ((x16 = x37) ∧
 (((↑(List.length x16) : Int) = (↑(List.length x37) : Int)) ∧
 ((x17 = x38) ∧
 (((↑(List.length x17) : Int) = (↑(List.length x38) : Int)) ∧
 ((x8 = x8) ∧
 (((↑(List.length x8) : Int) = (↑(List.length x8) : Int)) ∧
 (True)))))))))))))) ∧
 ((litArith BinOp.quo IntKind.i64 (Prod.fst (onC x6 x0)) (64 : Int) = (3 : Int)) →
 ∃ x40 : Int,
 ∃ x41 : Int,
 ∃ x42 : Int,
 ∃ x43 : Int,
 ∃ x44 : List (Int × (Int × Int)),
 ∃ x45 : List (Int × (Int × Int)),
 ∃ x46 : Bool,
 (UnsetPost x0 x2 x3 x4 x5 x6 x7 x40 x41 x42 x43 x44 x45 x46) ∧
 ((true = x46) ∧
 ((x1 = x1) ∧
 ((x2 = x40) ∧
 ((x3 = x41) ∧
 ((x4 = x42) ∧
 ((litArith BinOp.sub IntKind.i64 x5 (1 : Int) = x43) ∧
 ((x16 = x44) ∧
 (((↑(List.length x16) : Int) = (↑(List.length x44) : Int)) ∧
 ((x17 = x45) ∧
 (((↑(List.length x17) : Int) = (↑(List.length x45) : Int)) ∧
 ((x8 = x8) ∧
 (((↑(List.length x8) : Int) = (↑(List.length x8) : Int)) ∧
 (True)))))))))))))))))) ∧
 ((litCmp BinOp.lss (Prod.fst (onC x6 x0)) (256 : Int) = false) →
 ∃ x47 : Int,
 ∃ x48 : Int,
 ∃ x49 : Int,
 ∃ x50 : Int,
 ∃ x51 : List (Int × (Int × Int)),
 ∃ x52 : List (Int × (Int × Int)),
 ∃ x53 : Bool,
 (UnsetPost x0 x2 x3 x4 x5 x6 x7 x47 x48 x49 x50 x51 x52 x53) ∧
 ((true = x53) ∧
 ((x1 = x1) ∧
 ((x2 = x47) ∧
 ((x3 = x48) ∧
 ((x4 = x49) ∧
 ((x5 = x50) ∧
 ((x16 = x51) ∧
 (((↑(List.length x16) : Int) = (↑(List.length x51) : Int)) ∧
 ((x17 = x52) ∧
 (((↑(List.length x17) : Int) = (↑(List.length x52) : Int)) ∧
 ((x8 = x8) ∧
 (((↑(List.length x8) : Int) = (↑(List.length x8) : Int)) ∧
                  (True))))))))))))))))) := by
  intro k now c0 c1 c2 c3 L E M h
  obtain ⟨n0, Q0, hq0, hM0⟩ := h.q
  have b := hq0.bound
  simp only [gtrT, gtrF, lssT, lssF, leqT, leqF, geqT, geqF, eqlT, eqlF, neqT, neqF, true_and, and_true, true_implies, implies_true, Bool.not_eq_true', Bool.not_eq_false', bne_iff_ne, ne_eq, not_true_eq_false, not_false_eq_true, Int.toNat_natCast, same_self, reduceCtorEq, false_implies, List.nil_append]
  refine ⟨fun hf => ⟨_, _, _, _, _, _, false, unset_no hf, rfl, rfl, rfl, rfl, rfl, rfl, rfl, rfl, rfl⟩, fun ht => ⟨h.isRep, ?_⟩⟩
  intro L' E' bb hp
  have core := unset_yes (c0 := c0) (c1 := c1) (c2 := c2) (c3 := c3) ht hp
  obtain ⟨i, hi⟩ := hq0.rep.on_iff.1 ht
  have pr := hq0.rep.on_eq hi
  rw [pr.1] at core ⊢
  dsimp only at core ⊢
  have hquo := quo64_ (x := i) pr.2.2.1 (by omega)
  rw [hquo]
  refine ⟨fun hj => ⟨by omega, fun hr => ?_, fun hr => ?_, fun hr => ?_, fun hr => ?_⟩, fun hj => ?_⟩
  all_goals
    refine ⟨_, _, _, _, _, _, true, core, rfl, ?_⟩
    simp only [decr]
    refine ⟨?_, ?_, ?_, ?_, by simp⟩
    all_goals first | (rw [if_neg (by omega)]; done) | (rw [if_pos (by omega)]; exact subI_ (by omega) (by omega))
set_option maxRecDepth 10000 in
theorem wunset_ok : conUnset.ok KK Tryd.prog 35 := by
  refine Con.of_vc ([]) ([]) ([]) TT_ok follows Tryd.func35 ?_ G12_ok (@toVC _ _ wunset_vc ?_)
  · kernel_rfl
  · kernel_rfl
noncomputable def G13 : List (FuncId × Con) := (35, conUnset) :: G12
theorem G13_ok : GOK KK Tryd.prog G13 := GOK.cons (Callable.of Tryd.func35 (by kernel_rfl) (by kernel_rfl)) wunset_ok G12_ok

set_option maxRecDepth 10000 in
theorem wset_vc :
  ∀ x0 : Int,
 ∀ x1 : Int,
 ∀ x2 : Int,
 ∀ x3 : Int,
 ∀ x4 : Int,
 ∀ x5 : Int,
 ∀ x6 : Int,
 ∀ x7 : Int,
 ∀ x8 : List (Int × (Int × Int)),
 ∀ x9 : List (Int × (Int × Int)),
 ∀ x10 : List (Int × Int),
 ((IsW x3 x4 x5 x6 x7 x8 x9 x10) ∧
 ((u64ok x1) ∧
 (u64ok x2))) →
 ((litCmp BinOp.lss x0 (0 : Int) = true) →
 ∃ x11 : Int,
 ∃ x12 : Int,
 ∃ x13 : Int,
 ∃ x14 : Int,
 ∃ x15 : List (Int × (Int × Int)),
 ∃ x16 : List (Int × (Int × Int)),
 ∃ x17 : List (Int × Int),
 ∃ x18 : Bool,
 (SetPost x0 x1 x2 x3 x4 x5 x6 x7 x8 x9 x10 x11 x12 x13 x14 x15 x16 x17 x18) ∧
 ((false = x18) ∧
 ((x3 = x3) ∧
 ((x4 = x11) ∧
 ((x5 = x12) ∧
 ((x6 = x13) ∧
 ((x7 = x14) ∧
 ((x8 = x15) ∧
 (((↑(List.length x8) : Int) = (↑(List.length x15) : Int)) ∧
 ((x9 = x16) ∧
 (((↑(List.length x9) : Int) = (↑(List.length x16) : Int)) ∧
 ((x10 = x17) ∧
 (((↑(List.length x10) : Int) = (↑(List.length x17) : Int)) ∧
 (True)))))))))))))) ∧
 ((litCmp BinOp.lss x0 (0 : Int) = false) →
 ((litCmp BinOp.geq x0 (↑(List.length x10) : Int) = true) →
 ∃ x19 : Int,
 ∃ x20 : Int,
 ∃ x21 : Int,
 ∃ x22 : Int,
 ∃ x23 : List (Int × (Int × Int)),
 ∃ x24 : List (Int × (Int × Int)),
 ∃ x25 : List (Int × Int),
 ∃ x26 : Bool,
 (SetPost x0 x1 x2 x3 x4 x5 x6 x7 x8 x9 x10 x19 x20 x21 x22 x23 x24 x25 x26) ∧
 ((false = x26) ∧
 ((x3 = x3) ∧
 ((x4 = x19) ∧
 ((x5 = x20) ∧
 ((x6 = x21) ∧
 ((x7 = x22) ∧
 ((x8 = x23) ∧
 (((↑(List.length x8) : Int) = (↑(List.length x23) : Int)) ∧
 ((x9 = x24) ∧
 (((↑(List.length x9) : Int) = (↑(List.length x24) : Int)) ∧
 ((x10 = x25) ∧
 (((↑(List.length x10) : Int) = (↑(List.length x25) : Int)) ∧
 (True)))))))))))))) ∧
 ((litCmp BinOp.geq x0 (↑(List.length x10) : Int) = false) →
 (True) ∧
 (True →
 ((Prod.snd (onC x8 x0) = true) →
 ∃ x27 : Int,
 ∃ x28 : Int,
 ∃ x29 : Int,
 ∃ x30 : Int,
 ∃ x31 : List (Int × (Int × Int)),
 ∃ x32 : List (Int × (Int × Int)),
 ∃ x33 : List (Int × Int),
 ∃ x34 : Bool,
 (SetPost x0 x1 x2 x3 x4 x5 x6 x7 x8 x9 x10 x27 x28 x29 x30 x31 x32 x33 x34) ∧
 ((false = x34) ∧
 ((x3 = x3) ∧
 ((x4 = x27) ∧
 ((x5 = x28) ∧
 ((x6 = x29) ∧
 ((x7 = x30) ∧
 ((x8 = x31) ∧
 (((↑(List.length x8) : Int) = (↑(List.length x31) : Int)) ∧
 ((x9 = x32) ∧
 (((↑(List.length x9) : Int) = (↑(List.length x32) : Int)) ∧
 ((x10 = x33) ∧
 (((↑(List.length x10) : Int) = (↑(List.length x33) : Int)) ∧
 (True)))))))))))))) ∧
 ((Prod.snd (onC x8 x0) = false) →
 (((0 : Int) ≤ x0) ∧
 (x0 < (↑(List.length x10) : Int))) ∧
 (∀ x35 : List (Int × Int),
 (x35 = List.set x10 (Int.toNat x0) (x1, x2)) →
 ((IsW x3 x4 x5 x6 x7 x8 x9 x35) ∧
 (((0 : Int) ≤ x0) ∧
 ((x0 < (↑(List.length x35) : Int)) ∧
 (Prod.snd (onC x8 x0) = false)))) ∧
 (∀ x36 : Int,
 ∀ x37 : Int,
 ∀ x38 : Int,
 ∀ x39 : Int,
 ∀ x40 : List (Int × (Int × Int)),
 ∀ x41 : List (Int × (Int × Int)),
 (∀ x42 : Nat,
 ∀ x43 : Int → List Int,
 (CQ x42 x43 x4 x5 x6 x7 x8 x9) →
 (List.length x35 = x42) →
 CQ x42 (putQ x43 (placeW x3 (Prod.fst (ix x35 x0))) x0) x36 x37 x38 x39 x40 x41) →
 ∃ x44 : Int,
 ∃ x45 : Int,
 ∃ x46 : Int,
 ∃ x47 : Int,
 ∃ x48 : List (Int × (Int × Int)),
 ∃ x49 : List (Int × (Int × Int)),
 ∃ x50 : List (Int × Int),
 ∃ x51 : Bool,
 (SetPost x0 x1 x2 x3 x4 x5 x6 x7 x8 x9 x10 x44 x45 x46 x47 x48 x49 x50 x51) ∧
 ((true = x51) ∧
 ((x3 = x3) ∧
 ((x36 = x44) ∧
 ((x37 = x45) ∧
 ((x38 = x46) ∧
 ((x39 = x47) ∧
 ((x40 = x48) ∧
 (((↑(List.length x40) : Int) = (↑(List.length x48) : Int)) ∧
 ((x41 = x49) ∧
 (((↑(List.length x41) : Int) = (↑(List.length x49) : Int)) ∧
 ((x35 = x50) ∧
 (((↑(List.length x35) : Int) = (↑(List.length x50) : Int)) ∧
                    (True))))))))))))))))))) := by
  intro k t u now c0 c1 c2 c3 L E M ⟨h, ht, hu⟩
  obtain ⟨n0, Q0, hq0, hM0⟩ := h.q
  simp only [gtrT, gtrF, lssT, lssF, leqT, leqF, geqT, geqF, eqlT, eqlF, neqT, neqF, true_and, and_true, true_implies, implies_true, Bool.not_eq_true', Bool.not_eq_false', bne_iff_ne, ne_eq, not_true_eq_false, not_false_eq_true, Int.toNat_natCast, same_self, reduceCtorEq, false_implies, List.nil_append]
  have no : ∀ {c : Prop}, (c → ¬ (0 ≤ k ∧ k < M.length ∧ (onC L k).2 = false)) → c → SetPost k t u now c0 c1 c2 c3 L E M c0 c1 c2 c3 L E M false := fun h c => set_no (h c)
  refine ⟨fun hc => ⟨_, _, _, _, _, _, _, false, no (by omega) hc, by simp⟩, fun hk0 => ⟨fun hc => ⟨_, _, _, _, _, _, _, false, no (by omega) hc, by simp⟩, fun hk1 => ⟨fun hc => ⟨_, _, _, _, _, _, _, false, no (by rw [hc]; simp) hc, by simp⟩, fun ho => ⟨⟨hk0, hk1⟩, ?_⟩⟩⟩⟩
  rintro _ rfl
  have hset : ix (M.set k.toNat (t, u)) k = (t, u) := by rw [ix_set hk0 hk1 hk0, if_pos rfl]
  have hw : IsW now c0 c1 c2 c3 L E (M.set k.toNat (t, u)) := ⟨⟨n0, Q0, hq0, by rw [List.length_set, hM0]⟩, h.now, fun i i0 i1 => by
    rw [List.length_set] at i1
    rw [ix_set hk0 hk1 i0]
    split
    · exact ⟨ht, hu⟩
    · exact h.marks i i0 i1⟩
  refine ⟨⟨hw, hk0, by rw [List.length_set]; exact hk1, ho⟩, ?_⟩
  intro d0 d1 d2 d3 L' E' hp
  rw [hset] at hp
  refine ⟨d0, d1, d2, d3, L', E', _, true, fun n Q hq hM => ⟨fun _ => ⟨rfl, rfl, hp n Q hq (by rw [List.length_set, hM])⟩, fun hc => absurd ⟨hk0, by rw [← hM]; exact hk1, hq.rep_on ho⟩ hc⟩, by simp⟩
set_option maxRecDepth 10000 in
theorem wset_ok : conSet.ok KK Tryd.prog 38 := by
  refine Con.of_vc ([]) ([]) ([]) TT_ok follows Tryd.func38 ?_ G13_ok (@toVC _ _ wset_vc ?_)
  · kernel_rfl
  · kernel_rfl
noncomputable def G14 : List (FuncId × Con) := (38, conSet) :: G13
theorem G14_ok : GOK KK Tryd.prog G14 := GOK.cons (Callable.of Tryd.func38 (by kernel_rfl) (by kernel_rfl)) wset_ok G13_ok

set_option maxRecDepth 10000 in
theorem wnew_vc :
  ∀ x0 : Int,
 ∀ x1 : Int,
 (u64ok x1) →
 ∀ x2 : Int,
 (x2 = if (4096 : Int) < x0 then (4096 : Int) else x0) →
 ∀ x3 : Int,
 (x3 = if (0 : Int) < x2 then x2 else (0 : Int)) →
 ((True) ∧
 (True →
 (((0 : Int) ≤ x3) ∧
 (x3 * (16 : Int) ≤ (140737488355328 : Int))) ∧
 ((True) ∧
 ((x1 = x1) ∧
 (((0 : Int) = (0 : Int)) ∧
 (((0 : Int) = (0 : Int)) ∧
 (((0 : Int) = (0 : Int)) ∧
 (((0 : Int) = (0 : Int)) ∧
 ((List.replicate (cut4096 x3) ((-1 : Int), (-1 : Int), (-1 : Int)) = List.replicate (cut4096 x0) ((-1 : Int), (-1 : Int), (-1 : Int))) ∧
 (((↑(List.length (List.replicate (cut4096 x3) ((-1 : Int), (-1 : Int), (-1 : Int)))) : Int) = (↑(List.length (List.replicate (cut4096 x0) ((-1 : Int), (-1 : Int), (-1 : Int)))) : Int)) ∧
 ((List.replicate (258 : Nat) ((-1 : Int), (-1 : Int), (0 : Int)) = List.replicate (258 : Nat) ((-1 : Int), (-1 : Int), (0 : Int))) ∧
 (((258 : Int) = (258 : Int)) ∧
 ((List.replicate (Int.toNat x3) ((0 : Int), (0 : Int)) = List.replicate (cut4096 x0) ((0 : Int), (0 : Int))) ∧
 ((x3 = (↑(List.length (List.replicate (cut4096 x0) ((0 : Int), (0 : Int)))) : Int)) ∧
 (True))))))))))))))) ∧
 ((((0 : Int) ≤ x3) ∧
 (x3 * (16 : Int) ≤ (140737488355328 : Int))) ∧
 ((True) ∧
 (True →
 (True) ∧
 ((x1 = x1) ∧
 (((0 : Int) = (0 : Int)) ∧
 (((0 : Int) = (0 : Int)) ∧
 (((0 : Int) = (0 : Int)) ∧
 (((0 : Int) = (0 : Int)) ∧
 ((List.replicate (cut4096 x3) ((-1 : Int), (-1 : Int), (-1 : Int)) = List.replicate (cut4096 x0) ((-1 : Int), (-1 : Int), (-1 : Int))) ∧
 (((↑(List.length (List.replicate (cut4096 x3) ((-1 : Int), (-1 : Int), (-1 : Int)))) : Int) = (↑(List.length (List.replicate (cut4096 x0) ((-1 : Int), (-1 : Int), (-1 : Int)))) : Int)) ∧
 ((List.replicate (258 : Nat) ((-1 : Int), (-1 : Int), (0 : Int)) = List.replicate (258 : Nat) ((-1 : Int), (-1 : Int), (0 : Int))) ∧
 (((258 : Int) = (258 : Int)) ∧
 ((List.replicate (Int.toNat x3) ((0 : Int), (0 : Int)) = List.replicate (cut4096 x0) ((0 : Int), (0 : Int))) ∧
 ((x3 = (↑(List.length (List.replicate (cut4096 x0) ((0 : Int), (0 : Int)))) : Int)) ∧
                (True))))))))))))))) := by
  intro n now h
  rintro _ rfl _ rfl
  have c1 := cut_le n
  have c2 : cut4096 (cut4096 n : Int) = cut4096 n := by
    unfold cut4096
    split <;> split <;> (try split) <;> (try split) <;> omega
  rw [cutmm n]
  simp [c2]
  omega
set_option maxRecDepth 10000 in
theorem wnew_ok : conNewW.ok KK Tryd.prog 49 := by
  refine Con.of_vc ([]) ([]) ([]) TT_ok follows Tryd.func49 ?_ G14_ok (@toVC _ _ wnew_vc ?_)
  · kernel_rfl
  · kernel_rfl
noncomputable def G15 : List (FuncId × Con) := (49, conNewW) :: G14
theorem G15_ok : GOK KK Tryd.prog G15 := GOK.cons (Callable.of Tryd.func49 (by kernel_rfl) (by kernel_rfl)) wnew_ok G14_ok
end Go.Proofs.YtplefbcgpbdkfaaDoor
/- Package wheel: time goes on; the contracts. -/
namespace Go.Proofs.YtplefbcgpbdkfaaDoor
open Go Go.Fx

def AgainPost (j now c0 c1 c2 c3 : Int) (L E : List Lk) (M : List (Int × Int)) (d0 d1 d2 d3 : Int) (L' E' : List Lk) : Prop :=
  ∀ n Q, CQ n Q c0 c1 c2 c3 L E → M.length = n → ∃ Q', CQ n Q' d0 d1 d2 d3 L' E' ∧ ∀ k i, k ∈ Q' i ↔ (k ∈ Q i ∧ i ≠ j) ∨ (k ∈ Q j ∧ i = placeW now (ix M k).1)
def conAgain : Con := mkCon [.is (.lp 0 0), .d (.i .i64)] [vW, vL] [rL, rE, rM]
  (fun (j now c0 c1 c2 c3 : Int) (L E : List Lk) (M : List (Int × Int)) => IsW now c0 c1 c2 c3 L E M)
  [.i .i64, .i .i64, .i .i64, .i .i64, .sl tpL, .sl tpL]
  (fun (j now c0 c1 c2 c3 : Int) (L E : List Lk) (M : List (Int × Int)) (d0 d1 d2 d3 : Int) (L' E' : List Lk) => AgainPost j now c0 c1 c2 c3 L E M d0 d1 d2 d3 L' E')
  (constX (.tup []) _) (fun (j now c0 c1 c2 c3 : Int) (L E : List Lk) (M : List (Int × Int)) (d0 d1 d2 d3 : Int) (L' E' : List Lk) => [vWv now d0 d1 d2 d3, vLv])
  (fun (j now c0 c1 c2 c3 : Int) (L E : List Lk) (M : List (Int × Int)) (d0 d1 d2 d3 : Int) (L' E' : List Lk) => [fxL L', fxE E', fxM M])
def StepPost (to now c0 c1 c2 c3 : Int) (L E : List Lk) (M : List (Int × Int)) (d0 d1 d2 d3 : Int) (L' E' : List Lk) : Prop :=
  ∀ n Q, CQ n Q c0 c1 c2 c3 L E → M.length = n → (∀ k i, k ∈ Q i → strong now (ix M k).1 i ∧ stepOK to (ix M k).1 i) →
    ∃ Q', CQ n Q' d0 d1 d2 d3 L' E' ∧ (∀ k, (∃ i, k ∈ Q' i) ↔ ∃ i, k ∈ Q i) ∧ ∀ k i, k ∈ Q' i → strong to (ix M k).1 i
def conStep : Con := mkCon [.is (.lp 0 0), .d (.i .u64)] [vW, vL] [rL, rE, rM]
  (fun (to now c0 c1 c2 c3 : Int) (L E : List Lk) (M : List (Int × Int)) => IsW now c0 c1 c2 c3 L E M ∧ u64ok to ∧ now < to)
  [.i .i64, .i .i64, .i .i64, .i .i64, .sl tpL, .sl tpL]
  (fun (to now c0 c1 c2 c3 : Int) (L E : List Lk) (M : List (Int × Int)) (d0 d1 d2 d3 : Int) (L' E' : List Lk) => StepPost to now c0 c1 c2 c3 L E M d0 d1 d2 d3 L' E')
  (constX (.tup []) _) (fun (to now c0 c1 c2 c3 : Int) (L E : List Lk) (M : List (Int × Int)) (d0 d1 d2 d3 : Int) (L' E' : List Lk) => [vWv to d0 d1 d2 d3, vLv])
  (fun (to now c0 c1 c2 c3 : Int) (L E : List Lk) (M : List (Int × Int)) (d0 d1 d2 d3 : Int) (L' E' : List Lk) => [fxL L', fxE E', fxM M])
theorem andM_ {x : Int} (k : Nat) (hk : k < 64) (h0 : 0 ≤ x) (h1 : x < 18446744073709551616) : litArith .and .u64 x ((2 ^ k - 1 : Nat) : Int) = x % ((2 ^ k : Nat) : Int) := by
  obtain ⟨n, rfl⟩ := Int.eq_ofNat_of_zero_le h0
  have hp : 2 ^ k ≤ 2 ^ 63 := Nat.pow_le_pow_right (by omega) (by omega)
  have e : (BitVec.ofInt 64 (n : Int) &&& BitVec.ofInt 64 ((2 ^ k - 1 : Nat) : Int)).toNat = n % 2 ^ k := by
    rw [BitVec.toNat_and, BitVec.ofInt_natCast, BitVec.ofInt_natCast, BitVec.toNat_ofNat, BitVec.toNat_ofNat, Nat.mod_eq_of_lt (by omega), Nat.mod_eq_of_lt (by omega)]
    exact Nat.and_two_pow_sub_one_eq_mod n k
  have hm : n % 2 ^ k ≤ n := Nat.mod_le _ _
  show IntKind.wrap .u64 ((BitVec.ofInt 64 (n : Int) &&& BitVec.ofInt 64 ((2 ^ k - 1 : Nat) : Int)).toNat : Int) = _
  rw [e, wrapU_ (by omega) (by omega)]
  push_cast
  rfl
/-- Lists that are still to be gone over, of the rows below. -/
def pend (to : Int) (r : Int) (i : Int) : Prop := ∃ r' : Nat, (r' : Int) ≤ r ∧ r' < 4 ∧ to % sp r' = 0 ∧ i = slot r' to
/-- What is so between two rows of a step. -/
def Mid (to r : Int) (c0 c1 c2 c3 : Int) (L E : List Lk) (M : List (Int × Int)) (now d0 d1 d2 d3 : Int) (L' E' : List Lk) : Prop :=
  ∀ n Q, CQ n Q c0 c1 c2 c3 L E → M.length = n → (∀ k i, k ∈ Q i → strong now (ix M k).1 i ∧ stepOK to (ix M k).1 i) →
    ∃ Q', CQ n Q' d0 d1 d2 d3 L' E' ∧ (∀ k, (∃ i, k ∈ Q' i) ↔ ∃ i, k ∈ Q i) ∧ ∀ k i, k ∈ Q' i → weak to (ix M k).1 i ∧ (¬ pend to r i → strong to (ix M k).1 i)
theorem strong_weak {now at_ j : Int} (h : strong now at_ j) : weak now at_ j := by
  rcases h with ⟨rfl, h⟩ | ⟨rfl, h⟩ | ⟨r, hr, e, h1, h2⟩
  · exact .inl ⟨rfl, h⟩
  · exact .inr (.inl ⟨rfl, by simp only [sp] at *; omega⟩)
  · refine .inr (.inr ⟨r, hr, e, ?_, h2⟩)
    have : r = 0 ∨ r = 1 ∨ r = 2 ∨ r = 3 := by omega
    rcases this with rfl | rfl | rfl | rfl <;> simp only [sp] at * <;> omega
theorem meas2 {r : Int} (h : 0 ≤ r) : (r - 1 + 1).toNat < (r + 1).toNat := by omega
section
variable {to now c0 c1 c2 c3 d0 d1 d2 d3 e0 e1 e2 e3 r : Int} {L E L1 E1 L2 E2 : List Lk} {M : List (Int × Int)}
theorem Mid.begin (h0 : 0 ≤ now) (hto : now < to) (hf : to % sp 4 ≠ 0) : Mid to 3 c0 c1 c2 c3 L E M now c0 c1 c2 c3 L E := fun n Q hq hM hs =>
  ⟨Q, hq, fun _ => Iff.rfl, fun k i hi => ⟨step_weak h0 hto (hs k i hi).1 (hs k i hi).2, fun hp => step_strong h0 hto (hs k i hi).1 (hs k i hi).2 ⟨fun _ => hf, fun r' hr' hz e => hp ⟨r', by omega, hr', hz, e⟩⟩⟩⟩
theorem Mid.far (h0 : 0 ≤ now) (hto : now < to) (hmk : ∀ k : Int, 0 ≤ k → k < M.length → 0 ≤ (ix M k).1) (ha : AgainPost 257 to c0 c1 c2 c3 L E M d0 d1 d2 d3 L1 E1) : Mid to 3 c0 c1 c2 c3 L E M now d0 d1 d2 d3 L1 E1 := fun n Q hq hM hs => by
  obtain ⟨Q', hq', hm⟩ := ha n Q hq hM
  refine ⟨Q', hq', fun k => ⟨fun ⟨i, hi⟩ => ?_, fun ⟨i, hi⟩ => ?_⟩, fun k i hi => ?_⟩
  · rcases (hm k i).1 hi with ⟨c, _⟩ | ⟨c, _⟩
    · exact ⟨i, c⟩
    · exact ⟨257, c⟩
  · by_cases e : i = 257
    · subst e; exact ⟨_, (hm k _).2 (.inr ⟨hi, rfl⟩)⟩
    · exact ⟨i, (hm k i).2 (.inl ⟨hi, e⟩)⟩
  · rcases (hm k i).1 hi with ⟨c, e⟩ | ⟨c, rfl⟩
    · exact ⟨step_weak h0 hto (hs k i c).1 (hs k i c).2, fun hp => step_strong h0 hto (hs k i c).1 (hs k i c).2 ⟨fun e' => absurd e' e, fun r' hr' hz e' => hp ⟨r', by omega, hr', hz, e'⟩⟩⟩
    · have hr := hq.rep.mem _ _ c
      have := place_strong (now := to) (at_ := (ix M k).1) (by omega) (hmk k hr.1 (by rw [hM]; exact hr.2))
      exact ⟨strong_weak this, fun _ => this⟩
theorem Mid.miss {r : Nat} (h : Mid to r c0 c1 c2 c3 L E M now d0 d1 d2 d3 L1 E1) (hz : to % sp r ≠ 0) : Mid to ((r : Int) - 1) c0 c1 c2 c3 L E M now d0 d1 d2 d3 L1 E1 := fun n Q hq hM hs => by
  obtain ⟨Q', hq', h1, h2⟩ := h n Q hq hM hs
  refine ⟨Q', hq', h1, fun k i hi => ⟨(h2 k i hi).1, fun hp => (h2 k i hi).2 ?_⟩⟩
  rintro ⟨r', a, b, c, e⟩
  by_cases er : r' = r
  · subst er; exact hz c
  · exact hp ⟨r', by omega, b, c, e⟩
theorem Mid.hit {r : Nat} (h0 : 0 ≤ to) (hmk : ∀ k : Int, 0 ≤ k → k < M.length → 0 ≤ (ix M k).1) (h : Mid to r c0 c1 c2 c3 L E M now d0 d1 d2 d3 L1 E1) (ha : AgainPost (slot r to) to d0 d1 d2 d3 L1 E1 M e0 e1 e2 e3 L2 E2) : Mid to ((r : Int) - 1) c0 c1 c2 c3 L E M now e0 e1 e2 e3 L2 E2 := fun n Q hq hM hs => by
  obtain ⟨Q1, hq1, h1, h2⟩ := h n Q hq hM hs
  obtain ⟨Q', hq', hm⟩ := ha n Q1 hq1 hM
  refine ⟨Q', hq', fun k => ⟨fun ⟨i, hi⟩ => (h1 k).1 ?_, fun hk => ?_⟩, fun k i hi => ?_⟩
  · rcases (hm k i).1 hi with ⟨c, _⟩ | ⟨c, _⟩
    · exact ⟨i, c⟩
    · exact ⟨_, c⟩
  · obtain ⟨i, hi⟩ := (h1 k).2 hk
    by_cases e : i = slot r to
    · subst e; exact ⟨_, (hm k _).2 (.inr ⟨hi, rfl⟩)⟩
    · exact ⟨i, (hm k i).2 (.inl ⟨hi, e⟩)⟩
  · rcases (hm k i).1 hi with ⟨c, e⟩ | ⟨c, rfl⟩
    · refine ⟨(h2 k i c).1, fun hp => (h2 k i c).2 ?_⟩
      rintro ⟨r', a, b, z, e'⟩
      by_cases er : r' = r
      · subst er; exact e e'
      · exact hp ⟨r', by omega, b, z, e'⟩
    · have hr := hq1.rep.mem _ _ c
      have := place_strong (now := to) (at_ := (ix M k).1) h0 (hmk k hr.1 (by rw [hM]; exact hr.2))
      exact ⟨strong_weak this, fun _ => this⟩
theorem Mid.done (h : Mid to r c0 c1 c2 c3 L E M now d0 d1 d2 d3 L1 E1) (hr : r < 0) : StepPost to now c0 c1 c2 c3 L E M d0 d1 d2 d3 L1 E1 := fun n Q hq hM hs => by
  obtain ⟨Q', hq', h1, h2⟩ := h n Q hq hM hs
  exact ⟨Q', hq', h1, fun k i hi => (h2 k i hi).2 (fun ⟨r', a, _⟩ => by omega)⟩
end
end Go.Proofs.YtplefbcgpbdkfaaDoor
/- Package wheel: time goes on. -/
namespace Go.Proofs.YtplefbcgpbdkfaaDoor
open Go Go.Fx

set_option maxRecDepth 10000 in
theorem wagain_vc :
  ∀ x0 : Int,
 ∀ x1 : Int,
 ∀ x2 : Int,
 ∀ x3 : Int,
 ∀ x4 : Int,
 ∀ x5 : Int,
 ∀ x6 : List (Int × (Int × Int)),
 ∀ x7 : List (Int × (Int × Int)),
 ∀ x8 : List (Int × Int),
 (IsW x1 x2 x3 x4 x5 x6 x7 x8) →
 (IsRep x6 x7) ∧
 (∀ x9 : List Int,
 (∀ x10 : Nat,
 ∀ x11 : Nat,
 ∀ x12 : Int → List Int,
 (Rep x10 x11 x12 x6 x7) →
 x9 = x12 x0) →
 ∃ x13 : Int → Int → Int → Int → Int → Int → List (Int × (Int × Int)) → List (Int × (Int × Int)) → Prop,
 ∃ x14 : Int → Int → Int → Int → Int → Int → List (Int × (Int × Int)) → List (Int × (Int × Int)) → Nat,
 (x13 (0 : Int) x1 x2 x3 x4 x5 x6 x7) ∧
 (∀ x15 : Int,
 ∀ x16 : Int,
 ∀ x17 : Int,
 ∀ x18 : Int,
 ∀ x19 : Int,
 ∀ x20 : Int,
 ∀ x21 : List (Int × (Int × Int)),
 ∀ x22 : List (Int × (Int × Int)),
 (x13 x15 x16 x17 x18 x19 x20 x21 x22) →
 ((litCmp BinOp.lss x15 (↑(List.length x9) : Int) = true) →
 (((0 : Int) ≤ x15) ∧
 (x15 < (↑(List.length x9) : Int))) ∧
 (∀ x23 : Int,
 (x23 = ix x9 x15) →
 (IsW x16 x17 x18 x19 x20 x21 x22 x8) ∧
 (∀ x24 : Int,
 ∀ x25 : Int,
 ∀ x26 : Int,
 ∀ x27 : Int,
 ∀ x28 : List (Int × (Int × Int)),
 ∀ x29 : List (Int × (Int × Int)),
 ∀ x30 : Bool,
 (UnsetPost x23 x17 x18 x19 x20 x21 x22 x24 x25 x26 x27 x28 x29 x30) →
 ((IsW x16 x24 x25 x26 x27 x28 x29 x8) ∧
 (((0 : Int) ≤ x23) ∧
 ((x23 < (↑(List.length x8) : Int)) ∧
 (Prod.snd (onC x28 x23) = false)))) ∧
 (∀ x31 : Int,
 ∀ x32 : Int,
 ∀ x33 : Int,
 ∀ x34 : Int,
 ∀ x35 : List (Int × (Int × Int)),
 ∀ x36 : List (Int × (Int × Int)),
 (∀ x37 : Nat,
 ∀ x38 : Int → List Int,
 (CQ x37 x38 x24 x25 x26 x27 x28 x29) →
 (List.length x8 = x37) →
 CQ x37 (putQ x38 (placeW x16 (Prod.fst (ix x8 x23))) x23) x31 x32 x33 x34 x35 x36) →
 ∀ x39 : Int,
 (x39 = litArith BinOp.add IntKind.i64 x15 (1 : Int)) →
 ((↑(List.length x9) : Int) = (↑(List.length x9) : Int)) ∧
 ((x8 = x8) ∧
 (((↑(List.length x8) : Int) = (↑(List.length x8) : Int)) ∧
 ((x9 = x9) ∧
 (((↑(List.length x9) : Int) = (↑(List.length x9) : Int)) ∧
 ((x13 x39 x16 x31 x32 x33 x34 x35 x36) ∧
 (x14 x39 x16 x31 x32 x33 x34 x35 x36 < x14 x15 x16 x17 x18 x19 x20 x21 x22)))))))))) ∧
 ((litCmp BinOp.lss x15 (↑(List.length x9) : Int) = false) →
 ∃ x40 : Int,
 ∃ x41 : Int,
 ∃ x42 : Int,
 ∃ x43 : Int,
 ∃ x44 : List (Int × (Int × Int)),
 ∃ x45 : List (Int × (Int × Int)),
 (AgainPost x0 x1 x2 x3 x4 x5 x6 x7 x8 x40 x41 x42 x43 x44 x45) ∧
 ((x16 = x1) ∧
 ((x17 = x40) ∧
 ((x18 = x41) ∧
 ((x19 = x42) ∧
 ((x20 = x43) ∧
 ((x21 = x44) ∧
 (((↑(List.length x21) : Int) = (↑(List.length x44) : Int)) ∧
 ((x22 = x45) ∧
 (((↑(List.length x22) : Int) = (↑(List.length x45) : Int)) ∧
 ((x8 = x8) ∧
 (((↑(List.length x8) : Int) = (↑(List.length x8) : Int)) ∧
                (True))))))))))))))) := by
  intro j now c0 c1 c2 c3 L E M h
  obtain ⟨n0, Q0, hq0, hM0⟩ := h.q
  simp only [gtrT, gtrF, lssT, lssF, leqT, leqF, geqT, geqF, eqlT, eqlF, neqT, neqF, true_and, and_true, true_implies, implies_true, Bool.not_eq_true', Bool.not_eq_false', bne_iff_ne, ne_eq, not_true_eq_false, not_false_eq_true, Int.toNat_natCast, same_self, reduceCtorEq, false_implies, List.nil_append]
  refine ⟨h.isRep, fun l hl => ?_⟩
  have hlQ : ∀ n Q, CQ n Q c0 c1 c2 c3 L E → l = Q j := fun n Q hq => hl n 258 Q hq.rep
  have hlen := hq0.rep.len_le j
  rw [← hlQ n0 Q0 hq0] at hlen
  have hsn := hq0.rep.sn
  refine ⟨fun t now' d0 d1 d2 d3 L' E' => now' = now ∧ 0 ≤ t ∧ t ≤ l.length ∧ ∀ n Q, CQ n Q c0 c1 c2 c3 L E → M.length = n → ∃ Q', CQ n Q' d0 d1 d2 d3 L' E' ∧ ∀ k i, k ∈ Q' i ↔ (k ∈ Q i ∧ i ≠ j) ∨ (i = j ∧ k ∈ l.drop t.toNat) ∨ (k ∈ l.take t.toNat ∧ i = placeW now (ix M k).1),
    fun t _ _ _ _ _ _ _ => ((l.length : Int) - t).toNat, ⟨rfl, Int.le_refl _, Int.natCast_nonneg _, fun n Q hq hM => ⟨Q, hq, fun k i => ?_⟩⟩, ?_⟩
  · rw [hlQ n Q hq]
    by_cases e : i = j
    · subst e; simp
    · simp [e]
  rintro t now d0 d1 d2 d3 L1 E1 ⟨rfl, t0, t1, hI⟩
  refine ⟨fun ht => ⟨⟨t0, ht⟩, ?_⟩, fun ht => ?_⟩
  · obtain ⟨m, rfl⟩ := Int.eq_ofNat_of_zero_le t0
    have hm : m < l.length := by omega
    have hix : ix l (m : Int) = l[m] := by
      unfold ix
      rw [List.getD_eq_getElem?_getD, Int.toNat_natCast, List.getElem?_eq_getElem hm, Option.getD_some]
    simp only [Int.toNat_natCast] at hI
    rintro _ rfl
    rw [hix]
    generalize hk : l[m] = k
    have hdrop : l.drop m = k :: l.drop (m + 1) := by rw [← hk]; exact List.drop_eq_getElem_cons hm
    have htake : l.take (m + 1) = l.take m ++ [k] := by rw [← hk, List.take_add_one, List.getElem?_eq_getElem hm]; rfl
    have hnd : (l.take m ++ k :: l.drop (m + 1)).Nodup := by
      rw [← hdrop, List.take_append_drop, hlQ n0 Q0 hq0]; exact hq0.rep.nd j
    have hn2 := List.nodup_append.1 hnd
    obtain ⟨Q1, hq1, hm1⟩ := hI n0 Q0 hq0 hM0
    have hkj : ∀ n Q, CQ n Q c0 c1 c2 c3 L E → k ∈ Q j := fun n Q hq => by rw [← hlQ n Q hq, ← hk]; exact List.getElem_mem hm
    have onj : ∀ (Q' : Int → List Int), (∀ x i, x ∈ Q' i ↔ (x ∈ Q0 i ∧ i ≠ j) ∨ (i = j ∧ x ∈ l.drop m) ∨ (x ∈ l.take m ∧ i = placeW now (ix M x).1)) → k ∈ Q' j := fun Q' hh => (hh k j).2 (.inr (.inl ⟨rfl, by rw [hdrop]; simp⟩))
    refine ⟨⟨⟨n0, Q1, hq1, hM0⟩, h.now, h.marks⟩, ?_⟩
    intro e0 e1 e2 e3 L2 E2 b hu
    have hk1 := onj Q1 hm1
    obtain ⟨_, hq2⟩ := (hu n0 Q1 hq1).1 ⟨j, hk1⟩
    have hkr := hq1.rep.mem j k hk1
    refine ⟨⟨⟨⟨n0, _, hq2, hM0⟩, h.now, h.marks⟩, hkr.1, by rw [hM0]; exact hkr.2, by rw [hq2.rep.off_eq (fun i hi => (mem_cutQ.1 hi).2 rfl)]⟩, ?_⟩
    intro f0 f1 f2 f3 L3 E3 hp
    rintro _ rfl
    rw [addI_ (by omega) (by omega)]
    refine ⟨⟨rfl, by omega, by omega, fun n Q hq hM => ?_⟩, meas ht⟩
    obtain ⟨Q', hq', hm'⟩ := hI n Q hq hM
    have hkj' : k ∈ Q' j := (hm' k j).2 (.inr (.inl ⟨rfl, by rw [hdrop]; simp⟩))
    have hu' := ((hu n Q' hq').1 ⟨j, hkj'⟩).2
    refine ⟨_, hp n _ hu' hM, fun x i => ?_⟩
    rw [mem_putQ, mem_cutQ, hm' x i, show ((m : Int) + 1).toNat = m + 1 from by omega, htake, hdrop]
    by_cases hx : x = k
    · subst hx
      constructor
      · rintro (⟨_, c⟩ | ⟨rfl, _⟩)
        · exact absurd rfl c
        · exact .inr (.inr ⟨by simp, rfl⟩)
      · rintro (⟨a, b⟩ | ⟨a, b⟩ | ⟨a, b⟩)
        · exact absurd (hq.rep.one i j x a (hkj n Q hq)) b
        · exact absurd b (List.nodup_cons.1 hn2.2.1).1
        · exact .inr ⟨b, rfl⟩
    · simp [hx]
  · have et : t = l.length := by omega
    subst et
    simp only [Int.toNat_natCast, List.drop_length, List.take_length] at hI
    refine ⟨d0, d1, d2, d3, L1, E1, fun n Q hq hM => ?_, by simp⟩
    obtain ⟨Q', hq', hm'⟩ := hI n Q hq hM
    refine ⟨Q', hq', fun k i => ?_⟩
    rw [hm' k i, hlQ n Q hq]
    simp
set_option maxRecDepth 10000 in
theorem wagain_ok : conAgain.ok KK Tryd.prog 78 := by
  refine Con.of_vc ([(0, ⟨[], [(13, .d (.i .i64))], [(0, vW)], [0, 1], []⟩)]) ([]) ([]) TT_ok follows Tryd.func78 ?_ G15_ok (@toVC _ _ wagain_vc ?_)
  · kernel_rfl
  · kernel_rfl
noncomputable def G16 : List (FuncId × Con) := (78, conAgain) :: G15
theorem G16_ok : GOK KK Tryd.prog G16 := GOK.cons (Callable.of Tryd.func78 (by kernel_rfl) (by kernel_rfl)) wagain_ok G15_ok

set_option maxRecDepth 10000 in
theorem wstep_vc :
  ∀ x0 : Int,
 ∀ x1 : Int,
 ∀ x2 : Int,
 ∀ x3 : Int,
 ∀ x4 : Int,
 ∀ x5 : Int,
 ∀ x6 : List (Int × (Int × Int)),
 ∀ x7 : List (Int × (Int × Int)),
 ∀ x8 : List (Int × Int),
 ((IsW x1 x2 x3 x4 x5 x6 x7 x8) ∧
 ((u64ok x0) ∧
 (x1 < x0))) →
 ∀ x9 : Int,
 (x9 = litArith BinOp.and IntKind.u64 x0 (16777215 : Int)) →
 ((litCmp BinOp.eql x9 (0 : Int) = true) →
 (IsW x0 x2 x3 x4 x5 x6 x7 x8) ∧
 (∀ x10 : Int,
 ∀ x11 : Int,
 ∀ x12 : Int,
 ∀ x13 : Int,
 ∀ x14 : List (Int × (Int × Int)),
 ∀ x15 : List (Int × (Int × Int)),
 (AgainPost (257 : Int) x0 x2 x3 x4 x5 x6 x7 x8 x10 x11 x12 x13 x14 x15) →
 ∃ x16 : Int → Int → Int → Int → Int → Int → List (Int × (Int × Int)) → List (Int × (Int × Int)) → Prop,
 ∃ x17 : Int → Int → Int → Int → Int → Int → List (Int × (Int × Int)) → List (Int × (Int × Int)) → Nat,
 (x16 (3 : Int) x0 x10 x11 x12 x13 x14 x15) ∧
 (∀ x18 : Int,
 ∀ x19 : Int,
 ∀ x20 : Int,
 ∀ x21 : Int,
 ∀ x22 : Int,
 ∀ x23 : Int,
 ∀ x24 : List (Int × (Int × Int)),
 ∀ x25 : List (Int × (Int × Int)),
 (x16 x18 x19 x20 x21 x22 x23 x24 x25) →
 ((litCmp BinOp.geq x18 (0 : Int) = true) →
 ∀ x26 : Int,
 (x26 = litArith BinOp.mul IntKind.i64 (6 : Int) x18) →
 ((0 : Int) ≤ x26) ∧
 (∀ x27 : Int,
 (x27 = litArith BinOp.shl IntKind.u64 (1 : Int) x26) →
 ∀ x28 : Int,
 (x28 = litArith BinOp.sub IntKind.u64 x27 (1 : Int)) →
 ∀ x29 : Int,
 (x29 = litArith BinOp.and IntKind.u64 x0 x28) →
 ((litCmp BinOp.eql x29 (0 : Int) = true) →
 ∀ x30 : Int,
 (x30 = litArith BinOp.mul IntKind.i64 x18 (64 : Int)) →
 ∀ x31 : Int,
 (x31 = litArith BinOp.mul IntKind.i64 (6 : Int) x18) →
 ((0 : Int) ≤ x31) ∧
 (∀ x32 : Int,
 (x32 = litArith BinOp.shr IntKind.u64 x0 x31) →
 ∀ x33 : Int,
 (x33 = litArith BinOp.and IntKind.u64 x32 (63 : Int)) →
 ∀ x34 : Int,
 (x34 = IntKind.wrap IntKind.i64 x33) →
 ∀ x35 : Int,
 (x35 = litArith BinOp.add IntKind.i64 x30 x34) →
 (IsW x19 x20 x21 x22 x23 x24 x25 x8) ∧
 (∀ x36 : Int,
 ∀ x37 : Int,
 ∀ x38 : Int,
 ∀ x39 : Int,
 ∀ x40 : List (Int × (Int × Int)),
 ∀ x41 : List (Int × (Int × Int)),
 (AgainPost x35 x19 x20 x21 x22 x23 x24 x25 x8 x36 x37 x38 x39 x40 x41) →
 ∀ x42 : Int,
 (x42 = litArith BinOp.sub IntKind.i64 x18 (1 : Int)) →
 (x0 = x0) ∧
 ((x8 = x8) ∧
 (((↑(List.length x8) : Int) = (↑(List.length x8) : Int)) ∧
 ((x16 x42 x19 x36 x37 x38 x39 x40 x41) ∧
 (x17 x42 x19 x36 x37 x38 x39 x40 x41 < x17 x18 x19 x20 x21 x22 x23 x24 x25))))))) ∧
 ((litCmp BinOp.eql x29 (0 : Int) = false) →
 ∀ x43 : Int,
 (x43 = litArith BinOp.sub IntKind.i64 x18 (1 : Int)) →
 (x0 = x0) ∧
 ((x8 = x8) ∧
 (((↑(List.length x8) : Int) = (↑(List.length x8) : Int)) ∧
 ((x16 x43 x19 x20 x21 x22 x23 x24 x25) ∧
 (x17 x43 x19 x20 x21 x22 x23 x24 x25 < x17 x18 x19 x20 x21 x22 x23 x24 x25))))))) ∧
 ((litCmp BinOp.geq x18 (0 : Int) = false) →
 ∃ x44 : Int,
 ∃ x45 : Int,
 ∃ x46 : Int,
 ∃ x47 : Int,
 ∃ x48 : List (Int × (Int × Int)),
 ∃ x49 : List (Int × (Int × Int)),
 (StepPost x0 x1 x2 x3 x4 x5 x6 x7 x8 x44 x45 x46 x47 x48 x49) ∧
 ((x19 = x0) ∧
 ((x20 = x44) ∧
 ((x21 = x45) ∧
 ((x22 = x46) ∧
 ((x23 = x47) ∧
 ((x24 = x48) ∧
 (((↑(List.length x24) : Int) = (↑(List.length x48) : Int)) ∧
 ((x25 = x49) ∧
 (((↑(List.length x25) : Int) = (↑(List.length x49) : Int)) ∧
 ((x8 = x8) ∧
 (((↑(List.length x8) : Int) = (↑(List.length x8) : Int)) ∧
 (True)))))))))))))))) ∧
 ((litCmp BinOp.eql x9 (0 : Int) = false) →
 ∃ x50 : Int → Int → Int → Int → Int → Int → List (Int × (Int × Int)) → List (Int × (Int × Int)) → Prop,
 ∃ x51 : Int → Int → Int → Int → Int → Int → List (Int × (Int × Int)) → List (Int × (Int × Int)) → Nat,
 (x50 (3 : Int) x0 x2 x3 x4 x5 x6 x7) ∧
 (∀ x52 : Int,
 ∀ x53 : Int,
 ∀ x54 : Int,
 ∀ x55 : Int,
 ∀ x56 : Int,
 ∀ x57 : Int,
 ∀ x58 : List (Int × (Int × Int)),
 ∀ x59 : List (Int × (Int × Int)),
 (x50 x52 x53 x54 x55 x56 x57 x58 x59) →
 ((litCmp BinOp.geq x52 (0 : Int) = true) →
 ∀ x60 : Int,
 (x60 = litArith BinOp.mul IntKind.i64 (6 : Int) x52) →
 ((0 : Int) ≤ x60) ∧
 (∀ x61 : Int,
 (x61 = litArith BinOp.shl IntKind.u64 (1 : Int) x60) →
 ∀ x62 : Int,
 (x62 = litArith BinOp.sub IntKind.u64 x61 (1 : Int)) →
 ∀ x63 : Int,
 (x63 = litArith BinOp.and IntKind.u64 x0 x62) →
 ((litCmp BinOp.eql x63 (0 : Int) = true) →
 ∀ x64 : Int,
 (x64 = litArith BinOp.mul IntKind.i64 x52 (64 : Int)) →
 ∀ x65 : Int,
 (x65 = litArith BinOp.mul IntKind.i64 (6 : Int) x52) →
 ((0 : Int) ≤ x65) ∧
 (∀ x66 : Int,
 (x66 = litArith BinOp.shr IntKind.u64 x0 x65) →
 ∀ x67 : Int,
 (x67 = litArith BinOp.and IntKind.u64 x66 (63 : Int)) →
 ∀ x68 : Int,
 (x68 = IntKind.wrap IntKind.i64 x67) →
 ∀ x69 : Int,
 (x69 = litArith BinOp.add IntKind.i64 x64 x68) →
 (IsW x53 x54 x55 x56 x57 x58 x59 x8) ∧
 (∀ x70 : Int,
 ∀ x71 : Int,
 ∀ x72 : Int,
 ∀ x73 : Int,
 ∀ x74 : List (Int × (Int × Int)),
 ∀ x75 : List (Int × (Int × Int)),
 (AgainPost x69 x53 x54 x55 x56 x57 x58 x59 x8 x70 x71 x72 x73 x74 x75) →
 ∀ x76 : Int,
 (x76 = litArith BinOp.sub IntKind.i64 x52 (1 : Int)) →
 (x0 = x0) ∧
 ((x8 = x8) ∧
 (((↑(List.length x8) : Int) = (↑(List.length x8) : Int)) ∧
 ((x50 x76 x53 x70 x71 x72 x73 x74 x75) ∧
 (x51 x76 x53 x70 x71 x72 x73 x74 x75 < x51 x52 x53 x54 x55 x56 x57 x58 x59))))))) ∧
 ((litCmp BinOp.eql x63 (0 : Int) = false) →
 ∀ x77 : Int,
 (x77 = litArith BinOp.sub IntKind.i64 x52 (1 : Int)) →
 (x0 = x0) ∧
 ((x8 = x8) ∧
 (((↑(List.length x8) : Int) = (↑(List.length x8) : Int)) ∧
 ((x50 x77 x53 x54 x55 x56 x57 x58 x59) ∧
 (x51 x77 x53 x54 x55 x56 x57 x58 x59 < x51 x52 x53 x54 x55 x56 x57 x58 x59))))))) ∧
 ((litCmp BinOp.geq x52 (0 : Int) = false) →
 ∃ x78 : Int,
 ∃ x79 : Int,
 ∃ x80 : Int,
 ∃ x81 : Int,
 ∃ x82 : List (Int × (Int × Int)),
 ∃ x83 : List (Int × (Int × Int)),
 (StepPost x0 x1 x2 x3 x4 x5 x6 x7 x8 x78 x79 x80 x81 x82 x83) ∧
 ((x53 = x0) ∧
 ((x54 = x78) ∧
 ((x55 = x79) ∧
 ((x56 = x80) ∧
 ((x57 = x81) ∧
 ((x58 = x82) ∧
 (((↑(List.length x58) : Int) = (↑(List.length x82) : Int)) ∧
 ((x59 = x83) ∧
 (((↑(List.length x59) : Int) = (↑(List.length x83) : Int)) ∧
 ((x8 = x8) ∧
 (((↑(List.length x8) : Int) = (↑(List.length x8) : Int)) ∧
                (True))))))))))))))) := by
  intro to now c0 c1 c2 c3 L E M ⟨h, hto, hlt⟩
  obtain ⟨n0, Q0, hq0, hM0⟩ := h.q
  have hmk : ∀ k : Int, 0 ≤ k → k < M.length → 0 ≤ (ix M k).1 := fun k h0 h1 => (h.marks k h0 h1).1.1
  have hn0 := h.now.1
  have hand : litArith .and .u64 to 16777215 = to % sp 4 := andM_ 24 (by decide) hto.1 hto.2
  have vals : ∀ r : Int, -1 ≤ r → r ≤ 3 → 0 ≤ r → ∃ r' : Nat, r = r' ∧ r' < 4 ∧ 0 ≤ litArith .mul .i64 6 r ∧ litArith .and .u64 to (litArith .sub .u64 (litArith .shl .u64 1 (litArith .mul .i64 6 r)) 1) = to % sp r' ∧
      litArith .add .i64 (litArith .mul .i64 r 64) (IntKind.wrap .i64 (litArith .and .u64 (litArith .shr .u64 to (litArith .mul .i64 6 r)) 63)) = slot r' to ∧ litArith .sub .i64 r 1 = r - 1 := fun r a b c => by
    have pv : ∀ (b q : Int), 0 ≤ b → b ≤ 192 → 0 ≤ q → q < 18446744073709551616 → litArith .add .i64 b (IntKind.wrap .i64 (litArith .and .u64 q 63)) = b + q % 64 := fun b q b0 b1 q0 q1 => by
      rw [and63_ q0 q1, wrapI_ (by omega) (by omega), addI_ (by omega) (by omega)]
    obtain ⟨t0, t1⟩ := hto
    have hr : r = 0 ∨ r = 1 ∨ r = 2 ∨ r = 3 := by omega
    rcases hr with rfl | rfl | rfl | rfl
    · refine ⟨0, rfl, by omega, by decide, ?_, ?_, by decide⟩
      · exact andM_ 0 (by decide) t0 t1
      · have s0 : litArith .shr .u64 to (litArith .mul .i64 6 0) = to / 1 := shrU_ to 0 (by decide)
        rw [s0, show litArith .mul .i64 0 64 = 0 from by decide, pv _ _ (by omega) (by omega) (by omega) (by omega)]; simp [slot, sp]
    · refine ⟨1, rfl, by omega, by decide, ?_, ?_, by decide⟩
      · exact andM_ 6 (by decide) t0 t1
      · have s0 : litArith .shr .u64 to (litArith .mul .i64 6 1) = to / 64 := shrU_ to 6 (by decide)
        rw [s0, show litArith .mul .i64 1 64 = 64 from by decide, pv _ _ (by omega) (by omega) (by omega) (by omega)]; simp [slot, sp]
    · refine ⟨2, rfl, by omega, by decide, ?_, ?_, by decide⟩
      · exact andM_ 12 (by decide) t0 t1
      · have s0 : litArith .shr .u64 to (litArith .mul .i64 6 2) = to / 4096 := shrU_ to 12 (by decide)
        rw [s0, show litArith .mul .i64 2 64 = 128 from by decide, pv _ _ (by omega) (by omega) (by omega) (by omega)]; simp [slot, sp]
    · refine ⟨3, rfl, by omega, by decide, ?_, ?_, by decide⟩
      · exact andM_ 18 (by decide) t0 t1
      · have s0 : litArith .shr .u64 to (litArith .mul .i64 6 3) = to / 262144 := shrU_ to 18 (by decide)
        rw [s0, show litArith .mul .i64 3 64 = 192 from by decide, pv _ _ (by omega) (by omega) (by omega) (by omega)]; simp [slot, sp]
  have hlen0 : ∀ (d0 d1 d2 d3 : Int) (L1 E1 : List Lk), (∃ n Q, CQ n Q d0 d1 d2 d3 L1 E1 ∧ M.length = n) → IsW to d0 d1 d2 d3 L1 E1 M := fun d0 d1 d2 d3 L1 E1 hq => ⟨hq, hto, h.marks⟩
  simp only [gtrT, gtrF, lssT, lssF, leqT, leqF, geqT, geqF, eqlT, eqlF, neqT, neqF, true_and, and_true, true_implies, implies_true, Bool.not_eq_true', Bool.not_eq_false', bne_iff_ne, ne_eq, not_true_eq_false, not_false_eq_true, Int.toNat_natCast, same_self, reduceCtorEq, false_implies, List.nil_append]
  rintro _ rfl
  rw [hand]
  refine ⟨fun hf => ⟨hlen0 _ _ _ _ _ _ h.q, ?_⟩, fun hf => ?_⟩
  · intro b0 b1 b2 b3 Lb Eb ha
    refine ⟨fun r now' d0 d1 d2 d3 L1 E1 => now' = to ∧ -1 ≤ r ∧ r ≤ 3 ∧ (∃ n Q, CQ n Q d0 d1 d2 d3 L1 E1 ∧ M.length = n) ∧ Mid to r c0 c1 c2 c3 L E M now d0 d1 d2 d3 L1 E1, fun r _ _ _ _ _ _ _ => (r + 1).toNat,
      ⟨rfl, by omega, by omega, ?_, Mid.far hn0 hlt hmk ha⟩, ?_⟩
    · obtain ⟨Q', hq', _⟩ := ha n0 Q0 hq0 hM0
      exact ⟨n0, Q', hq', hM0⟩
    rintro r to d0 d1 d2 d3 L1 E1 ⟨rfl, r0, r1, hq1, hmid⟩
    refine ⟨fun hr => ?_, fun hr => ⟨d0, d1, d2, d3, L1, E1, hmid.done (by omega), by simp⟩⟩
    obtain ⟨r', rfl, hr4, v1, v2, v3, v4⟩ := vals r r0 r1 hr
    rintro _ rfl
    refine ⟨v1, ?_⟩
    rintro _ rfl _ rfl _ rfl
    rw [v2]
    refine ⟨fun hz => ?_, fun hz => ?_⟩
    · rintro _ rfl _ rfl
      refine ⟨v1, ?_⟩
      rintro _ rfl _ rfl _ rfl _ rfl
      rw [v3]
      refine ⟨hlen0 _ _ _ _ _ _ hq1, ?_⟩
      intro e0 e1 e2 e3 L2 E2 ha2
      rintro _ rfl
      rw [v4]
      refine ⟨⟨rfl, by omega, by omega, ?_, hmid.hit hto.1 hmk ha2⟩, meas2 hr⟩
      obtain ⟨n, Q, hq, hM⟩ := hq1
      obtain ⟨Q', hq', _⟩ := ha2 n Q hq hM
      exact ⟨n, Q', hq', hM⟩
    · rintro _ rfl
      rw [v4]
      exact ⟨⟨rfl, by omega, by omega, hq1, hmid.miss hz⟩, meas2 hr⟩
  · refine ⟨fun r now' d0 d1 d2 d3 L1 E1 => now' = to ∧ -1 ≤ r ∧ r ≤ 3 ∧ (∃ n Q, CQ n Q d0 d1 d2 d3 L1 E1 ∧ M.length = n) ∧ Mid to r c0 c1 c2 c3 L E M now d0 d1 d2 d3 L1 E1, fun r _ _ _ _ _ _ _ => (r + 1).toNat,
      ⟨rfl, by omega, by omega, h.q, Mid.begin hn0 hlt hf⟩, ?_⟩
    rintro r to d0 d1 d2 d3 L1 E1 ⟨rfl, r0, r1, hq1, hmid⟩
    refine ⟨fun hr => ?_, fun hr => ⟨d0, d1, d2, d3, L1, E1, hmid.done (by omega), by simp⟩⟩
    obtain ⟨r', rfl, hr4, v1, v2, v3, v4⟩ := vals r r0 r1 hr
    rintro _ rfl
    refine ⟨v1, ?_⟩
    rintro _ rfl _ rfl _ rfl
    rw [v2]
    refine ⟨fun hz => ?_, fun hz => ?_⟩
    · rintro _ rfl _ rfl
      refine ⟨v1, ?_⟩
      rintro _ rfl _ rfl _ rfl _ rfl
      rw [v3]
      refine ⟨hlen0 _ _ _ _ _ _ hq1, ?_⟩
      intro e0 e1 e2 e3 L2 E2 ha2
      rintro _ rfl
      rw [v4]
      refine ⟨⟨rfl, by omega, by omega, ?_, hmid.hit hto.1 hmk ha2⟩, meas2 hr⟩
      obtain ⟨n, Q, hq, hM⟩ := hq1
      obtain ⟨Q', hq', _⟩ := ha2 n Q hq hM
      exact ⟨n, Q', hq', hM⟩
    · rintro _ rfl
      rw [v4]
      exact ⟨⟨rfl, by omega, by omega, hq1, hmid.miss hz⟩, meas2 hr⟩
set_option maxRecDepth 10000 in
theorem wstep_ok : conStep.ok KK Tryd.prog 59 := by
  refine Con.of_vc ([(0, ⟨[], [(4, .d (.i .i64))], [(0, vW)], [0, 1], []⟩)]) ([]) ([]) TT_ok follows Tryd.func59 ?_ G16_ok (@toVC _ _ wstep_vc ?_)
  · kernel_rfl
  · kernel_rfl
noncomputable def G17 : List (FuncId × Con) := (59, conStep) :: G16
theorem G17_ok : GOK KK Tryd.prog G17 := GOK.cons (Callable.of Tryd.func59 (by kernel_rfl) (by kernel_rfl)) wstep_ok G16_ok
end Go.Proofs.YtplefbcgpbdkfaaDoor
/- Package wheel: the next time at which something may turn; the contract. -/
namespace Go.Proofs.YtplefbcgpbdkfaaDoor
open Go Go.Fx

theorem andN_ {x : Int} (k : Nat) (hk : k < 64) (h0 : 0 ≤ x) (h1 : x < 18446744073709551616) : litArith .andNot .u64 x ((2 ^ k - 1 : Nat) : Int) = x / ((2 ^ k : Nat) : Int) * ((2 ^ k : Nat) : Int) := by
  obtain ⟨n, rfl⟩ := Int.eq_ofNat_of_zero_le h0
  have hp : 2 ^ k ≤ 2 ^ 63 := Nat.pow_le_pow_right (by omega) (by omega)
  have hn : n < 2 ^ 64 := by omega
  have e : (BitVec.ofInt 64 (n : Int) &&& ~~~ BitVec.ofInt 64 ((2 ^ k - 1 : Nat) : Int)).toNat = n / 2 ^ k * 2 ^ k := by
    apply Nat.eq_of_testBit_eq
    intro i
    rw [BitVec.ofInt_natCast, BitVec.ofInt_natCast, ← Nat.shiftRight_eq_div_pow, ← Nat.shiftLeft_eq, BitVec.testBit_toNat, BitVec.getLsbD_and, BitVec.getLsbD_not, BitVec.getLsbD_ofNat, BitVec.getLsbD_ofNat, Nat.testBit_two_pow_sub_one, Nat.testBit_shiftLeft, Nat.testBit_shiftRight]
    by_cases hi : i < 64
    · by_cases hik : k ≤ i
      · have : k + (i - k) = i := by omega
        simp [hi, hik, this, Nat.not_lt.2 hik]
      · simp [hi, hik]
        intro _
        omega
    · have : n.testBit i = false := Nat.testBit_lt_two_pow (Nat.lt_of_lt_of_le hn (Nat.pow_le_pow_right (by omega) (by omega)))
      by_cases hik : k ≤ i
      · have e2 : k + (i - k) = i := by omega
        simp [hi, hik, e2, this]
      · omega
  have hm : n / 2 ^ k * 2 ^ k ≤ n := Nat.div_mul_le_self _ _
  show IntKind.wrap .u64 ((BitVec.ofInt 64 (n : Int) &&& ~~~ BitVec.ofInt 64 ((2 ^ k - 1 : Nat) : Int)).toNat : Int) = _
  rw [e, wrapU_ (by omega) (by omega)]
  push_cast
  rfl
def NextPost (to now c0 c1 c2 c3 : Int) (L E : List Lk) (M : List (Int × Int)) (t : Int) : Prop :=
  ∀ n Q, CQ n Q c0 c1 c2 c3 L E → M.length = n → (∀ k i, k ∈ Q i → strong now (ix M k).1 i) → (∃ k i, k ∈ Q i ∧ i ≠ 256) → now < t ∧ t ≤ to ∧ ∀ k i, k ∈ Q i → stepOK t (ix M k).1 i
def cR (c0 c1 c2 c3 : Int) : Nat → Int
  | 0 => c0
  | 1 => c1
  | 2 => c2
  | _ => c3
/-- The least row that is not empty, of those gone over. -/
def Least (c0 c1 c2 c3 step r : Int) : Prop :=
  (step = 16777216 ∧ ∀ r' : Nat, r < r' → r' < 4 → cR c0 c1 c2 c3 r' ≤ 0) ∨ ∃ q : Nat, q < 4 ∧ r < q ∧ step = sp q ∧ 0 < cR c0 c1 c2 c3 q ∧ ∀ r' : Nat, r < r' → r' < q → cR c0 c1 c2 c3 r' ≤ 0
section
variable {to now c0 c1 c2 c3 step : Int} {L E : List Lk} {M : List (Int × Int)}
theorem Least.hit {r : Nat} (hr : r < 4) (h : 0 < cR c0 c1 c2 c3 r) : Least c0 c1 c2 c3 (sp r) ((r : Int) - 1) := .inr ⟨r, hr, by omega, rfl, h, fun r' a b => by omega⟩
theorem Least.miss {r : Nat} (h : Least c0 c1 c2 c3 step r) (hz : cR c0 c1 c2 c3 r ≤ 0) : Least c0 c1 c2 c3 step ((r : Int) - 1) := by
  rcases h with ⟨e, h⟩ | ⟨q, a, b, e, hc, h⟩
  · refine .inl ⟨e, fun r' x y => ?_⟩
    by_cases c : r' = r
    · rw [c]; exact hz
    · exact h r' (by omega) y
  · refine .inr ⟨q, a, by omega, e, hc, fun r' x y => ?_⟩
    by_cases c : r' = r
    · rw [c]; exact hz
    · exact h r' (by omega) y
theorem CQ.row {n : Nat} {Q : Int → List Int} (h : CQ n Q c0 c1 c2 c3 L E) {r : Nat} (hr : r < 4) : cR c0 c1 c2 c3 r = cnt Q r := by
  obtain ⟨_, rfl, rfl, rfl, rfl⟩ := h
  have : r = 0 ∨ r = 1 ∨ r = 2 ∨ r = 3 := by omega
  rcases this with rfl | rfl | rfl | rfl <;> rfl
theorem CQ.row_empty {n : Nat} {Q : Int → List Int} (h : CQ n Q c0 c1 c2 c3 L E) {r : Nat} (hr : r < 4) (hz : cR c0 c1 c2 c3 r ≤ 0) {i : Int} (h0 : 64 * (r : Int) ≤ i) (h1 : i < 64 * (r : Int) + 64) : Q i = [] := by
  rw [h.row hr] at hz
  exact cntN_zero hz i h0 h1
theorem next_fit {q : Nat} (hq : q < 4) (hc : 0 < cR c0 c1 c2 c3 q) (hw : IsW now c0 c1 c2 c3 L E M) {n : Nat} {Q : Int → List Int} (h : CQ n Q c0 c1 c2 c3 L E) (hM : M.length = n) (hs : ∀ k i, k ∈ Q i → strong now (ix M k).1 i) : now / sp q * sp q + sp q < 18446744073709551616 := by
  rw [h.row hq] at hc
  obtain ⟨i, k, i0, i1, hk⟩ := cntN_mem hc
  have hr := h.rep.mem i k hk
  have hm := (hw.marks k hr.1 (by rw [hM]; exact hr.2)).1.2
  rcases hs k i hk with ⟨e, _⟩ | ⟨e, _⟩ | ⟨r, hr4, e, a, _⟩
  · omega
  · omega
  · have hrg := slot_range hr4 (ix M k).1
    have : r = q := by omega
    subst this
    have : r = 0 ∨ r = 1 ∨ r = 2 ∨ r = 3 := by omega
    rcases this with rfl | rfl | rfl | rfl <;> simp only [sp] at * <;> omega
theorem next_over {q : Nat} (hq : q < 4) (hc : 0 < cR c0 c1 c2 c3 q) (hw : IsW now c0 c1 c2 c3 L E M) (ho : ¬ now / sp q * sp q + sp q < 18446744073709551616) (t : Int) : NextPost to now c0 c1 c2 c3 L E M t := fun n Q h hM hs _ => absurd (next_fit hq hc hw h hM hs) ho
theorem next_near {q : Nat} (hq : q < 4) (hz : ∀ r' : Nat, r' < q → cR c0 c1 c2 c3 r' ≤ 0) (hlt : now < to) (h0 : 0 ≤ now) {t : Int} (ht : t = if to < now / sp q * sp q + sp q then to else now / sp q * sp q + sp q) : NextPost to now c0 c1 c2 c3 L E M t := fun n Q h hM hs _ => by
  have tle : t ≤ now / sp q * sp q + sp q := by rw [ht]; split <;> omega
  have hq4 : q = 0 ∨ q = 1 ∨ q = 2 ∨ q = 3 := by omega
  refine ⟨?_, by rw [ht]; split <;> omega, fun k i hk => ?_⟩
  · rw [ht]
    split
    · exact hlt
    · rcases hq4 with rfl | rfl | rfl | rfl <;> simp only [sp] at * <;> omega
  · rcases hs k i hk with ⟨rfl, _⟩ | ⟨rfl, a⟩ | ⟨r, hr4, e, a, _⟩
    · exact ⟨fun e => by omega, fun r a b c => by omega⟩
    · refine ⟨fun _ => ?_, fun r a b c => by omega⟩
      rcases hq4 with rfl | rfl | rfl | rfl <;> simp only [sp] at * <;> omega
    · have hrg := slot_range hr4 (ix M k).1
      refine ⟨fun e' => by omega, fun r' a' b' c' => ?_⟩
      have : r' = r := by omega
      subst this
      have hge : q ≤ r' := Classical.byContradiction fun c => by
        have := h.row_empty hr4 (hz r' (by omega)) b' c'
        rw [this] at hk; cases hk
      have hr : r' = 0 ∨ r' = 1 ∨ r' = 2 ∨ r' = 3 := by omega
      clear ht e hrg hk hz
      rcases hq4 with rfl | rfl | rfl | rfl <;> rcases hr with rfl | rfl | rfl | rfl <;> simp only [sp] at * <;> omega
/-- The least time of some alarms. -/
def LeastAt (M : List (Int × Int)) (l : List Int) (x : Int) : Prop := u64ok x ∧ (∀ k, k ∈ l → x ≤ (ix M k).1) ∧ (l = [] ∨ ∃ k, k ∈ l ∧ x = (ix M k).1)
theorem LeastAt.more {l : List Int} {x k : Int} (h : LeastAt M l x) (hk : u64ok (ix M k).1) (hl : l = [] → x = 18446744073709551615) : LeastAt M (l ++ [k]) (if (ix M k).1 < x then (ix M k).1 else x) := by
  obtain ⟨h1, h2, h3⟩ := h
  refine ⟨by split <;> assumption, fun k' hk' => ?_, .inr ?_⟩
  · rcases List.mem_append.1 hk' with c | c
    · have := h2 k' c
      split <;> omega
    · simp at c; subst c
      split <;> omega
  · by_cases c : (ix M k).1 < x
    · exact ⟨k, by simp, by rw [if_pos c]⟩
    · rw [if_neg c]
      rcases h3 with e | ⟨k', hk', e⟩
      · have := hl e
        exact ⟨k, by simp, by have := hk.2; omega⟩
      · exact ⟨k', by simp [hk'], e⟩
theorem next_far {l : List Int} {x t : Int} (hz : ∀ r' : Nat, r' < 4 → cR c0 c1 c2 c3 r' ≤ 0) (hl : ∀ n Q, CQ n Q c0 c1 c2 c3 L E → l = Q 257) (hx : LeastAt M l x) (hlt : now < to) (h0 : 0 ≤ now)
    (ht : t = if to < (if x / sp 4 * sp 4 < now + 1 then now + 1 else x / sp 4 * sp 4) then to else if x / sp 4 * sp 4 < now + 1 then now + 1 else x / sp 4 * sp 4) : NextPost to now c0 c1 c2 c3 L E M t := fun n Q h hM hs _ => by
  have hlQ := hl n Q h
  have tge : now < t := by rw [ht]; split <;> (try split) <;> omega
  have tle : t ≤ to := by rw [ht]; split <;> omega
  have tle2 : t ≤ now + 1 ∨ t ≤ x / sp 4 * sp 4 := by rw [ht]; split <;> split at * <;> omega
  refine ⟨tge, tle, fun k i hk => ?_⟩
  rcases hs k i hk with ⟨rfl, _⟩ | ⟨rfl, a⟩ | ⟨r, hr4, e, a, _⟩
  · exact ⟨fun e => by omega, fun r a b c => by omega⟩
  · refine ⟨fun _ => ?_, fun r a b c => by omega⟩
    have := hx.2.1 k (by rw [hlQ]; exact hk)
    simp only [sp] at *
    omega
  · have hrg := slot_range hr4 (ix M k).1
    have := h.row_empty hr4 (hz r hr4) (i := i) (by omega) (by omega)
    rw [this] at hk; cases hk
end
def conNext : Con := (mkCon [.is (.lp 0 0), .d (.i .u64)] [vW, vL] [rL, rE, rM]
  (fun (to now c0 c1 c2 c3 : Int) (L E : List Lk) (M : List (Int × Int)) => IsW now c0 c1 c2 c3 L E M ∧ u64ok to ∧ now < to) [.i .u64]
  (fun (to now c0 c1 c2 c3 : Int) (L E : List Lk) (M : List (Int × Int)) (t : Int) => NextPost to now c0 c1 c2 c3 L E M t)
  (fun (to now c0 c1 c2 c3 : Int) (L E : List Lk) (M : List (Int × Int)) (t : Int) => u64 t) (constX [] _) (constX [] _)).look
end Go.Proofs.YtplefbcgpbdkfaaDoor
/- Package wheel: the next time. -/
namespace Go.Proofs.YtplefbcgpbdkfaaDoor
open Go Go.Fx

set_option maxRecDepth 10000 in
theorem wnext_vc :
  ∀ x0 : Int,
 ∀ x1 : Int,
 ∀ x2 : Int,
 ∀ x3 : Int,
 ∀ x4 : Int,
 ∀ x5 : Int,
 ∀ x6 : List (Int × (Int × Int)),
 ∀ x7 : List (Int × (Int × Int)),
 ∀ x8 : List (Int × Int),
 ((IsW x1 x2 x3 x4 x5 x6 x7 x8) ∧
 ((u64ok x0) ∧
 (x1 < x0))) →
 ∃ x9 : Int → Int → Prop,
 ∃ x10 : Int → Int → Nat,
 (x9 (16777216 : Int) (3 : Int)) ∧
 (∀ x11 : Int,
 ∀ x12 : Int,
 (x9 x11 x12) →
 ((litCmp BinOp.geq x12 (0 : Int) = true) →
 (((0 : Int) ≤ x12) ∧
 (x12 < (4 : Int))) ∧
 (((x12 = (0 : Int)) →
 ((litCmp BinOp.gtr x2 (0 : Int) = true) →
 ∀ x13 : Int,
 (x13 = litArith BinOp.mul IntKind.i64 (6 : Int) x12) →
 ((0 : Int) ≤ x13) ∧
 (∀ x14 : Int,
 (x14 = litArith BinOp.shl IntKind.u64 (1 : Int) x13) →
 ∀ x15 : Int,
 (x15 = litArith BinOp.sub IntKind.i64 x12 (1 : Int)) →
 (x0 = x0) ∧
 ((x1 = x1) ∧
 ((x2 = x2) ∧
 ((x3 = x3) ∧
 ((x4 = x4) ∧
 ((x5 = x5) ∧
 ((x6 = x6) ∧
 (((↑(List.length x6) : Int) = (↑(List.length x6) : Int)) ∧
 ((x7 = x7) ∧
 (((↑(List.length x7) : Int) = (↑(List.length x7) : Int)) ∧
 ((x8 = x8) ∧
 (((↑(List.length x8) : Int) = (↑(List.length x8) : Int)) ∧
 ((x9 x14 x15) ∧
 (x10 x14 x15 < x10 x11 x12))))))))))))))) ∧
 ((litCmp BinOp.gtr x2 (0 : Int) = false) →
 ∀ x16 : Int,
 (x16 = litArith BinOp.sub IntKind.i64 x12 (1 : Int)) →
 (x0 = x0) ∧
 ((x1 = x1) ∧
 ((x2 = x2) ∧
 ((x3 = x3) ∧
 ((x4 = x4) ∧
 ((x5 = x5) ∧
 ((x6 = x6) ∧
 (((↑(List.length x6) : Int) = (↑(List.length x6) : Int)) ∧
 ((x7 = x7) ∧
 (((↑(List.length x7) : Int) = (↑(List.length x7) : Int)) ∧
 ((x8 = x8) ∧
 (((↑(List.length x8) : Int) = (↑(List.length x8) : Int)) ∧
 ((x9 x11 x16) ∧
 (x10 x11 x16 < x10 x11 x12))))))))))))))) ∧
 (((x12 = (1 : Int)) →
 ((litCmp BinOp.gtr x3 (0 : Int) = true) →
 ∀ x17 : Int,
 (x17 = litArith BinOp.mul IntKind.i64 (6 : Int) x12) →
 ((0 : Int) ≤ x17) ∧
 (∀ x18 : Int,
 (x18 = litArith BinOp.shl IntKind.u64 (1 : Int) x17) →
 ∀ x19 : Int,
 (x19 = litArith BinOp.sub IntKind.i64 x12 (1 : Int)) →
 (x0 = x0) ∧
 ((x1 = x1) ∧
 ((x2 = x2) ∧
 ((x3 = x3) ∧
 ((x4 = x4) ∧
 ((x5 = x5) ∧
 ((x6 = x6) ∧
 (((↑(List.length x6) : Int) = (↑(List.length x6) : Int)) ∧
 ((x7 = x7) ∧
 (((↑(List.length x7) : Int) = (↑(List.length x7) : Int)) ∧
 ((x8 = x8) ∧
 (((↑(List.length x8) : Int) = (↑(List.length x8) : Int)) ∧
 ((x9 x18 x19) ∧
 (x10 x18 x19 < x10 x11 x12))))))))))))))) ∧
 ((litCmp BinOp.gtr x3 (0 : Int) = false) →
 ∀ x20 : Int,
 (x20 = litArith BinOp.sub IntKind.i64 x12 (1 : Int)) →
 (x0 = x0) ∧
 ((x1 = x1) ∧
 ((x2 = x2) ∧
 ((x3 = x3) ∧
 ((x4 = x4) ∧
 ((x5 = x5) ∧
 ((x6 = x6) ∧
 (((↑(List.length x6) : Int) = (↑(List.length x6) : Int)) ∧
 ((x7 = x7) ∧
 (((↑(List.length x7) : Int) = (↑(List.length x7) : Int)) ∧
 ((x8 = x8) ∧
 (((↑(List.length x8) : Int) = (↑(List.length x8) : Int)) ∧
 ((x9 x11 x20) ∧
 (x10 x11 x20 < x10 x11 x12))))))))))))))) ∧
 (((x12 = (2 : Int)) →
 ((litCmp BinOp.gtr x4 (0 : Int) = true) →
 ∀ x21 : Int,
 (x21 = litArith BinOp.mul IntKind.i64 (6 : Int) x12) →
 ((0 : Int) ≤ x21) ∧
 (∀ x22 : Int,
 (x22 = litArith BinOp.shl IntKind.u64 (1 : Int) x21) →
 ∀ x23 : Int,
 (x23 = litArith BinOp.sub IntKind.i64 x12 (1 : Int)) →
 (x0 = x0) ∧
 ((x1 = x1) ∧
 ((x2 = x2) ∧
 ((x3 = x3) ∧
 ((x4 = x4) ∧
 ((x5 = x5) ∧
 ((x6 = x6) ∧
 (((↑(List.length x6) : Int) = (↑(List.length x6) : Int)) ∧
 ((x7 = x7) ∧
 (((↑(List.length x7) : Int) = (↑(List.length x7) : Int)) ∧
 ((x8 = x8) ∧
 (((↑(List.length x8) : Int) = (↑(List.length x8) : Int)) ∧
 ((x9 x22 x23) ∧
 (x10 x22 x23 < x10 x11 x12))))))))))))))) ∧
 ((litCmp BinOp.gtr x4 (0 : Int) = false) →
 ∀ x24 : Int,
 (x24 = litArith BinOp.sub IntKind.i64 x12 (1 : Int)) →
 (x0 = x0) ∧
 ((x1 = x1) ∧
 ((x2 = x2) ∧
 ((x3 = x3) ∧
 ((x4 = x4) ∧
 ((x5 = x5) ∧
 ((x6 = x6) ∧
 (((↑(List.length x6) : Int) = (↑(List.length x6) : Int)) ∧
 ((x7 = x7) ∧
 (((↑(List.length x7) : Int) = (↑(List.length x7) : Int)) ∧
 ((x8 = x8) ∧
 (((↑(List.length x8) : Int) = (↑(List.length x8) : Int)) ∧
 ((x9 x11 x24) ∧
 (x10 x11 x24 < x10 x11 x12))))))))))))))) ∧
 ((x12 = (3 : Int)) →
 ((litCmp BinOp.gtr x5 (0 : Int) = true) →
 ∀ x25 : Int,
 (x25 = litArith BinOp.mul IntKind.i64 (6 : Int) x12) →
 ((0 : Int) ≤ x25) ∧
 (∀ x26 : Int,
 (x26 = litArith BinOp.shl IntKind.u64 (1 : Int) x25) →
 ∀ x27 : Int,
 (x27 = litArith BinOp.sub IntKind.i64 x12 (1 : Int)) →
 (x0 = x0) ∧
 ((x1 = x1) ∧
 ((x2 = x2) ∧
 ((x3 = x3) ∧
 ((x4 = x4) ∧
 ((x5 = x5) ∧
 ((x6 = x6) ∧
 (((↑(List.length x6) : Int) = (↑(List.length x6) : Int)) ∧
 ((x7 = x7) ∧
 (((↑(List.length x7) : Int) = (↑(List.length x7) : Int)) ∧
 ((x8 = x8) ∧
 (((↑(List.length x8) : Int) = (↑(List.length x8) : Int)) ∧
 ((x9 x26 x27) ∧
 (x10 x26 x27 < x10 x11 x12))))))))))))))) ∧
 ((litCmp BinOp.gtr x5 (0 : Int) = false) →
 ∀ x28 : Int,
 (x28 = litArith BinOp.sub IntKind.i64 x12 (1 : Int)) →
 (x0 = x0) ∧
 ((x1 = x1) ∧
 ((x2 = x2) ∧
 ((x3 = x3) ∧
 ((x4 = x4) ∧
 ((x5 = x5) ∧
 ((x6 = x6) ∧
 (((↑(List.length x6) : Int) = (↑(List.length x6) : Int)) ∧
 ((x7 = x7) ∧
 (((↑(List.length x7) : Int) = (↑(List.length x7) : Int)) ∧
 ((x8 = x8) ∧
 (((↑(List.length x8) : Int) = (↑(List.length x8) : Int)) ∧
 ((x9 x11 x28) ∧
 (x10 x11 x28 < x10 x11 x12))))))))))))))))))) ∧
 ((litCmp BinOp.geq x12 (0 : Int) = false) →
 ((litCmp BinOp.eql x11 (16777216 : Int) = true) →
 (IsRep x6 x7) ∧
 (∀ x29 : List Int,
 (∀ x30 : Nat,
 ∀ x31 : Nat,
 ∀ x32 : Int → List Int,
 (Rep x30 x31 x32 x6 x7) →
 x29 = x32 (257 : Int)) →
 ∃ x33 : Int → Int → Prop,
 ∃ x34 : Int → Int → Nat,
 (x33 (18446744073709551615 : Int) (0 : Int)) ∧
 (∀ x35 : Int,
 ∀ x36 : Int,
 (x33 x35 x36) →
 ((litCmp BinOp.lss x36 (↑(List.length x29) : Int) = true) →
 (((0 : Int) ≤ x36) ∧
 (x36 < (↑(List.length x29) : Int))) ∧
 (∀ x37 : Int,
 (x37 = ix x29 x36) →
 (((0 : Int) ≤ x37) ∧
 (x37 < (↑(List.length x8) : Int))) ∧
 (∀ x38 : Int,
 (x38 = Prod.fst (ix x8 x37)) →
 ∀ x39 : Int,
 (x39 = if x38 < x35 then x38 else x35) →
 ∀ x40 : Int,
 (x40 = litArith BinOp.add IntKind.i64 x36 (1 : Int)) →
 (x0 = x0) ∧
 ((x11 = x11) ∧
 (((↑(List.length x29) : Int) = (↑(List.length x29) : Int)) ∧
 ((x1 = x1) ∧
 ((x2 = x2) ∧
 ((x3 = x3) ∧
 ((x4 = x4) ∧
 ((x5 = x5) ∧
 ((x6 = x6) ∧
 (((↑(List.length x6) : Int) = (↑(List.length x6) : Int)) ∧
 ((x7 = x7) ∧
 (((↑(List.length x7) : Int) = (↑(List.length x7) : Int)) ∧
 ((x8 = x8) ∧
 (((↑(List.length x8) : Int) = (↑(List.length x8) : Int)) ∧
 ((x29 = x29) ∧
 (((↑(List.length x29) : Int) = (↑(List.length x29) : Int)) ∧
 ((x33 x39 x40) ∧
 (x34 x39 x40 < x34 x35 x36)))))))))))))))))))) ∧
 ((litCmp BinOp.lss x36 (↑(List.length x29) : Int) = false) →
 ∀ x41 : Int,
 (x41 = litArith BinOp.andNot IntKind.u64 x35 (16777215 : Int)) →
 ∀ x42 : Int,
 (x42 = litArith BinOp.add IntKind.u64 x1 (1 : Int)) →
 ∀ x43 : Int,
 (x43 = if x41 < x42 then x42 else x41) →
 ∀ x44 : Int,
 (x44 = if x0 < x43 then x0 else x43) →
 ∃ x45 : Int,
 (NextPost x0 x1 x2 x3 x4 x5 x6 x7 x8 x45) ∧
 ((x44 = x45) ∧
 ((x1 = x1) ∧
 ((x2 = x2) ∧
 ((x3 = x3) ∧
 ((x4 = x4) ∧
 ((x5 = x5) ∧
 ((x6 = x6) ∧
 (((↑(List.length x6) : Int) = (↑(List.length x6) : Int)) ∧
 ((x7 = x7) ∧
 (((↑(List.length x7) : Int) = (↑(List.length x7) : Int)) ∧
 ((x8 = x8) ∧
 (((↑(List.length x8) : Int) = (↑(List.length x8) : Int)) ∧
 (True))))))))))))))))) ∧
 ((litCmp BinOp.eql x11 (16777216 : Int) = false) →
 ∀ x46 : Int,
 (x46 = litArith BinOp.sub IntKind.u64 x11 (1 : Int)) →
 ∀ x47 : Int,
 (x47 = litArith BinOp.andNot IntKind.u64 x1 x46) →
 ∀ x48 : Int,
 (x48 = litArith BinOp.add IntKind.u64 x47 x11) →
 ((litCmp BinOp.lss x48 x1 = true) →
 ∃ x49 : Int,
 (NextPost x0 x1 x2 x3 x4 x5 x6 x7 x8 x49) ∧
 ((x0 = x49) ∧
 ((x1 = x1) ∧
 ((x2 = x2) ∧
 ((x3 = x3) ∧
 ((x4 = x4) ∧
 ((x5 = x5) ∧
 ((x6 = x6) ∧
 (((↑(List.length x6) : Int) = (↑(List.length x6) : Int)) ∧
 ((x7 = x7) ∧
 (((↑(List.length x7) : Int) = (↑(List.length x7) : Int)) ∧
 ((x8 = x8) ∧
 (((↑(List.length x8) : Int) = (↑(List.length x8) : Int)) ∧
 (True)))))))))))))) ∧
 ((litCmp BinOp.lss x48 x1 = false) →
 ((litCmp BinOp.gtr x48 x0 = true) →
 ∃ x50 : Int,
 (NextPost x0 x1 x2 x3 x4 x5 x6 x7 x8 x50) ∧
 ((x0 = x50) ∧
 ((x1 = x1) ∧
 ((x2 = x2) ∧
 ((x3 = x3) ∧
 ((x4 = x4) ∧
 ((x5 = x5) ∧
 ((x6 = x6) ∧
 (((↑(List.length x6) : Int) = (↑(List.length x6) : Int)) ∧
 ((x7 = x7) ∧
 (((↑(List.length x7) : Int) = (↑(List.length x7) : Int)) ∧
 ((x8 = x8) ∧
 (((↑(List.length x8) : Int) = (↑(List.length x8) : Int)) ∧
 (True)))))))))))))) ∧
 ((litCmp BinOp.gtr x48 x0 = false) →
 ∃ x51 : Int,
 (NextPost x0 x1 x2 x3 x4 x5 x6 x7 x8 x51) ∧
 ((x48 = x51) ∧
 ((x1 = x1) ∧
 ((x2 = x2) ∧
 ((x3 = x3) ∧
 ((x4 = x4) ∧
 ((x5 = x5) ∧
 ((x6 = x6) ∧
 (((↑(List.length x6) : Int) = (↑(List.length x6) : Int)) ∧
 ((x7 = x7) ∧
 (((↑(List.length x7) : Int) = (↑(List.length x7) : Int)) ∧
 ((x8 = x8) ∧
 (((↑(List.length x8) : Int) = (↑(List.length x8) : Int)) ∧
                   (True)))))))))))))))))) := by
  intro to now c0 c1 c2 c3 L E M ⟨h, hto, hlt⟩
  obtain ⟨n0, Q0, hq0, hM0⟩ := h.q
  obtain ⟨n0', n1'⟩ := h.now
  simp only [gtrT, gtrF, lssT, lssF, leqT, leqF, geqT, geqF, eqlT, eqlF, neqT, neqF, true_and, and_true, true_implies, implies_true, Bool.not_eq_true', Bool.not_eq_false', bne_iff_ne, ne_eq, not_true_eq_false, not_false_eq_true, Int.toNat_natCast, same_self, reduceCtorEq, false_implies, List.nil_append]
  refine ⟨fun step r => -1 ≤ r ∧ r ≤ 3 ∧ Least c0 c1 c2 c3 step r, fun _ r => (r + 1).toNat, ⟨by omega, by omega, .inl ⟨rfl, fun r' a b => by omega⟩⟩, ?_⟩
  rintro step r ⟨r0, r1, hL⟩
  refine ⟨fun hr => ⟨⟨hr, by omega⟩, ?_, ?_, ?_, ?_⟩, fun hr => ⟨fun hs => ⟨h.isRep, fun l hl => ?_⟩, fun hs => ?_⟩⟩
  · rintro rfl
    have e1 : litArith .shl .u64 1 (litArith .mul .i64 6 0) = sp 0 := by decide
    have e2 : litArith .sub .i64 0 1 = ((0 : Nat) : Int) - 1 := by decide
    have e3 : ((((0 : Nat) : Int) - 1) + 1).toNat < ((0 : Int) + 1).toNat := by decide
    refine ⟨fun hc => ?_, fun hc => ?_⟩
    · rintro _ rfl
      refine ⟨by decide, ?_⟩
      rintro _ rfl _ rfl
      rw [e1, e2]
      exact ⟨⟨by decide, by decide, Least.hit (by decide) hc⟩, e3⟩
    · rintro _ rfl
      rw [e2]
      exact ⟨⟨by decide, by decide, Least.miss (r := 0) hL hc⟩, e3⟩
  · rintro rfl
    have e1 : litArith .shl .u64 1 (litArith .mul .i64 6 1) = sp 1 := by decide
    have e2 : litArith .sub .i64 1 1 = ((1 : Nat) : Int) - 1 := by decide
    have e3 : ((((1 : Nat) : Int) - 1) + 1).toNat < ((1 : Int) + 1).toNat := by decide
    refine ⟨fun hc => ?_, fun hc => ?_⟩
    · rintro _ rfl
      refine ⟨by decide, ?_⟩
      rintro _ rfl _ rfl
      rw [e1, e2]
      exact ⟨⟨by decide, by decide, Least.hit (by decide) hc⟩, e3⟩
    · rintro _ rfl
      rw [e2]
      exact ⟨⟨by decide, by decide, Least.miss (r := 1) hL hc⟩, e3⟩
  · rintro rfl
    have e1 : litArith .shl .u64 1 (litArith .mul .i64 6 2) = sp 2 := by decide
    have e2 : litArith .sub .i64 2 1 = ((2 : Nat) : Int) - 1 := by decide
    have e3 : ((((2 : Nat) : Int) - 1) + 1).toNat < ((2 : Int) + 1).toNat := by decide
    refine ⟨fun hc => ?_, fun hc => ?_⟩
    · rintro _ rfl
      refine ⟨by decide, ?_⟩
      rintro _ rfl _ rfl
      rw [e1, e2]
      exact ⟨⟨by decide, by decide, Least.hit (by decide) hc⟩, e3⟩
    · rintro _ rfl
      rw [e2]
      exact ⟨⟨by decide, by decide, Least.miss (r := 2) hL hc⟩, e3⟩
  · rintro rfl
    have e1 : litArith .shl .u64 1 (litArith .mul .i64 6 3) = sp 3 := by decide
    have e2 : litArith .sub .i64 3 1 = ((3 : Nat) : Int) - 1 := by decide
    have e3 : ((((3 : Nat) : Int) - 1) + 1).toNat < ((3 : Int) + 1).toNat := by decide
    refine ⟨fun hc => ?_, fun hc => ?_⟩
    · rintro _ rfl
      refine ⟨by decide, ?_⟩
      rintro _ rfl _ rfl
      rw [e1, e2]
      exact ⟨⟨by decide, by decide, Least.hit (by decide) hc⟩, e3⟩
    · rintro _ rfl
      rw [e2]
      exact ⟨⟨by decide, by decide, Least.miss (r := 3) hL hc⟩, e3⟩
  · have hz : ∀ r' : Nat, r' < 4 → cR c0 c1 c2 c3 r' ≤ 0 := by
      rcases hL with ⟨_, hz⟩ | ⟨q, hq, _, e, _⟩
      · exact fun r' a => hz r' (by omega) a
      · have : q = 0 ∨ q = 1 ∨ q = 2 ∨ q = 3 := by omega
        rcases this with rfl | rfl | rfl | rfl <;> simp only [sp] at e <;> omega
    have hlQ : ∀ n Q, CQ n Q c0 c1 c2 c3 L E → l = Q 257 := fun n Q hq => hl n 258 Q hq.rep
    have hlen := hq0.rep.len_le 257
    rw [← hlQ n0 Q0 hq0] at hlen
    have hsn := hq0.rep.sn
    refine ⟨fun x i => 0 ≤ i ∧ i ≤ l.length ∧ LeastAt M (l.take i.toNat) x ∧ (i = 0 → x = 18446744073709551615), fun _ i => ((l.length : Int) - i).toNat, ⟨Int.le_refl _, Int.natCast_nonneg _, ⟨⟨by omega, by omega⟩, fun k hk => (by cases hk), .inl rfl⟩, fun _ => rfl⟩, ?_⟩
    rintro x i ⟨i0, i1, hx, hx0⟩
    refine ⟨fun hi => ⟨⟨i0, hi⟩, ?_⟩, fun hi => ?_⟩
    · obtain ⟨m, rfl⟩ := Int.eq_ofNat_of_zero_le i0
      have hm : m < l.length := by omega
      have hix : ix l (m : Int) = l[m] := by
        unfold ix
        rw [List.getD_eq_getElem?_getD, Int.toNat_natCast, List.getElem?_eq_getElem hm, Option.getD_some]
      rintro _ rfl
      have hkm : l[m] ∈ Q0 257 := by rw [← hlQ n0 Q0 hq0]; exact List.getElem_mem hm
      have hkr := hq0.rep.mem _ _ hkm
      rw [hix]
      have htake : l.take (m + 1) = l.take m ++ [l[m]] := by rw [List.take_add_one, List.getElem?_eq_getElem hm]; rfl
      refine ⟨⟨hkr.1, by rw [hM0]; exact hkr.2⟩, ?_⟩
      rintro _ rfl _ rfl _ rfl
      rw [addI_ (by omega) (by omega)]
      refine ⟨⟨by omega, by omega, ?_, fun e => by omega⟩, meas hi⟩
      rw [show ((m : Int) + 1).toNat = m + 1 from by omega, htake]
      simp only [Int.toNat_natCast] at hx
      refine hx.more (h.marks _ hkr.1 (by rw [hM0]; exact hkr.2)).1 (fun e => hx0 ?_)
      have := congrArg List.length e
      simp only [List.length_take, List.length_nil] at this
      omega
    · have hxl : LeastAt M l x := by
        have : i.toNat = l.length := by omega
        rw [this, List.take_length] at hx
        exact hx
      have e1 : litArith .andNot .u64 x 16777215 = x / sp 4 * sp 4 := andN_ 24 (by decide) hxl.1.1 hxl.1.2
      have e2 : litArith .add .u64 now 1 = now + 1 := addU_ (by omega) (by have := hto.2; omega)
      rintro _ rfl _ rfl _ rfl _ rfl
      rw [e1, e2]
      exact ⟨_, next_far hz hlQ hxl hlt n0' rfl, rfl⟩
  · obtain ⟨q, hq, hc, hz, rfl⟩ : ∃ q : Nat, q < 4 ∧ 0 < cR c0 c1 c2 c3 q ∧ (∀ r' : Nat, r' < q → cR c0 c1 c2 c3 r' ≤ 0) ∧ step = sp q := by
      rcases hL with ⟨e, _⟩ | ⟨q, hq, _, e, hc, hz⟩
      · exact absurd e hs
      · exact ⟨q, hq, hc, fun r' a => hz r' (by omega) a, e⟩
    have e1 : litArith .andNot .u64 now (litArith .sub .u64 (sp q) 1) = now / sp q * sp q := by
      have : q = 0 ∨ q = 1 ∨ q = 2 ∨ q = 3 := by omega
      rcases this with rfl | rfl | rfl | rfl
      · exact andN_ 0 (by decide) n0' n1'
      · exact andN_ 6 (by decide) n0' n1'
      · exact andN_ 12 (by decide) n0' n1'
      · exact andN_ 18 (by decide) n0' n1'
    have hpos : 0 ≤ now / sp q * sp q + sp q ∧ now < now / sp q * sp q + sp q := by
      have : q = 0 ∨ q = 1 ∨ q = 2 ∨ q = 3 := by omega
      rcases this with rfl | rfl | rfl | rfl <;> simp only [sp] <;> omega
    rintro _ rfl _ rfl _ rfl
    rw [e1]
    by_cases ov : now / sp q * sp q + sp q < 18446744073709551616
    · rw [addU_ hpos.1 ov]
      refine ⟨fun h1 => absurd h1 (by omega), fun _ => ⟨fun h2 => ⟨_, next_near hq hz hlt n0' (t := to) (by rw [if_pos h2]), rfl⟩, fun h2 => ⟨_, next_near hq hz hlt n0' (t := now / sp q * sp q + sp q) (by rw [if_neg (by omega)]), rfl⟩⟩⟩
    · have no := fun t => next_over (to := to) hq hc h ov t
      exact ⟨fun _ => ⟨_, no _, rfl⟩, fun _ => ⟨fun _ => ⟨_, no _, rfl⟩, fun _ => ⟨_, no _, rfl⟩⟩⟩
set_option maxRecDepth 10000 in
theorem wnext_ok : conNext.ok KK Tryd.prog 60 := by
  refine Con.of_vc ([(0, ⟨[], [(5, .d (.i .u64)), (6, .d (.i .i64))], [], [], []⟩), (2, ⟨[], [(7, .d (.i .u64)), (33, .d (.i .i64))], [], [], []⟩)]) ([]) ([]) TT_ok follows Tryd.func60 ?_ G17_ok (@toVC _ _ wnext_vc ?_)
  · kernel_rfl
  · kernel_rfl
noncomputable def G18 : List (FuncId × Con) := (60, conNext) :: G17
theorem G18_ok : GOK KK Tryd.prog G18 := GOK.cons (Callable.of Tryd.func60 (by kernel_rfl) (by kernel_rfl)) wnext_ok G17_ok
end Go.Proofs.YtplefbcgpbdkfaaDoor
/- Package wheel: First; package nightjarref07: the contracts. -/
namespace Go.Proofs.YtplefbcgpbdkfaaDoor
open Go Go.Fx

/-- The first alarm of all. -/
def scan (on : Int → Bool) (at_ : Int → Int) : Nat → Int × Bool
  | 0 => (0, false)
  | s + 1 => if on s && (!(scan on at_ s).2 || decide (at_ s < (scan on at_ s).1)) then (at_ s, true) else scan on at_ s
def conFirstW : Con := (mkCon [.is (.lp 0 0)] [vW, vL] [rL, rE, rM]
  (fun (now c0 c1 c2 c3 : Int) (L E : List Lk) (M : List (Int × Int)) => IsW now c0 c1 c2 c3 L E M) [] (constX True _)
  (fun (now c0 c1 c2 c3 : Int) (L E : List Lk) (M : List (Int × Int)) => .tup [u64 (scan (fun k => (onC L k).2) (fun k => (ix M k).1) M.length).1, bb (scan (fun k => (onC L k).2) (fun k => (ix M k).1) M.length).2]) (constX [] _) (constX [] _)).look
abbrev Mk := Bool × Int × Int
abbrev Wh := List Mk × Int
abbrev tpMk : Tp := .p .bo (.p (.i .u64) (.i .u64))
abbrev tpWh : Tp := .p (.sl tpMk) (.i .u64)
def isR (w : Wh) (k : Int) : Bool := decide (0 ≤ k) && (decide (k < w.1.length) && (ix w.1 k).1)
def withR (w : Wh) (k : Int) (m : Mk) : Wh := (w.1.set k.toNat m, w.2)
def setR (w : Wh) (k at_ turn : Int) : Wh × Bool := if k < 0 ∨ (w.1.length : Int) ≤ k ∨ (ix w.1 k).1 = true then (w, false) else (withR w k (true, at_, turn), true)
def unsetR (w : Wh) (k : Int) : Wh × Bool := if isR w k then (withR w k (false, 0, 0), true) else (w, false)
def lenR (l : List Mk) : Int := (((l.filter fun m => m.1).length : Nat) : Int)
def conRNew : Con := (fnC [.d (.i .i64), .d (.i .u64)] (fun (n now : Int) => .x tpWh (List.replicate (cut4096 n) (false, 0, 0), now))).firm
def conRIs : Con := fnC [.d tpWh, .d (.i .i64)] (fun (w : Wh) (k : Int) => bb (isR w k))
def conRWith : Con := (fnP [.d tpWh, .d (.i .i64), .d tpMk] (fun (w : Wh) (k : Int) (m : Mk) => 0 ≤ k ∧ k < w.1.length ∧ w.1.length ≤ 4096) (fun (w : Wh) (k : Int) (m : Mk) => .x tpWh (withR w k m))).firm
def conRSet : Con := (fnP [.d tpWh, .d (.i .i64), .d (.i .u64), .d (.i .u64)] (fun (w : Wh) (k at_ turn : Int) => w.1.length ≤ 4096) (fun (w : Wh) (k at_ turn : Int) => .tup [.x tpWh (setR w k at_ turn).1, bb (setR w k at_ turn).2])).firm
def conRUnset : Con := (fnP [.d tpWh, .d (.i .i64)] (fun (w : Wh) (k : Int) => w.1.length ≤ 4096) (fun (w : Wh) (k : Int) => .tup [.x tpWh (unsetR w k).1, bb (unsetR w k).2])).firm
def conRLen : Con := fnP [.d tpWh] (fun (w : Wh) => w.1.length ≤ 4096) (fun (w : Wh) => i64 (lenR w.1))
def conRFirst : Con := fnP [.d tpWh] (fun (w : Wh) => w.1.length ≤ 4096) (fun (w : Wh) => .tup [u64 (scan (fun k => (ix w.1 k).1) (fun k => (ix w.1 k).2.1) w.1.length).1, bb (scan (fun k => (ix w.1 k).1) (fun k => (ix w.1 k).2.1) w.1.length).2])
end Go.Proofs.YtplefbcgpbdkfaaDoor
/- Small functions of the law of wheels and its documents: the contracts. -/
namespace Go.Proofs.YtplefbcgpbdkfaaDoor
open Go Go.Fx
abbrev tpOp : Tp := .p (.i .i64) (.p (.i .i64) (.p (.i .u64) (.p (.i .u64) .bo)))
abbrev Opp := Int × Int × Int × Int × Bool
def whenL (o : Opp) (now : Int) : Int := if o.2.2.2.2 then IntKind.wrap .u64 (now + o.2.2.1) else o.2.2.1
def conWhen : Con := fnC [.d tpOp, .d (.i .u64)] (fun (o : Opp) (now : Int) => u64 (whenL o now))
noncomputable def conSame3 : Con := fnP [.d (.sl (.i .i64)), .d (.sl (.i .i64))] (fun (a b : List Int) => a.length ≤ 1000000) (fun (a b : List Int) => bb (same a b))
theorem take_ix {l : List Int} {k : Int} (h0 : 0 ≤ k) (h1 : k < l.length) : l.take (k + 1).toNat = l.take k.toNat ++ [ix l k] := by
  obtain ⟨m, rfl⟩ := Int.eq_ofNat_of_zero_le h0
  have hm : m < l.length := by omega
  rw [show ((m : Int) + 1).toNat = m + 1 from by omega, Int.toNat_natCast, List.take_add_one, List.getElem?_eq_getElem hm]
  unfold ix
  rw [List.getD_eq_getElem?_getD, Int.toNat_natCast, List.getElem?_eq_getElem hm]
  rfl
end Go.Proofs.YtplefbcgpbdkfaaDoor
/- Orders: the contracts of cmp's functions and of the document's. -/
namespace Go.Proofs.YtplefbcgpbdkfaaDoor
open Go Go.Fx
def cmpI (x y : Int) : Int := if x < y then -1 else if y < x then 1 else 0
def conNaNU : Con := fnC [.d (.i .u64)] (fun (x : Int) => bb false)
def conNaNI : Con := fnC [.d (.i .i64)] (fun (x : Int) => bb false)
def conCmpU : Con := fnC [.d (.i .u64), .d (.i .u64)] (fun (x y : Int) => i64 (cmpI x y))
def conCmpI : Con := fnC [.d (.i .i64), .d (.i .i64)] (fun (x y : Int) => i64 (cmpI x y))
def orL : List Int → Int
  | [] => 0
  | x :: l => if x = 0 then orL l else x
def conOr : Con := fnP [.d (.sl (.i .i64))] (fun (l : List Int) => l.length ≤ 1000000) (fun (l : List Int) => i64 (orL l))
def aheadR (w : Wh) (a b : Int) : Bool :=
  if (ix w.1 a).2.1 = (ix w.1 b).2.1 then (if (ix w.1 a).2.2 = (ix w.1 b).2.2 then decide (a < b) else decide ((ix w.1 a).2.2 < (ix w.1 b).2.2)) else decide ((ix w.1 a).2.1 < (ix w.1 b).2.1)
def conAhead : Con := fnP [.d tpWh, .d (.i .i64), .d (.i .i64)] (fun (w : Wh) (a b : Int) => 0 ≤ a ∧ a < w.1.length ∧ 0 ≤ b ∧ b < w.1.length) (fun (w : Wh) (a b : Int) => bb (aheadR w a b))
theorem orL_zero : ∀ {l : List Int}, (∀ x, x ∈ l → x = 0) → orL l = 0
  | [], _ => rfl
  | x :: l, h => by
    simp only [orL]
    rw [if_pos (h x (by simp))]
    exact orL_zero (fun y hy => h y (by simp [hy]))
theorem orL_app : ∀ {a b : List Int}, (∀ x, x ∈ a → x = 0) → orL (a ++ b) = orL b
  | [], b, _ => rfl
  | x :: a, b, h => by
    simp only [List.cons_append, orL]
    rw [if_pos (h x (by simp))]
    exact orL_app (fun y hy => h y (by simp [hy]))
end Go.Proofs.YtplefbcgpbdkfaaDoor
/- Orders. -/
namespace Go.Proofs.YtplefbcgpbdkfaaDoor
open Go Go.Fx

set_option maxRecDepth 10000 in
theorem nanu_vc :
  ∀ x0 : Int,
 True →
 (True) ∧
 ((litCmp BinOp.neq x0 x0 = false) ∧
   (True)) := by
  intro x _
  simp [litCmp]
set_option maxRecDepth 10000 in
theorem nanu_ok : conNaNU.ok KK Tryd.prog 82 := by
  refine Con.of_vc ([]) ([]) ([]) TT_ok follows Tryd.func82 ?_ G18_ok (@toVC _ _ nanu_vc ?_)
  · kernel_rfl
  · kernel_rfl
noncomputable def G19 : List (FuncId × Con) := (82, conNaNU) :: G18
theorem G19_ok : GOK KK Tryd.prog G19 := GOK.cons (Callable.of Tryd.func82 (by kernel_rfl) (by kernel_rfl)) nanu_ok G18_ok

set_option maxRecDepth 10000 in
theorem nani_vc :
  ∀ x0 : Int,
 True →
 (True) ∧
 ((litCmp BinOp.neq x0 x0 = false) ∧
   (True)) := by
  intro x _
  simp [litCmp]
set_option maxRecDepth 10000 in
theorem nani_ok : conNaNI.ok KK Tryd.prog 83 := by
  refine Con.of_vc ([]) ([]) ([]) TT_ok follows Tryd.func83 ?_ G19_ok (@toVC _ _ nani_vc ?_)
  · kernel_rfl
  · kernel_rfl
noncomputable def G20 : List (FuncId × Con) := (83, conNaNI) :: G19
theorem G20_ok : GOK KK Tryd.prog G20 := GOK.cons (Callable.of Tryd.func83 (by kernel_rfl) (by kernel_rfl)) nani_ok G19_ok

set_option maxRecDepth 10000 in
theorem cmpu_vc :
  ∀ x0 : Int,
 ∀ x1 : Int,
 True →
 (True) ∧
 (True →
 (True) ∧
 (True →
 ((false = true) →
 ((false = true) →
 (True) ∧
 (((0 : Int) = cmpI x0 x1) ∧
 (True))) ∧
 ((false = false) →
 (True) ∧
 (((-1 : Int) = cmpI x0 x1) ∧
 (True)))) ∧
 ((false = false) →
 ((false = true) →
 (True) ∧
 (((1 : Int) = cmpI x0 x1) ∧
 (True))) ∧
 ((false = false) →
 ((litCmp BinOp.lss x0 x1 = true) →
 (True) ∧
 (((-1 : Int) = cmpI x0 x1) ∧
 (True))) ∧
 ((litCmp BinOp.lss x0 x1 = false) →
 ((litCmp BinOp.gtr x0 x1 = true) →
 (True) ∧
 (((1 : Int) = cmpI x0 x1) ∧
 (True))) ∧
 ((litCmp BinOp.gtr x0 x1 = false) →
 (True) ∧
 (((0 : Int) = cmpI x0 x1) ∧
         (True)))))))) := by
  intro x y _
  simp only [gtrT, gtrF, lssT, lssF, leqT, leqF, geqT, geqF, eqlT, eqlF, neqT, neqF, true_and, and_true, true_implies, implies_true, Bool.not_eq_true', Bool.not_eq_false', bne_iff_ne, ne_eq, not_true_eq_false, not_false_eq_true, Int.toNat_natCast, same_self, reduceCtorEq, false_implies, List.nil_append, cmpI]
  refine ⟨fun h => ?_, fun h => ⟨fun h1 => ?_, fun h1 => ?_⟩⟩
  · rw [if_pos h]
  · rw [if_neg (by omega), if_pos h1]
  · rw [if_neg (by omega), if_neg (by omega)]
set_option maxRecDepth 10000 in
theorem cmpu_ok : conCmpU.ok KK Tryd.prog 65 := by
  refine Con.of_vc ([]) ([]) ([]) TT_ok follows Tryd.func65 ?_ G20_ok (@toVC _ _ cmpu_vc ?_)
  · kernel_rfl
  · kernel_rfl
noncomputable def G21 : List (FuncId × Con) := (65, conCmpU) :: G20
theorem G21_ok : GOK KK Tryd.prog G21 := GOK.cons (Callable.of Tryd.func65 (by kernel_rfl) (by kernel_rfl)) cmpu_ok G20_ok

set_option maxRecDepth 10000 in
theorem cmpi_vc :
  ∀ x0 : Int,
 ∀ x1 : Int,
 True →
 (True) ∧
 (True →
 (True) ∧
 (True →
 ((false = true) →
 ((false = true) →
 (True) ∧
 (((0 : Int) = cmpI x0 x1) ∧
 (True))) ∧
 ((false = false) →
 (True) ∧
 (((-1 : Int) = cmpI x0 x1) ∧
 (True)))) ∧
 ((false = false) →
 ((false = true) →
 (True) ∧
 (((1 : Int) = cmpI x0 x1) ∧
 (True))) ∧
 ((false = false) →
 ((litCmp BinOp.lss x0 x1 = true) →
 (True) ∧
 (((-1 : Int) = cmpI x0 x1) ∧
 (True))) ∧
 ((litCmp BinOp.lss x0 x1 = false) →
 ((litCmp BinOp.gtr x0 x1 = true) →
 (True) ∧
 (((1 : Int) = cmpI x0 x1) ∧
 (True))) ∧
 ((litCmp BinOp.gtr x0 x1 = false) →
 (True) ∧
 (((0 : Int) = cmpI x0 x1) ∧
         (True)))))))) := by
  intro x y _
  simp only [gtrT, gtrF, lssT, lssF, leqT, leqF, geqT, geqF, eqlT, eqlF, neqT, neqF, true_and, and_true, true_implies, implies_true, Bool.not_eq_true', Bool.not_eq_false', bne_iff_ne, ne_eq, not_true_eq_false, not_false_eq_true, Int.toNat_natCast, same_self, reduceCtorEq, false_implies, List.nil_append, cmpI]
  refine ⟨fun h => ?_, fun h => ⟨fun h1 => ?_, fun h1 => ?_⟩⟩
  · rw [if_pos h]
  · rw [if_neg (by omega), if_pos h1]
  · rw [if_neg (by omega), if_neg (by omega)]
set_option maxRecDepth 10000 in
theorem cmpi_ok : conCmpI.ok KK Tryd.prog 66 := by
  refine Con.of_vc ([]) ([]) ([]) TT_ok follows Tryd.func66 ?_ G21_ok (@toVC _ _ cmpi_vc ?_)
  · kernel_rfl
  · kernel_rfl
noncomputable def G22 : List (FuncId × Con) := (66, conCmpI) :: G21
theorem G22_ok : GOK KK Tryd.prog G22 := GOK.cons (Callable.of Tryd.func66 (by kernel_rfl) (by kernel_rfl)) cmpi_ok G21_ok

set_option maxRecDepth 10000 in
theorem cor_vc :
  ∀ x0 : List Int,
 (List.length x0 ≤ (1000000 : Nat)) →
 ∃ x1 : Int → Prop,
 ∃ x2 : Int → Nat,
 (x1 (0 : Int)) ∧
 (∀ x3 : Int,
 (x1 x3) →
 ((litCmp BinOp.lss x3 (↑(List.length x0) : Int) = true) →
 (((0 : Int) ≤ x3) ∧
 (x3 < (↑(List.length x0) : Int))) ∧
 (∀ x4 : Int,
 (x4 = ix x0 x3) →
 ((litCmp BinOp.neq x4 (0 : Int) = true) →
 (True) ∧
 ((x4 = orL x0) ∧
 (True))) ∧
 ((litCmp BinOp.neq x4 (0 : Int) = false) →
 ∀ x5 : Int,
 (x5 = litArith BinOp.add IntKind.i64 x3 (1 : Int)) →
 (x0 = x0) ∧
 (((↑(List.length x0) : Int) = (↑(List.length x0) : Int)) ∧
 (((↑(List.length x0) : Int) = (↑(List.length x0) : Int)) ∧
 ((x1 x5) ∧
 (x2 x5 < x2 x3))))))) ∧
 ((litCmp BinOp.lss x3 (↑(List.length x0) : Int) = false) →
 (True) ∧
 (((0 : Int) = orL x0) ∧
     (True)))) := by
  intro l h
  simp only [gtrT, gtrF, lssT, lssF, leqT, leqF, geqT, geqF, eqlT, eqlF, neqT, neqF, true_and, and_true, true_implies, implies_true, Bool.not_eq_true', Bool.not_eq_false', bne_iff_ne, ne_eq, not_true_eq_false, not_false_eq_true, Int.toNat_natCast, same_self, reduceCtorEq, false_implies, List.nil_append]
  refine ⟨fun t => 0 ≤ t ∧ t ≤ l.length ∧ ∀ x, x ∈ l.take t.toNat → x = 0, fun t => ((l.length : Int) - t).toNat, ⟨Int.le_refl _, Int.natCast_nonneg _, fun x hx => (by cases hx)⟩, ?_⟩
  rintro t ⟨t0, t1, hz⟩
  refine ⟨fun hi => ⟨⟨t0, hi⟩, ?_⟩, fun hi => ?_⟩
  · rintro _ rfl
    have ht := take_ix t0 hi
    refine ⟨fun hx => ?_, fun hx => ?_⟩
    · have e : l = l.take t.toNat ++ (ix l t :: l.drop (t + 1).toNat) := by
        have := List.take_append_drop (t + 1).toNat l
        rw [ht, List.append_assoc] at this
        exact this.symm
      have e2 := orL_app (b := ix l t :: l.drop (t + 1).toNat) hz
      rw [← e] at e2
      rw [e2]
      simp [orL, hx]
    · rintro _ rfl
      rw [addI_ (by omega) (by omega)]
      refine ⟨⟨by omega, by omega, ?_⟩, meas hi⟩
      rw [ht]
      intro x hm
      rcases List.mem_append.1 hm with c | c
      · exact hz x c
      · simp at c; rw [c]; exact hx
  · have : t.toNat = l.length := by omega
    rw [this, List.take_length] at hz
    exact (orL_zero hz).symm
set_option maxRecDepth 10000 in
theorem cor_ok : conOr.ok KK Tryd.prog 64 := by
  refine Con.of_vc ([(0, ⟨[], [(8, .d (.i .i64))], [], [], []⟩)]) ([]) ([]) TT_ok follows Tryd.func64 ?_ G22_ok (@toVC _ _ cor_vc ?_)
  · kernel_rfl
  · kernel_rfl
noncomputable def G23 : List (FuncId × Con) := (64, conOr) :: G22
theorem G23_ok : GOK KK Tryd.prog G23 := GOK.cons (Callable.of Tryd.func64 (by kernel_rfl) (by kernel_rfl)) cor_ok G22_ok
end Go.Proofs.YtplefbcgpbdkfaaDoor
