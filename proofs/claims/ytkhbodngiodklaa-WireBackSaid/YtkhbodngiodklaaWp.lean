/- Plain laws of scripts' bytes: what is written is read as it. No program in sight. -/
import Derived.Test.YtkhbodngiodklaaWb
set_option linter.all false
namespace Go.Proofs.Ytkhbodngiodklaa
open Go Go.Fx

theorem gtrT {a b : Int} : (litCmp .gtr a b = true) = (b < a) := by simp [litCmp]
theorem gtrF {a b : Int} : (litCmp .gtr a b = false) = (a ≤ b) := by simp [litCmp]
theorem lssT {a b : Int} : (litCmp .lss a b = true) = (a < b) := by simp [litCmp]
theorem lssF {a b : Int} : (litCmp .lss a b = false) = (b ≤ a) := by simp [litCmp]
theorem leqT {a b : Int} : (litCmp .leq a b = true) = (a ≤ b) := by simp [litCmp]
theorem leqF {a b : Int} : (litCmp .leq a b = false) = (b < a) := by simp [litCmp]
theorem geqT {a b : Int} : (litCmp .geq a b = true) = (b ≤ a) := by simp [litCmp]
theorem geqF {a b : Int} : (litCmp .geq a b = false) = (a < b) := by simp [litCmp]
theorem eqlT {a b : Int} : (litCmp .eql a b = true) = (a = b) := by simp [litCmp]
theorem eqlF {a b : Int} : (litCmp .eql a b = false) = (a ≠ b) := by simp [litCmp]
theorem neqT {a b : Int} : (litCmp .neq a b = true) = (a ≠ b) := by simp [litCmp]
theorem neqF {a b : Int} : (litCmp .neq a b = false) = (a = b) := by simp [litCmp]
theorem rd_le8 (a b : Int) (l m : List Int) (k : Int) (h : inU64 a) (hk : 0 ≤ k) (hl : (l.length : Int) = k) : rd (l ++ (le8 a ++ m)) k = a := by
  have e : ∀ j : Int, 0 ≤ j → ix (l ++ (le8 a ++ m)) (k + j) = ix (le8 a ++ m) j := fun j hj => by
    unfold ix
    rw [List.getD_eq_getElem?_getD, List.getD_eq_getElem?_getD, List.getElem?_append_right (by omega), show (k + j).toNat - l.length = j.toNat from by omega]
  have e0 := e 0 (by omega)
  rw [Int.add_zero] at e0
  unfold rd
  rw [e0, e 1 (by omega), e 2 (by omega), e 3 (by omega), e 4 (by omega), e 5 (by omega), e 6 (by omega), e 7 (by omega)]
  obtain ⟨h0, h1⟩ := h
  simp only [ix, le8, List.cons_append, List.nil_append]
  have t0 : (0 : Int).toNat = 0 := rfl
  have t1 : (1 : Int).toNat = 1 := rfl
  have t2 : (2 : Int).toNat = 2 := rfl
  have t3 : (3 : Int).toNat = 3 := rfl
  have t4 : (4 : Int).toNat = 4 := rfl
  have t5 : (5 : Int).toNat = 5 := rfl
  have t6 : (6 : Int).toNat = 6 := rfl
  have t7 : (7 : Int).toNat = 7 := rfl
  simp only [t0, t1, t2, t3, t4, t5, t6, t7, List.getD_cons_zero, List.getD_cons_succ]
  omega
theorem rawC_callL {c : Cl} (hr : rightC c = true) (hw : wfC c) : rawC (callL c) = c := by
  obtain ⟨op, a, b, d⟩ := c
  obtain ⟨ha, hb, hd⟩ := hw
  simp only [rightC, isop, Bool.and_eq_true, decide_eq_true_eq] at hr
  have hop := hr.1.1.1
  unfold rawC
  have e1 : rd (callL (op, a, b, d)) 1 = a := rd_le8 a 0 [op % 256] (le8 b ++ le8 d) 1 ha (by omega) rfl
  have e2 : rd (callL (op, a, b, d)) 9 = b := by
    have := rd_le8 b 0 (op % 256 :: le8 a) (le8 d) 9 hb (by omega) rfl
    simpa [callL] using this
  have e3 : rd (callL (op, a, b, d)) 17 = d := by
    have := rd_le8 d 0 (op % 256 :: (le8 a ++ le8 b)) [] 17 hd (by omega) rfl
    simpa [callL] using this
  rw [e1, e2, e3]
  have : ix (callL (op, a, b, d)) 0 = op := by
    show op % 256 = op
    omega
  rw [this]
theorem cand_bs {e : En} (h : rightE e = true) (hw : wfE e) : candE (bsE e) = e := by
  obtain ⟨k, w, n, ⟨op, a, b, c⟩, d, m⟩ := e
  have h0 := h
  simp only [rightE, Bool.or_eq_true, Bool.and_eq_true, beq_iff_eq, decide_eq_true_eq] at h
  rcases h with (h | h) | h
  · obtain ⟨⟨⟨⟨⟨⟨rfl, _⟩, _⟩, rfl⟩, hc⟩, rfl⟩, rfl⟩ := h
    simp only [noC, Prod.mk.injEq] at hc
    obtain ⟨rfl, rfl, rfl, rfl⟩ := hc
    simp [bsE, candE, ix, noC]
  · obtain ⟨⟨⟨⟨⟨⟨rfl, hw0⟩, hw1⟩, hrc⟩, rfl⟩, rfl⟩, rfl⟩ := h
    have hraw := rawC_callL hrc hw
    have hb : bsE (1, w, 0, (op, a, b, c), 0, 0) = 1 :: w :: callL (op, a, b, c) := by simp [bsE]
    rw [hb]
    have hl : (1 :: w :: callL (op, a, b, c)).length = 27 := by simp [callL_len]
    have hx : ix (1 :: w :: callL (op, a, b, c)) 0 = 1 := rfl
    have hx1 : ix (1 :: w :: callL (op, a, b, c)) 1 = w := rfl
    simp only [candE, hl, hx, hx1, List.drop_succ_cons, List.drop_zero, hraw, hrc]
    rfl
  · obtain ⟨⟨⟨⟨⟨⟨⟨⟨rfl, _⟩, _⟩, _⟩, _⟩, _⟩, _⟩, rfl⟩, hc⟩ := h
    simp only [noC, Prod.mk.injEq] at hc
    obtain ⟨rfl, rfl, rfl, rfl⟩ := hc
    simp [bsE, candE, ix, noC]
theorem isE_bs {e : En} (h : rightE e = true) (hw : wfE e) : isE (bsE e) = true ∧ oneE (bsE e) = e := by
  simp [isE, oneE, cand_bs h hw, h]
theorem bsE_bytes {e : En} (h : rightE e = true) : bytes (bsE e) := by
  obtain ⟨k, w, n, ⟨op, a, b, c⟩, d, m⟩ := e
  simp only [rightE, Bool.or_eq_true, Bool.and_eq_true, beq_iff_eq, decide_eq_true_eq] at h
  rcases h with (h | h) | h
  · obtain ⟨⟨⟨⟨⟨⟨rfl, _⟩, _⟩, rfl⟩, hc⟩, rfl⟩, rfl⟩ := h
    intro x hx
    simp [bsE] at hx
    omega
  · obtain ⟨⟨⟨⟨⟨⟨rfl, hw0⟩, hw1⟩, hrc⟩, rfl⟩, rfl⟩, rfl⟩ := h
    intro x hx
    have hb : bsE (1, w, 0, (op, a, b, c), 0, 0) = 1 :: w :: callL (op, a, b, c) := by simp [bsE]
    rw [hb] at hx
    simp only [List.mem_cons] at hx
    rcases hx with rfl | rfl | hx
    · omega
    · omega
    · exact callL_bytes _ _ hx
  · obtain ⟨⟨⟨⟨⟨⟨⟨⟨rfl, _⟩, _⟩, _⟩, _⟩, _⟩, _⟩, rfl⟩, hc⟩ := h
    intro x hx
    simp [bsE] at hx
    omega
theorem bytes_append {a b : List Int} (ha : bytes a) (hb : bytes b) : bytes (a ++ b) := fun x hx => by
  rcases List.mem_append.1 hx with h | h
  · exact ha x h
  · exact hb x h
theorem cbE_bytes {e : En} (h : rightE e = true) : bytes (cbE e) := fun x hx => by
  have := bsE_len e
  simp only [cbE, List.mem_cons] at hx
  rcases hx with rfl | hx
  · omega
  · exact bsE_bytes h x hx
theorem allE_bytes {l : List En} (h : ∀ e ∈ l, rightE e = true) : bytes (allE l) := fun x hx => by
  simp only [allE, List.mem_flatMap] at hx
  obtain ⟨e, he, hx⟩ := hx
  exact cbE_bytes (h e he) x hx
theorem bytes_set {l : List Int} {k : Nat} {x : Int} (hl : bytes l) (h : 0 ≤ x ∧ x < 256) : bytes (l.set k x) := fun y hy => by
  rcases List.mem_or_eq_of_mem_set hy with h' | rfl
  · exact hl y h'
  · exact h

theorem allE_append (a b : List En) : allE (a ++ b) = allE a ++ allE b := by simp [allE]
theorem allE_cons (e : En) (l : List En) : allE (e :: l) = ((bsE e).length : Int) :: (bsE e ++ allE l) := by simp [allE, cbE]
theorem allE_nil : allE [] = [] := rfl

/-! ### All of a row of bytes, without a bound -/
def rds (l : List Int) : List En := rdE l.length l
theorem rds_nil : rds [] = [] := rfl
theorem rds_cons {t r : List Int} : rds ((t.length : Int) :: (t ++ r)) = (if isE t then [oneE t] else []) ++ rds r := by
  unfold rds
  simp only [List.length_cons, rdE]
  rw [if_neg (by simp only [List.length_append]; omega)]
  simp only [Int.toNat_natCast, List.take_left', List.drop_left']
  rw [rdE_fuel (t ++ r).length r.length r (by simp) (Nat.le_refl _)]
theorem rds_cut {x : Int} {l : List Int} (h : (l.length : Int) < x) : rds (x :: l) = [] := by
  unfold rds
  simp only [List.length_cons, rdE]
  rw [if_pos h]
theorem rds_all {l : List En} (h : ∀ e ∈ l, rightE e = true ∧ wfE e) (r : List Int) : rds (allE l ++ r) = l ++ rds r := by
  induction l with
  | nil => rfl
  | cons e l ih =>
    obtain ⟨h1, h2⟩ := h e (by simp)
    obtain ⟨q1, q2⟩ := isE_bs h1 h2
    have : allE (e :: l) ++ r = ((bsE e).length : Int) :: (bsE e ++ (allE l ++ r)) := by simp [allE, cbE]
    rw [this, rds_cons, q1, q2, ih (fun e he => h e (by simp [he]))]
    rfl
theorem rdAll_rds (l : List Int) : rdAll l = (rds l).take 2048 := rfl
theorem rdL_rds {l : List Int} (h : l.length ≤ 65536) : rdL l = (rds l).take 2048 := by simp [rdL, h, rdAll, rds]
theorem rdC_ok {l : List Int} (h : l.length ≤ 65536) : rdC l = 0 := by simp [rdC, h]
/-- A row of bytes, step by step. -/
theorem rds_cases {p : List Int → Prop} (h0 : p []) (h1 : ∀ x l, (l.length : Int) < x → p (x :: l)) (h2 : ∀ t r, p r → p ((t.length : Int) :: (t ++ r))) (h3 : ∀ x l, x < 0 → p (x :: l)) : ∀ (n : Nat) (l : List Int), l.length ≤ n → p l
  | _, [], _ => h0
  | 0, x :: l, h => by simp at h
  | n + 1, x :: l, h => by
    by_cases hx : x < 0
    · exact h3 x l hx
    · by_cases hl : (l.length : Int) < x
      · exact h1 x l hl
      · have e : x :: l = ((l.take x.toNat).length : Int) :: (l.take x.toNat ++ l.drop x.toNat) := by
          rw [List.take_append_drop, List.length_take]
          congr 1
          omega
        rw [e]
        exact h2 _ _ (rds_cases h0 h1 h2 h3 n _ (by simp at h ⊢; omega))
theorem isE_len {t : List Int} (h : isE t = true) : (bsE (oneE t)).length = t.length := by
  simp only [isE] at h
  simp only [oneE, h, if_true]
  unfold candE at h ⊢
  split
  · rename_i hc
    rw [if_pos hc] at h
    simp at hc
    simp [bsE, hc.1]
  · rename_i hc
    rw [if_neg hc] at h
    split
    · rename_i hd
      simp at hd
      simp [bsE, hd.1]
    · rename_i hd
      rw [if_neg hd] at h
      split
      · rename_i he
        simp at he
        simp [bsE, callL_len, he.1.1]
      · rename_i he
        rw [if_neg he] at h
        cases h
theorem oneE_right {t : List Int} (h : isE t = true) (hb : bytes t) : rightE (oneE t) = true ∧ wfE (oneE t) := by
  simp only [isE] at h
  simp only [oneE, h, if_true]
  refine ⟨trivial, ?_⟩
  have z : inU64 0 := ⟨by omega, by omega⟩
  have hd : bytes (t.drop 2) := fun x hx => hb x (List.mem_of_mem_drop hx)
  unfold candE
  split
  · exact ⟨z, z, z⟩
  · split
    · exact ⟨z, z, z⟩
    · split
      · exact ⟨rd_in hd, rd_in hd, rd_in hd⟩
      · exact ⟨z, z, z⟩
theorem rds_right {l : List Int} (hb : bytes l) : ∀ e ∈ rds l, rightE e = true ∧ wfE e := by
  refine rds_cases (p := fun l => bytes l → ∀ e ∈ rds l, rightE e = true ∧ wfE e) ?_ ?_ ?_ ?_ l.length l (Nat.le_refl _) hb
  · intro _ e he; cases he
  · intro x l h _ e he; rw [rds_cut h] at he; cases he
  · intro t r ih hb e he
    rw [rds_cons] at he
    have ht : bytes t := fun x hx => hb x (by simp [hx])
    have hr : bytes r := fun x hx => hb x (by simp [hx])
    rcases List.mem_append.1 he with he | he
    · split at he
      · rename_i hi
        simp at he; subst he
        exact oneE_right hi ht
      · cases he
    · exact ih hr e he
  · intro x l hx hb
    have := hb x (by simp)
    omega
theorem rds_size {l : List Int} (hb : bytes l) : (allE (rds l)).length ≤ l.length := by
  refine rds_cases (p := fun l => bytes l → (allE (rds l)).length ≤ l.length) ?_ ?_ ?_ ?_ l.length l (Nat.le_refl _) hb
  · intro _; exact Nat.le_refl _
  · intro x l h _; rw [rds_cut h]; simp [allE]
  · intro t r ih hb
    have hr : bytes r := fun x hx => hb x (by simp [hx])
    have := ih hr
    rw [rds_cons, allE_append]
    simp only [List.length_append, List.length_cons]
    split
    · rename_i hi
      have := isE_len hi
      rw [allE_cons, allE_nil]
      simp only [List.length_cons, List.append_nil]
      omega
    · rw [allE_nil]
      simp only [List.length_nil]
      omega
  · intro x l hx hb
    have := hb x (by simp)
    omega
theorem rds_prefix {l : List Int} (hb : bytes l) (n : Nat) : rds (l.take n) <+: rds l := by
  refine rds_cases (p := fun l => bytes l → ∀ n, rds (l.take n) <+: rds l) ?_ ?_ ?_ ?_ l.length l (Nat.le_refl _) hb n
  · intro _ n; simp [rds_nil]
  · intro x l h _ n
    rw [rds_cut h]
    cases n with
    | zero => simp [rds_nil]
    | succ n =>
      rw [List.take_succ_cons, rds_cut]
      · exact List.nil_prefix
      · simp; omega
  · intro t r ih hb n
    have hr : bytes r := fun x hx => hb x (by simp [hx])
    cases n with
    | zero => simp [rds_nil]
    | succ n =>
      rw [List.take_succ_cons]
      by_cases h : t.length ≤ n
      · rw [List.take_append, List.take_of_length_le h, rds_cons, rds_cons]
        exact (List.prefix_append_right_inj _).2 (ih hr _)
      · rw [rds_cut]
        · exact List.nil_prefix
        · simp; omega
  · intro x l hx hb
    have := hb x (by simp)
    omega
theorem allE_ge (l : List En) : 4 * l.length ≤ (allE l).length := by
  induction l with
  | nil => simp
  | cons e l ih =>
    have : 3 ≤ (bsE e).length := by
      unfold bsE
      split
      · simp
      · split
        · simp
        · simp [callL_len]
    rw [allE_cons]
    simp only [List.length_cons, List.length_append]
    omega
theorem rds_len {l : List Int} (hb : bytes l) : 4 * (rds l).length ≤ l.length := Nat.le_trans (allE_ge _) (rds_size hb)
theorem rdL_small {l : List Int} (hb : bytes l) (h : l.length ≤ 8192) : rdL l = rds l := by
  have := rds_len hb
  rw [rdL_rds (by omega), List.take_of_length_le (by omega)]
theorem wr_ok {l : List En} (hn : l.length ≤ 2048) (h : ∀ e ∈ l, rightE e = true) : wrE l = 0 ∧ wrL l = allE l := by
  have h1 : l.all rightE = true := List.all_eq_true.2 h
  have : ¬ 2048 < l.length := by omega
  simp [wrE, wrL, wrOK, h1, hn, this]
theorem wr_no {l : List En} (hn : l.length ≤ 2048) (h : ¬ ∀ e ∈ l, rightE e = true) : wrE l = 11 ∧ wrL l = [] := by
  have h1 : l.all rightE = false := by
    cases hh : l.all rightE with
    | false => rfl
    | true => exact absurd (List.all_eq_true.1 hh) h
  have : ¬ 2048 < l.length := by omega
  simp [wrE, wrL, wrOK, h1, hn, this]
theorem wr_cases {l : List En} (hn : l.length ≤ 2048) : (wrE l = 0 ∧ wrL l = allE l ∧ ∀ e ∈ l, rightE e = true) ∨ (wrE l = 11 ∧ wrL l = [] ∧ ¬ ∀ e ∈ l, rightE e = true) := by
  by_cases h : ∀ e ∈ l, rightE e = true
  · exact .inl ⟨(wr_ok hn h).1, (wr_ok hn h).2, h⟩
  · exact .inr ⟨(wr_no hn h).1, (wr_no hn h).2, h⟩
/-- Where an entry's bytes stand. -/
theorem allE_split (l : List En) {k : Nat} (h : k < l.length) : allE l = allE (l.take k) ++ (((bsE l[k]).length : Int) :: (bsE l[k] ++ allE (l.drop (k + 1)))) := by
  have : l = l.take k ++ l[k] :: l.drop (k + 1) := by simp
  conv => lhs; rw [this]
  rw [allE_append, allE_cons]
theorem allE_take_succ (l : List En) {k : Nat} (h : k < l.length) : (allE (l.take (k + 1))).length = (allE (l.take k)).length + 1 + (bsE l[k]).length := by
  rw [List.take_add_one, List.getElem?_eq_getElem h, allE_append, Option.toList_some, allE_cons, allE_nil, List.append_nil, List.length_append, List.length_cons]
  omega
theorem ix_allE (l : List En) {k : Nat} (h : k < l.length) : ix (allE l) ((allE (l.take k)).length : Int) = (bsE l[k]).length := by
  rw [allE_split l h]
  unfold ix
  rw [List.getD_eq_getElem?_getD, List.getElem?_append_right (by simp)]
  simp
end Go.Proofs.Ytkhbodngiodklaa
