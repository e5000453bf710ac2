/- nightjarref07.Len: the contract stands in XIc. -/
import Derived.Test.YtplefbcgpbdkfaaDoorZ1
import Derived.Test.YtplefbcgpbdkfaaDoorSo
set_option linter.all false
namespace Go.Proofs.YtplefbcgpbdkfaaDoor
open Go Go.Fx
theorem lenR_step {l : List Mk} {m : Nat} (h : m < l.length) : lenR (l.take (m + 1)) = lenR (l.take m) + if (ix l (m : Int)).1 then 1 else 0 := by
  have hix : ix l (m : Int) = l[m] := by
    unfold ix
    rw [List.getD_eq_getElem?_getD, Int.toNat_natCast, List.getElem?_eq_getElem h, Option.getD_some]
  unfold lenR
  rw [List.take_add_one, List.getElem?_eq_getElem h, hix, Option.toList_some, List.filter_append, List.length_append]
  cases hb : (l[m]).1 <;> simp [List.filter, hb]
theorem lenR_le (l : List Mk) : 0 ≤ lenR l ∧ lenR l ≤ l.length := by
  unfold lenR
  have := List.length_filter_le (fun m : Mk => m.1) l
  omega
end Go.Proofs.YtplefbcgpbdkfaaDoor
/- The document's going on to a time: the plain law, the contract. -/
namespace Go.Proofs.YtplefbcgpbdkfaaDoor
open Go Go.Fx
/-- By times, turns and numbers. -/
def ltM (M : Int → Int × Int) (a b : Int) : Prop := (M a).1 < (M b).1 ∨ (M a).1 = (M b).1 ∧ ((M a).2 < (M b).2 ∨ (M a).2 = (M b).2 ∧ a < b)
def cfM (M : Int → Int × Int) (a b : Int) : Int := orL [cmpI (M a).1 (M b).1, cmpI (M a).2 (M b).2, cmpI a b]
theorem cmpI_zero {a b : Int} : cmpI a b = 0 ↔ a = b := by unfold cmpI; split <;> (try split) <;> omega
theorem cmpI_neg {a b : Int} : cmpI a b < 0 ↔ a < b := by unfold cmpI; split <;> (try split) <;> omega
theorem cfM_lt {M : Int → Int × Int} {a b : Int} : cfM M a b < 0 ↔ ltM M a b := by
  unfold cfM ltM
  simp only [orL]
  by_cases h1 : (M a).1 = (M b).1
  · rw [if_pos (cmpI_zero.2 h1)]
    by_cases h2 : (M a).2 = (M b).2
    · rw [if_pos (cmpI_zero.2 h2)]
      by_cases h3 : a = b
      · rw [if_pos (cmpI_zero.2 h3)]; omega
      · rw [if_neg (fun e => h3 (cmpI_zero.1 e)), cmpI_neg]; omega
    · rw [if_neg (fun e => h2 (cmpI_zero.1 e)), cmpI_neg]; omega
  · rw [if_neg (fun e => h1 (cmpI_zero.1 e)), cmpI_neg]; omega
theorem cfM_not {M : Int → Int × Int} {a b : Int} : ¬ cfM M a b < 0 ↔ ¬ ltM M a b := not_congr cfM_lt
theorem ltM.irr {M : Int → Int × Int} {a : Int} : ¬ ltM M a a := by unfold ltM; omega
theorem ltM.trans {M : Int → Int × Int} {a b c : Int} : ltM M a b → ltM M b c → ltM M a c := by unfold ltM; omega
theorem ltM.tri {M : Int → Int × Int} {a b : Int} : ¬ ltM M a b → ¬ ltM M b a → a = b := by unfold ltM; omega
theorem ltM.asym {M : Int → Int × Int} {a b : Int} : ltM M a b → ¬ ltM M b a := by unfold ltM; omega
theorem cfM_parts (M : Int → Int × Int) (l : List Int) : Parts l (cfM M) :=
  ⟨fun x _ => cfM_not.2 ltM.irr, fun x _ y _ z _ h h' => cfM_lt.2 ((cfM_lt.1 h).trans (cfM_lt.1 h')), fun x _ y _ h h' => ltM.tri (cfM_not.1 h) (cfM_not.1 h')⟩
theorem sorted_eq {lt : Int → Int → Prop} (asym : ∀ a b, lt a b → ¬ lt b a) : ∀ {l l' : List Int}, l.Pairwise lt → l'.Pairwise lt → l.Perm l' → l = l'
  | [], l', _, _, h => (List.nil_perm.1 h).symm
  | a :: l, [], _, _, h => absurd (List.perm_nil.1 h) (by simp)
  | a :: l, b :: l', h1, h2, h => by
    rw [List.pairwise_cons] at h1 h2
    have e : a = b := by
      by_cases e : a = b
      · exact e
      · have ha : a ∈ b :: l' := h.subset (by simp)
        have hb : b ∈ a :: l := h.symm.subset (by simp)
        simp only [List.mem_cons, e, false_or] at ha
        simp only [List.mem_cons, Ne.symm e, false_or] at hb
        exact absurd (h1.1 b hb) (asym _ _ (h2.1 a ha))
    subst e
    rw [sorted_eq asym h1.2 h2.2 (List.Perm.cons_inv h)]
theorem srt_pair (M : Int → Int × Int) {l : List Int} (hn : l.Nodup) : (srt (cfM M) l).Pairwise (ltM M) := by
  have h1 : (srt (cfM M) l).Pairwise fun a b => (!decide (cfM M b a < 0)) = true := by
    unfold srt
    refine List.pairwise_mergeSort (le := fun x y => !decide (cfM M y x < 0)) ?_ ?_ l
    · intro a b c h h'
      simp only [Bool.not_eq_true', decide_eq_false_iff_not, cfM_lt] at h h' ⊢
      intro q
      by_cases hba : ltM M a b
      · exact h' (q.trans hba)
      · exact h' (ltM.tri hba h ▸ q)
    · intro a b
      simp only [Bool.or_eq_true, Bool.not_eq_true', decide_eq_false_iff_not, cfM_lt]
      by_cases q : ltM M b a
      · exact .inr q.asym
      · exact .inl q
  have h2 : (srt (cfM M) l).Nodup := (srt_perm _ _).nodup_iff.2 hn
  refine (List.Pairwise.and h1 h2).imp ?_
  rintro a b ⟨h, hne⟩
  simp only [Bool.not_eq_true', decide_eq_false_iff_not, cfM_lt] at h
  by_cases q : ltM M a b
  · exact q
  · exact absurd (ltM.tri q h) hne
theorem srt_eq {M : Int → Int × Int} {l l' : List Int} (hn : l.Nodup) (hp : l'.Perm l) (hs : l'.Pairwise (ltM M)) : l' = srt (cfM M) l :=
  sorted_eq (fun _ _ h => h.asym) hs (srt_pair M hn) (hp.trans (srt_perm _ _).symm)
/-- Put at its place. -/
theorem srt_put {M : Int → Int × Int} {l : List Int} {k : Int} {n : Nat} (hn : l.Nodup) (hk : k ∉ l) (h1 : ∀ x ∈ (srt (cfM M) l).drop n, ltM M k x) (h0 : ∀ x ∈ (srt (cfM M) l).take n, ltM M x k) :
    (srt (cfM M) l).take n ++ [k] ++ (srt (cfM M) l).drop n = srt (cfM M) (l ++ [k]) := by
  have hp := srt_perm (cfM M) l
  refine srt_eq (List.nodup_append.2 ⟨hn, by simp, fun a ha b hb => by simp at hb; subst hb; intro e; exact hk (e ▸ ha)⟩) ?_ ?_
  · refine List.Perm.trans ?_ (List.Perm.append_right [k] hp)
    rw [List.append_assoc]
    refine ((List.perm_append_comm (l₁ := [k]) (l₂ := (srt (cfM M) l).drop n)).append_left _).trans ?_
    rw [← List.append_assoc, List.take_append_drop]
  · have hs := srt_pair M hn
    rw [← List.take_append_drop n (srt (cfM M) l), List.pairwise_append] at hs
    rw [List.append_assoc, List.pairwise_append, List.singleton_append, List.pairwise_cons]
    refine ⟨hs.1, ⟨h1, hs.2.1⟩, fun a ha b hb => ?_⟩
    rcases List.mem_cons.1 hb with rfl | hb
    · exact h0 a ha
    · exact (h0 a ha).trans (h1 b hb)
def mkAt (l : List Mk) (k : Int) : Int × Int := (ix l k).2
def dueB (l : List Mk) (now k : Int) : Bool := (ix l k).1 && decide ((ix l k).2.1 ≤ now)
def dueN (l : List Mk) (now : Int) (n : Nat) : List Int := ((List.range n).map fun i : Nat => (i : Int)).filter (dueB l now)
def clrOne (now : Int) (m : Mk) : Mk := if m.1 && decide (m.2.1 ≤ now) then (false, 0, 0) else m
def clr (l : List Mk) (now : Int) : List Mk := l.map (clrOne now)
def nowR (w : Wh) (to : Int) : Int := if w.2 < to then to else w.2
def outR (w : Wh) (to : Int) : List Int := srt (cfM (mkAt w.1)) (dueN w.1 (nowR w to) w.1.length)
def toR (w : Wh) (to : Int) : Wh := (clr w.1 (nowR w to), nowR w to)
def conRTo : Con := (fnRV [.d tpWh, .d (.i .u64)] (fun (w : Wh) (to : Int) => w.1.length ≤ 4096) (fun (w : Wh) (to : Int) => .tup [.x tpWh (toR w to), .own 0]) (fun (w : Wh) (to : Int) => [mkRow 3 (.i .i64) (outR w to)])).firm
theorem aheadR_iff {w : Wh} {a b : Int} : aheadR w a b = true ↔ ltM (mkAt w.1) a b := by
  unfold aheadR ltM mkAt
  split
  · split
    · simp; omega
    · simp; omega
  · simp; omega
theorem dueN_mem {l : List Mk} {now k : Int} {n : Nat} : k ∈ dueN l now n ↔ 0 ≤ k ∧ k < n ∧ dueB l now k = true := by
  unfold dueN
  rw [List.mem_filter, List.mem_map]
  constructor
  · rintro ⟨⟨i, hi, rfl⟩, h⟩
    rw [List.mem_range] at hi
    exact ⟨by omega, by omega, h⟩
  · rintro ⟨h0, h1, h⟩
    exact ⟨⟨k.toNat, by rw [List.mem_range]; omega, by omega⟩, h⟩
theorem dueN_nodup (l : List Mk) (now : Int) (n : Nat) : (dueN l now n).Nodup := by
  unfold dueN
  refine List.Pairwise.filter _ ?_
  rw [List.pairwise_map]
  exact (List.nodup_range (n := n)).imp fun h e => h (by omega)
theorem dueN_succ (l : List Mk) (now : Int) (n : Nat) : dueN l now (n + 1) = dueN l now n ++ if dueB l now n then [(n : Int)] else [] := by
  unfold dueN
  rw [List.range_succ, List.map_append, List.filter_append]
  simp only [List.map_cons, List.map_nil, List.filter_cons, List.filter_nil]
theorem dueN_length (l : List Mk) (now : Int) (n : Nat) : (dueN l now n).length ≤ n := by
  unfold dueN
  refine Nat.le_trans (List.length_filter_le _ _) ?_
  simp
theorem srt_length (cf : Int → Int → Int) (l : List Int) : (srt cf l).length = l.length := (srt_perm cf l).length_eq
theorem srt_mem {cf : Int → Int → Int} {l : List Int} {x : Int} : x ∈ srt cf l ↔ x ∈ l := (srt_perm cf l).mem_iff
/-- The marks of the first ones of a list are let be. -/
def clrL (l : List Mk) (ks : List Int) : List Mk := ks.foldl (fun l k => l.set k.toNat (false, 0, 0)) l
theorem clrL_get : ∀ {ks : List Int} {l : List Mk} {i : Nat}, (∀ k ∈ ks, 0 ≤ k) → (clrL l ks)[i]? = if (i : Int) ∈ ks then (l[i]?).map fun _ => (false, 0, 0) else l[i]?
  | [], l, i, _ => by simp [clrL]
  | k :: ks, l, i, h => by
    have h0 := h k (by simp)
    show (clrL (l.set k.toNat (false, 0, 0)) ks)[i]? = _
    rw [clrL_get (fun k' hk => h k' (by simp [hk]))]
    by_cases e : (i : Int) = k
    · have e2 : k.toNat = i := by omega
      subst e2
      simp only [List.mem_cons, e, true_or, if_true, List.getElem?_set_self']
      split <;> cases l[k.toNat]? <;> rfl
    · have e2 : ¬ k.toNat = i := by omega
      simp only [List.mem_cons, e, false_or, List.getElem?_set, if_neg e2]
theorem clrL_length : ∀ {ks : List Int} {l : List Mk}, (clrL l ks).length = l.length
  | [], l => rfl
  | k :: ks, l => by
    show (clrL (l.set k.toNat (false, 0, 0)) ks).length = _
    rw [clrL_length, List.length_set]
theorem ix_get0 {l : List Mk} {i : Nat} (h : i < l.length) : ix l (i : Int) = l[i] := by
  unfold ix
  rw [List.getD_eq_getElem?_getD, Int.toNat_natCast, List.getElem?_eq_getElem h]
  rfl
theorem clr_eq {l : List Mk} {now : Int} {ks : List Int} (h : ∀ k, k ∈ ks ↔ k ∈ dueN l now l.length) : clrL l ks = clr l now := by
  apply List.ext_getElem?
  intro i
  rw [clrL_get (fun k hk => (dueN_mem.1 ((h k).1 hk)).1)]
  unfold clr
  rw [List.getElem?_map]
  by_cases hi : i < l.length
  · rw [List.getElem?_eq_getElem hi]
    have e : ((i : Int) ∈ ks) ↔ dueB l now i = true := by rw [h, dueN_mem]; exact ⟨fun h => h.2.2, fun h => ⟨by omega, by omega, h⟩⟩
    simp only [Option.map_some, clrOne]
    unfold dueB at e
    rw [ix_get0 hi] at e
    by_cases c : (l[i]).1 && decide ((l[i]).2.1 ≤ now)
    · rw [if_pos (e.2 c), if_pos c]
    · rw [if_neg (fun q => c (e.1 q)), if_neg c]
  · rw [List.getElem?_eq_none (by omega)]
    simp
theorem clrL_snoc (l : List Mk) (ks : List Int) (k : Int) : clrL l (ks ++ [k]) = (clrL l ks).set k.toNat (false, 0, 0) := by simp [clrL]
end Go.Proofs.YtplefbcgpbdkfaaDoor
/- Package wheel: the order of alarms, and its sort: the contracts. -/
namespace Go.Proofs.YtplefbcgpbdkfaaDoor
open Go Go.Fx
def vB3 : VP := .ls [.is (.lp 1 0)]
def vW3 : VP := .ls [.is (.lp 2 0), .is (.own 3), .d (.i .u64), .d (.i .i64), .d (.i .i64), .d (.i .i64), .d (.i .i64)]
def vL3 : VP := .ls [.is (.own 1), .is (.own 2)]
def rI3 : RP := ⟨true, 3, .i .i64⟩
def vB3v : Var := ⟨true, .ls [.lp 1 0]⟩
def vW3v (now c0 c1 c2 c3 : Int) : Var := ⟨true, .ls [.lp 2 0, .own 3, u64 now, i64 c0, i64 c1, i64 c2, i64 c3]⟩
def vL3v : Var := ⟨true, .ls [.own 1, .own 2]⟩
def fxI3 (l : List Int) : Row := ⟨true, true, 3, .i .i64, .s (l.length : Int), l⟩
def conCmpW : Con := (mkCon [.d (.i .i64), .d (.i .i64), .is (.lp 0 0)] [vB3, vW3, vL3] [rI3, rL, rE, rM]
  (fun (a b now c0 c1 c2 c3 : Int) (l : List Int) (L E : List Lk) (M : List (Int × Int)) => 0 ≤ a ∧ a < M.length ∧ 0 ≤ b ∧ b < M.length) [] (constX True _)
  (fun (a b now c0 c1 c2 c3 : Int) (l : List Int) (L E : List Lk) (M : List (Int × Int)) => i64 (cfM (ix M) a b)) (constX [] _) (constX [] _)).look
def conSortW : Con := mkCon [.is (.own 0), .is (.fn 63 [.lp 0 0])] [vB3, vW3, vL3] [rI3, rL, rE, rM]
  (fun (now c0 c1 c2 c3 : Int) (l : List Int) (L E : List Lk) (M : List (Int × Int)) => l.length ≤ 4096 ∧ ∀ x ∈ l, 0 ≤ x ∧ x < M.length) [] (constX True _)
  (constX (.tup []) _) (fun (now c0 c1 c2 c3 : Int) (l : List Int) (L E : List Lk) (M : List (Int × Int)) => [vB3v, vW3v now c0 c1 c2 c3, vL3v])
  (fun (now c0 c1 c2 c3 : Int) (l : List Int) (L E : List Lk) (M : List (Int × Int)) => [fxI3 (srt (cfM (ix M)) l), fxL L, fxE E, fxM M])
theorem un1 {t : Tp} {ts : List Tp} {us : List U} (h : us.map U.t = t :: ts) : ∃ (e : t.T) (us' : List U), us = ⟨t, e⟩ :: us' ∧ us'.map U.t = ts := by
  cases us with
  | nil => simp at h
  | cons u us' =>
    obtain ⟨t', e⟩ := u
    rw [List.map_cons, List.cons.injEq] at h
    obtain ⟨h1, h2⟩ := h
    simp only at h1
    subst h1
    exact ⟨e, us', rfl, h2⟩
theorem un0 {us : List U} (h : us.map U.t = []) : us = [] := List.map_eq_nil_iff.1 h
end Go.Proofs.YtplefbcgpbdkfaaDoor
/- Package wheel: the order of alarms, and its sort. -/
namespace Go.Proofs.YtplefbcgpbdkfaaDoor
open Go Go.Fx

set_option maxRecDepth 10000 in
theorem wcmp_vc :
  ∀ x0 : Int,
 ∀ x1 : Int,
 ∀ x2 : Int,
 ∀ x3 : Int,
 ∀ x4 : Int,
 ∀ x5 : Int,
 ∀ x6 : Int,
 ∀ x7 : List Int,
 ∀ x8 : List (Int × (Int × Int)),
 ∀ x9 : List (Int × (Int × Int)),
 ∀ x10 : List (Int × Int),
 (((0 : Int) ≤ x0) ∧
 ((x0 < (↑(List.length x10) : Int)) ∧
 (((0 : Int) ≤ x1) ∧
 (x1 < (↑(List.length x10) : Int))))) →
 (((0 : Int) ≤ x1) ∧
 (x1 < (↑(List.length x10) : Int))) ∧
 ((((0 : Int) ≤ x0) ∧
 (x0 < (↑(List.length x10) : Int))) ∧
 (((True) ∧
 (True →
 (True) ∧
 (True →
 (True) ∧
 (True →
 (List.length [cmpI (Prod.fst (ix x10 x0)) (Prod.fst (ix x10 x1)), cmpI (Prod.snd (ix x10 x0)) (Prod.snd (ix x10 x1)), cmpI x0 x1] ≤ (1000000 : Nat)) ∧
 (True →
 (True) ∧
 ((orL [cmpI (Prod.fst (ix x10 x0)) (Prod.fst (ix x10 x1)), cmpI (Prod.snd (ix x10 x0)) (Prod.snd (ix x10 x1)), cmpI x0 x1] = cfM (ix x10) x0 x1) ∧
 ((x2 = x2) ∧
 ((x3 = x3) ∧
 ((x4 = x4) ∧
 ((x5 = x5) ∧
 ((x6 = x6) ∧
 ((x7 = x7) ∧
 (((↑(List.length x7) : Int) = (↑(List.length x7) : Int)) ∧
 ((x8 = x8) ∧
 (((↑(List.length x8) : Int) = (↑(List.length x8) : Int)) ∧
 ((x9 = x9) ∧
 (((↑(List.length x9) : Int) = (↑(List.length x9) : Int)) ∧
 ((x10 = x10) ∧
 (((↑(List.length x10) : Int) = (↑(List.length x10) : Int)) ∧
 (True)))))))))))))))))))) ∧
 ((True) ∧
 (True →
 (True) ∧
 (True →
 (True) ∧
 (True →
 (List.length [cmpI (Prod.fst (ix x10 x0)) (Prod.fst (ix x10 x1)), cmpI (Prod.snd (ix x10 x0)) (Prod.snd (ix x10 x1)), cmpI x0 x1] ≤ (1000000 : Nat)) ∧
 (True →
 (True) ∧
 ((orL [cmpI (Prod.fst (ix x10 x0)) (Prod.fst (ix x10 x1)), cmpI (Prod.snd (ix x10 x0)) (Prod.snd (ix x10 x1)), cmpI x0 x1] = cfM (ix x10) x0 x1) ∧
 ((x2 = x2) ∧
 ((x3 = x3) ∧
 ((x4 = x4) ∧
 ((x5 = x5) ∧
 ((x6 = x6) ∧
 ((x7 = x7) ∧
 (((↑(List.length x7) : Int) = (↑(List.length x7) : Int)) ∧
 ((x8 = x8) ∧
 (((↑(List.length x8) : Int) = (↑(List.length x8) : Int)) ∧
 ((x9 = x9) ∧
 (((↑(List.length x9) : Int) = (↑(List.length x9) : Int)) ∧
 ((x10 = x10) ∧
 (((↑(List.length x10) : Int) = (↑(List.length x10) : Int)) ∧
                       (True)))))))))))))))))))))) := by
  intro a b now c0 c1 c2 c3 l L E M h
  simp only [gtrT, gtrF, lssT, lssF, leqT, leqF, geqT, geqF, eqlT, eqlF, neqT, neqF, true_and, and_true, true_implies, implies_true, Bool.not_eq_true', Bool.not_eq_false', bne_iff_ne, ne_eq, not_true_eq_false, not_false_eq_true, Int.toNat_natCast, same_self, reduceCtorEq, false_implies, List.nil_append]
  exact ⟨h.2.2, ⟨h.1, h.2.1⟩, ⟨by simp, rfl⟩, by simp, rfl⟩
set_option maxRecDepth 10000 in
theorem wcmp_ok : conCmpW.ok KK Tryd.prog 63 := by
  refine Con.of_vc ([]) ([]) ([]) TT_ok follows Tryd.func63 ?_ G23_ok (@toVC _ _ wcmp_vc ?_)
  · kernel_rfl
  · kernel_rfl
noncomputable def G24 : List (FuncId × Con) := (63, conCmpW) :: G23
theorem G24_ok : GOK KK Tryd.prog G24 := GOK.cons (Callable.of Tryd.func63 (by kernel_rfl) (by kernel_rfl)) wcmp_ok G23_ok
theorem wsort_ok : conSortW.ok KK Tryd.prog 62 := by
  refine sort_ok (ρ := YtplefbcgpbdkfaaDoorSoR) YtplefbcgpbdkfaaDoorSo (g := 63) (enters_of Tryd.func63 (by kernel_rfl) rfl) wcmp_ok (caps := [.lp 0 0]) ?_
  intro us hus hpre
  obtain ⟨now, us1, rfl, k1⟩ := un1 (t := .i .u64) hus
  obtain ⟨c0, us2, rfl, k2⟩ := un1 (t := .i .i64) k1
  obtain ⟨c1, us3, rfl, k3⟩ := un1 (t := .i .i64) k2
  obtain ⟨c2, us4, rfl, k4⟩ := un1 (t := .i .i64) k3
  obtain ⟨c3, us5, rfl, k5⟩ := un1 (t := .i .i64) k4
  obtain ⟨l, us6, rfl, k6⟩ := un1 (t := .sl (.i .i64)) k5
  obtain ⟨L, us7, rfl, k7⟩ := un1 (t := .sl tpL) k6
  obtain ⟨E, us8, rfl, k8⟩ := un1 (t := .sl tpL) k7
  obtain ⟨M, us9, rfl, k9⟩ := un1 (t := .sl tpM) k8
  obtain rfl := un0 k9
  obtain ⟨h1, h2⟩ : List.length l ≤ 4096 ∧ ∀ x ∈ l, 0 ≤ x ∧ x < (List.length M : Int) := hpre
  refine ⟨3, l, cfM (ix M), { args := rfl, row := rfl, fix := ?_, obs := rfl, ro := rfl, ro' := rfl, parts := cfM_parts _ _, short := by omega, cmp := ?_, outs := rfl, post := trivial, ret := rfl, out := rfl }⟩
  · intro r b hb
    have hb : ([⟨true, true, 3, .i .i64, .s (List.length l : Int), l⟩, fxL L, fxE E, fxM M] : List Row)[r]? = some b := hb
    match r, hb with
    | 0, hb => cases hb; exact ⟨rfl, rfl⟩
    | 1, hb => cases hb; exact ⟨rfl, rfl⟩
    | 2, hb => cases hb; exact ⟨rfl, rfl⟩
    | 3, hb => cases hb; exact ⟨rfl, rfl⟩
    | n + 4, hb => simp at hb
  · intro x hx y hy dk hdk
    exact ⟨[⟨.i .i64, x⟩, ⟨.i .i64, y⟩, ⟨.i .u64, now⟩, ⟨.i .i64, c0⟩, ⟨.i .i64, c1⟩, ⟨.i .i64, c2⟩, ⟨.i .i64, c3⟩, ⟨.sl (.i .i64), dk⟩, ⟨.sl tpL, L⟩, ⟨.sl tpL, E⟩, ⟨.sl tpM, M⟩], rfl, ⟨(h2 x hx).1, (h2 x hx).2, (h2 y hy).1, (h2 y hy).2⟩, rfl, rfl, fun os _ => rfl⟩
noncomputable def G25 : List (FuncId × Con) := (62, conSortW) :: G24
theorem G25_ok : GOK KK Tryd.prog G25 := GOK.cons (Callable.of Tryd.func62 (by kernel_rfl) (by kernel_rfl)) wsort_ok G24_ok
end Go.Proofs.YtplefbcgpbdkfaaDoor
/- Package wheel: what a wheel stands for; time goes on: the plain law, the contract. -/
namespace Go.Proofs.YtplefbcgpbdkfaaDoor
open Go Go.Fx
theorem Rep.mem_on {n m : Nat} {Q : Int → List Int} {L E : List Lk} (h : Rep n m Q L E) {k i : Int} : k ∈ Q i ↔ onC L k = (i, true) := by
  constructor
  · intro hk; exact (h.on_eq hk).1
  · intro e
    obtain ⟨j, hj⟩ := h.on_iff.1 (show (onC L k).2 = true by rw [e])
    have := (h.on_eq hj).1
    rw [e] at this
    injection this with e1
    rw [e1]; exact hj
/-- A wheel stands for the document's. -/
structure RepW (w : Wh) (now c0 c1 c2 c3 : Int) (L E : List Lk) (M : List (Int × Int)) : Prop where
  is : IsW now c0 c1 c2 c3 L E M
  nw : w.2 = now
  len : w.1.length = M.length
  str : ∀ k i, onC L k = (i, true) → strong now (ix M k).1 i
  marks : ∀ k : Int, 0 ≤ k → k < M.length → ix w.1 k = if (onC L k).2 = true then (true, ix M k) else (false, 0, 0)
section
variable {w w' : Wh} {to now c0 c1 c2 c3 : Int} {L E : List Lk} {M : List (Int × Int)} {n : Nat} {Q : Int → List Int}
theorem RepW.uniq (h : RepW w now c0 c1 c2 c3 L E M) (h' : RepW w' now c0 c1 c2 c3 L E M) : w = w' := by
  refine Prod.ext (list_ext (by rw [h.len, h'.len]) fun i h0 h1 => ?_) (by rw [h.nw, h'.nw])
  rw [h.len] at h1
  rw [h.marks i h0 h1, h'.marks i h0 h1]
theorem RepW.small (h : RepW w now c0 c1 c2 c3 L E M) : w.1.length ≤ 4096 := by
  obtain ⟨n, Q, hq, hM⟩ := h.is.q
  have := hq.rep.sn
  rw [h.len]; omega
theorem RepW.of {l : List Mk} (hq : CQ n Q c0 c1 c2 c3 L E) (hM : M.length = n) (hn : u64ok now) (hm : ∀ k : Int, 0 ≤ k → k < M.length → u64ok (ix M k).1 ∧ u64ok (ix M k).2) (hl : l.length = n) (hs : ∀ k i, k ∈ Q i → strong now (ix M k).1 i)
    (h1 : ∀ k i, k ∈ Q i → ix l k = (true, ix M k)) (h0 : ∀ k : Int, 0 ≤ k → k < n → (∀ i, k ∉ Q i) → ix l k = (false, 0, 0)) : RepW (l, now) now c0 c1 c2 c3 L E M := by
  refine ⟨⟨⟨n, Q, hq, hM⟩, hn, hm⟩, rfl, by rw [hM]; exact hl, fun k i e => hs k i (hq.rep.mem_on.2 e), fun k k0 k1 => ?_⟩
  by_cases ho : (onC L k).2 = true
  · rw [if_pos ho]
    obtain ⟨j, hj⟩ := hq.rep.on_iff.1 ho
    exact h1 k j hj
  · rw [if_neg ho]
    exact h0 k k0 (by omega) fun i hi => ho (hq.rep.on_iff.2 ⟨i, hi⟩)
theorem RepW.mem (h : RepW w now c0 c1 c2 c3 L E M) (hq : CQ n Q c0 c1 c2 c3 L E) (hM : M.length = n) :
    (∀ k i, k ∈ Q i → strong now (ix M k).1 i) ∧ (∀ k i, k ∈ Q i → ix w.1 k = (true, ix M k)) ∧ ∀ k : Int, 0 ≤ k → k < n → (∀ i, k ∉ Q i) → ix w.1 k = (false, 0, 0) := by
  refine ⟨fun k i hi => h.str k i (hq.rep.mem_on.1 hi), fun k i hi => ?_, fun k k0 k1 hk => ?_⟩
  · have := hq.rep.mem i k hi
    rw [h.marks k this.1 (by omega), hq.rep.mem_on.1 hi]; rfl
  · rw [h.marks k k0 (by omega), hq.rep.off_eq hk]; rfl
theorem cntN_empty {b : Int} (h : ∀ i, b ≤ i → i < b + 64 → Q i = []) : cntN Q b 64 = 0 := by
  have h0 := cntN_pos (Q := Q) (b := b) 64
  by_cases c : 0 < cntN Q b 64
  · obtain ⟨i, k, h1, h2, h3⟩ := cntN_mem c
    rw [h i h1 (by omega)] at h3
    cases h3
  · omega
theorem lenW_due (hq : CQ n Q c0 c1 c2 c3 L E) : lenW c0 c1 c2 c3 E = lenC E 256 ↔ ∀ k i, k ∈ Q i → i = 256 := by
  unfold lenW
  rw [hq.rep.len_eq 256, hq.rep.len_eq 257]
  have hb := hq.bound
  constructor
  · intro h k i hi
    have hc0 : c0 ≤ 0 := by omega
    have hc1 : c1 ≤ 0 := by omega
    have hc2 : c2 ≤ 0 := by omega
    have hc3 : c3 ≤ 0 := by omega
    have h7 : Q 257 = [] := List.eq_nil_of_length_eq_zero (by omega)
    have hrg : 0 ≤ i ∧ i < 258 := by
      by_cases c : i < 0 ∨ (258 : Int) ≤ i
      · have c' : i < 0 ∨ ((258 : Nat) : Int) ≤ i := by omega
        rw [hq.rep.out i c'] at hi; cases hi
      · omega
    have no : ∀ {l : List Int}, l = [] → k ∈ l → False := fun e h => by rw [e] at h; cases h
    rw [hq.e0] at hc0; rw [hq.e1] at hc1; rw [hq.e2] at hc2; rw [hq.e3] at hc3
    by_cases e : i = 256
    · exact e
    · refine (?_ : False).elim
      by_cases c7 : i = 257
      · subst c7; exact no h7 hi
      by_cases d0 : i < 64
      · exact no (cntN_zero hc0 i (by omega) (by omega)) hi
      by_cases d1 : i < 128
      · exact no (cntN_zero hc1 i (by omega) (by omega)) hi
      by_cases d2 : i < 192
      · exact no (cntN_zero hc2 i (by omega) (by omega)) hi
      · exact no (cntN_zero hc3 i (by omega) (by omega)) hi
  · intro h
    have em : ∀ i, i ≠ 256 → Q i = [] := fun i hne => List.eq_nil_iff_forall_not_mem.2 fun k hk => hne (h k i hk)
    rw [hq.e0, hq.e1, hq.e2, hq.e3, em 257 (by omega)]
    unfold cnt
    rw [cntN_empty fun i _ h1 => em i (by omega), cntN_empty fun i _ h1 => em i (by omega), cntN_empty fun i _ h1 => em i (by omega), cntN_empty fun i _ h1 => em i (by omega)]
    simp
/-- Nothing but what is due: to the time at once. -/
theorem to_skip (h : RepW w now c0 c1 c2 c3 L E M) (hto : u64ok to) (hlt : now < to) (hl : lenW c0 c1 c2 c3 E = lenC E 256) : RepW (w.1, to) to c0 c1 c2 c3 L E M := by
  obtain ⟨n, Q, hq, hM⟩ := h.is.q
  obtain ⟨h1, h2, h3⟩ := h.mem hq hM
  refine RepW.of hq hM hto h.is.marks (by rw [h.len, hM]) (fun k i hi => ?_) h2 h3
  have e := (lenW_due hq).1 hl k i hi
  subst e
  rcases h1 k 256 hi with ⟨_, q⟩ | ⟨q, _⟩ | ⟨r, hr, q, _⟩
  · exact .inl ⟨rfl, by omega⟩
  · omega
  · have := slot_range hr (ix M k).1; omega
theorem to_step {t d0 d1 d2 d3 : Int} {L' E' : List Lk} (h : RepW w now c0 c1 c2 c3 L E M) (hto : u64ok to) (hl : ¬ lenW c0 c1 c2 c3 E = lenC E 256) (hn : NextPost to now c0 c1 c2 c3 L E M t) :
    (u64ok t ∧ now < t ∧ t ≤ to) ∧ (StepPost t now c0 c1 c2 c3 L E M d0 d1 d2 d3 L' E' → RepW (w.1, t) t d0 d1 d2 d3 L' E' M) := by
  obtain ⟨n, Q, hq, hM⟩ := h.is.q
  obtain ⟨h1, h2, h3⟩ := h.mem hq hM
  have hex : ∃ k i, k ∈ Q i ∧ i ≠ 256 := by
    refine Classical.byContradiction fun c => hl ((lenW_due hq).2 fun k i hi => ?_)
    exact Classical.byContradiction fun e => c ⟨k, i, hi, e⟩
  obtain ⟨a1, a2, a3⟩ := hn n Q hq hM h1 hex
  have hnow := h.is.now
  have ht : u64ok t := ⟨by have := hnow.1; omega, by have := hto.2; omega⟩
  refine ⟨⟨ht, a1, a2⟩, fun hs => ?_⟩
  obtain ⟨Q', q1, q2, q3⟩ := hs n Q hq hM fun k i hi => ⟨h1 k i hi, a3 k i hi⟩
  refine RepW.of q1 hM ht h.is.marks (by rw [h.len, hM]) q3 (fun k i hi => ?_) fun k k0 k1 hk => ?_
  · obtain ⟨j, hj⟩ := (q2 k).1 ⟨i, hi⟩
    exact h2 k j hj
  · refine h3 k k0 k1 fun i hi => ?_
    obtain ⟨j, hj⟩ := (q2 k).2 ⟨i, hi⟩
    exact hk j hj
/-- So many of those that are due are pulled. -/
def Pulled (o : List Int) (j c0 c1 c2 c3 : Int) (L E L' E' : List Lk) : Prop :=
  0 ≤ j ∧ j ≤ o.length ∧ ∀ n Q, CQ n Q c0 c1 c2 c3 L E → ∃ Q', CQ n Q' c0 c1 c2 c3 L' E' ∧ Q' 256 = (Q 256).drop j.toNat ∧ ∀ i, i ≠ 256 → Q' i = Q i
theorem Pulled.zero {o : List Int} : Pulled o 0 c0 c1 c2 c3 L E L E := ⟨Int.le_refl _, Int.natCast_nonneg _, fun n Q h => ⟨Q, h, by simp, fun _ _ => rfl⟩⟩
theorem Pulled.next {o : List Int} {j : Int} {L1 E1 L2 E2 : List Lk} {b : Bool} (hw : ∃ n Q, CQ n Q c0 c1 c2 c3 L E) (ho : ∀ n m Q, Rep n m Q L E → o = Q 256) (h : Pulled o j c0 c1 c2 c3 L E L1 E1) (hj : j < o.length) (hp : PullPost (ix o j) L1 E1 L2 E2 b) : Pulled o (j + 1) c0 c1 c2 c3 L E L2 E2 := by
  obtain ⟨j0, j1, h⟩ := h
  refine ⟨by omega, by omega, fun n Q hq => ?_⟩
  obtain ⟨Q', q1, q2, q3⟩ := h n Q hq
  have hoQ := ho n 258 Q hq.rep
  obtain ⟨m, rfl⟩ := Int.eq_ofNat_of_zero_le j0
  have hm : m < o.length := by omega
  have hix : ix o (m : Int) = o[m] := by
    unfold ix
    rw [List.getD_eq_getElem?_getD, Int.toNat_natCast, List.getElem?_eq_getElem hm]
    rfl
  rw [Int.toNat_natCast, ← hoQ, List.drop_eq_getElem_cons hm, ← hix] at q2
  have hmem : ix o (m : Int) ∈ Q' 256 := by rw [q2]; exact List.mem_cons_self
  have hr := ((hp n 258 Q' q1.rep).1 ⟨256, hmem⟩).2
  have hc := q1.cut hmem hr
  refine ⟨cutQ Q' (ix o (m : Int)), hc, ?_, fun i hi => ?_⟩
  · show (Q' 256).filter _ = _
    have hnd := q1.rep.nd 256
    rw [q2] at hnd ⊢
    have := cut_split (a := []) hnd
    rw [List.nil_append, List.nil_append] at this
    rw [this, ← hoQ, show ((m : Int) + 1).toNat = m + 1 from by omega]
  · show (Q' i).filter _ = _
    rw [cut_none (fun c => hi (q1.rep.one _ _ _ c hmem)), q3 i hi]
theorem to_final {e : Int} {o : List Int} {L2 E2 : List Lk} (h : RepW (w.1, e) e c0 c1 c2 c3 L E M) (he : e = nowR w to) (ho : ∀ n m Q, Rep n m Q L E → o = Q 256) (hp : Pulled o o.length c0 c1 c2 c3 L E L2 E2) :
    RepW (toR w to) e c0 c1 c2 c3 L2 E2 M ∧ srt (cfM (ix M)) o = outR w to := by
  obtain ⟨n, Q, hq, hM⟩ := h.is.q
  obtain ⟨h1, h2, h3⟩ := h.mem hq hM
  obtain ⟨_, _, hp⟩ := hp
  obtain ⟨Q', q1, q2, q3⟩ := hp n Q hq
  have hoQ := ho n 258 Q hq.rep
  rw [Int.toNat_natCast, ← hoQ, List.drop_length] at q2
  have hlen : w.1.length = n := by have := h.len; simp only at this; omega
  have hdue : ∀ k, k ∈ Q 256 → (ix M k).1 ≤ e := fun k hk => by
    rcases h1 k 256 hk with ⟨_, q⟩ | ⟨q, _⟩ | ⟨r, hr, q, _⟩
    · exact q
    · omega
    · have := slot_range hr (ix M k).1; omega
  have hnot : ∀ k i, k ∈ Q i → i ≠ 256 → ¬ (ix M k).1 ≤ e := fun k i hk hi => by
    rcases h1 k i hk with ⟨q, _⟩ | ⟨_, q⟩ | ⟨r, hr, _, q, _⟩
    · exact absurd q hi
    · intro c
      exact absurd (Int.ediv_le_ediv (c := sp 4) (by decide) c) (by omega)
    · intro c
      have hsp : 0 < sp r := by
        have : r = 0 ∨ r = 1 ∨ r = 2 ∨ r = 3 := by omega
        rcases this with rfl | rfl | rfl | rfl <;> decide
      exact absurd (Int.ediv_le_ediv (c := sp r) hsp c) (by omega)
  have hmem : ∀ k, k ∈ dueN w.1 e n ↔ k ∈ Q 256 := fun k => by
    rw [dueN_mem]
    constructor
    · rintro ⟨k0, k1, hb⟩
      unfold dueB at hb
      refine Classical.byContradiction fun c => ?_
      by_cases hin : ∃ i, k ∈ Q i
      · obtain ⟨i, hi⟩ := hin
        have hi6 : i ≠ 256 := fun e => c (e ▸ hi)
        have := hnot k i hi hi6
        rw [h2 k i hi] at hb
        simp at hb
        exact this hb
      · have e0 := h3 k k0 (by omega) (fun i hi => hin ⟨i, hi⟩)
        simp only at e0
        rw [e0] at hb
        simp at hb
    · intro hk
      obtain ⟨k0, k1⟩ := hq.rep.mem 256 k hk
      have e0 := h2 k 256 hk
      simp only at e0
      refine ⟨k0, k1, ?_⟩
      unfold dueB
      rw [e0]
      simp [hdue k hk]
  constructor
  · have htoR : toR w to = (clr w.1 e, e) := by rw [he]; rfl
    have hclr : ∀ k : Int, 0 ≤ k → k < n → ix (clr w.1 e) k = clrOne e (ix w.1 k) := fun k k0 k1 => by
      obtain ⟨m, rfl⟩ := Int.eq_ofNat_of_zero_le k0
      have hm : m < w.1.length := by omega
      rw [ix_get0 hm, ix_get0 (by unfold clr; rw [List.length_map]; exact hm)]
      unfold clr
      rw [List.getElem_map]
    rw [htoR]
    refine RepW.of q1 hM h.is.now h.is.marks (by unfold clr; rw [List.length_map, hlen]) (fun k i hi => ?_) (fun k i hi => ?_) fun k k0 k1 hk => ?_
    · by_cases e6 : i = 256
      · subst e6; rw [q2] at hi; cases hi
      · rw [q3 i e6] at hi; exact h1 k i hi
    · by_cases e6 : i = 256
      · subst e6; rw [q2] at hi; cases hi
      · rw [q3 i e6] at hi
        obtain ⟨k0, k1⟩ := hq.rep.mem i k hi
        rw [hclr k k0 k1]
        have e0 := h2 k i hi
        simp only at e0
        rw [e0]
        unfold clrOne
        rw [if_neg (by simp; have := hnot k i hi e6; omega)]
    · rw [hclr k k0 k1]
      by_cases hin : ∃ i, k ∈ Q i
      · obtain ⟨i, hi⟩ := hin
        have e6 : i = 256 := by
          refine Classical.byContradiction fun e6 => hk i ?_
          rw [q3 i e6]; exact hi
        subst e6
        have e0 := h2 k 256 hi
        simp only at e0
        rw [e0]
        unfold clrOne
        rw [if_pos (by simp [hdue k hi])]
      · have e0 := h3 k k0 k1 (fun i hi => hin ⟨i, hi⟩)
        simp only at e0
        rw [e0]
        unfold clrOne
        split <;> rfl
  · have hndQ := hq.rep.nd 256
    unfold outR
    rw [← he, hlen, hoQ]
    refine srt_eq (dueN_nodup _ _ _) ((srt_perm _ _).trans ((List.perm_ext_iff_of_nodup hndQ (dueN_nodup _ _ _)).2 fun k => (hmem k).symm)) ?_
    refine (srt_pair (ix M) hndQ).imp_of_mem ?_
    intro a b ha hb hab
    have ea : mkAt w.1 a = ix M a := by have := h2 a 256 (srt_mem.1 ha); simp only at this; unfold mkAt; rw [this]
    have eb : mkAt w.1 b = ix M b := by have := h2 b 256 (srt_mem.1 hb); simp only at this; unfold mkAt; rw [this]
    unfold ltM at hab ⊢
    rw [ea, eb]
    exact hab
end
def ToPost (to now c0 c1 c2 c3 : Int) (L E : List Lk) (M : List (Int × Int)) (e d0 d1 d2 d3 : Int) (L' E' : List Lk) (o : List Int) : Prop :=
  ∀ w, RepW w now c0 c1 c2 c3 L E M → RepW (toR w to) e d0 d1 d2 d3 L' E' M ∧ o = outR w to
def conToW : Con := mkCon [.is (.lp 0 0), .d (.i .u64)] [vW, vL] [rL, rE, rM]
  (fun (to now c0 c1 c2 c3 : Int) (L E : List Lk) (M : List (Int × Int)) => u64ok to ∧ ∃ w, RepW w now c0 c1 c2 c3 L E M)
  [.i .u64, .i .i64, .i .i64, .i .i64, .i .i64, .sl tpL, .sl tpL, .sl (.i .i64)]
  (fun (to now c0 c1 c2 c3 : Int) (L E : List Lk) (M : List (Int × Int)) (e d0 d1 d2 d3 : Int) (L' E' : List Lk) (o : List Int) => ToPost to now c0 c1 c2 c3 L E M e d0 d1 d2 d3 L' E' o)
  (constX (.own 3) _) (fun (to now c0 c1 c2 c3 : Int) (L E : List Lk) (M : List (Int × Int)) (e d0 d1 d2 d3 : Int) (L' E' : List Lk) (o : List Int) => [vWv e d0 d1 d2 d3, vLv])
  (fun (to now c0 c1 c2 c3 : Int) (L E : List Lk) (M : List (Int × Int)) (e d0 d1 d2 d3 : Int) (L' E' : List Lk) (o : List Int) => [fxL L', fxE E', fxM M, mkRow 3 (.i .i64) o])
end Go.Proofs.YtplefbcgpbdkfaaDoor
/- Package wheel: time goes on. -/
namespace Go.Proofs.YtplefbcgpbdkfaaDoor
open Go Go.Fx

set_option maxRecDepth 10000 in
theorem wto_vc :
  ∀ x0 : Int,
 ∀ x1 : Int,
 ∀ x2 : Int,
 ∀ x3 : Int,
 ∀ x4 : Int,
 ∀ x5 : Int,
 ∀ x6 : List (Int × (Int × Int)),
 ∀ x7 : List (Int × (Int × Int)),
 ∀ x8 : List (Int × Int),
 ((u64ok x0) ∧
 (∃ x9 : Wh,
 RepW x9 x1 x2 x3 x4 x5 x6 x7 x8)) →
 ∃ x10 : Int → Int → Int → Int → Int → List (Int × (Int × Int)) → List (Int × (Int × Int)) → Prop,
 ∃ x11 : Int → Int → Int → Int → Int → List (Int × (Int × Int)) → List (Int × (Int × Int)) → Nat,
 (x10 x1 x2 x3 x4 x5 x6 x7) ∧
 (∀ x12 : Int,
 ∀ x13 : Int,
 ∀ x14 : Int,
 ∀ x15 : Int,
 ∀ x16 : Int,
 ∀ x17 : List (Int × (Int × Int)),
 ∀ x18 : List (Int × (Int × Int)),
 (x10 x12 x13 x14 x15 x16 x17 x18) →
 ((litCmp BinOp.lss x12 x0 = true) →
 (IsW x12 x13 x14 x15 x16 x17 x18 x8) ∧
 (True →
 (True) ∧
 (True →
 ((litCmp BinOp.eql (lenW x13 x14 x15 x16 x18) (lenC x18 (256 : Int)) = true) →
 (IsRep x17 x18) ∧
 (∀ x19 : List Int,
 (∀ x20 : Nat,
 ∀ x21 : Nat,
 ∀ x22 : Int → List Int,
 (Rep x20 x21 x22 x17 x18) →
 x19 = x22 (256 : Int)) →
 ∃ x23 : Int → List (Int × (Int × Int)) → List (Int × (Int × Int)) → Prop,
 ∃ x24 : Int → List (Int × (Int × Int)) → List (Int × (Int × Int)) → Nat,
 (x23 (0 : Int) x17 x18) ∧
 (∀ x25 : Int,
 ∀ x26 : List (Int × (Int × Int)),
 ∀ x27 : List (Int × (Int × Int)),
 (x23 x25 x26 x27) →
 ((litCmp BinOp.lss x25 (↑(List.length x19) : Int) = true) →
 (((0 : Int) ≤ x25) ∧
 (x25 < (↑(List.length x19) : Int))) ∧
 (∀ x28 : Int,
 (x28 = ix x19 x25) →
 (IsRep x26 x27) ∧
 (∀ x29 : List (Int × (Int × Int)),
 ∀ x30 : List (Int × (Int × Int)),
 ∀ x31 : Bool,
 (PullPost x28 x26 x27 x29 x30 x31) →
 ∀ x32 : Int,
 (x32 = litArith BinOp.add IntKind.i64 x25 (1 : Int)) →
 ((↑(List.length x19) : Int) = (↑(List.length x19) : Int)) ∧
 ((x0 = x0) ∧
 ((x13 = x13) ∧
 ((x14 = x14) ∧
 ((x15 = x15) ∧
 ((x16 = x16) ∧
 ((x8 = x8) ∧
 (((↑(List.length x8) : Int) = (↑(List.length x8) : Int)) ∧
 ((x19 = x19) ∧
 (((↑(List.length x19) : Int) = (↑(List.length x19) : Int)) ∧
 ((x23 x32 x29 x30) ∧
 (x24 x32 x29 x30 < x24 x25 x26 x27)))))))))))))) ∧
 ((litCmp BinOp.lss x25 (↑(List.length x19) : Int) = false) →
 ((List.length x19 ≤ (4096 : Nat)) ∧
 (∀ x33 : Int,
 (List.Mem x33 x19) →
 ((0 : Int) ≤ x33) ∧
 (x33 < (↑(List.length x8) : Int)))) ∧
 (True →
 ∃ x34 : Int,
 ∃ x35 : Int,
 ∃ x36 : Int,
 ∃ x37 : Int,
 ∃ x38 : Int,
 ∃ x39 : List (Int × (Int × Int)),
 ∃ x40 : List (Int × (Int × Int)),
 ∃ x41 : List Int,
 (ToPost x0 x1 x2 x3 x4 x5 x6 x7 x8 x34 x35 x36 x37 x38 x39 x40 x41) ∧
 ((x0 = x34) ∧
 ((x13 = x35) ∧
 ((x14 = x36) ∧
 ((x15 = x37) ∧
 ((x16 = x38) ∧
 ((x26 = x39) ∧
 (((↑(List.length x26) : Int) = (↑(List.length x39) : Int)) ∧
 ((x27 = x40) ∧
 (((↑(List.length x27) : Int) = (↑(List.length x40) : Int)) ∧
 ((x8 = x8) ∧
 (((↑(List.length x8) : Int) = (↑(List.length x8) : Int)) ∧
 (((List.mergeSort x19 fun (x y : Int) => !decide (cfM (ix x8) y x < (0 : Int))) = x41) ∧
 (((↑(List.length (List.mergeSort x19 fun (x y : Int) => !decide (cfM (ix x8) y x < (0 : Int)))) : Int) = (↑(List.length x41) : Int)) ∧
 (True))))))))))))))))))) ∧
 ((litCmp BinOp.eql (lenW x13 x14 x15 x16 x18) (lenC x18 (256 : Int)) = false) →
 ((IsW x12 x13 x14 x15 x16 x17 x18 x8) ∧
 ((u64ok x0) ∧
 (x12 < x0))) ∧
 (∀ x42 : Int,
 (NextPost x0 x12 x13 x14 x15 x16 x17 x18 x8 x42) →
 ((IsW x12 x13 x14 x15 x16 x17 x18 x8) ∧
 ((u64ok x42) ∧
 (x12 < x42))) ∧
 (∀ x43 : Int,
 ∀ x44 : Int,
 ∀ x45 : Int,
 ∀ x46 : Int,
 ∀ x47 : List (Int × (Int × Int)),
 ∀ x48 : List (Int × (Int × Int)),
 (StepPost x42 x12 x13 x14 x15 x16 x17 x18 x8 x43 x44 x45 x46 x47 x48) →
 (x0 = x0) ∧
 ((x8 = x8) ∧
 (((↑(List.length x8) : Int) = (↑(List.length x8) : Int)) ∧
 ((x10 x42 x43 x44 x45 x46 x47 x48) ∧
 (x11 x42 x43 x44 x45 x46 x47 x48 < x11 x12 x13 x14 x15 x16 x17 x18)))))))))) ∧
 ((litCmp BinOp.lss x12 x0 = false) →
 (IsRep x17 x18) ∧
 (∀ x49 : List Int,
 (∀ x50 : Nat,
 ∀ x51 : Nat,
 ∀ x52 : Int → List Int,
 (Rep x50 x51 x52 x17 x18) →
 x49 = x52 (256 : Int)) →
 ∃ x53 : Int → List (Int × (Int × Int)) → List (Int × (Int × Int)) → Prop,
 ∃ x54 : Int → List (Int × (Int × Int)) → List (Int × (Int × Int)) → Nat,
 (x53 (0 : Int) x17 x18) ∧
 (∀ x55 : Int,
 ∀ x56 : List (Int × (Int × Int)),
 ∀ x57 : List (Int × (Int × Int)),
 (x53 x55 x56 x57) →
 ((litCmp BinOp.lss x55 (↑(List.length x49) : Int) = true) →
 (((0 : Int) ≤ x55) ∧
 (x55 < (↑(List.length x49) : Int))) ∧
 (∀ x58 : Int,
 (x58 = ix x49 x55) →
 (IsRep x56 x57) ∧
 (∀ x59 : List (Int × (Int × Int)),
 ∀ x60 : List (Int × (Int × Int)),
 ∀ x61 : Bool,
 (PullPost x58 x56 x57 x59 x60 x61) →
 ∀ x62 : Int,
 (x62 = litArith BinOp.add IntKind.i64 x55 (1 : Int)) →
 ((↑(List.length x49) : Int) = (↑(List.length x49) : Int)) ∧
 ((x12 = x12) ∧
 ((x13 = x13) ∧
 ((x14 = x14) ∧
 ((x15 = x15) ∧
 ((x16 = x16) ∧
 ((x8 = x8) ∧
 (((↑(List.length x8) : Int) = (↑(List.length x8) : Int)) ∧
 ((x49 = x49) ∧
 (((↑(List.length x49) : Int) = (↑(List.length x49) : Int)) ∧
 ((x53 x62 x59 x60) ∧
 (x54 x62 x59 x60 < x54 x55 x56 x57)))))))))))))) ∧
 ((litCmp BinOp.lss x55 (↑(List.length x49) : Int) = false) →
 ((List.length x49 ≤ (4096 : Nat)) ∧
 (∀ x63 : Int,
 (List.Mem x63 x49) →
 ((0 : Int) ≤ x63) ∧
 (x63 < (↑(List.length x8) : Int)))) ∧
 (True →
 ∃ x64 : Int,
 ∃ x65 : Int,
 ∃ x66 : Int,
 ∃ x67 : Int,
 ∃ x68 : Int,
 ∃ x69 : List (Int × (Int × Int)),
 ∃ x70 : List (Int × (Int × Int)),
 ∃ x71 : List Int,
 (ToPost x0 x1 x2 x3 x4 x5 x6 x7 x8 x64 x65 x66 x67 x68 x69 x70 x71) ∧
 ((x12 = x64) ∧
 ((x13 = x65) ∧
 ((x14 = x66) ∧
 ((x15 = x67) ∧
 ((x16 = x68) ∧
 ((x56 = x69) ∧
 (((↑(List.length x56) : Int) = (↑(List.length x69) : Int)) ∧
 ((x57 = x70) ∧
 (((↑(List.length x57) : Int) = (↑(List.length x70) : Int)) ∧
 ((x8 = x8) ∧
 (((↑(List.length x8) : Int) = (↑(List.length x8) : Int)) ∧
 (((List.mergeSort x49 fun (x y : Int) => !decide (cfM (ix x8) y x < (0 : Int))) = x71) ∧
 (((↑(List.length (List.mergeSort x49 fun (x y : Int) => !decide (cfM (ix x8) y x < (0 : Int)))) : Int) = (↑(List.length x71) : Int)) ∧
                     (True)))))))))))))))))))) := by
  rintro to now c0 c1 c2 c3 L E M ⟨hto, w, hw⟩
  simp only [gtrT, gtrF, lssT, lssF, leqT, leqF, geqT, geqF, eqlT, eqlF, neqT, neqF, true_and, and_true, true_implies, implies_true, Bool.not_eq_true', Bool.not_eq_false', bne_iff_ne, ne_eq, not_true_eq_false, not_false_eq_true, Int.toNat_natCast, same_self, reduceCtorEq, false_implies, List.nil_append]
  refine ⟨fun e d0 d1 d2 d3 L1 E1 => RepW (w.1, e) e d0 d1 d2 d3 L1 E1 M ∧ now ≤ e ∧ (e ≤ to ∨ e = now), fun e _ _ _ _ _ _ => (to - e).toNat, ⟨?_, Int.le_refl _, .inr rfl⟩, ?_⟩
  · have e : (w.1, now) = w := by rw [← hw.nw]
    rw [e]; exact hw
  rintro e d0 d1 d2 d3 L1 E1 ⟨h, h1, h2⟩
  have hnw := hw.nw
  refine ⟨fun hlt => ⟨h.is, fun hl => ?_, fun hl => ?_⟩, fun hge => ?_⟩
  · have hf := to_skip h hto hlt hl
    simp only at hf
    have he : to = nowR w to := by unfold nowR; rw [if_pos (by omega)]
    have hQ : ∃ n Q, CQ n Q d0 d1 d2 d3 L1 E1 := by obtain ⟨n, Q, q, _⟩ := hf.is.q; exact ⟨n, Q, q⟩
    refine ⟨hf.is.isRep, fun o ho => ?_⟩
    have hom : o.length ≤ 4096 ∧ ∀ x, List.Mem x o → 0 ≤ x ∧ x < (M.length : Int) := by
      obtain ⟨n, Q, q, hM⟩ := hf.is.q
      have h1 := q.rep.len_le 256
      have h2 := q.rep.sn
      rw [ho n 258 Q q.rep]
      exact ⟨by omega, fun x hx => by have := q.rep.mem 256 x hx; omega⟩
    refine ⟨fun j L2 E2 => Pulled o j d0 d1 d2 d3 L1 E1 L2 E2, fun j _ _ => ((o.length : Int) - j).toNat, .zero, ?_⟩
    rintro j L2 E2 hp
    have hp0 := hp.1
    have hp1 := hp.2.1
    refine ⟨fun hj => ⟨⟨hp0, hj⟩, ?_⟩, fun hj => ⟨hom, ?_⟩⟩
    · rintro _ rfl
      refine ⟨?_, fun L3 E3 b hpl => ?_⟩
      · obtain ⟨n, Q, q⟩ := hQ
        obtain ⟨Q', q1, _⟩ := hp.2.2 n Q q
        exact ⟨n, 258, Q', q1.rep⟩
      · rintro _ rfl
        rw [addI_ (by omega) (by omega)]
        exact ⟨hp.next hQ ho hj hpl, meas hj⟩
    · have e0 : j = o.length := by omega
      subst e0
      refine ⟨to, d0, d1, d2, d3, L2, E2, srt (cfM (ix M)) o, fun w' hw' => ?_, rfl, rfl, rfl, rfl, rfl, rfl, rfl, rfl, rfl, rfl, rfl⟩
      rw [hw'.uniq hw]
      exact to_final hf he ho hp
  · refine ⟨⟨h.is, hto, hlt⟩, fun t ht => ?_⟩
    have hs := fun e0 e1 e2 e3 L' E' => to_step (d0 := e0) (d1 := e1) (d2 := e2) (d3 := e3) (L' := L') (E' := E') h hto hl ht
    obtain ⟨⟨q1, q2, q3⟩, _⟩ := hs 0 0 0 0 [] []
    refine ⟨⟨h.is, q1, q2⟩, fun e0 e1 e2 e3 L' E' hst => ⟨⟨(hs _ _ _ _ _ _).2 hst, by omega, .inl q3⟩, ?_⟩⟩
    show (to - t).toNat < (to - e).toNat
    omega
  · have hf := h
    have he : e = nowR w to := by
      unfold nowR
      split <;> omega
    have hQ : ∃ n Q, CQ n Q d0 d1 d2 d3 L1 E1 := by obtain ⟨n, Q, q, _⟩ := hf.is.q; exact ⟨n, Q, q⟩
    refine ⟨hf.is.isRep, fun o ho => ?_⟩
    have hom : o.length ≤ 4096 ∧ ∀ x, List.Mem x o → 0 ≤ x ∧ x < (M.length : Int) := by
      obtain ⟨n, Q, q, hM⟩ := hf.is.q
      have h1 := q.rep.len_le 256
      have h2 := q.rep.sn
      rw [ho n 258 Q q.rep]
      exact ⟨by omega, fun x hx => by have := q.rep.mem 256 x hx; omega⟩
    refine ⟨fun j L2 E2 => Pulled o j d0 d1 d2 d3 L1 E1 L2 E2, fun j _ _ => ((o.length : Int) - j).toNat, .zero, ?_⟩
    rintro j L2 E2 hp
    have hp0 := hp.1
    have hp1 := hp.2.1
    refine ⟨fun hj => ⟨⟨hp0, hj⟩, ?_⟩, fun hj => ⟨hom, ?_⟩⟩
    · rintro _ rfl
      refine ⟨?_, fun L3 E3 b hpl => ?_⟩
      · obtain ⟨n, Q, q⟩ := hQ
        obtain ⟨Q', q1, _⟩ := hp.2.2 n Q q
        exact ⟨n, 258, Q', q1.rep⟩
      · rintro _ rfl
        rw [addI_ (by omega) (by omega)]
        exact ⟨hp.next hQ ho hj hpl, meas hj⟩
    · have e0 : j = o.length := by omega
      subst e0
      refine ⟨e, d0, d1, d2, d3, L2, E2, srt (cfM (ix M)) o, fun w' hw' => ?_, rfl, rfl, rfl, rfl, rfl, rfl, rfl, rfl, rfl, rfl, rfl⟩
      rw [hw'.uniq hw]
      exact to_final hf he ho hp
set_option maxRecDepth 10000 in
theorem wto_ok : conToW.ok KK Tryd.prog 41 := by
  refine Con.of_vc ([(0, ⟨[], [], [(0, vW)], [0, 1], []⟩), (2, ⟨[], [(38, .d (.i .i64))], [], [0, 1], []⟩)]) ([]) ([]) TT_ok follows Tryd.func41 ?_ G25_ok (@toVC _ _ wto_vc ?_)
  · kernel_rfl
  · kernel_rfl
noncomputable def G26 : List (FuncId × Con) := (41, conToW) :: G25
theorem G26_ok : GOK KK Tryd.prog G26 := GOK.cons (Callable.of Tryd.func41 (by kernel_rfl) (by kernel_rfl)) wto_ok G25_ok
end Go.Proofs.YtplefbcgpbdkfaaDoor
/- Package wheel: each call, on what the wheel stands for. -/
namespace Go.Proofs.YtplefbcgpbdkfaaDoor
open Go Go.Fx
section
variable {w w' : Wh} {to now c0 c1 c2 c3 d0 d1 d2 d3 : Int} {L E L' E' : List Lk} {M M' : List (Int × Int)} {n : Nat} {Q : Int → List Int}
theorem RepW.new {k : Int} (hn : u64ok now) : RepW (List.replicate (cut4096 k) (false, 0, 0), now) now 0 0 0 0 (List.replicate (cut4096 k) (-1, -1, -1)) (List.replicate 258 (-1, -1, 0)) (List.replicate (cut4096 k) (0, 0)) := by
  have hc : cut4096 k ≤ 4096 := by unfold cut4096; split <;> (try split) <;> omega
  refine RepW.of (CQ.new _ hc) (by simp) hn (fun i h0 h1 => ?_) (by simp) (fun i j h => by cases h) (fun i j h => by cases h) fun i h0 h1 _ => ix_rep h0 h1
  rw [List.length_replicate] at h1
  rw [ix_rep h0 h1]
  exact ⟨⟨by simp, by simp⟩, by simp, by simp⟩
theorem RepW.set {k at_ turn : Int} {b : Bool} (h : RepW w now c0 c1 c2 c3 L E M) (ha : u64ok at_) (ht : u64ok turn) (hp : SetPost k at_ turn now c0 c1 c2 c3 L E M d0 d1 d2 d3 L' E' M' b) :
    RepW (setR w k at_ turn).1 now d0 d1 d2 d3 L' E' M' ∧ b = (setR w k at_ turn).2 := by
  obtain ⟨n, Q, hq, hM⟩ := h.is.q
  obtain ⟨h1, h2, h3⟩ := h.mem hq hM
  have hlen := h.len
  obtain ⟨p1, p0⟩ := hp n Q hq hM
  by_cases c : 0 ≤ k ∧ k < n ∧ ∀ j, k ∉ Q j
  · obtain ⟨rfl, rfl, hq'⟩ := p1 c
    have e : setR w k at_ turn = (withR w k (true, at_, turn), true) := by
      unfold setR
      rw [if_neg]
      rintro (q | q | q)
      · omega
      · omega
      · rw [h3 k c.1 c.2.1 c.2.2] at q; cases q
    rw [e]
    refine ⟨?_, rfl⟩
    have hw : withR w k (true, at_, turn) = (w.1.set k.toNat (true, at_, turn), now) := by unfold withR; rw [h.nw]
    show RepW (withR w k (true, at_, turn)) _ _ _ _ _ _ _ _
    rw [hw]
    have hne : ∀ x i, x ∈ Q i → k ≠ x := fun x i hx e => c.2.2 i (e ▸ hx)
    refine RepW.of hq' (by rw [List.length_set]; exact hM) h.is.now (fun i i0 i1 => ?_) (by rw [List.length_set]; omega) (fun x i hx => ?_) (fun x i hx => ?_) fun x x0 x1 hx => ?_
    · rw [List.length_set] at i1
      rw [ix_set c.1 (by omega) i0]
      split
      · exact ⟨ha, ht⟩
      · exact h.is.marks i i0 i1
    · rcases mem_putQ.1 hx with hx | ⟨rfl, rfl⟩
      · rw [ix_set c.1 (by omega) (hq.rep.mem i x hx).1, if_neg (hne x i hx)]
        exact h1 x i hx
      · rw [ix_set c.1 (by omega) c.1, if_pos rfl]
        exact place_strong h.is.now.1 ha.1
    · rcases mem_putQ.1 hx with hx | ⟨rfl, rfl⟩
      · rw [ix_set c.1 (by omega) (hq.rep.mem i x hx).1, if_neg (hne x i hx), ix_set c.1 (by omega) (hq.rep.mem i x hx).1, if_neg (hne x i hx)]
        exact h2 x i hx
      · rw [ix_set c.1 (by omega) c.1, if_pos rfl, ix_set c.1 (by omega) c.1, if_pos rfl]
    · have hxk : k ≠ x := fun e => hx (placeW now at_) (mem_putQ.2 (.inr ⟨rfl, e.symm⟩))
      rw [ix_set c.1 (by omega) x0, if_neg hxk]
      exact h3 x x0 x1 fun i hi => hx i (mem_putQ.2 (.inl hi))
  · obtain ⟨rfl, rfl, rfl, rfl, rfl, rfl, rfl, rfl⟩ := p0 c
    have e : setR w k at_ turn = (w, false) := by
      unfold setR
      rw [if_pos]
      by_cases q0 : k < 0
      · exact .inl q0
      by_cases q1 : (w.1.length : Int) ≤ k
      · exact .inr (.inl q1)
      · refine .inr (.inr ?_)
        have : ∃ j, k ∈ Q j := by
          refine Classical.byContradiction fun q => c ⟨by omega, by omega, fun j hj => q ⟨j, hj⟩⟩
        obtain ⟨j, hj⟩ := this
        rw [h2 k j hj]
    rw [e]
    exact ⟨h, rfl⟩
theorem RepW.isR (h : RepW w now c0 c1 c2 c3 L E M) (hq : CQ n Q c0 c1 c2 c3 L E) (hM : M.length = n) (k : Int) : isR w k = true ↔ ∃ j, k ∈ Q j := by
  obtain ⟨h1, h2, h3⟩ := h.mem hq hM
  have hlen := h.len
  unfold Go.Proofs.YtplefbcgpbdkfaaDoor.isR
  constructor
  · intro e
    simp only [Bool.and_eq_true, decide_eq_true_eq] at e
    refine Classical.byContradiction fun c => ?_
    rw [h3 k e.1 (by omega) fun i hi => c ⟨i, hi⟩] at e
    cases e.2.2
  · rintro ⟨j, hj⟩
    have := hq.rep.mem j k hj
    simp only [Bool.and_eq_true, decide_eq_true_eq]
    exact ⟨this.1, by omega, by rw [h2 k j hj]⟩
theorem RepW.unset {k : Int} {b : Bool} (h : RepW w now c0 c1 c2 c3 L E M) (hp : UnsetPost k c0 c1 c2 c3 L E d0 d1 d2 d3 L' E' b) :
    RepW (unsetR w k).1 now d0 d1 d2 d3 L' E' M ∧ b = (unsetR w k).2 := by
  obtain ⟨n, Q, hq, hM⟩ := h.is.q
  obtain ⟨h1, h2, h3⟩ := h.mem hq hM
  have hlen := h.len
  obtain ⟨p1, p0⟩ := hp n Q hq
  have hi := h.isR hq hM k
  unfold unsetR
  by_cases c : ∃ j, k ∈ Q j
  · obtain ⟨rfl, hq'⟩ := p1 c
    rw [if_pos (hi.2 c)]
    refine ⟨?_, rfl⟩
    obtain ⟨j, hj⟩ := c
    obtain ⟨k0, k1⟩ := hq.rep.mem j k hj
    have hw : withR w k (false, 0, 0) = (w.1.set k.toNat (false, 0, 0), now) := by unfold withR; rw [h.nw]
    show RepW (withR w k (false, 0, 0)) _ _ _ _ _ _ _ _
    rw [hw]
    refine RepW.of hq' hM h.is.now h.is.marks (by rw [List.length_set]; omega) (fun x i hx => h1 x i (mem_cutQ.1 hx).1) (fun x i hx => ?_) fun x x0 x1 hx => ?_
    · obtain ⟨hx, hne⟩ := mem_cutQ.1 hx
      rw [ix_set k0 (by omega) (hq.rep.mem i x hx).1, if_neg (Ne.symm hne)]
      exact h2 x i hx
    · rw [ix_set k0 (by omega) x0]
      by_cases e : k = x
      · rw [if_pos e]
      · rw [if_neg e]
        exact h3 x x0 x1 fun i hi => hx i (mem_cutQ.2 ⟨hi, Ne.symm e⟩)
  · obtain ⟨rfl, rfl, rfl, rfl, rfl, rfl, rfl⟩ := p0 (fun j hj => c ⟨j, hj⟩)
    rw [if_neg (fun e => c (hi.1 e))]
    exact ⟨h, rfl⟩
def wantR (w : Wh) (k : Int) : Mk := if isR w k then ix w.1 k else (false, 0, 0)
theorem RepW.at_ (h : RepW w now c0 c1 c2 c3 L E M) (k : Int) : atC L M k = ((wantR w k).2.1, (wantR w k).2.2, (wantR w k).1) := by
  obtain ⟨n, Q, hq, hM⟩ := h.is.q
  obtain ⟨h1, h2, h3⟩ := h.mem hq hM
  have hi := h.isR hq hM k
  unfold atC wantR
  by_cases c : ∃ j, k ∈ Q j
  · rw [if_pos (hi.2 c), if_pos (hq.rep.on_iff.2 c)]
    obtain ⟨j, hj⟩ := c
    rw [h2 k j hj]
  · rw [if_neg (fun e => c (hi.1 e)), if_neg (fun e => c (hq.rep.on_iff.1 e))]
theorem scan_congr {on on' : Int → Bool} {a a' : Int → Int} : ∀ {s : Nat}, (∀ i : Nat, i < s → on i = on' i ∧ (on i = true → a i = a' i)) → scan on a s = scan on' a' s
  | 0, _ => rfl
  | s + 1, h => by
    obtain ⟨e1, e2⟩ := h s (Nat.lt_succ_self s)
    unfold scan
    rw [scan_congr (fun i hi => h i (Nat.lt_succ_of_lt hi)), ← e1]
    cases hb : on s with
    | false => simp
    | true => rw [e2 hb]
theorem RepW.first (h : RepW w now c0 c1 c2 c3 L E M) : scan (fun k => (onC L k).2) (fun k => (ix M k).1) M.length = scan (fun k => (ix w.1 k).1) (fun k => (ix w.1 k).2.1) w.1.length := by
  rw [h.len]
  refine scan_congr fun i hi => ?_
  have hm := h.marks (i : Int) (by omega) (by omega)
  constructor
  · rw [hm]; split
    · rename_i c; exact c
    · rename_i c; simpa using c
  · intro ho
    have ho : (onC L i).2 = true := ho
    rw [hm, if_pos ho]
/-- All lists, one behind the other. -/
def catQ (Q : Int → List Int) (b : Int) : Nat → List Int
  | 0 => []
  | s + 1 => catQ Q b s ++ Q (b + s)
theorem catQ_len {b : Int} : ∀ s : Nat, ((catQ Q b s).length : Int) = cntN Q b s
  | 0 => rfl
  | s + 1 => by
    simp only [catQ, cntN, List.length_append]
    rw [← catQ_len s]
    push_cast
    rfl
theorem catQ_mem {b k : Int} : ∀ {s : Nat}, k ∈ catQ Q b s ↔ ∃ i, b ≤ i ∧ i < b + s ∧ k ∈ Q i
  | 0 => by simp [catQ]; intro i h0 h1; omega
  | s + 1 => by
    simp only [catQ, List.mem_append, catQ_mem (s := s)]
    constructor
    · rintro (⟨i, h0, h1, h2⟩ | h)
      · exact ⟨i, h0, by push_cast; omega, h2⟩
      · exact ⟨b + s, by omega, by push_cast; omega, h⟩
    · rintro ⟨i, h0, h1, h2⟩
      by_cases e : i = b + s
      · rw [e] at h2; exact .inr h2
      · exact .inl ⟨i, h0, by push_cast at h1; omega, h2⟩
theorem catQ_nodup {m : Nat} (h : Rep n m Q L E) {b : Int} : ∀ s : Nat, (catQ Q b s).Nodup
  | 0 => by simp [catQ]
  | s + 1 => by
    simp only [catQ]
    refine List.nodup_append.2 ⟨catQ_nodup h s, h.nd _, fun x hx y hy e => ?_⟩
    subst e
    obtain ⟨i, h0, h1, h2⟩ := catQ_mem.1 hx
    have := h.one _ _ _ h2 hy
    omega
theorem catQ_app {b : Int} (s : Nat) : ∀ t : Nat, cntN Q b (s + t) = cntN Q b s + cntN Q (b + s) t
  | 0 => by simp [cntN]
  | t + 1 => by
    rw [← Nat.add_assoc]
    simp only [cntN]
    rw [catQ_app s t]
    push_cast
    rw [← Int.add_assoc b]
    omega
theorem RepW.len_eq (h : RepW w now c0 c1 c2 c3 L E M) : lenW c0 c1 c2 c3 E = lenR w.1 := by
  obtain ⟨n, Q, hq, hM⟩ := h.is.q
  obtain ⟨h1, h2, h3⟩ := h.mem hq hM
  have hlen := h.len
  have e : lenW c0 c1 c2 c3 E = cntN Q 0 258 := by
    unfold lenW
    rw [hq.rep.len_eq 256, hq.rep.len_eq 257, hq.e0, hq.e1, hq.e2, hq.e3]
    have a1 := catQ_app (Q := Q) (b := 0) 64 194
    have a2 := catQ_app (Q := Q) (b := 64) 64 130
    have a3 := catQ_app (Q := Q) (b := 128) 64 66
    have a4 := catQ_app (Q := Q) (b := 192) 64 2
    have a5 : cntN Q 256 2 = (Q 256).length + (Q 257).length := by simp [cntN]
    simp only [Nat.reduceAdd, Int.zero_add] at a1 a2 a3 a4
    unfold cnt
    have b0 : (64 : Int) * ((0 : Nat) : Int) = 0 := rfl
    have b1 : (64 : Int) * ((1 : Nat) : Int) = 64 := rfl
    have b2 : (64 : Int) * ((2 : Nat) : Int) = 128 := rfl
    have b3 : (64 : Int) * ((3 : Nat) : Int) = 192 := rfl
    have b4 : ((64 : Nat) : Int) = 64 := rfl
    rw [b0, b1, b2, b3, a1, b4, a2]
    have b5 : (64 : Int) + ((64 : Nat) : Int) = 128 := rfl
    have b6 : (128 : Int) + ((64 : Nat) : Int) = 192 := rfl
    have b7 : (192 : Int) + ((64 : Nat) : Int) = 256 := rfl
    rw [b5, a3, b6, a4, b7, a5]
    omega
  have hl : lenR w.1 = ((((List.range n).map fun i : Nat => (i : Int)).filter fun k => (ix w.1 k).1).length : Int) := by
    unfold lenR
    have : w.1 = (List.range n).map fun i : Nat => ix w.1 (i : Int) := by
      apply List.ext_getElem
      · simp; omega
      · intro i q1 q2
        rw [List.getElem_map, List.getElem_range, ix_get0 q1]
    conv => lhs; rw [this]
    rw [List.filter_map, List.filter_map, List.length_map, List.length_map]
    rfl
  rw [e, hl, ← catQ_len]
  refine congrArg (fun n : Nat => (n : Int)) (?_ : (catQ Q 0 258).length = _)
  refine List.Perm.length_eq ((List.perm_ext_iff_of_nodup (catQ_nodup hq.rep 258) ?_).2 fun k => ?_)
  · refine List.Pairwise.filter _ ?_
    rw [List.pairwise_map]
    exact (List.nodup_range (n := n)).imp fun h e => h (by omega)
  · rw [catQ_mem, List.mem_filter, List.mem_map]
    constructor
    · rintro ⟨i, _, _, hi⟩
      have := hq.rep.mem i k hi
      exact ⟨⟨k.toNat, by rw [List.mem_range]; omega, by omega⟩, by rw [h2 k i hi]⟩
    · rintro ⟨⟨i, hi, rfl⟩, ht⟩
      rw [List.mem_range] at hi
      have : ∃ j, (i : Int) ∈ Q j := by
        refine Classical.byContradiction fun c => ?_
        rw [h3 i (by omega) (by omega) fun j hj => c ⟨j, hj⟩] at ht
        cases ht
      obtain ⟨j, hj⟩ := this
      refine ⟨j, ?_, ?_, hj⟩
      · refine Classical.byContradiction fun c => ?_
        rw [hq.rep.out j (.inl (by omega))] at hj; cases hj
      · refine Classical.byContradiction fun c => ?_
        rw [hq.rep.out j (.inr (by omega))] at hj; cases hj
end
end Go.Proofs.YtplefbcgpbdkfaaDoor
