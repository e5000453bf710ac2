/- The laws of package wheel: WheelFar. -/
import Derived.Test.YtlkmdighjgpdlaaZ2
import Derived.Test.YtlkmdighjgpdlaaRows
import Derived.Test.YtlkmdighjgpdlaaFt
set_option linter.all false
namespace Go.Proofs.Ytlkmdighjgpdlaa
open Go Go.Fx
theorem u64_wf {n : Int} (h : wfK .u64 n) : u64ok n := by
  unfold wfK at h
  simp [Lit.wf, IntKind.min, IntKind.max, IntKind.signed, IntKind.bits] at h
  unfold u64ok
  omega
theorem u64_of {n : Int} (h : Fits (.i .u64) n) : u64ok n := u64_wf h.out
theorem ix_mem {α : Type} [Inhabited α] {l : List α} {k : Int} (h0 : 0 ≤ k) (h1 : k < l.length) : ix l k ∈ l := by
  unfold ix
  rw [List.getD_eq_getElem?_getD, List.getElem?_eq_getElem (by omega)]
  exact List.getElem_mem _
theorem u64_ix {l : List Int} (h : Fits (.sl (.i .u64)) l) {k : Int} (h0 : 0 ≤ k) (h1 : k < l.length) : u64ok (ix l k) := u64_wf (h.out.2 _ (ix_mem h0 h1))
/-- One alarm alone. -/
def W1 (told : Bool) (at_ time : Int) : Wh := ([if told then (false, 0, 0) else (true, at_, 0)], time)
theorem W1_to (told : Bool) (at_ time s : Int) : toR (W1 told at_ time) s = W1 (told || decide (at_ ≤ if time < s then s else time)) at_ (if time < s then s else time) ∧ outR (W1 told at_ time) s = if !told && decide (at_ ≤ if time < s then s else time) then [0] else [] := by
  unfold toR outR W1 nowR clr clrOne dueN dueB ix
  generalize (if time < s then s else time) = t
  cases told <;> by_cases h : at_ ≤ t <;> simp [h, srt, List.range_succ, List.filter]
set_option maxRecDepth 10000 in
theorem far_vc :
  ∀ x0 : Int,
  ∀ x1 : Int,
  ∀ x2 : List Int,
  ((((True) ∧
      (Fits (Tp.i IntKind.u64) x0)) ∧
     (Fits (Tp.i IntKind.u64) x1)) ∧
    (Fits (Tp.sl (Tp.i IntKind.u64)) x2)) →
  (True) ∧
  (True →
   ((litCmp BinOp.gtr (↑(List.length x2) : Int) (40 : Int) = true) →
    (True) ∧
    (True)) ∧
   ((litCmp BinOp.gtr (↑(List.length x2) : Int) (40 : Int) = false) →
    (u64ok x0) ∧
    (True →
     ((IsW x0 (0 : Int) (0 : Int) (0 : Int) (0 : Int) [((-1 : Int), (-1 : Int), (-1 : Int))] (List.replicate (258 : Nat) ((-1 : Int), (-1 : Int), (0 : Int))) [((0 : Int), (0 : Int))]) ∧
      ((u64ok x1) ∧
       (u64ok (0 : Int)))) ∧
     (∀ x3 : Int,
      ∀ x4 : Int,
      ∀ x5 : Int,
      ∀ x6 : Int,
      ∀ x7 : List (Int × Int × Int),
      ∀ x8 : List (Int × Int × Int),
      ∀ x9 : List (Int × Int),
      ∀ x10 : Bool,
      (SetPost (0 : Int) x1 (0 : Int) x0 (0 : Int) (0 : Int) (0 : Int) (0 : Int) [((-1 : Int), (-1 : Int), (-1 : Int))] (List.replicate (258 : Nat) ((-1 : Int), (-1 : Int), (0 : Int))) [((0 : Int), (0 : Int))] x3 x4 x5 x6 x7 x8 x9 x10) →
      (((!x10) = true) →
       (True) ∧
       (False)) ∧
      (((!x10) = false) →
       ∃ x11 : Int → Bool → Int → Int → Int → Int → Int → Int → List (Int × Int × Int) → List (Int × Int × Int) → Prop,
       ∃ x12 : Int → Bool → Int → Int → Int → Int → Int → Int → List (Int × Int × Int) → List (Int × Int × Int) → Nat,
       (x11 (0 : Int) false x0 x0 x3 x4 x5 x6 x7 x8) ∧
       (∀ x13 : Int,
        ∀ x14 : Bool,
        ∀ x15 : Int,
        ∀ x16 : Int,
        ∀ x17 : Int,
        ∀ x18 : Int,
        ∀ x19 : Int,
        ∀ x20 : Int,
        ∀ x21 : List (Int × Int × Int),
        ∀ x22 : List (Int × Int × Int),
        (x11 x13 x14 x15 x16 x17 x18 x19 x20 x21 x22) →
        ((litCmp BinOp.lss x13 (↑(List.length x2) : Int) = true) →
         (((0 : Int) ≤ x13) ∧
          (x13 < (↑(List.length x2) : Int))) ∧
         (∀ x23 : Int,
          (x23 = ix x2 x13) →
          ∀ x24 : Int,
          (x24 = if x15 < x23 then x23 else x15) →
          ((u64ok x23) ∧
           (∃ x25 : Wh,
            RepW x25 x16 x17 x18 x19 x20 x21 x22 x9)) ∧
          (∀ x26 : Int,
           ∀ x27 : Int,
           ∀ x28 : Int,
           ∀ x29 : Int,
           ∀ x30 : Int,
           ∀ x31 : List (Int × Int × Int),
           ∀ x32 : List (Int × Int × Int),
           ∀ x33 : List Int,
           (ToPost x23 x16 x17 x18 x19 x20 x21 x22 x9 x26 x27 x28 x29 x30 x31 x32 x33) →
           ((litCmp BinOp.leq x1 x24 = true) →
            (((!litCmp BinOp.eql (↑(List.length x33) : Int) (1 : Int) == !x14) = true) →
             (True) ∧
             (False)) ∧
            (((!litCmp BinOp.eql (↑(List.length x33) : Int) (1 : Int) == !x14) = false) →
             (True) ∧
             (True →
              ((litCmp BinOp.neq x26 x24 = true) →
               (True) ∧
               (False)) ∧
              ((litCmp BinOp.neq x26 x24 = false) →
               ((x14 = true) →
                (IsW x26 x27 x28 x29 x30 x31 x32 x9) ∧
                (True →
                 (((Prod.snd (Prod.snd (atC x31 x9 (0 : Int))) == true) = true) →
                  (True) ∧
                  (False)) ∧
                 (((Prod.snd (Prod.snd (atC x31 x9 (0 : Int))) == true) = false) →
                  ∀ x34 : Int,
                  (x34 = litArith BinOp.add IntKind.i64 x13 (1 : Int)) →
                  (x1 = x1) ∧
                  ((x2 = x2) ∧
                   (((↑(List.length x2) : Int) = (↑(List.length x2) : Int)) ∧
                    (((↑(List.length x2) : Int) = (↑(List.length x2) : Int)) ∧
                     ((x9 = x9) ∧
                      (((↑(List.length x9) : Int) = (↑(List.length x9) : Int)) ∧
                       ((x11 x34 true x24 x26 x27 x28 x29 x30 x31 x32) ∧
                        (x12 x34 true x24 x26 x27 x28 x29 x30 x31 x32 < x12 x13 x14 x15 x16 x17 x18 x19 x20 x21 x22)))))))))) ∧
               ((x14 = false) →
                (IsW x26 x27 x28 x29 x30 x31 x32 x9) ∧
                (True →
                 (((Prod.snd (Prod.snd (atC x31 x9 (0 : Int))) == litCmp BinOp.leq x1 x24) = true) →
                  (True) ∧
                  (False)) ∧
                 (((Prod.snd (Prod.snd (atC x31 x9 (0 : Int))) == litCmp BinOp.leq x1 x24) = false) →
                  ∀ x35 : Int,
                  (x35 = litArith BinOp.add IntKind.i64 x13 (1 : Int)) →
                  (x1 = x1) ∧
                  ((x2 = x2) ∧
                   (((↑(List.length x2) : Int) = (↑(List.length x2) : Int)) ∧
                    (((↑(List.length x2) : Int) = (↑(List.length x2) : Int)) ∧
                     ((x9 = x9) ∧
                      (((↑(List.length x9) : Int) = (↑(List.length x9) : Int)) ∧
                       ((x11 x35 (litCmp BinOp.leq x1 x24) x24 x26 x27 x28 x29 x30 x31 x32) ∧
                        (x12 x35 (litCmp BinOp.leq x1 x24) x24 x26 x27 x28 x29 x30 x31 x32 < x12 x13 x14 x15 x16 x17 x18 x19 x20 x21 x22)))))))))))))) ∧
           ((litCmp BinOp.leq x1 x24 = false) →
            (((!litCmp BinOp.eql (↑(List.length x33) : Int) (1 : Int) == false) = true) →
             (True) ∧
             (False)) ∧
            (((!litCmp BinOp.eql (↑(List.length x33) : Int) (1 : Int) == false) = false) →
             (True) ∧
             (True →
              ((litCmp BinOp.neq x26 x24 = true) →
               (True) ∧
               (False)) ∧
              ((litCmp BinOp.neq x26 x24 = false) →
               ((x14 = true) →
                (IsW x26 x27 x28 x29 x30 x31 x32 x9) ∧
                (True →
                 (((Prod.snd (Prod.snd (atC x31 x9 (0 : Int))) == true) = true) →
                  (True) ∧
                  (False)) ∧
                 (((Prod.snd (Prod.snd (atC x31 x9 (0 : Int))) == true) = false) →
                  ∀ x36 : Int,
                  (x36 = litArith BinOp.add IntKind.i64 x13 (1 : Int)) →
                  (x1 = x1) ∧
                  ((x2 = x2) ∧
                   (((↑(List.length x2) : Int) = (↑(List.length x2) : Int)) ∧
                    (((↑(List.length x2) : Int) = (↑(List.length x2) : Int)) ∧
                     ((x9 = x9) ∧
                      (((↑(List.length x9) : Int) = (↑(List.length x9) : Int)) ∧
                       ((x11 x36 true x24 x26 x27 x28 x29 x30 x31 x32) ∧
                        (x12 x36 true x24 x26 x27 x28 x29 x30 x31 x32 < x12 x13 x14 x15 x16 x17 x18 x19 x20 x21 x22)))))))))) ∧
               ((x14 = false) →
                (IsW x26 x27 x28 x29 x30 x31 x32 x9) ∧
                (True →
                 (((Prod.snd (Prod.snd (atC x31 x9 (0 : Int))) == litCmp BinOp.leq x1 x24) = true) →
                  (True) ∧
                  (False)) ∧
                 (((Prod.snd (Prod.snd (atC x31 x9 (0 : Int))) == litCmp BinOp.leq x1 x24) = false) →
                  ∀ x37 : Int,
                  (x37 = litArith BinOp.add IntKind.i64 x13 (1 : Int)) →
                  (x1 = x1) ∧
                  ((x2 = x2) ∧
                   (((↑(List.length x2) : Int) = (↑(List.length x2) : Int)) ∧
                    (((↑(List.length x2) : Int) = (↑(List.length x2) : Int)) ∧
                     ((x9 = x9) ∧
                      (((↑(List.length x9) : Int) = (↑(List.length x9) : Int)) ∧
                       ((x11 x37 (litCmp BinOp.leq x1 x24) x24 x26 x27 x28 x29 x30 x31 x32) ∧
                        (x12 x37 (litCmp BinOp.leq x1 x24) x24 x26 x27 x28 x29 x30 x31 x32 < x12 x13 x14 x15 x16 x17 x18 x19 x20 x21 x22))))))))))))))))) ∧
        ((litCmp BinOp.lss x13 (↑(List.length x2) : Int) = false) →
         ((u64ok (18446744073709551615 : Int)) ∧
          (∃ x38 : Wh,
           RepW x38 x16 x17 x18 x19 x20 x21 x22 x9)) ∧
         (∀ x39 : Int,
          ∀ x40 : Int,
          ∀ x41 : Int,
          ∀ x42 : Int,
          ∀ x43 : Int,
          ∀ x44 : List (Int × Int × Int),
          ∀ x45 : List (Int × Int × Int),
          ∀ x46 : List Int,
          (ToPost (18446744073709551615 : Int) x16 x17 x18 x19 x20 x21 x22 x9 x39 x40 x41 x42 x43 x44 x45 x46) →
          (((litCmp BinOp.eql (↑(List.length x46) : Int) (1 : Int) == !x14) = true) →
           (IsW x39 x40 x41 x42 x43 x44 x45 x9) ∧
           (True →
            (True) ∧
            ((litCmp BinOp.eql (lenW x40 x41 x42 x43 x45) (0 : Int) = true) ∧
             (True)))) ∧
          (((litCmp BinOp.eql (↑(List.length x46) : Int) (1 : Int) == !x14) = false) →
           (True) ∧
           (False)))))))))) := by
  rintro now at_ steps ⟨⟨⟨_, hn⟩, ha⟩, hs⟩
  have hn := u64_of hn
  have ha := u64_of ha
  simp only [gtrT, gtrF, lssT, lssF, leqT, leqF, geqT, geqF, eqlT, eqlF, neqT, neqF, true_and, and_true, true_implies, implies_true, Bool.not_eq_true', Bool.not_eq_false', bne_iff_ne, ne_eq, not_true_eq_false, not_false_eq_true, Int.toNat_natCast, same_self, reduceCtorEq, false_implies, List.nil_append]
  intro hlen
  have hu : ∀ n : Int, 0 ≤ n ∧ n < 18446744073709551616 → u64ok n := fun n h => h
  have h0 : RepW ([(false, 0, 0)], now) now 0 0 0 0 [((-1 : Int), (-1 : Int), (-1 : Int))] (List.replicate (258 : Nat) ((-1 : Int), (-1 : Int), (0 : Int))) [((0 : Int), (0 : Int))] := RepW.new (k := 1) hn
  refine ⟨hn, ⟨h0.is, ha, hu _ (by omega)⟩, ?_⟩
  intro a0 a1 a2 a3 L0 E0 M b hp
  obtain ⟨h1, e⟩ := h0.set ha (hu _ (by omega)) hp
  clear h0 hp
  rw [show setR ([(false, 0, 0)], now) 0 at_ 0 = (W1 false at_ now, true) from rfl] at h1 e
  subst e
  refine ⟨fun q => by simp at q, fun _ => ?_⟩
  refine ⟨fun k told time e d0 d1 d2 d3 L E => 0 ≤ k ∧ k ≤ steps.length ∧ e = time ∧ RepW (W1 told at_ time) time d0 d1 d2 d3 L E M ∧ (told = true → at_ ≤ time), fun k _ _ _ _ _ _ _ _ _ => ((steps.length : Int) - k).toNat, ⟨Int.le_refl _, Int.natCast_nonneg _, rfl, h1, fun q => by cases q⟩, ?_⟩
  rintro k told tm0 time d0 d1 d2 d3 L E ⟨k0, k1, he0, h, ht⟩
  subst he0
  refine ⟨fun hk => ⟨⟨k0, hk⟩, ?_⟩, fun hk => ⟨⟨hu _ (by omega), _, h⟩, ?_⟩⟩
  · rintro s hs' t rfl
    have hsu : u64ok s := by
      rw [hs']
      exact u64_ix hs k0 hk
    refine ⟨⟨hsu, _, h⟩, ?_⟩
    intro e f0 f1 f2 f3 L2 E2 o hp
    obtain ⟨h2, ho⟩ := hp _ h
    rw [(W1_to told at_ time s).1] at h2
    rw [(W1_to told at_ time s).2] at ho
    have he := h2.nw
    have hat := h2.at_ 0
    generalize hT : (if time < s then s else time) = t at *
    have htt : time ≤ t := by rw [← hT]; split <;> omega
    have he : t = e := he
    subst he
    have hadd : litArith .add .i64 k 1 = k + 1 := addI_ (by omega) (by omega)
    have hon : (atC L2 M 0).2.2 = !(told || decide (at_ ≤ t)) := by
      rw [hat]
      unfold wantR isR W1 ix
      cases (told || decide (at_ ≤ t)) <;> rfl
    have hol : (o.length : Int) = if !told && decide (at_ ≤ t) then 1 else 0 := by rw [ho]; split <;> rfl
    rw [hon, hol]
    cases told with
    | true =>
      have hd := ht rfl
      have hd : at_ ≤ t := by omega
      simp only [hd, decide_true, Bool.or_true, litCmp] at h2 ⊢
      simp [litCmp, hadd, h2.is, hd]
      have hg : (0 ≤ k + 1 ∧ k + 1 ≤ (steps.length : Int) ∧ RepW (W1 true at_ t) t f0 f1 f2 f3 L2 E2 M) ∧ max ((steps.length : Int) - (k + 1)) 0 < (steps.length : Int) - k := ⟨⟨by omega, by omega, h2⟩, by omega⟩
      exact ⟨hg, fun _ => hg⟩
    | false =>
      by_cases hd : at_ ≤ t
      · simp only [hd, decide_true, Bool.or_true] at h2 ⊢
        simp [litCmp, hadd, h2.is, hd]
        have hg : (0 ≤ k + 1 ∧ k + 1 ≤ (steps.length : Int) ∧ RepW (W1 true at_ t) t f0 f1 f2 f3 L2 E2 M) ∧ max ((steps.length : Int) - (k + 1)) 0 < (steps.length : Int) - k := ⟨⟨by omega, by omega, h2⟩, by omega⟩
        exact hg
      · simp only [hd, decide_false, Bool.or_false] at h2 ⊢
        simp [litCmp, hadd, h2.is, hd]
        have hg : (0 ≤ k + 1 ∧ k + 1 ≤ (steps.length : Int) ∧ RepW (W1 false at_ t) t f0 f1 f2 f3 L2 E2 M) ∧ max ((steps.length : Int) - (k + 1)) 0 < (steps.length : Int) - k := ⟨⟨by omega, by omega, h2⟩, by omega⟩
        exact fun _ => hg
  · intro e f0 f1 f2 f3 L2 E2 o hp
    obtain ⟨h2, ho⟩ := hp _ h
    rw [(W1_to told at_ time _).1] at h2
    rw [(W1_to told at_ time _).2] at ho
    have hle := h2.len_eq
    have htm := h.is.now
    have hT : at_ ≤ (if time < 18446744073709551615 then 18446744073709551615 else time) := by
      have := ha.2
      split <;> omega
    rw [hle]
    have hol : (o.length : Int) = if !told then 1 else 0 := by rw [ho]; simp only [hT, decide_true, Bool.and_true]; split <;> rfl
    rw [hol]
    simp only [hT, decide_true, Bool.or_true]
    refine ⟨fun _ => ⟨h2.is, by simp [W1, lenR, litCmp]⟩, ?_⟩
    cases told <;> simp [litCmp]
set_option maxRecDepth 10000 in
theorem far_ok : conFar.ok KK Try.prog 9 := by
  refine Con.of_vc ([(0, ⟨[], [(32, .d (.i .i64)), (8, .d .bo), (9, .d (.i .u64))], [(0, vW)], [0, 1], []⟩)]) ([]) TT_ok follows Try.func9 ?_ G39_ok (@toVC _ _ far_vc ?_)
  · kernel_rfl
  · kernel_rfl
noncomputable def G40 : List (FuncId × Con) := (9, conFar) :: G39
theorem G40_ok : GOK KK Try.prog G40 := GOK.cons (Callable.of Try.func9 (by kernel_rfl) (by kernel_rfl)) far_ok G39_ok
end Go.Proofs.Ytlkmdighjgpdlaa
/- The row of WheelFar. -/
namespace Go.Proofs.Ytlkmdighjgpdlaa.wheelFarDone
open Go Go.ChangeShapes Go.WideShapes Go.ChangeAt Go.RowKit Go.Joins Go.Fx

theorem own : ownKnob Try.prog.godebug = none := by kernel_rfl
theorem laidOut : laidOutB Try.prog = true := by kernel_rfl
set_option maxRecDepth 100000 in
theorem lifted (os : Os) (started : os.Started) (H : Type) (enc : TypeId × Value → H) :
    ReturnsInHanded {} Try.checked os 9 .any (Rows.wheelFarSpec.pre6 enc Try.prog Try.f9 Rows.wheelFarRow.domain false) (Rows.wheelFarSpec.post enc Try.prog Try.f9 false true false false) := by
  refine returnsInHanded_of_change (C := Try.checked) own started (by kernel_rfl) Try.func9
    (ChangeSpec.witness6 (enc := enc) (C := Try.checked) false ⟨#[], #[.int .u64 0, .int .u64 0, .slice none 0 0], []⟩ 8 (by kernel_rfl) (by kernel_rfl) (by kernel_rfl) (by kernel_rfl)) ?_
  intro W base args ds gs before hval hW hcnd _
  have hW' := hW
  obtain ⟨p, q, hA, hV, rfl, hfz, hnd⟩ := hW
  obtain ⟨rfl, rfl⟩ := trodVars_none hV
  obtain ⟨us, h1, h2, h3⟩ := rowIn (d := 8) ([.i .u64, .i .u64, .sl (.i .u64)]) hA (by kernel_rfl) (fun j t v ht hv => hval j t v (by simpa using ht) (by simpa using hv))
  have hc := lawT_walk far_ok us h1 h2 W _ h3
  rw [Array.toArray_toList] at hc
  have hA' := hA
  rw [Try.params9] at hA'
  obtain ⟨v0, vs0, d0, ds0, p0, q0, e0, rfl, rfl, _, r0⟩ := trodAll_cons hA'
  obtain ⟨v1, vs1, d1, ds1, p1, q1, e1, rfl, rfl, _, r1⟩ := trodAll_cons r0
  obtain ⟨v2, vs2, d2, ds2, p2, q2, e2, rfl, rfl, _, r2⟩ := trodAll_cons r1
  obtain ⟨_, rfl, rfl⟩ := trodAll_nil r2
  refine hc.mono fun e W' ⟨he, bel⟩ => ?_
  subst he
  exact ⟨_, rfl, _, _, _, [], _, [], hW', trodAll_mk1 (shut_bool Try.underlying4 _), rowOut laidOut bel (by kernel_rfl) hA, rfl, bel.frame _, fun h => by cases h⟩

theorem over : Rows.wheelFarRow.holds Try.pinned (OpenSpec.ofChange Rows.wheelFarSpec) :=
  OpenClaim.holds_of_wide 9 Try.f9 rfl rfl rfl rfl rfl rfl rfl ⟨rfl, rfl, rfl, rfl, rfl⟩ rfl rfl rfl rfl rfl (by kernel_rfl) Try.func9 (by kernel_rfl)
    (of_decide_eq_true (by kernel_rfl)) (by unfold Func.isWrapper; first | (rw [if_pos (by decide +kernel)]; kernel_rfl) | (rw [if_neg (by decide +kernel)]; exact ⟨rfl, rfl⟩))
    (fun os started H enc _ => lifted os started H enc)

/-- The statement. -/
theorem proved : Rows.WheelFarSaid := over
#print axioms proved
end Go.Proofs.Ytlkmdighjgpdlaa.wheelFarDone
