/- Names of calls: the contracts. -/
import Derived.Test.YtkhbodngiodklaaVb
set_option linter.all false
namespace Go.Proofs.Ytkhbodngiodklaa
open Go Go.Fx
noncomputable def namedL (name : ByteArray) : List Int → Int × Bool
  | [] => (0, false)
  | k :: ks => if same (nm k) name = true then (k, true) else namedL name ks
noncomputable def named (name : ByteArray) : Int × Bool := namedL name [0, 1, 2, 3, 4, 5, 6, 7, 8, 9, 10, 11, 12]
noncomputable def conNamed : Con := fnC [.d .tx] (fun (name : ByteArray) => .tup [i64 (named name).1, bb (named name).2])
def conAlive14 : Con := fnP [] True (.b (.l true))
def conCallNames : Con := lawT [.i .i64, .i .i64, .i .u64, .i .u64, .i .u64]
theorem ops13 {op : Int} (h0 : 0 ≤ op) (h1 : op < 13) : op = 0 ∨ op = 1 ∨ op = 2 ∨ op = 3 ∨ op = 4 ∨ op = 5 ∨ op = 6 ∨ op = 7 ∨ op = 8 ∨ op = 9 ∨ op = 10 ∨ op = 11 ∨ op = 12 := by omega
theorem nm_ne {i j : Int} (a : 0 ≤ i) (b : i < 13) (c : 0 ≤ j) (d : j < 13) : same (nm i) (nm j) = decide (i = j) := by
  by_cases e : i = j
  · subst e; simp [same]
  · have hd : nm i ≠ nm j := by
      intro q
      have q' : nmL i = nmL j := by
        unfold nm at q
        simpa using q
      rcases ops13 a b with rfl | rfl | rfl | rfl | rfl | rfl | rfl | rfl | rfl | rfl | rfl | rfl | rfl <;> rcases ops13 c d with rfl | rfl | rfl | rfl | rfl | rfl | rfl | rfl | rfl | rfl | rfl | rfl | rfl <;> first | exact e rfl | (revert q'; decide)
    simp [same, hd, e]
theorem named_nm {op : Int} (h0 : 0 ≤ op) (h1 : op < 13) : named (nm op) = (op, true) := by
  unfold named
  simp only [namedL]
  rw [nm_ne (i := 0) (by omega) (by omega) h0 h1, nm_ne (i := 1) (by omega) (by omega) h0 h1, nm_ne (i := 2) (by omega) (by omega) h0 h1, nm_ne (i := 3) (by omega) (by omega) h0 h1, nm_ne (i := 4) (by omega) (by omega) h0 h1, nm_ne (i := 5) (by omega) (by omega) h0 h1, nm_ne (i := 6) (by omega) (by omega) h0 h1, nm_ne (i := 7) (by omega) (by omega) h0 h1, nm_ne (i := 8) (by omega) (by omega) h0 h1, nm_ne (i := 9) (by omega) (by omega) h0 h1, nm_ne (i := 10) (by omega) (by omega) h0 h1, nm_ne (i := 11) (by omega) (by omega) h0 h1, nm_ne (i := 12) (by omega) (by omega) h0 h1]
  simp only [decide_eq_true_eq]
  rcases ops13 h0 h1 with rfl | rfl | rfl | rfl | rfl | rfl | rfl | rfl | rfl | rfl | rfl | rfl | rfl <;> rfl
/-- A name is of letters, each one byte. -/
def letterAt (s : ByteArray) (p : Nat) : Bool := decide (97 ≤ (Utf8.decode s p).1) && decide ((Utf8.decode s p).1 ≤ 122) && decide ((Utf8.decode s p).2 = 1)
theorem nm_letters {op : Int} (h0 : 0 ≤ op) (h1 : op < 13) : (List.range (nm op).size).all (letterAt (nm op)) = true := by
  rcases ops13 h0 h1 with rfl | rfl | rfl | rfl | rfl | rfl | rfl | rfl | rfl | rfl | rfl | rfl | rfl <;> decide +kernel
theorem nm_letter {op : Int} (h0 : 0 ≤ op) (h1 : op < 13) {p : Nat} (hp : p < (nm op).size) : 97 ≤ (Utf8.decode (nm op) p).1 ∧ (Utf8.decode (nm op) p).1 ≤ 122 ∧ (Utf8.decode (nm op) p).2 = 1 := by
  have := List.all_eq_true.1 (nm_letters h0 h1) p (by simpa using hp)
  simpa [letterAt, and_assoc] using this
theorem op_facts {op : Int} (h0 : 0 ≤ op) (h1 : op < 13) : (nm op).size ≠ 0 ∧ 0 ≤ ar op ∧ ar op ≤ 3 ∧ (kd op ≠ 0 → ar op ≠ 0 ∧ rt op ≠ 0) ∧ litArith .andNot .i64 (rt op) 15 = 0 := by
  rcases ops13 h0 h1 with rfl | rfl | rfl | rfl | rfl | rfl | rfl | rfl | rfl | rfl | rfl | rfl | rfl <;> decide +kernel
def cutI (op i a b c : Int) : Prop := ar op ≤ i ∧ (ar op ≤ 0 → 0 < i → a = 0) ∧ (ar op ≤ 1 → 1 < i → b = 0) ∧ (ar op ≤ 2 → 2 < i → c = 0)
theorem cutI_right {op i a b c : Int} (h : isop op = true) (hi : 3 ≤ i) (hc : cutI op i a b c) : rightC (op, a, b, c) = true := by
  obtain ⟨_, h1, h2, h3⟩ := hc
  unfold rightC
  simp only [h, Bool.true_and, Bool.and_eq_true, Bool.or_eq_true, decide_eq_true_eq, beq_iff_eq]
  refine ⟨⟨?_, ?_⟩, ?_⟩
  · by_cases q : 0 < ar op
    · exact .inl q
    · exact .inr (h1 (by omega) (by omega))
  · by_cases q : 1 < ar op
    · exact .inl q
    · exact .inr (h2 (by omega) (by omega))
  · by_cases q : 2 < ar op
    · exact .inl q
    · exact .inr (h3 (by omega) (by omega))
end Go.Proofs.Ytkhbodngiodklaa
