/-
  The reference's Same, of two rows of the same tokens: it says yes. Condition: at most 2^32 tokens.
-/
import Derived.Test.YthbpkmmnoeikoaaTokAll
namespace Go.Proofs.Ythbpkmmnoeikoaa
open Go Go.RowKit
set_option linter.unusedVariables false
set_option linter.unusedSimpArgs false

theorem tcells_at : ∀ (ts : List Tk.Tok) (k j : Nat) (hk : k < ts.length), j < 5 → (tcells ts)[k * 5 + j]? = (tokCells ts[k]).toList[j]?
  | [], k, j, hk, _ => by simp at hk
  | t :: ts, 0, j, _, hj => by
    have hl : (tokCells t).toList.length = 5 := rfl
    show ((tokCells t).toList ++ tcells ts)[0 * 5 + j]? = _
    rw [List.getElem?_append_left (by omega)]
    simp
  | t :: ts, k + 1, j, hk, hj => by
    have hl : (tokCells t).toList.length = 5 := rfl
    show ((tokCells t).toList ++ tcells ts)[(k + 1) * 5 + j]? = _
    rw [List.getElem?_append_right (by omega), hl, show (k + 1) * 5 + j - 5 = k * 5 + j by omega, tcells_at ts k j (by simp at hk; omega) hj]
    rfl

theorem addr_at (g j : Nat) : (⟨g, 0, none⟩ : Addr).add j = ⟨g, j, none⟩ := by
  unfold Addr.add
  by_cases h : j = 0
  · subst h; rfl
  · simp [h]
/-- a row of tokens as it is read -/
def ToksV (w : World) (v : Value) (ts : List Tk.Tok) : Prop :=
  ∃ p c, v = .slice p ts.length c ∧ ∀ k (hk : k < ts.length), ∃ b, p = some ⟨b, 0, none⟩ ∧ w.cell? ⟨b, k * 5, none⟩ = some (.int .i64 (ts[k].kind : Int)) ∧ w.cell? ⟨b, k * 5 + 1, none⟩ = some (.int .i64 (ts[k].at' : Int)) ∧
    w.cell? ⟨b, k * 5 + 2, none⟩ = some (.int .i64 (ts[k].end' : Int)) ∧ w.cell? ⟨b, k * 5 + 3, none⟩ = some (str ts[k].s) ∧ w.cell? ⟨b, k * 5 + 4, none⟩ = some (.int .i64 ts[k].n)
theorem ToksV.of {w : World} {base : Nat} {v : Value} {ts : List Tk.Tok} (h : w.ownsRow base 52 5 v ts.length (tcells ts)) : ToksV w v ts := by
  rcases h.2 with ⟨rfl, h0⟩ | ⟨g, cap, cur, rfl, h1⟩
  · refine ⟨none, 0, by rw [h0], fun k hk => ?_⟩
    omega
  · refine ⟨_, _, rfl, fun k hk => ⟨g, rfl, ?_⟩⟩
    have key : ∀ j u, j < 5 → (tokCells ts[k]).toList[j]? = some u → w.cell? ⟨g, k * 5 + j, none⟩ = some u := fun j u hj hu => by
      have := h.cells rfl (k * 5 + j) u ((tcells_at ts k j hk hj).trans hu)
      rwa [addr_at] at this
    exact ⟨key 0 _ (by omega) rfl, key 1 _ (by omega) rfl, key 2 _ (by omega) rfl, key 3 _ (by omega) rfl, key 4 _ (by omega) rfl⟩

def SmR (n : Nat) (w0 : World) (i : Value) (w : World) : Prop := ∃ k : Nat, k ≤ n ∧ i = .int .i64 (k : Int) ∧ ∃ m, w = w0.drewN m

set_option maxRecDepth 100000 in
set_option maxHeartbeats 4000000 in
theorem same_any (v1 v2 : Value) (ts : List Tk.Tok) (w : World) (hl : ts.length ≤ 4294967296) (h1 : ToksV w v1 ts) (h2 : ToksV w v2 ts) :
    Calls Try.prog 37 #[v1, v2] w fun e w' => e = .returned (.bool true) ∧ Below w.heap.size w w' := by
  obtain ⟨p1, c1, rfl, hf1⟩ := h1
  obtain ⟨p2, c2, rfl, hf2⟩ := h2
  have t0 : ((ts.length : Int) != (ts.length : Int)) = false := by simp
  go_enter Try.func37, Try.ntmps37
  go_wp2
  go_loopw [5] (SmR ts.length w) (fun i _ => ts.length - (intOf i).toNat)
  case atStart => exact ⟨0, Nat.zero_le _, by go_num, 0, rfl⟩
  case round =>
    obtain ⟨k, hk, rfl, m, rfl⟩ := hrel
    by_cases hlt : k < ts.length
    · have tl : decide ((k : Int) < (ts.length : Int)) = true := decide_eq_true (by omega)
      obtain ⟨b1, rfl, x0, x1, x2, x3, x4⟩ := hf1 k hlt
      obtain ⟨b2, rfl, y0, y1, y2, y3, y4⟩ := hf2 k hlt
      clear hf1 hf2
      go_wp2
      go_region
      go_wp2
      go_roundw
      case rel => exact ⟨k + 1, by omega, by go_num, m + 1, rfl⟩
      case measure => simp [intOf]; omega
    · obtain rfl : k = ts.length := by omega
      have tl : decide ((ts.length : Int) < (ts.length : Int)) = false := decide_eq_false (by omega)
      clear hf1 hf2
      go_wp2
      exact bodyPost_ret (v := .bool true) (by simp [results, Try.results37, go_sem]) rfl ⟨rfl, below_drewN (Below.refl _ _) m⟩

end Go.Proofs.Ythbpkmmnoeikoaa
