/-
  A list's next thing (the reader's first closure), where the thing gives up. Condition: as XJsonRow's; the thing by its contract.
-/
import Derived.Test.YthbpkmmnoeikoaaJm11
namespace Go.Proofs.Ythbpkmmnoeikoaa
open Go Go.RowKit
set_option linter.unusedVariables false
set_option linter.unusedSimpArgs false

set_option maxRecDepth 100000 in
set_option maxHeartbeats 40000000 in
theorem joneL_err (s : ByteArray) (rb : Nat) (d : Int) (th : Tk.Tok → Js.Re (Js.J × Tk.Tok)) (w0 wi : World) (h0 : rb < w0.heap.size) (kd : Int) (bs : Nat) (h3 : w0.heap.size + 3 ≤ bs) (hTH : ThOk s d th)
    (hbox : wi.heap[w0.heap.size]? = some (.cells #[.pointer (some ⟨rb, 0, none⟩)] 79 (0, 0))) (m : Nat) (q : Js.St) (t : Tk.Tok) (W : World) (hm : m ≤ 100000) (ht : t.end' ≤ s.size)
    (hI : LI w0 wi rb kd bs m q W) (hr : RdC W rb s t d) (hF : Js.Fu (Js.oneL th q t)) (o : Option (Nat × Int)) (hth : th t = .error o) :
    Calls Try.prog 83 #[.pointer (some ⟨w0.heap.size + 2, 0, none⟩), .pointer (some ⟨w0.heap.size, 0, none⟩)] W (OnPost rb s d (LI w0 wi rb kd bs (m + 1)) (fun W' => w0.grownBy W' (some rb)) (Js.oneL th q t)) := by
  obtain ⟨i0, hi, hz0, hz1, hz2⟩ := info_parts infoJson
  obtain ⟨hlen, vs, vn, vl, hX⟩ := hI
  have hFt : Js.Fu (th t) := fun e => by unfold Js.oneL at hF; rw [e] at hF; exact hF rfl
  have hxc : W.heap[w0.heap.size + 2]? = some (.cells #[.int .i64 kd, .int .i64 0, .string ⟨#[]⟩, vn, vl] 41 (0, 0)) := by obtain ⟨D, k, h⟩ := hX; exact h.x
  have hbx : W.heap[w0.heap.size]? = some (.cells #[.pointer (some ⟨rb, 0, none⟩)] 79 (0, 0)) := by obtain ⟨D, k, h⟩ := hX; exact (h.fr _ (by omega) (by omega) (by omega)).trans hbox
  have x4 : W.cell? ⟨w0.heap.size + 2, 4, none⟩ = some vl := (cell_of_row _ _ 4 _ _ (0, 0) hxc).trans rfl
  have b0 : W.cell? ⟨w0.heap.size, 0, none⟩ = some (.pointer (some ⟨rb, 0, none⟩)) := (cell_of_row _ _ 0 _ _ (0, 0) hbx).trans rfl
  subst hlen
  obtain ⟨p, cc, rfl⟩ : ∃ p c, vl = .slice p q.2.length c := by obtain ⟨D, k, h⟩ := hX; exact row_form h.own
  have hrlt : rb < W.heap.size := (Array.getElem?_eq_some_iff.1 hr).1
  have hbs : bs ≤ W.heap.size := by obtain ⟨D, k, h⟩ := hX; exact h.size
  have hgW : w0.grownBy W (some rb) := by obtain ⟨D, k, h⟩ := hX; exact h.gr
  have hbz : Below W.heap.size W (W.alloc (.cells zJ 41)).drew := ((Below.refl _ W).alloc (Nat.le_refl _) _).drew
  have hXd := hX.below ((Below.refl _ W).drew) h0 h3
  have hXz := hX.below hbz h0 h3
  have hrd : RdC W.drew rb s t d := hr
  have hrz : RdC (W.alloc (.cells zJ 41)).drew rb s t d := hr.below hbz
  have b0z := cell_below hbz b0
  have x4z := cell_below hbz x4
  unfold Js.oneL
  rw [hth]
  have hTHt := hTH rb t
  rw [hth] at hTHt hFt
  clear hF hTH
  unfold zJ at hrz hbz b0z x4z
  go_enter Try.func83, Try.ntmps83
  go_wp2_with fail
  go_region_dies
  all_goals first
    | ((with_reducible refine (hTHt _ hrd ht hFt).mono ?_); rintro e w1 ⟨hg1, ⟨j, t', hx, _⟩ | ⟨pp, hx, rfl⟩⟩; (cases hx); cases hx; exact ⟨rfl, .inr ⟨_, rfl, rfl, hgW.trans ((gb_of ((Below.refl _ W).drew)).trans hg1)⟩⟩)
    | ((with_reducible refine (hTHt _ hrz ht hFt).mono ?_); rintro e w1 ⟨hg1, ⟨j, t', hx, _⟩ | ⟨pp, hx, rfl⟩⟩; (cases hx); cases hx; exact ⟨rfl, .inr ⟨_, rfl, rfl, hgW.trans ((gb_of hbz).trans hg1)⟩⟩)

end Go.Proofs.Ythbpkmmnoeikoaa
