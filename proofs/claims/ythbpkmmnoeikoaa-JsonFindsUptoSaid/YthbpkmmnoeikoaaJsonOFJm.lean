/-
  An object's next member (the reader's second closure), where its thing gives up. Condition: as XJsonRow's; the thing by its contract.
-/
import Derived.Test.YthbpkmmnoeikoaaJm13
namespace Go.Proofs.Ythbpkmmnoeikoaa
open Go Go.RowKit Go.Deep
set_option linter.unusedVariables false
set_option linter.unusedSimpArgs false

theorem key_ok {l : List UInt8} {ns : List (List UInt8)} {t : Tk.Tok} {k : List (List UInt8) × Tk.Tok} (h : Js.key l ns t = .ok k) :
    t.kind = 7 ∧ ¬ t.s ∈ ns ∧ ∃ t1 t2, Js.nx l t = .ok t1 ∧ t1.kind = 5 ∧ Js.nx l t1 = .ok t2 ∧ k = (ns ++ [t.s], t2) := by
  unfold Js.key at h
  split at h
  · cases h
  · rename_i h7
    split at h
    · cases h
    · rename_i hin
      cases h1 : Js.nx l t with
      | error e => rw [h1] at h; cases h
      | ok t1 =>
        rw [h1] at h
        dsimp only at h
        split at h
        · cases h
        · rename_i h5
          cases h2 : Js.nx l t1 with
          | error e => rw [h2] at h; cases h
          | ok t2 =>
            rw [h2] at h
            cases h
            exact ⟨by omega, hin, t1, t2, rfl, by omega, h2, rfl⟩
theorem infoStrJ : (Try.prog.info? 9).map (fun i => (i.zero, i.size, i.bytes)) = some (some (.string ⟨#[]⟩), 1, 16) := by kernel_rfl
theorem nbel (w1 : World) (a : List UInt8) : Below w1.heap.size w1 (w1.alloc (.cells #[str a] 9)) := (Below.refl _ w1).alloc (Nat.le_refl _) _
section
variable {w0 wi W W' : World} {rb bs n : Nat} {kd : Int} {ns : List (List UInt8)} {xs : List Js.J} {vs : List Value} {ex : List (Value × Js.J)} {vn vx vl : Value} {cs : List Value}
theorem xg_nm (h : Xg w0 wi rb kd bs ns xs vs ex vn vx vl n cs W) : W.ownsRow bs 9 1 vn ns.length (ns.map str) := by obtain ⟨D, k, h⟩ := h; exact h.nm
theorem xg_x3 (h : Xg w0 wi rb kd bs ns xs vs ex vn vx vl n cs W) : W.cell? ⟨w0.heap.size + 2, 3, none⟩ = some vn := by
  obtain ⟨D, k, h⟩ := h
  exact (cell_of_row _ _ 3 _ _ (0, 0) h.x).trans rfl
theorem xg_x3n (h : Xg w0 wi rb kd bs ns xs vs ex vn vx vl n cs W) (h3 : w0.heap.size + 3 ≤ bs) (hg : W.grownBy W' vn.ownBlock) : W'.cell? ⟨w0.heap.size + 2, 3, none⟩ = some vn ∧ W'.frozen? ⟨w0.heap.size + 2, 3, none⟩ = false := by
  obtain ⟨D, k, h⟩ := h
  have hs := h.size
  have hx : W'.heap[w0.heap.size + 2]? = _ := (hg.block _ (by omega) (fun e => by have := (h.nm.lt _ e.symm).1; omega)).trans h.x
  exact ⟨(cell_of_row _ _ 3 _ _ (0, 0) hx).trans rfl, by simp [World.frozen?, hx]⟩
theorem xg_ob (h : Xg w0 wi rb kd (w0.heap.size + 5) ns xs vs ex vn vx vl n cs W) (h0 : rb < w0.heap.size) {ms : List (List UInt8)} (hO : ObF w0 rb ms wi) : ObF w0 rb ms W := by
  obtain ⟨D, k, h⟩ := h
  exact hO.same (fun b h1 h2 h4 => h.fr b h2 (by omega) h4)
theorem xg_gr (h : Xg w0 wi rb kd bs ns xs vs ex vn vx vl n cs W) : w0.grownBy W (some rb) := by obtain ⟨D, k, h⟩ := h; exact h.gr
end
theorem oneO_fin {s : ByteArray} {rb : Nat} {t' : Tk.Tok} {d : Int} {w0 wi Wf : World} {ns : List (List UInt8)} {xs : List Js.J} {j : Js.J} {X : World → Prop} {vs' : List Value} {vn vl : Value} {m : Nat} (h0 : rb < w0.heap.size) (hm : xs.length = m) (hn : ns.length = m + 1) (hO : ObF w0 rb ns wi) (hr : RdC Wf rb s t' d)
    (hX : Xg w0 wi rb 6 (w0.heap.size + 5) ns (xs ++ [j]) vs' [] vn vl vl (xs ++ [j]).length ((vs'.map c5).flatten) Wf) :
    OnPost rb s d (LO w0 rb (m + 1)) X (.ok ((ns, xs ++ [j]), t')) (.returned (.tuple #[])) Wf :=
  .inl ⟨(ns, xs ++ [j]), t', rfl, rfl, hr, ⟨by simp [hm], vs', vn, vl, hX.base⟩, hn, xg_ob hX h0 hO⟩

set_option maxRecDepth 100000 in
set_option maxHeartbeats 16000000 in
theorem joneO_err (s : ByteArray) (rb : Nat) (d : Int) (th : Tk.Tok → Js.Re (Js.J × Tk.Tok)) (w0 : World) (h0 : rb < w0.heap.size) (hs : s.size ≤ 4294967280) (hTH : ThOk s d th) (m : Nat) (q : Js.St) (t : Tk.Tok) (W : World) (hm : m ≤ 100000) (ht : t.end' ≤ s.size) (hts : t.s.length ≤ maxLen)
    (hI : LO w0 rb m q W) (hr : RdC W rb s t d) (hF : Js.Fu (Js.oneO s.data.toList th q t)) (k : List (List UInt8) × Tk.Tok) (hk : Js.key s.data.toList q.1 t = .ok k) (o : Option (Nat × Int)) (hth : th k.2 = .error o) :
    Calls Try.prog 84 #[.pointer (some ⟨w0.heap.size, 0, none⟩), .pointer (some ⟨w0.heap.size + 4, 0, none⟩), .pointer (some ⟨w0.heap.size + 2, 0, none⟩)] W (OnPost rb s d (LO w0 rb (m + 1)) (fun W' => w0.grownBy W' (some rb)) (Js.oneO s.data.toList th q t)) := by
  obtain ⟨⟨hlen, vs, vn, vl, hX⟩, hln, hO⟩ := hI
  obtain ⟨b0, m0⟩ := ob_cells hO
  obtain ⟨c0, c1, c2, c3, c4, c5, c6⟩ := rd_cells hr
  obtain ⟨i0, hi, hz0, hz1, hz2⟩ := info_parts infoJson
  obtain ⟨is, hsi, hsz0, hsz1, hsz2⟩ := info_parts infoStrJ
  have hgW : w0.grownBy W (some rb) := by obtain ⟨D, k, h⟩ := hX; exact h.gr
  have hbs : w0.heap.size + 5 ≤ W.heap.size := xg_size hX
  obtain ⟨h7, hin, t1, t2, hx1, h5, hx2, rfl⟩ := key_ok hk
  have ht1 := (Js.nx_wf hx1 (by rw [len_data]; exact ht)).1
  have ht2 := (Js.nx_wf hx2 ht1).1
  rw [len_data] at ht1 ht2
  have hFt : Js.Fu (th t2) := fun e => by unfold Js.oneO at hF; rw [hk] at hF; dsimp only at hF; rw [e] at hF; exact hF rfl
  unfold Js.oneO
  rw [hk]
  dsimp only
  have hrd : RdC W.drew rb s t d := hr
  have hgWd : w0.grownBy W.drew (some rb) := hgW.trans (gb_of ((Below.refl _ W).drew))
  have t7 : ((t.kind : Int) == 7) = true := by simp [h7]
  have hm7 := jmust_any s rb t d true 2 W.drew hrd
  have hTHt := hTH rb t2
  dsimp only at hth
  rw [hth] at hTHt hFt ⊢
  dsimp only
  clear hTH
  have hm7q : ∀ n, Calls Try.prog 49 #[.pointer (some ⟨rb, 0, none⟩), .bool true, .int .i64 2] (W.drewN n) fun e w' => e = .returned (.tuple #[]) ∧ w' = W.drewN n := fun n =>
    (jmust_any s rb t d true 2 (W.drewN n) hr).mono (fun e w' h => ⟨h.2, h.1.symm⟩)
  have hlkq : ∀ n, (Instr.lookup 122 (.map (some (w0.heap.size + 3))) (str t.s) false).run Try.prog (W.drewN n) = .ok (.bool false) (W.drewN n) := fun n => by
    have h := (show SetM (W.drewN n) (w0.heap.size + 3) q.1 from hO.set).asked t.s hts
    rw [decide_eq_false hin] at h
    exact h
  have HIN := Lib.hid hin
  clear hin hm7 h7
  go_enter Try.func84, Try.ntmps84
  go_wp2_with fail
  go_quiet ((go_at_call 49; exact Calls.quiet_of_same (hm7q _)))
  have hrq : RdC (W.drewN nq) rb s t d := hr
  have hOq : ObF w0 rb q.1 (W.drewN nq) := hO.same (fun _ _ _ _ => rfl)
  have hXq := hX.below (below_drewN (Below.refl _ W) nq) h0 (by omega)
  have hgq : w0.grownBy (W.drewN nq) (some rb) := hgW.trans (gb_of (below_drewN (Below.refl _ W) nq))
  have hlk := hlkq nq
  have hbq : w0.heap.size + 5 ≤ (W.drewN nq).heap.size := hbs
  clear hlkq hm7q hX hO hr hgW hrd hgWd b0 m0 c0 c1 c2 c3 c4 c5 c6 hbs
  generalize W.drewN nq = Wd at *
  obtain ⟨b0, m0⟩ := ob_cells hOq
  obtain ⟨c0, c1, c2, c3, c4, c5, c6⟩ := rd_cells hrq
  have hm6 := jmust_any s rb t d true 6 Wd hrq
  go_wp2_with fail
  refine hm6.mono ?_
  rintro e w1 ⟨rfl, rfl⟩
  clear hm6
  go_wp2_with (at_mapUpdate; refine wpList_told _ rfl _ _ _ rfl _ q.1 rfl hOq.set (by unfold maxLen; omega) t.s hts rfl rfl ?_; intro w2 hs2 hg2; have hO2 := ob_told hOq hs2 hg2 hbq; obtain ⟨b0b, m0b⟩ := ob_cells hO2)
  have hr2 := rd_app hrq hg2 (by simp; omega)
  have hX2 := hXq.low hg2 (by omega) (by omega) h0
  have hb2 : w0.heap.size + 5 ≤ w2.heap.size := xg_size hX2
  have hgr2 : w0.grownBy w2 (some rb) := by obtain ⟨D, k, h⟩ := hX2; exact h.gr
  clear hlk b0 m0 c0 c1 c2 c3 c4 c5 c6 hXq hOq hrq hgq hbq hs2 hg2
  have hn := jnext_post s rb t d w2 hs ht hr2
  rw [hx1] at hn
  clear hx1 hF hk
  subst hlen
  have HLN := Lib.hid hln
  have hnm1 : q.1.length + 1 ≤ maxLen := by unfold maxLen; omega
  have hnm2 : (q.1.length + 1) * 16 ≤ 140737488355328 := by omega
  clear hln
  obtain ⟨p, cc, rfl⟩ : ∃ p c, vl = .slice p q.2.length c := by obtain ⟨D, k, h⟩ := hX2; exact row_form h.own
  obtain ⟨np, nc, rfl⟩ : ∃ p c, vn = .slice p q.1.length c := by obtain ⟨D, k, h⟩ := hX2; exact row_form h.nm
  go_wp2_with fail
  refine hn.mono ?_
  rintro e w3 ⟨hg3, ⟨t1', hx, rfl, hr3⟩ | ⟨pp, hx, _⟩⟩
  case inr => cases hx
  cases hx
  have hX3 := hX2.reader hg3 h0 (by omega)
  have hO3 := xg_ob hX3 h0 hO2
  clear hn b0b m0b hr2
  obtain ⟨b0, m0⟩ := ob_cells hO3
  have hne := jneed_any s rb t1 d 5 w3 hs ht1 hr3
  rw [hx2] at hne
  go_wp2_with fail
  refine hne.mono ?_
  rintro e w4 (⟨_, hg4, ⟨t2', hx, rfl, hr4⟩ | ⟨pp, hx, _⟩⟩ | ⟨h5', _, _⟩)
  case inl.inr => cases hx
  case inr => exact absurd h5 h5'
  cases hx
  have hX4 := hX3.reader hg4 h0 (by omega)
  clear hne b0 m0 hx2
  have x3 := xg_x3 hX4
  have hr4n := hr4.below (nbel w4 t.s)
  have hX4n := hX4.below (nbel w4 t.s) h0 (by omega)
  have x3n := xg_x3 hX4n
  go_wp2_with (at_builtin; go_loud (refine wpList_append_lies _ rfl _ _ 38 rfl (w0.heap.size + 5) 9 is _ 1 16 Try.underlying38 hsi hsz0 hsz1 hsz2 rfl (by decide) _ _ _ rfl (xg_nm hX4n) ⟨w4.heap.size, 0, none⟩ 1 1 [str t.s] rfl rfl (World.news_of_block (heap_alloc_new w4 _)) (by simp [Value.oneCell']) (by omega) hnm1 hnm2 (xg_size hX4n) _ rfl ?_; intro gn capn w5 hownn hgrown horn hgltn; obtain ⟨xc3, xf3⟩ := xg_x3n hX4n (by omega) hgrown))
  have hX5 := hX4n.names h0 (by omega) hownn hgrown horn
  have hr5 := rd_set (rd_app hr4n hgrown (fun e => by have := ((xg_nm hX4n).lt rb e.symm).1; omega)) (show w0.heap.size + 2 ≠ rb by omega) 3 (.slice (some ⟨gn, 0, none⟩) (q.1.length + 1) capn)
  clear x3 x3n xc3 xf3 hX4n hX4 hr4n hr4 hX3 hO3 hX2 hownn hgrown horn
  generalize w5.setCell ⟨w0.heap.size + 2, 3, none⟩ (.slice (some ⟨gn, 0, none⟩) (q.1.length + 1) capn) = w6 at *
  have hO6 := xg_ob hX5 h0 hO2
  obtain ⟨b0, m0⟩ := ob_cells hO6
  have x4 := xg_x4 hX5
  have hgW := xg_gr hX5
  have hbz : Below w6.heap.size w6 (w6.alloc (.cells zJ 41)).drew := ((Below.refl _ w6).alloc (Nat.le_refl _) _).drew
  have h3 : w0.heap.size + 3 ≤ w0.heap.size + 5 := by omega
  have hXd := hX5.below ((Below.refl _ w6).drew) h0 h3
  have hXz := hX5.below hbz h0 h3
  have hrd : RdC w6.drew rb s t2 d := hr5
  have hrz : RdC (w6.alloc (.cells zJ 41)).drew rb s t2 d := hr5.below hbz
  have hrlt : rb < w6.heap.size := (Array.getElem?_eq_some_iff.1 hr5).1
  have b0z := cell_below hbz b0
  have x4z := cell_below hbz x4
  unfold zJ at hrz hbz b0z x4z
  go_region_dies
  all_goals first
    | ((with_reducible refine (hTHt _ hrd ht2 hFt).mono ?_); rintro e w1 ⟨hg1, ⟨j, t', hx, _⟩ | ⟨pp, hx, rfl⟩⟩; (cases hx); cases hx; exact ⟨rfl, .inr ⟨_, rfl, rfl, hgW.trans ((gb_of ((Below.refl _ w6).drew)).trans hg1)⟩⟩)
    | ((with_reducible refine (hTHt _ hrz ht2 hFt).mono ?_); rintro e w1 ⟨hg1, ⟨j, t', hx, _⟩ | ⟨pp, hx, rfl⟩⟩; (cases hx); cases hx; exact ⟨rfl, .inr ⟨_, rfl, rfl, hgW.trans ((gb_of hbz).trans hg1)⟩⟩)

end Go.Proofs.Ythbpkmmnoeikoaa
