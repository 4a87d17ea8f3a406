/-
  The reference's Parse: Cs.parse, by states. Condition: the text is shorter than 2^32 - 15 bytes.
-/
import Derived.Test.YtnljlbhknbjinaaCsvSame
import Derived.Deep.AppendLies
namespace Go.Proofs.Ytnljlbhknbjinaa
open Go.RowKit
set_option linter.unusedVariables false
set_option linter.unusedSimpArgs false

theorem infoSr : (Try.prog.info? 38).map (fun i => (i.zero, i.size, i.bytes)) = some (some (.slice none 0 0), 1, 24) := by kernel_rfl
theorem infoTr : (Try.prog.info? 9).map (fun i => (i.zero, i.size, i.bytes)) = some (some (.string ⟨#[]⟩), 1, 16) := by kernel_rfl
theorem info_partsr {P : Program} {e : TypeId} {z : Value} {size bytes : Nat} (h : (P.info? e).map (fun i => (i.zero, i.size, i.bytes)) = some (some z, size, bytes)) :
    ∃ i, P.info? e = some i ∧ i.zero = some z ∧ i.size = size ∧ i.bytes = bytes := by
  cases he : P.info? e with
  | none => rw [he] at h; cases h
  | some i =>
    rw [he] at h
    simp only [Option.map_some, Option.some.injEq, Prod.mk.injEq] at h
    exact ⟨i, rfl, h.1, h.2.1, h.2.2⟩

theorem ext_one (s : ByteArray) (k : Nat) (h : k < s.size) : s.extract k (k + 1) = bs [s[k]] := by
  apply ByteArray.ext
  apply Array.ext'
  have h1 : (s.extract k (k + 1)).data.toList = [s[k]] := by
    rw [ByteArray.data_extract, Array.toList_extract, List.extract_eq_take_drop, drop_cons s k h]
    simp
  rw [h1]; rfl
theorem ne_byte {c : UInt8} {n : Nat} (d : UInt8) (hd : d.toNat = n) (h : c ≠ d) : ((c.toNat : Int) == (n : Int)) = false := by
  rw [beq_eq_false_iff_ne]; intro e; exact h (UInt8.toNat_inj.1 (by omega))
theorem eq_byte {c : UInt8} {n : Nat} (d : UInt8) (hd : d.toNat = n) (h : c = d) : ((c.toNat : Int) == (n : Int)) = true := by
  rw [beq_iff_eq, h, hd]

theorem owns_slicer {w : World} {base n size : Nat} {e : TypeId} {v : Value} {xs : List Value} (h : w.ownsRow base e size v n xs) : ∃ p k c, v = .slice p k c := by
  rcases h.2 with ⟨rfl, _⟩ | ⟨g, cap, cur, rfl, _⟩
  · exact ⟨_, _, _, rfl⟩
  · exact ⟨_, _, _, rfl⟩

/-- the rows, and the row begun -/
def Rw2 (N : Nat) (W : World) (vo : Value) (vs : List Value) (out : List (List Cs.F)) (vr : Value) (row : List Cs.F) : Prop :=
  Rws N W vo vs out ∧ W.ownsRow N 9 1 vr row.length (strs row) ∧ ∀ x ∈ vs, ∀ g, x.ownBlock = some g → vr.ownBlock ≠ some g
section
variable {N : Nat} {W W' w1 : World} {vo vr v' : Value} {vs : List Value} {out : List (List Cs.F)} {row : List Cs.F} {f : Cs.F}
theorem Rw2.ck (h : Rw2 N W vo vs out vr row) (hc : CK W W') : Rw2 N W' vo vs out vr row := ⟨h.1.ck hc, hc.owns h.2.1, h.2.2⟩
theorem Rw2.start (N : Nat) (W : World) : Rw2 N W (.slice none 0 0) [] [] (.slice none 0 0) [] := ⟨Rws.start _ _, World.ownsRow_nil _ _ _ _, fun x hx => by simp at hx⟩
theorem Rw2.addf (h : Rw2 N W vo vs out vr row) (hg : W.grownBy w1 vr.ownBlock) (hown : w1.ownsRow N 9 1 v' (row.length + 1) (strs row ++ [str f])) (ha : v'.ownBlock = vr.ownBlock ∨ v'.ownBlock = some W.heap.size) : Rw2 N w1 vo vs out v' (row ++ [f]) := by
  obtain ⟨⟨h1, h2, h3⟩, h4, h5⟩ := h
  refine ⟨⟨h1.kept hg ?_, fun j x r hx hr => (h2 j x r hx hr).kept hg ?_, h3⟩, by simpa [strs] using hown, ?_⟩
  · cases hb : vo.ownBlock with
    | none => exact .inl rfl
    | some g => exact .inr (fun e => owns_ne (by decide) h1 h4 g hb e.symm)
  · cases hb : x.ownBlock with
    | none => exact .inl rfl
    | some g => exact .inr (fun e => h5 x (List.mem_of_getElem? hx) g hb e.symm)
  · intro x hx g hb
    rcases ha with ha | ha
    · rw [ha]; exact h5 x hx g hb
    · rw [ha]
      intro e
      cases e
      obtain ⟨j, hj⟩ := List.getElem?_of_mem hx
      have hjl := (List.getElem?_eq_some_iff.1 hj).1
      have hl : vs.length = out.length := by have := h1.1; omega
      have := (h2 j x (out[j]'(by omega)) hj (by simp)).lt _ hb
      omega
theorem Rw2.addrow (h : Rw2 N W vo vs out vr row) (hg : W.grownBy w1 vo.ownBlock) (hown : w1.ownsRow N 38 1 v' (out.length + 1) (vs ++ [vr])) : Rw2 N w1 v' (vs ++ [vr]) (out ++ [row]) (.slice none 0 0) [] := by
  obtain ⟨⟨h1, h2, h3⟩, h4, h5⟩ := h
  have hl : vs.length = out.length := by have := h1.1; omega
  refine ⟨⟨by simpa using hown, ?_, ?_⟩, World.ownsRow_nil _ _ _ _, fun x _ g _ => by simp [Value.ownBlock]⟩
  · intro j x r hx hr
    have keep : ∀ (y : Value) (q : List Cs.F), W.ownsRow N 9 1 y q.length (strs q) → w1.ownsRow N 9 1 y q.length (strs q) := fun y q hy => hy.kept hg (by
      cases hb : y.ownBlock with
      | none => exact .inl rfl
      | some g => exact .inr (fun e => owns_ne (by decide) hy h1 g hb e.symm))
    rcases getElem?_snoc_cases hx with hx | ⟨hj, rfl⟩
    · rcases getElem?_snoc_cases hr with hr | ⟨hj, rfl⟩
      · exact keep x r (h2 j x r hx hr)
      · have := (List.getElem?_eq_some_iff.1 hx).1; omega
    · rcases getElem?_snoc_cases hr with hr | ⟨_, rfl⟩
      · have := (List.getElem?_eq_some_iff.1 hr).1; omega
      · exact keep _ _ h4
  · rw [List.pairwise_append]
    refine ⟨h3, by simp, ?_⟩
    intro a ha b hb g hg
    simp at hb; subst hb
    exact h5 a ha g hg
end

/-- at a byte's head -/
def RpR (s : ByteArray) (w0 : World) (v5 v6 v7 v8 v9 v10 : Value) (w : World) : Prop :=
  ∃ (k st : Nat) (bg : Bool) (f : Cs.F) (row : List Cs.F) (out : List (List Cs.F)) (vs : List Value), k ≤ s.size ∧ st ≤ 3 ∧ v10 = .int .i64 (k : Int) ∧ v9 = .bool bg ∧ v8 = .int .i64 (st : Int) ∧ v7 = str f ∧ Rw2 w0.heap.size w v5 vs out v6 row ∧
    f.length ≤ k ∧ row.length ≤ k ∧ out.length ≤ k ∧ Below w0.heap.size w0 w ∧ Hid (Cs.parse s.data.toList = Cs.R (s.data.toList.drop k) st bg f row out k)

set_option maxRecDepth 100000 in
set_option maxHeartbeats 8000000 in
theorem rparse_any (s : ByteArray) (w : World) (hs : s.size ≤ 4294967280) :
    Calls Try.prog 11 #[.string s] w fun e w' => ∃ v, e = .returned (.tuple #[v, .int .i64 ((Cs.parse s.data.toList).2.1 : Int), .int .i64 ((Cs.parse s.data.toList).2.2 : Int)]) ∧ RowsV w' v (Cs.parse s.data.toList).1 ∧ Below w.heap.size w w' := by
  obtain ⟨i0, hi, hz0, hz1, hz2⟩ := info_partsr infoSr
  obtain ⟨i9, gi, gz0, gz1, gz2⟩ := info_partsr infoTr
  go_enter Try.func11, Try.ntmps11
  go_wp2_with fail
  go_loopw [5, 6, 7, 8, 9, 10] (RpR s w) (fun _ _ _ _ _ v _ => s.size - (intOf v).toNat)
  case atStart => exact ⟨0, 0, false, [], [], [], [], Nat.zero_le _, by omega, by go_num, rfl, by go_num, rfl, Rw2.start _ _, by simp, by simp, by simp, Below.refl _ _, by unfold Hid; rw [List.drop_zero]; exact (Cs.ref_parse _).symm⟩
  case round =>
    obtain ⟨k, st, bg, f, row, out, vs, hk, hst, rfl, rfl, rfl, rfl, hrw, hf, hro, hou, hbl, HP⟩ := hrel
    have hbase := hbl.size
    by_cases hlt : k < s.size
    · have hd := drop_cons s k hlt
      have hR := Cs.R_cons s[k] (s.data.toList.drop (k + 1)) st bg f row out k
      have hee := ext_one s k hlt
      have hea : bs f ++ s.extract k (k + 1) = bs (f ++ [s[k]]) := by rw [hee, bs_append]
      have hea2 : bs f ++ (⟨#[34]⟩ : ByteArray) = bs (f ++ [34]) := by rw [← bs_append]; rfl
      have h11 : (k : Int) + 1 ≤ (s.size : Int) := by omega
      have z1 : (bs f).size = f.length := bs_size f
      have z2 : (s.extract k (k + 1)).size = 1 := by rw [hee]; rfl
      rw [← hd] at hR
      have HPP := HP.out.trans hR
      clear hR HP
      by_cases h2 : st = 2
      · subst h2
        rw [if_pos rfl] at HPP
        have t2 : (((2 : Nat) : Int) == 2) = true := rfl
        by_cases hc : s[k] = 34
        · rw [if_pos hc] at HPP
          have tc : ((s[k].toNat : Int) == 34) = true := eq_byte 34 rfl hc
          have HQ := Lib.hid HPP
          clear hc HPP hd hee hea hea2
          go_wp2_with fail
          go_roundw
          case rel => exact ⟨k + 1, 3, bg, f, row, out, vs, by omega, by omega, by go_num, rfl, by go_num, rfl, hrw, by omega, by omega, by omega, hbl, HQ⟩
          case measure => simp [intOf]; omega
        · rw [if_neg hc] at HPP
          have tc : ((s[k].toNat : Int) == 34) = false := ne_byte 34 rfl hc
          have HQ := Lib.hid HPP
          have HE := Lib.hid hea
          clear hc HPP hd hee hea hea2
          go_wp2_with fail
          go_roundw
          case rel => exact ⟨k + 1, 2, bg, f ++ [s[k]], row, out, vs, by omega, by omega, by go_num, rfl, by go_num, congrArg Value.string HE.out, hrw, by simp; omega, by omega, by omega, hbl, HQ⟩
          case measure => simp [intOf]; omega
      · rw [if_neg h2] at HPP
        have t2 : ((st : Int) == 2) = false := beq_eq_false_iff_ne.2 (by omega)
        by_cases hc : s[k] = 34
        · have tc : ((s[k].toNat : Int) == 34) = true := eq_byte 34 rfl hc
          by_cases h0 : st = 0
          · subst h0
            rw [if_pos ⟨hc, rfl⟩] at HPP
            have HQ := Lib.hid HPP
            clear hc HPP hd hee hea hea2
            go_wp2_with fail
            go_roundw
            case rel => exact ⟨k + 1, 2, true, f, row, out, vs, by omega, by omega, by go_num, rfl, by go_num, rfl, hrw, by omega, by omega, by omega, hbl, HQ⟩
            case measure => simp [intOf]; omega
          · rw [if_neg (fun h => h0 h.2)] at HPP
            have t0 : ((st : Int) == 0) = false := beq_eq_false_iff_ne.2 (by omega)
            by_cases h3 : st = 3
            · rw [if_pos ⟨hc, h3⟩] at HPP
              have t3 : ((st : Int) == 3) = true := beq_iff_eq.2 (by omega)
              have HQ := Lib.hid HPP
              have HE := Lib.hid hea2
              clear hc HPP hd hee hea hea2
              go_wp2_with fail
              go_roundw
              case rel => exact ⟨k + 1, 2, bg, f ++ [34], row, out, vs, by omega, by omega, by go_num, rfl, by go_num, congrArg Value.string HE.out, hrw, by simp; omega, by omega, by omega, hbl, HQ⟩
              case measure => simp [intOf]; omega
            · have t3 : ((st : Int) == 3) = false := beq_eq_false_iff_ne.2 (by omega)
              have tk : ((s[k].toNat : Int) == 44) = false := ne_byte 44 rfl (by rw [hc]; decide)
              have tr : ((s[k].toNat : Int) == 13) = false := ne_byte 13 rfl (by rw [hc]; decide)
              rw [if_neg (fun h => h3 h.2), if_neg (by rw [hc]; decide), if_neg (fun h => by have := h.1; rw [hc] at this; exact absurd this (by decide)), if_pos (.inr (.inl hc))] at HPP
              have HQ := Lib.hid HPP
              clear hc HPP hd hee hea hea2
              go_wp2_with fail
              go_ret3
              exact ⟨_, by rw [HQ.out]; rfl, by rw [HQ.out]; exact RowsV.mk0 (p := none) (cap := 0), hbl⟩
        · have tc : ((s[k].toNat : Int) == 34) = false := ne_byte 34 rfl hc
          rw [if_neg (fun h => hc h.1), if_neg (fun h => hc h.1)] at HPP
          by_cases hk2 : s[k] = 44
          · have tk : ((s[k].toNat : Int) == 44) = true := eq_byte 44 rfl hk2
            rw [if_pos hk2] at HPP
            have HQ := Lib.hid HPP
            clear hc hk2 HPP hd hee hea hea2
            go_wp2_with (at_builtin; refine wpList_append_own_at _ rfl _ _ 38 rfl w.heap.size 9 i9 (.string ⟨#[]⟩) 1 16 Try.underlying38 gi gz0 gz1 gz2 rfl (by decide) _ _ _ rfl (hrw.2.1.alloc _) ⟨wr.heap.size, 0, none⟩ 1 1 [str f] rfl rfl (cell_one_new _ _ _) (by simp [Value.oneCell']) (by unfold maxLen; omega) (by omega) (by simp; omega) ?_; intro v1 w1 hown1 hg1 _ ha1; obtain ⟨vp1, vk1, vc1, rfl⟩ := owns_slicer hown1; have hrw1 := (hrw.ck (CK.below ((Below.refl _ wr).alloc (Nat.le_refl _) _))).addf hg1 hown1 ha1; have hbl1 := (hbl.alloc hbase _).grown hg1 (by simp; omega) (fun j e => (hrw.2.1.lt j e).1))
            go_roundw
            case rel => exact ⟨k + 1, 0, true, [], row ++ [f], out, vs, by omega, by omega, by go_num, rfl, by go_num, rfl, hrw1, by simp, by simp; omega, by omega, hbl1, HQ⟩
            case measure => simp [intOf]; omega
          · have tk : ((s[k].toNat : Int) == 44) = false := ne_byte 44 rfl hk2
            rw [if_neg hk2] at HPP
            by_cases hcr : s[k] = 13 ∧ (s.data.toList.drop (k + 1)).head? = some 10
            · rw [if_pos hcr] at HPP
              have tr : ((s[k].toNat : Int) == 13) = true := eq_byte 13 rfl hcr.1
              have hk1 : k + 1 < s.size := by
                rcases Nat.lt_or_ge (k + 1) s.size with h | h
                · exact h
                · have := hcr.2; rw [List.drop_eq_nil_of_le (by rw [len_data]; omega)] at this; cases this
              have hnx : s[k + 1] = 10 := by have := hcr.2; rw [drop_cons s (k + 1) hk1] at this; simpa using this
              have tn : ((s[k + 1].toNat : Int) == 10) = true := eq_byte 10 rfl hnx
              have hn1 : (k : Int) + 1 < (s.size : Int) := by omega
              have htl : (s.data.toList.drop (k + 1)).tail = s.data.toList.drop (k + 2) := by rw [List.tail_drop]
              rw [htl] at HPP
              have HQ := Lib.hid HPP
              clear hc hk2 hcr hnx htl HPP hd hee hea hea2
              go_wp2_with (first | (at_builtin; refine wpList_append_own_at _ rfl _ _ 38 rfl w.heap.size 9 i9 (.string ⟨#[]⟩) 1 16 Try.underlying38 gi gz0 gz1 gz2 rfl (by decide) _ _ _ rfl (hrw.2.1.alloc _) ⟨wr.heap.size, 0, none⟩ 1 1 [str f] rfl rfl (cell_one_new _ _ _) (by simp [Value.oneCell']) (by unfold maxLen; omega) (by omega) (by simp; omega) ?_; intro v1 w1 hown1 hg1 _ ha1; obtain ⟨vp1, vk1, vc1, rfl⟩ := owns_slicer hown1; have hrw1 := (hrw.ck (CK.below ((Below.refl _ wr).alloc (Nat.le_refl _) _))).addf hg1 hown1 ha1; have hbl1 := (hbl.alloc hbase _).grown hg1 (by simp; omega) (fun j e => (hrw.2.1.lt j e).1)) | (at_builtin; refine wpList_append_own_at _ rfl _ _ 23 rfl w.heap.size 38 i0 (.slice none 0 0) 1 24 Try.underlying23 hi hz0 hz1 hz2 rfl (by decide) _ _ _ rfl (hrw1.1.1.alloc _) ⟨w1.heap.size, 0, none⟩ 1 1 [.slice vp1 vk1 vc1] rfl rfl (cell_one_new _ _ _) (by simp [Value.oneCell']) (by unfold maxLen; omega) (by omega) (by have := hbl1.size; simp; omega) ?_; intro v2 w2 hown2 hg2 _ ha2; have hrw2 := (hrw1.ck (CK.below ((Below.refl _ w1).alloc (Nat.le_refl _) _))).addrow hg2 hown2; have hbl2 := (hbl1.alloc hbl1.size _).grown hg2 (by have := hbl1.size; simp; omega) (fun j e => (hrw1.1.1.lt j e).1)))
              go_roundw
              case rel => exact ⟨k + 2, 0, false, [], [], out ++ [row ++ [f]], vs ++ [.slice vp1 vk1 vc1], by omega, by omega, by go_num, rfl, by go_num, rfl, hrw2, by simp, by simp, by simp; omega, hbl2, HQ⟩
              case measure => simp [intOf]; omega
            · rw [if_neg hcr] at HPP
              by_cases h13 : s[k] = 13
              · rw [if_pos (.inr (.inr (.inl h13)))] at HPP
                have tr : ((s[k].toNat : Int) == 13) = true := eq_byte 13 rfl h13
                have hcase : (∃ h : k + 1 < s.size, s[k + 1] ≠ 10) ∨ s.size ≤ k + 1 := by
                  rcases Nat.lt_or_ge (k + 1) s.size with h | h
                  · exact .inl ⟨h, fun e => hcr ⟨h13, by rw [drop_cons s (k + 1) h, e]; rfl⟩⟩
                  · exact .inr h
                clear h13
                rcases hcase with ⟨hk1, hnx⟩ | hk1
                · have tn : ((s[k + 1].toNat : Int) == 10) = false := ne_byte 10 rfl hnx
                  have hn1 : (k : Int) + 1 < (s.size : Int) := by omega
                  by_cases h3 : st = 3
                  · have t3 : ((st : Int) == 3) = true := beq_iff_eq.2 (by omega)
                    have HQ := Lib.hid HPP
                    clear hc hk2 hcr HPP hd hee hea hea2
                    go_wp2_with fail
                    go_ret3
                    exact ⟨_, by rw [HQ.out]; rfl, by rw [HQ.out]; exact RowsV.mk0 (p := none) (cap := 0), hbl⟩
                  · have t3 : ((st : Int) == 3) = false := beq_eq_false_iff_ne.2 (by omega)
                    have HQ := Lib.hid HPP
                    clear hc hk2 hcr HPP hd hee hea hea2
                    go_wp2_with fail
                    go_ret3
                    exact ⟨_, by rw [HQ.out]; rfl, by rw [HQ.out]; exact RowsV.mk0 (p := none) (cap := 0), hbl⟩
                · have hn1 : (s.size : Int) ≤ (k : Int) + 1 := by omega
                  have hn2 : ¬ ((k : Int) + 1 < (s.size : Int)) := by omega
                  by_cases h3 : st = 3
                  · have t3 : ((st : Int) == 3) = true := beq_iff_eq.2 (by omega)
                    have HQ := Lib.hid HPP
                    clear hc hk2 hcr HPP hd hee hea hea2
                    go_wp2_with fail
                    go_ret3
                    exact ⟨_, by rw [HQ.out]; rfl, by rw [HQ.out]; exact RowsV.mk0 (p := none) (cap := 0), hbl⟩
                  · have t3 : ((st : Int) == 3) = false := beq_eq_false_iff_ne.2 (by omega)
                    have HQ := Lib.hid HPP
                    clear hc hk2 hcr HPP hd hee hea hea2
                    go_wp2_with fail
                    go_ret3
                    exact ⟨_, by rw [HQ.out]; rfl, by rw [HQ.out]; exact RowsV.mk0 (p := none) (cap := 0), hbl⟩
              · have tr : ((s[k].toNat : Int) == 13) = false := ne_byte 13 rfl h13
                by_cases h3 : st = 3
                · have t3 : ((st : Int) == 3) = true := beq_iff_eq.2 (by omega)
                  rw [if_pos (.inl h3)] at HPP
                  clear h13
                  have HQ := Lib.hid HPP
                  clear hc hk2 hcr HPP hd hee hea hea2
                  go_wp2_with fail
                  go_ret3
                  exact ⟨_, by rw [HQ.out]; rfl, by rw [HQ.out]; exact RowsV.mk0 (p := none) (cap := 0), hbl⟩
                · have t3 : ((st : Int) == 3) = false := beq_eq_false_iff_ne.2 (by omega)
                  by_cases h10 : s[k] = 10
                  · have tl : ((s[k].toNat : Int) == 10) = true := eq_byte 10 rfl h10
                    rw [if_pos (.inr (.inr (.inr h10)))] at HPP
                    clear h13 h10
                    have HQ := Lib.hid HPP
                    clear hc hk2 hcr HPP hd hee hea hea2
                    go_wp2_with fail
                    go_ret3
                    exact ⟨_, by rw [HQ.out]; rfl, by rw [HQ.out]; exact RowsV.mk0 (p := none) (cap := 0), hbl⟩
                  · have tl : ((s[k].toNat : Int) == 10) = false := ne_byte 10 rfl h10
                    rw [if_neg (by rintro (h | h | h | h); exact h3 h; exact hc h; exact h13 h; exact h10 h)] at HPP
                    have HQ := Lib.hid HPP
                    have HE := Lib.hid hea
                    clear hc hk2 hcr h13 h10 HPP hd hee hea hea2
                    go_wp2_with fail
                    go_roundw
                    case rel => exact ⟨k + 1, 1, true, f ++ [s[k]], row, out, vs, by omega, by omega, by go_num, rfl, by go_num, congrArg Value.string HE.out, hrw, by simp; omega, by omega, by omega, hbl, HQ⟩
                    case measure => simp [intOf]; omega
    · obtain rfl : k = s.size := by omega
      have HQ : Hid (Cs.parse s.data.toList = if st = 2 then ([], s.size, 2) else (if bg then out ++ [row ++ [f]] else out, s.size, 0)) := by
        unfold Hid
        rw [HP.out, List.drop_eq_nil_of_le (by rw [len_data]; omega), Cs.R_nil]
      clear HP
      by_cases h2 : st = 2
      · have t2 : ((st : Int) == 2) = true := beq_iff_eq.2 (by omega)
        have HW : Hid (Cs.parse s.data.toList = ([], s.size, 2)) := by have := HQ.out; rw [if_pos h2] at this; exact this
        go_wp2_with fail
        go_ret3
        exact ⟨_, by rw [HW.out]; rfl, by rw [HW.out]; exact RowsV.mk0 (p := none) (cap := 0), hbl⟩
      · have t2 : ((st : Int) == 2) = false := beq_eq_false_iff_ne.2 (by omega)
        have HW : Hid (Cs.parse s.data.toList = (if bg then out ++ [row ++ [f]] else out, s.size, 0)) := by have := HQ.out; rw [if_neg h2] at this; exact this
        cases bg with
        | false =>
          go_wp2_with fail
          go_ret3
          exact ⟨_, by rw [HW.out]; rfl, by rw [HW.out]; exact RowsV.of_rws hrw.1, hbl⟩
        | true =>
          go_wp2_with (first | (at_builtin; refine wpList_append_own_at _ rfl _ _ 38 rfl w.heap.size 9 i9 (.string ⟨#[]⟩) 1 16 Try.underlying38 gi gz0 gz1 gz2 rfl (by decide) _ _ _ rfl (hrw.2.1.alloc _) ⟨wr.heap.size, 0, none⟩ 1 1 [str f] rfl rfl (cell_one_new _ _ _) (by simp [Value.oneCell']) (by unfold maxLen; omega) (by omega) (by simp; omega) ?_; intro v1 w1 hown1 hg1 _ ha1; obtain ⟨vp1, vk1, vc1, rfl⟩ := owns_slicer hown1; have hrw1 := (hrw.ck (CK.below ((Below.refl _ wr).alloc (Nat.le_refl _) _))).addf hg1 hown1 ha1; have hbl1 := (hbl.alloc hbase _).grown hg1 (by simp; omega) (fun j e => (hrw.2.1.lt j e).1)) | (at_builtin; refine wpList_append_own_at _ rfl _ _ 23 rfl w.heap.size 38 i0 (.slice none 0 0) 1 24 Try.underlying23 hi hz0 hz1 hz2 rfl (by decide) _ _ _ rfl (hrw1.1.1.alloc _) ⟨w1.heap.size, 0, none⟩ 1 1 [.slice vp1 vk1 vc1] rfl rfl (cell_one_new _ _ _) (by simp [Value.oneCell']) (by unfold maxLen; omega) (by omega) (by have := hbl1.size; simp; omega) ?_; intro v2 w2 hown2 hg2 _ ha2; have hrw2 := (hrw1.ck (CK.below ((Below.refl _ w1).alloc (Nat.le_refl _) _))).addrow hg2 hown2; have hbl2 := (hbl1.alloc hbl1.size _).grown hg2 (by have := hbl1.size; simp; omega) (fun j e => (hrw1.1.1.lt j e).1)))
          go_ret3
          exact ⟨_, by rw [HW.out]; rfl, by rw [HW.out]; exact RowsV.of_rws hrw2.1, hbl2⟩

end Go.Proofs.Ytnljlbhknbjinaa
