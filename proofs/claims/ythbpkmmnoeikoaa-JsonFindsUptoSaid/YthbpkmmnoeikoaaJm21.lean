/-
  Several texts in one, each with its own head below. Conditions: as each says.
-/
import Derived.Test.YthbpkmmnoeikoaaJm13
import Derived.Test.YthbpkmmnoeikoaaJm20
import Derived.Test.YthbpkmmnoeikoaaJm04
/-
  json.Print; the parts of the law's alive() of layer 8, one by one. No condition but what a thing that is read bears.
-/
namespace Go.Proofs.Ythbpkmmnoeikoaa
open Go Go.RowKit
set_option linter.unusedVariables false
set_option linter.unusedSimpArgs false

theorem Pz.sz {j : Js.J} (h : Pz j) : Sz 4294967280 j := by
  induction h with
  | mk kd m s ns xs h0 h1 h2 h3 ih => exact .mk _ _ _ _ _ (by omega) (fun x hx => by have := h2 x hx; omega) ih
theorem bstrk_any (B b : Nat) (l : List UInt8) (w : World) (h : IsF B b l w) :
    Calls Try.prog 78 #[.pointer (some ⟨b, 0, none⟩)] w fun e w' => e = .returned (.string ⟨l.toArray⟩) ∧ Below B w w' := by
  have hlt := h.lt
  exact (Any.Builder_String_any_k Try.lays169 Try.builderExtra169 B b l w h (by omega)).mono (fun e w' h => ⟨h.1, h.2.2.1⟩)

set_option maxRecDepth 100000 in
set_option maxHeartbeats 4000000 in
theorem jprint_any (k : Nat) (j : Js.J) (v : Value) (S : Nat → Prop) (W : World) (h : JVn k S W v j) (hS : ∀ b, S b → b < W.heap.size) (hB : Bd 1000000 j) (hP : Pz j) (hrt : rt k j = true) (hl : (txt k j).length ≤ 1000000) :
    Calls Try.prog 44 #[v] W fun e W' => e = .returned (.tuple #[.string (bs (txt k j)), .int .i64 0]) ∧ Below W.heap.size W W' := by
  obtain ⟨u0, u1, u2, u3, u4, u5, u6, u7, u8, rfl⟩ := h.form2
  have hb : Below W.heap.size W (W.alloc (.cells #[.int .i64 u0, .int .i64 u1, .string u2, .slice u3 u4 u5, .slice u6 u7 u8] 41)) := (Below.refl _ W).alloc (Nat.le_refl _) _
  have hx := heap_alloc_new W (.cells #[.int .i64 u0, .int .i64 u1, .string u2, .slice u3 u4 u5, .slice u6 u7 u8] 41)
  have hc := jright_any k j _ S _ (h.below hS hb) (fun b h => Nat.lt_of_lt_of_le (hS b h) hb.size) hB hP.sz
  rw [hrt] at hc
  have hlx : W.heap.size < (W.alloc (.cells #[.int .i64 u0, .int .i64 u1, .string u2, .slice u3 u4 u5, .slice u6 u7 u8] 41)).heap.size := by simp
  go_enter Try.func44, Try.ntmps44
  go_wp2_with (go_at_call 30; (with_reducible refine hc.mono ?_); rintro e w1 ⟨rfl, hb1⟩; obtain ⟨x0, x1, x2, x3, x4⟩ := tok_cells ((hb1.block _ hlx).trans hx); obtain ⟨y0, y1, y2, y3, y4⟩ := tok_cells ((((Below.refl _ w1).alloc (Nat.le_refl _) (.cells #[.pointer none, .slice none 0 0] 109)).block _ (Nat.lt_of_lt_of_le hlx hb1.size)).trans ((hb1.block _ hlx).trans hx)))
  have hb2 := hb.trans (hb1.mono hb.size)
  have hb3 := hb2.alloc hb2.size (.cells #[.pointer none, .slice none 0 0] 109)
  have hS1 : ∀ b, S b → b < w1.heap.size := fun b h => Nat.lt_of_lt_of_le (hS b h) hb2.size
  refine (jput_any k j _ S w1.heap.size w1.heap.size [] _ (h.below hS hb3) hS1 (IsF.of (IsB.new w1)) hB hP hrt (by simpa using hl)).mono ?_
  rintro e w2 ⟨rfl, hF, hb4, _⟩
  rw [List.nil_append] at hF
  go_wp2_with fail
  refine (bstrk_any _ _ _ _ hF).mono ?_
  rintro e w3 ⟨rfl, hb5⟩
  go_wp2_with fail
  exact bodyPost_ret (v := .tuple #[.string (bs (txt k j)), .int .i64 0]) (by simp [results, Try.results44, go_sem]; rfl) rfl ⟨rfl, hb3.trans ((hb4.trans hb5).mono hb2.size)⟩

def jA : Js.J := .mk 5 0 [] [] [.mk 2 1 [] [] [], .mk 0 0 [] [] []]
def jX : Js.J := .mk 6 0 [] [[97]] [jA]
theorem bd_jA : Bd 1000000 jA := .mk _ _ _ _ _ (by decide) (by decide) (fun i h => by
  match i, h with
  | 0, _ => exact bd_leaf _ _ _ _
  | 1, _ => exact bd_leaf _ _ _ _)
theorem bd_jX : Bd 1000000 jX := .mk _ _ _ _ _ (by decide) (by decide) (fun i h => by
  match i, h with
  | 0, _ => exact bd_jA)
theorem pz_leaf (kd n : Int) (h : -9223372036854775808 ≤ n ∧ n ≤ 9223372036854775807) : Pz (.mk kd n [] [] []) := .mk _ _ _ _ _ h (Nat.zero_le _) (fun x h => by simp at h) (fun i h => by simp at h)
theorem pz_jX : Pz jX := .mk _ _ _ _ _ (by decide) (by decide) (fun x h => by simp at h; subst h; decide) (fun i h => by
  match i, h with
  | 0, _ => exact .mk _ _ _ _ _ (by decide) (by decide) (fun x h => by simp at h) (fun i h => by
    match i, h with
    | 0, _ => exact pz_leaf _ _ (by decide)
    | 1, _ => exact pz_leaf _ _ (by decide)))
theorem al_p1 : Js.parse [123, 34, 97, 34, 58, 91, 49, 44, 110, 117, 108, 108, 93, 125] 2 = .ok jX := by kernel_rfl
theorem al_p2 : Js.parse [123, 34, 97, 34, 58, 49, 44, 34, 97, 34, 58, 50, 125] 2 = .error (some (7, 6)) := by kernel_rfl
theorem al_p3 : Js.parse [91, 91, 93, 93] 1 = .error (some (1, 3)) := by kernel_rfl
theorem al_rt (k : Nat) : rt (k + 3) jX = true := by kernel_rfl
theorem al_txt (k : Nat) : txt (k + 3) jX = [123, 34, 97, 34, 58, 91, 49, 44, 110, 117, 108, 108, 93, 125] := by kernel_rfl
theorem al_dp (k : Nat) : dp (k + 3) jX = 2 := by kernel_rfl
theorem al_sm (k : Nat) : sm (k + 3) jX jA = false := by kernel_rfl

theorem alive_p1 (w : World) : Calls Try.prog 25 #[.string ⟨#[123, 34, 97, 34, 58, 91, 49, 44, 110, 117, 108, 108, 93, 125]⟩, .int .i64 2] w fun e w' => Below w.heap.size w w' ∧ ∃ (a b : Int) (x : ByteArray) (p1 : Option Addr) (n1 q1 : Nat) (p2 : Option Addr) (n2 q2 k : Nat),
    e = .returned (.tuple #[.agg #[.int .i64 a, .int .i64 b, .string x, .slice p1 n1 q1, .slice p2 n2 q2], .int .i64 14, .int .i64 0]) ∧ JVn (k + 3) (fun b => w.heap.size ≤ b ∧ b < w'.heap.size) w' (.agg #[.int .i64 a, .int .i64 b, .string x, .slice p1 n1 q1, .slice p2 n2 q2]) jX := by
  refine (jparse_any _ 2 w (by decide) (by decide) (by decide)).mono ?_
  rintro e w' ⟨hb, ⟨j, v, k, hj, rfl, hv⟩ | ⟨p, hp, _⟩⟩
  · have := hj.symm.trans al_p1
    cases this
    obtain ⟨a, b, x, p1, n1, q1, p2, n2, q2, rfl⟩ := hv.form2
    exact ⟨hb, a, b, x, p1, n1, q1, p2, n2, q2, k, rfl, hv.le (by omega)⟩
  · have := hp.symm.trans al_p1
    cases this
theorem alive_p2 (w : World) : Calls Try.prog 25 #[.string ⟨#[123, 34, 97, 34, 58, 49, 44, 34, 97, 34, 58, 50, 125]⟩, .int .i64 2] w fun e w' => e = .returned (.tuple #[.agg #[.int .i64 0, .int .i64 0, .string ⟨#[]⟩, .slice none 0 0, .slice none 0 0], .int .i64 7, .int .i64 6]) ∧ Below w.heap.size w w' := by
  refine (jparse_any _ 2 w (by decide) (by decide) (by decide)).mono ?_
  rintro e w' ⟨hb, ⟨j, v, k, hj, rfl, hv⟩ | ⟨p, hp, rfl⟩⟩
  · have := hj.symm.trans al_p2
    cases this
  · have := hp.symm.trans al_p2
    cases this
    exact ⟨rfl, hb⟩
theorem alive_p3 (w : World) : Calls Try.prog 25 #[.string ⟨#[91, 91, 93, 93]⟩, .int .i64 1] w fun e w' => e = .returned (.tuple #[.agg #[.int .i64 0, .int .i64 0, .string ⟨#[]⟩, .slice none 0 0, .slice none 0 0], .int .i64 1, .int .i64 3]) ∧ Below w.heap.size w w' := by
  refine (jparse_any _ 1 w (by decide) (by decide) (by decide)).mono ?_
  rintro e w' ⟨hb, ⟨j, v, k, hj, rfl, hv⟩ | ⟨p, hp, rfl⟩⟩
  · have := hj.symm.trans al_p3
    cases this
  · have := hp.symm.trans al_p3
    cases this
    exact ⟨rfl, hb⟩
section
variable {k : Nat} {S : Nat → Prop} {v : Value} {W : World}
theorem alive_print (h : JVn (k + 3) S W v jX) (hS : ∀ b, S b → b < W.heap.size) : Calls Try.prog 44 #[v] W fun e W' => e = .returned (.tuple #[.string ⟨#[123, 34, 97, 34, 58, 91, 49, 44, 110, 117, 108, 108, 93, 125]⟩, .int .i64 0]) ∧ Below W.heap.size W W' := by
  have h1 := jprint_any (k + 3) jX v S W h hS bd_jX pz_jX (al_rt k) (by rw [al_txt]; decide)
  rw [al_txt] at h1
  exact h1
theorem alive_right (h : JVn (k + 3) S W v jX) (hS : ∀ b, S b → b < W.heap.size) : Calls Try.prog 30 #[v] W fun e W' => e = .returned (.bool true) ∧ Below W.heap.size W W' := by
  have h1 := jright_any (k + 3) jX v S W h hS bd_jX pz_jX.sz
  rw [al_rt] at h1
  exact h1
theorem alive_deep (h : JVn (k + 3) S W v jX) (hS : ∀ b, S b → b < W.heap.size) : Calls Try.prog 45 #[v] W fun e W' => e = .returned (.int .i64 2) ∧ Below W.heap.size W W' := by
  have h1 := jdeep_any (k + 3) jX v S W h hS bd_jX (by rw [al_dp]; decide)
  rw [al_dp] at h1
  exact h1
theorem alive_same (h : JVn (k + 3) S W v jX) (hS : ∀ b, S b → b < W.heap.size) : Calls Try.prog 31 #[v, v] W fun e W' => e = .returned (.bool true) ∧ Below W.heap.size W W' := by
  have h1 := jsame_any (k + 3) jX jX v v S S W h h hS hS bd_jX bd_jX
  rw [sm_refl _ _ _ h] at h1
  exact h1
theorem alive_nsame {u : Value} (h : JVn (k + 3) S W v jX) (hu : JVn (k + 2) S W u jA) (hS : ∀ b, S b → b < W.heap.size) : Calls Try.prog 31 #[v, u] W fun e W' => e = .returned (.bool false) ∧ Below W.heap.size W W' := by
  have h1 := jsame_any (k + 3) jX jA v u S S W h (hu.le (by omega)) hS hS bd_jX bd_jA
  rw [al_sm] at h1
  exact h1
theorem alive_find (h : JVn (k + 3) S W v jX) (hS : ∀ b, S b → b < W.heap.size) : Calls Try.prog 29 #[v, .string ⟨#[97]⟩] W fun e W' => Below W.heap.size W W' ∧ ∃ (b : Int) (x : ByteArray) (p1 : Option Addr) (n1 q1 : Nat) (p2 : Option Addr) (n2 q2 : Nat),
    e = .returned (.tuple #[.agg #[.int .i64 5, .int .i64 b, .string x, .slice p1 n1 q1, .slice p2 n2 q2], .bool true]) ∧ JVn (k + 2) S W' (.agg #[.int .i64 5, .int .i64 b, .string x, .slice p1 n1 q1, .slice p2 n2 q2]) jA := by
  refine (jfind_any (k + 2) S v 6 0 [] [[97]] [jA] [97] W h hS (by decide) (by decide)).mono ?_
  rintro e W' ⟨hb, r, hr, ⟨_, i, hi, rfl, u, rfl, hu⟩ | ⟨hc, _⟩⟩
  · obtain rfl : i = 0 := by simp at hi; omega
    have hu' : JVn (k + 2) S W' u jA := hu
    obtain ⟨vn, vl, rfl, ⟨p1, c1, rfl, _⟩, ⟨p2, c2, rfl, _⟩⟩ := id hu'
    exact ⟨hb, _, _, _, _, _, _, _, _, rfl, hu'⟩
  · exfalso
    refine hc ⟨rfl, ?_⟩
    rcases hr with ⟨_, hm⟩ | ⟨i, hi, rfl, _⟩
    · exact absurd (by decide : ([97] : List UInt8) ∈ [[97]]) hm
    · simp at hi
      subst hi
      decide
end

end Go.Proofs.Ythbpkmmnoeikoaa

/-
  The law's alive() of layer 8: the document's examples hold. No condition.
-/
namespace Go.Proofs.Ythbpkmmnoeikoaa
open Go Go.RowKit
set_option linter.unusedVariables false
set_option linter.unusedSimpArgs false

theorem JVn.upto {k : Nat} {S : Nat → Prop} {W W' : World} {v : Value} {j : Js.J} {n : Nat} (h : JVn k S W v j) (hS : ∀ b, S b → b < n) (hb : Below n W W') : JVn k S W' v j := JVn.keep (fun _ h => h) (fun b h => hb.block b (hS b h)) _ _ _ h

set_option maxHeartbeats 4000000 in
set_option maxRecDepth 100000 in
theorem jalive_any (w : World) : Calls Try.prog 24 #[] w fun e w' => e = .returned (.bool true) ∧ Below w.heap.size w w' := by
  go_enter Try.func24, Try.ntmps24
  go_wp2_with fail
  refine (alive_p1 _).mono ?_
  rintro e w1 ⟨hb1, a, b, x, p1, n1, q1, p2, n2, q2, k, rfl, hj⟩
  have hx := heap_alloc_new w1 (.cells #[.int .i64 a, .int .i64 b, .string x, .slice p1 n1 q1, .slice p2 n2 q2] 41)
  have hxl : w1.heap.size < (w1.alloc (.cells #[.int .i64 a, .int .i64 b, .string x, .slice p1 n1 q1, .slice p2 n2 q2] 41)).heap.size := by simp
  have hS : ∀ c, (fun c => w.heap.size ≤ c ∧ c < w1.heap.size) c → c < w1.heap.size := fun c h => h.2
  have hba := (Below.refl w1.heap.size w1).alloc (Nat.le_refl _) (.cells #[.int .i64 a, .int .i64 b, .string x, .slice p1 n1 q1, .slice p2 n2 q2] 41)
  generalize hSS : (fun c => w.heap.size ≤ c ∧ c < w1.heap.size) = S at *
  clear hSS
  go_wp2_with fail
  generalize w1.alloc (.cells #[.int .i64 a, .int .i64 b, .string x, .slice p1 n1 q1, .slice p2 n2 q2] 41) = W1 at *
  refine (alive_p2 _).mono ?_
  rintro e w2 ⟨rfl, hb2⟩
  have hc2 := hb2.alloc hb2.size (.cells #[.int .i64 0, .int .i64 0, .string ⟨#[]⟩, .slice none 0 0, .slice none 0 0] 41)
  go_wp2_with fail
  generalize w2.alloc (.cells #[.int .i64 0, .int .i64 0, .string ⟨#[]⟩, .slice none 0 0, .slice none 0 0] 41) = W2 at *
  refine (alive_p3 _).mono ?_
  rintro e w3 ⟨rfl, hb3⟩
  have hc3 := hb3.alloc hb3.size (.cells #[.int .i64 0, .int .i64 0, .string ⟨#[]⟩, .slice none 0 0, .slice none 0 0] 41)
  have hd3 := hc2.trans (hc3.mono hc2.size)
  have hx3 : (w3.alloc (.cells #[.int .i64 0, .int .i64 0, .string ⟨#[]⟩, .slice none 0 0, .slice none 0 0] 41)).heap[w1.heap.size]? = _ := (hd3.block _ hxl).trans hx
  obtain ⟨x0, x1, x2, x3, x4⟩ := tok_cells hx3
  go_wp2_with fail
  generalize w3.alloc (.cells #[.int .i64 0, .int .i64 0, .string ⟨#[]⟩, .slice none 0 0, .slice none 0 0] 41) = W3 at *
  have hl1 : w1.heap.size ≤ W1.heap.size := by omega
  have hs3 : w1.heap.size ≤ W3.heap.size := Nat.le_trans hl1 hd3.size
  have hS3 : ∀ c, S c → c < W3.heap.size := fun c h => Nat.lt_of_lt_of_le (hS c h) hs3
  have hj3 : JVn (k + 3) S W3 _ jX := (hj.upto hS hba).upto hS (hd3.mono hl1)
  have hw3 : Below w.heap.size w W3 := hb1.trans ((hba.trans (hd3.mono hl1)).mono hb1.size)
  clear hj hb2 hb3 hc2 hc3 hd3 hx hba hb1
  refine (alive_print hj3 hS3).mono ?_
  rintro e w4 ⟨rfl, hb4⟩
  have hxl3 : w1.heap.size < W3.heap.size := (Array.getElem?_eq_some_iff.1 hx3).1
  have hx4 := (hb4.block _ hxl3).trans hx3
  clear x0 x1 x2 x3 x4
  obtain ⟨x0, x1, x2, x3, x4⟩ := tok_cells hx4
  have hS4 : ∀ c, S c → c < w4.heap.size := fun c h => Nat.lt_of_lt_of_le (hS3 c h) hb4.size
  have hj4 := hj3.upto hS3 hb4
  go_wp2_with fail
  refine (alive_find hj4 hS4).mono ?_
  rintro e w5 ⟨hb5, b', x', r1, m1, s1, r2, m2, s2, rfl, hu⟩
  have hxl4 : w1.heap.size < w4.heap.size := (Array.getElem?_eq_some_iff.1 hx4).1
  have hS5 : ∀ c, S c → c < w5.heap.size := fun c h => Nat.lt_of_lt_of_le (hS4 c h) hb5.size
  have hy5 := heap_alloc_new w5 (.cells #[.int .i64 5, .int .i64 b', .string x', .slice r1 m1 s1, .slice r2 m2 s2] 41)
  have hyl : w5.heap.size < (w5.alloc (.cells #[.int .i64 5, .int .i64 b', .string x', .slice r1 m1 s1, .slice r2 m2 s2] 41)).heap.size := by simp
  have hb6 := hb5.alloc hb5.size (.cells #[.int .i64 5, .int .i64 b', .string x', .slice r1 m1 s1, .slice r2 m2 s2] 41)
  have hx6 := (hb6.block _ hxl4).trans hx4
  have hj6 := hj4.upto hS4 hb6
  have hu6 := hu.upto hS5 ((Below.refl w5.heap.size w5).alloc (Nat.le_refl _) (.cells #[.int .i64 5, .int .i64 b', .string x', .slice r1 m1 s1, .slice r2 m2 s2] 41))
  have hS6 : ∀ c, S c → c < (w5.alloc (.cells #[.int .i64 5, .int .i64 b', .string x', .slice r1 m1 s1, .slice r2 m2 s2] 41)).heap.size := fun c h => Nat.lt_of_lt_of_le (hS5 c h) (Nat.le_of_lt hyl)
  have hw6 := (hw3.trans (hb4.mono hw3.size)).trans (hb6.mono (Nat.le_trans hw3.size hb4.size))
  clear x0 x1 x2 x3 x4
  obtain ⟨x0, x1, x2, x3, x4⟩ := tok_cells hx6
  obtain ⟨y0, y1, y2, y3, y4⟩ := tok_cells hy5
  clear hb5 hb6 hu hj4 hj3 hx4 hx3 hw3 hb4
  go_wp2_with fail
  generalize w5.alloc (.cells #[.int .i64 5, .int .i64 b', .string x', .slice r1 m1 s1, .slice r2 m2 s2] 41) = W6 at *
  have hxl6 : w1.heap.size < W6.heap.size := (Array.getElem?_eq_some_iff.1 hx6).1
  refine (alive_deep hj6 hS6).mono ?_
  rintro e w7 ⟨rfl, hb7⟩
  have hx7 := (hb7.block _ hxl6).trans hx6
  have hy7 := (hb7.block _ hyl).trans hy5
  have hj7 := hj6.upto hS6 hb7
  have hu7 := hu6.upto hS6 hb7
  have hS7 : ∀ c, S c → c < w7.heap.size := fun c h => Nat.lt_of_lt_of_le (hS6 c h) hb7.size
  clear x0 x1 x2 x3 x4 y0 y1 y2 y3 y4
  obtain ⟨x0, x1, x2, x3, x4⟩ := tok_cells hx7
  obtain ⟨y0, y1, y2, y3, y4⟩ := tok_cells hy7
  have hxl7 : w1.heap.size < w7.heap.size := (Array.getElem?_eq_some_iff.1 hx7).1
  have hyl7 : w5.heap.size < w7.heap.size := (Array.getElem?_eq_some_iff.1 hy7).1
  go_wp2_with fail
  refine (alive_right hj7 hS7).mono ?_
  rintro e w8 ⟨rfl, hb8⟩
  have hx8 := (hb8.block _ hxl7).trans hx7
  have hy8 := (hb8.block _ hyl7).trans hy7
  have hj8 := hj7.upto hS7 hb8
  have hu8 := hu7.upto hS7 hb8
  have hS8 : ∀ c, S c → c < w8.heap.size := fun c h => Nat.lt_of_lt_of_le (hS7 c h) hb8.size
  clear x0 x1 x2 x3 x4 y0 y1 y2 y3 y4
  obtain ⟨x0, x1, x2, x3, x4⟩ := tok_cells hx8
  obtain ⟨y0, y1, y2, y3, y4⟩ := tok_cells hy8
  have hxl8 : w1.heap.size < w8.heap.size := (Array.getElem?_eq_some_iff.1 hx8).1
  have hyl8 : w5.heap.size < w8.heap.size := (Array.getElem?_eq_some_iff.1 hy8).1
  go_wp2_with fail
  refine (alive_same hj8 hS8).mono ?_
  rintro e w9 ⟨rfl, hb9⟩
  have hx9 := (hb9.block _ hxl8).trans hx8
  have hy9 := (hb9.block _ hyl8).trans hy8
  have hj9 := hj8.upto hS8 hb9
  have hu9 := hu8.upto hS8 hb9
  have hS9 : ∀ c, S c → c < w9.heap.size := fun c h => Nat.lt_of_lt_of_le (hS8 c h) hb9.size
  clear x0 x1 x2 x3 x4 y0 y1 y2 y3 y4
  obtain ⟨x0, x1, x2, x3, x4⟩ := tok_cells hx9
  obtain ⟨y0, y1, y2, y3, y4⟩ := tok_cells hy9
  go_wp2_with fail
  refine (alive_nsame hj9 hu9 hS9).mono ?_
  rintro e wz ⟨rfl, hbz⟩
  go_wp2_with fail
  go_ret
  exact ⟨rfl, (((hw6.trans (hb7.mono hw6.size)).trans (hb8.mono (Nat.le_trans hw6.size hb7.size))).trans (hb9.mono (Nat.le_trans hw6.size (Nat.le_trans hb7.size hb8.size)))).trans (hbz.mono (Nat.le_trans hw6.size (Nat.le_trans hb7.size (Nat.le_trans hb8.size hb9.size))))⟩

end Go.Proofs.Ythbpkmmnoeikoaa

/-
  The reference's Parse: the number of a text, or the error. Condition: the text is no longer than 2^62 bytes.
-/
namespace Go.Proofs.Ythbpkmmnoeikoaa
open Go.RowKit

theorem bad_iff (s : ByteArray) (a : Nat) (h : Nm.body s.data.toList = s.data.toList.drop a) (ha : a < s.size) (hn : a = if Nm.neg s.data.toList then 1 else 0) :
    Nm.bad s.data.toList = (!decide (Nm.run (s.data.toList.drop a) = s.size - a) || (decide (s[a].toNat = 48) && decide (1 < s.size))) := by
  unfold Nm.bad
  rw [h]
  have hd := drop_cons s a ha
  have e1 : (s.data.toList.drop a).isEmpty = false := by rw [hd]; rfl
  have hr := run_all (s.data.toList.drop a)
  rw [List.length_drop, len_data] at hr
  have e2 : (s.data.toList.drop a).all Nm.dig = decide (Nm.run (s.data.toList.drop a) = s.size - a) := by
    by_cases hc : (s.data.toList.drop a).all Nm.dig = true
    · rw [hc, decide_eq_true (hr.2 hc)]
    · rw [decide_eq_false (fun e => hc (hr.1 e))]; simpa using hc
  have e3 : ((s.data.toList.drop a).head? == some 48) = decide (s[a].toNat = 48) := by
    rw [hd, Bool.eq_iff_iff]
    simp only [List.head?_cons, beq_iff_eq, Option.some.injEq, decide_eq_true_eq]
    exact ⟨fun e => by rw [e]; rfl, fun e => UInt8.toNat_inj.1 e⟩
  rw [e1, e2, e3, List.length_drop, len_data, Bool.false_or]
  by_cases hg : Nm.neg s.data.toList = true
  · rw [hg] at hn ⊢
    simp only [if_true] at hn
    have : decide (1 < s.size) = true := by simp; omega
    rw [this, Bool.or_true]
  · have hg' : Nm.neg s.data.toList = false := by simpa using hg
    rw [hg'] at hn ⊢
    simp only [Bool.false_eq_true, if_false] at hn
    subst hn
    rw [Bool.or_false]; rfl

theorem body_drop (s : ByteArray) : Nm.body s.data.toList = s.data.toList.drop (if Nm.neg s.data.toList then 1 else 0) := by
  unfold Nm.body
  by_cases h : Nm.neg s.data.toList = true
  · rw [h]; simp
  · have h' : Nm.neg s.data.toList = false := by simpa using h
    rw [h']; simp

theorem dtake_snoc (s : ByteArray) (a k : Nat) (ha : a ≤ k) (h : k < s.size) : (s.data.toList.drop a).take (k + 1 - a) = (s.data.toList.drop a).take (k - a) ++ [s[k]] := by
  rw [show k + 1 - a = (k - a) + 1 from by omega, List.take_succ_eq_append_getElem (by rw [List.length_drop, len_data]; omega), List.getElem_drop]
  congr 2
  have : a + (k - a) = k := by omega
  simp only [this]; rfl

theorem all_from {s : ByteArray} {a : Nat} (h : (s.data.toList.drop a).all Nm.dig = true) (k : Nat) (ha : a ≤ k) (hk : k < s.size) : 48 ≤ s[k].toNat ∧ s[k].toNat ≤ 57 := by
  have hm : s.data.toList[k]'(by rw [len_data]; exact hk) ∈ s.data.toList.drop a := by
    rw [List.mem_drop_iff_getElem]
    exact ⟨k - a, by rw [len_data]; omega, by congr 1; omega⟩
  exact Nm.dig_range (List.all_eq_true.1 h _ hm)

def RP1 (s : ByteArray) (a : Nat) (i : Value) : Prop := ∃ k : Nat, a ≤ k ∧ k ≤ s.size ∧ i = .int .i64 k ∧ Hid (Nm.run (s.data.toList.drop a) = (k - a) + Nm.run (s.data.toList.drop k))
def RP2 (s : ByteArray) (a : Nat) (n i : Value) : Prop := ∃ k v : Nat, a ≤ k ∧ k ≤ s.size ∧ i = .int .i64 k ∧ n = .int .i64 (-(v : Int)) ∧ v ≤ 9223372036854775808 ∧ Hid (v = Nm.val ((s.data.toList.drop a).take (k - a)))

set_option maxHeartbeats 1000000 in
theorem rparse_pos (s : ByteArray) (w : World) (hs : s.size ≤ 4611686018427387904) (hne : 0 < s.size) (h45 : ((s[0].toNat : Int) == 45) = false) :
    Calls Try.prog 21 #[.string s] w fun e w' => e = .returned (.tuple #[.int .i64 (Nm.parse s.data.toList).1, .int .i64 (Nm.parse s.data.toList).2]) ∧ w = w' := by
  have hpos : 0 < s.size := by omega
  have hneg : Nm.neg s.data.toList = false := by rw [neg_of s hpos]; simp at h45; simp; omega
  have hbd := body_drop s
  rw [hneg] at hbd
  have hbad := bad_iff s 0 hbd hne (by rw [hneg]; rfl)
  have HB := Lib.hid hbad
  have HN := Lib.hid hneg
  have HBD := Lib.hid hbd
  clear hbad hneg hbd
  have hz0 : ((0 : Int) == (s.size : Int)) = false := by simp; omega
  go_enter Try.func21, Try.ntmps21
  go_wp2
  go_loop [5] (RP1 s 0) (fun i => s.size - (intOf i).toNat)
  case atStart => exact ⟨0, by omega, by omega, rfl, by unfold Hid; simp⟩
  case round =>
    obtain ⟨k, hk0, hk, rfl, HR⟩ := hrel
    by_cases hlt : k < s.size
    · by_cases h48 : 48 ≤ (s[k].toNat : Int)
      · by_cases h57 : (s[k].toNat : Int) ≤ 57
        · go_wp2
          go_round
          case rel =>
            refine ⟨k + 1, by omega, by omega, by go_num, ?_⟩
            unfold Hid
            have hd : Nm.dig s[k] = true := by unfold Nm.dig; simp; omega
            rw [HR.out, run_at s k hlt, if_pos hd]; omega
          case measure => simp [intOf]; omega
        · go_wp2
          go_ret2
          have hd : Nm.dig s[k] = false := by unfold Nm.dig; simp; omega
          have hb : Nm.bad s.data.toList = true := by rw [HB.out, HR.out, run_at s k hlt, hd]; simp; omega
          rw [parse_bad hb]; exact ⟨rfl, rfl⟩
      · go_wp2
        go_ret2
        have hd : Nm.dig s[k] = false := by unfold Nm.dig; simp; omega
        have hb : Nm.bad s.data.toList = true := by rw [HB.out, HR.out, run_at s k hlt, hd]; simp; omega
        rw [parse_bad hb]; exact ⟨rfl, rfl⟩
    · have hrun : Nm.run (s.data.toList.drop 0) = s.size - 0 := by rw [HR.out, run_end s k (by omega)]; omega
      have hall := (run_all (s.data.toList.drop 0)).1 (by rw [hrun, List.length_drop, len_data])
      have HA := Lib.hid hall
      have HR2 := Lib.hid hrun
      clear hall hrun HR
      by_cases hz : s[0].toNat = 48 ∧ 1 < s.size
      · obtain ⟨hz1, hz2⟩ := hz
        have hb : Nm.bad s.data.toList = true := by rw [HB.out]; simp; omega
        have HBB := Lib.hid hb
        have hz3 : ((s[0].toNat : Int) == 48) = true := by simp; omega
        clear hb hz1
        go_wp2
        go_ret2
        rw [parse_bad HBB.out]; exact ⟨rfl, rfl⟩
      · have hb : Nm.bad s.data.toList = false := by rw [HB.out, HR2.out]; simp; omega
        have HG := Lib.hid hb
        clear hb
        go_wp2
        all_goals first
          | (exfalso; omega)
          | (go_loop [7, 8] (RP2 s 0) (fun _ i => s.size - (intOf i).toNat)
             case atStart => exact ⟨0, 0, by omega, by omega, rfl, rfl, by omega, by unfold Hid; simp [Nm.val, Nm.vr]⟩
             case round =>
               obtain ⟨j, v, hj0, hj, rfl, rfl, hv, HV⟩ := hrel
               by_cases hlj : j < s.size
               · have hdg := all_from HA.out j hj0 hlj
                 have g48 := hdg.1
                 have g57 := hdg.2
                 clear hdg
                 have hsn : Nm.val ((s.data.toList.drop 0).take (j + 1 - 0)) = Nm.val ((s.data.toList.drop 0).take (j - 0)) * 10 + (s[j].toNat - 48) := by rw [dtake_snoc s 0 j hj0 hlj, val_snoc]
                 have hle := val_take_le (s.data.toList.drop 0) (j + 1 - 0)
                 rw [hsn, ← HV.out] at hle
                 rw [← HV.out] at hsn
                 have HS := Lib.hid hsn
                 have HL := Lib.hid hle
                 have hq : (-9223372036854775808 + ((s[j].toNat : Int) - 48)).tdiv 10 = -((9223372036854775808 - ((s[j].toNat : Int) - 48)) / 10) := by
                   rw [show (-9223372036854775808 + ((s[j].toNat : Int) - 48)) = -(9223372036854775808 - ((s[j].toNat : Int) - 48)) from by omega, Int.neg_tdiv, Int.tdiv_eq_ediv_of_nonneg (by omega)]
                 clear hsn hle
                 go_wp2
                 · go_ret2
                   have hbig : Nm.bound (Nm.neg s.data.toList) < Nm.val (Nm.body s.data.toList) := by
                     rw [HBD.out, HN.out]; have := HL.out; unfold Nm.bound; simp only [if_false, Bool.false_eq_true]; omega
                   rw [parse_big HG.out hbig]
                   exact ⟨rfl, rfl⟩
                 · go_round
                   case rel => exact ⟨j + 1, v * 10 + (s[j].toNat - 48), by omega, by omega, by go_num, by congr 1; omega, by omega, by unfold Hid; rw [HS.out]⟩
                   case measure => simp [intOf]; omega
               · have hv2 : v = Nm.val (s.data.toList.drop 0) := by rw [HV.out, List.take_of_length_le (by rw [List.length_drop, len_data]; omega)]
                 have HV2 := Lib.hid hv2
                 clear hv2 HV
                 by_cases hmin : v = 9223372036854775808
                 · have hm : ((-(v : Int)) == -9223372036854775808) = true := by simp; omega
                   have HM := Lib.hid hmin
                   clear hmin
                   go_wp2
                   go_ret2
                   have hbig : Nm.bound (Nm.neg s.data.toList) < Nm.val (Nm.body s.data.toList) := by
                     rw [HBD.out, HN.out]; have := HV2.out; have := HM.out; unfold Nm.bound; simp only [if_false, Bool.false_eq_true]; omega
                   rw [parse_big HG.out hbig]
                   exact ⟨rfl, rfl⟩
                 · have hm : ((-(v : Int)) == -9223372036854775808) = false := by simp; omega
                   go_wp2
                   go_ret2
                   have hok : Nm.val (Nm.body s.data.toList) ≤ Nm.bound (Nm.neg s.data.toList) := by
                     rw [HBD.out, HN.out]; have := HV2.out; unfold Nm.bound; simp only [if_false, Bool.false_eq_true]; omega
                   rw [parse_ok HG.out hok, HN.out, HBD.out]
                   exact ⟨ret_ii (by simp only [Bool.false_eq_true, if_false]; rw [← HV2.out]) rfl, rfl⟩)

set_option maxHeartbeats 1000000 in
theorem rparse_neg (s : ByteArray) (w : World) (hs : s.size ≤ 4611686018427387904) (hne : 1 < s.size) (h45 : (((s[0]'(by omega)).toNat : Int) == 45) = true) :
    Calls Try.prog 21 #[.string s] w fun e w' => e = .returned (.tuple #[.int .i64 (Nm.parse s.data.toList).1, .int .i64 (Nm.parse s.data.toList).2]) ∧ w = w' := by
  have hpos : 0 < s.size := by omega
  have hneg : Nm.neg s.data.toList = true := by rw [neg_of s hpos]; simp at h45; simp; omega
  have hbd := body_drop s
  rw [hneg] at hbd
  have hbad := bad_iff s 1 hbd hne (by rw [hneg]; rfl)
  have HB := Lib.hid hbad
  have HN := Lib.hid hneg
  have HBD := Lib.hid hbd
  clear hbad hneg hbd
  have hz0 : ((1 : Int) == (s.size : Int)) = false := by simp; omega
  go_enter Try.func21, Try.ntmps21
  go_wp2
  go_loop [5] (RP1 s 1) (fun i => s.size - (intOf i).toNat)
  case atStart => exact ⟨1, by omega, by omega, rfl, by unfold Hid; simp⟩
  case round =>
    obtain ⟨k, hk0, hk, rfl, HR⟩ := hrel
    by_cases hlt : k < s.size
    · by_cases h48 : 48 ≤ (s[k].toNat : Int)
      · by_cases h57 : (s[k].toNat : Int) ≤ 57
        · go_wp2
          go_round
          case rel =>
            refine ⟨k + 1, by omega, by omega, by go_num, ?_⟩
            unfold Hid
            have hd : Nm.dig s[k] = true := by unfold Nm.dig; simp; omega
            rw [HR.out, run_at s k hlt, if_pos hd]; omega
          case measure => simp [intOf]; omega
        · go_wp2
          go_ret2
          have hd : Nm.dig s[k] = false := by unfold Nm.dig; simp; omega
          have hb : Nm.bad s.data.toList = true := by rw [HB.out, HR.out, run_at s k hlt, hd]; simp; omega
          rw [parse_bad hb]; exact ⟨rfl, rfl⟩
      · go_wp2
        go_ret2
        have hd : Nm.dig s[k] = false := by unfold Nm.dig; simp; omega
        have hb : Nm.bad s.data.toList = true := by rw [HB.out, HR.out, run_at s k hlt, hd]; simp; omega
        rw [parse_bad hb]; exact ⟨rfl, rfl⟩
    · have hrun : Nm.run (s.data.toList.drop 1) = s.size - 1 := by rw [HR.out, run_end s k (by omega)]; omega
      have hall := (run_all (s.data.toList.drop 1)).1 (by rw [hrun, List.length_drop, len_data])
      have HA := Lib.hid hall
      have HR2 := Lib.hid hrun
      clear hall hrun HR
      by_cases hz : s[1].toNat = 48 ∧ 1 < s.size
      · obtain ⟨hz1, hz2⟩ := hz
        have hb : Nm.bad s.data.toList = true := by rw [HB.out]; simp; omega
        have HBB := Lib.hid hb
        have hz3 : ((s[1].toNat : Int) == 48) = true := by simp; omega
        clear hb hz1
        go_wp2
        go_ret2
        rw [parse_bad HBB.out]; exact ⟨rfl, rfl⟩
      · have hb : Nm.bad s.data.toList = false := by rw [HB.out, HR2.out]; simp; omega
        have HG := Lib.hid hb
        clear hb
        go_wp2
        all_goals first
          | (exfalso; omega)
          | (go_loop [7, 8] (RP2 s 1) (fun _ i => s.size - (intOf i).toNat)
             case atStart => exact ⟨1, 0, by omega, by omega, rfl, rfl, by omega, by unfold Hid; simp [Nm.val, Nm.vr]⟩
             case round =>
               obtain ⟨j, v, hj0, hj, rfl, rfl, hv, HV⟩ := hrel
               by_cases hlj : j < s.size
               · have hdg := all_from HA.out j hj0 hlj
                 have g48 := hdg.1
                 have g57 := hdg.2
                 clear hdg
                 have hsn : Nm.val ((s.data.toList.drop 1).take (j + 1 - 1)) = Nm.val ((s.data.toList.drop 1).take (j - 1)) * 10 + (s[j].toNat - 48) := by rw [dtake_snoc s 1 j hj0 hlj, val_snoc]
                 have hle := val_take_le (s.data.toList.drop 1) (j + 1 - 1)
                 rw [hsn, ← HV.out] at hle
                 rw [← HV.out] at hsn
                 have HS := Lib.hid hsn
                 have HL := Lib.hid hle
                 have hq : (-9223372036854775808 + ((s[j].toNat : Int) - 48)).tdiv 10 = -((9223372036854775808 - ((s[j].toNat : Int) - 48)) / 10) := by
                   rw [show (-9223372036854775808 + ((s[j].toNat : Int) - 48)) = -(9223372036854775808 - ((s[j].toNat : Int) - 48)) from by omega, Int.neg_tdiv, Int.tdiv_eq_ediv_of_nonneg (by omega)]
                 clear hsn hle
                 go_wp2
                 · go_ret2
                   have hbig : Nm.bound (Nm.neg s.data.toList) < Nm.val (Nm.body s.data.toList) := by
                     rw [HBD.out, HN.out]; have := HL.out; unfold Nm.bound; simp only [if_true]; omega
                   rw [parse_big HG.out hbig]
                   exact ⟨rfl, rfl⟩
                 · go_round
                   case rel => exact ⟨j + 1, v * 10 + (s[j].toNat - 48), by omega, by omega, by go_num, by congr 1; omega, by omega, by unfold Hid; rw [HS.out]⟩
                   case measure => simp [intOf]; omega
               · have hv2 : v = Nm.val (s.data.toList.drop 1) := by rw [HV.out, List.take_of_length_le (by rw [List.length_drop, len_data]; omega)]
                 have HV2 := Lib.hid hv2
                 clear hv2 HV
                 go_wp2
                 go_ret2
                 have hok : Nm.val (Nm.body s.data.toList) ≤ Nm.bound (Nm.neg s.data.toList) := by
                   rw [HBD.out, HN.out]; have := HV2.out; unfold Nm.bound; simp only [if_true]; omega
                 rw [parse_ok HG.out hok, HN.out, HBD.out]
                 exact ⟨ret_ii (by simp only [if_true]; rw [← HV2.out]) rfl, rfl⟩)

set_option maxHeartbeats 1000000 in
theorem rparse_none (s : ByteArray) (w : World) (h0 : s.size = 0) :
    Calls Try.prog 21 #[.string s] w fun e w' => e = .returned (.tuple #[.int .i64 (Nm.parse s.data.toList).1, .int .i64 (Nm.parse s.data.toList).2]) ∧ w = w' := by
  have hp : Nm.parse s.data.toList = (0, 2) := by
    have : s.data.toList = [] := List.eq_nil_of_length_eq_zero (by rw [len_data]; exact h0)
    rw [this]; rfl
  have HP := Lib.hid hp
  clear hp
  go_enter Try.func21, Try.ntmps21
  go_wp2
  go_ret2
  rw [HP.out]
  exact ⟨rfl, rfl⟩

set_option maxHeartbeats 1000000 in
theorem rparse_neg1 (s : ByteArray) (w : World) (hne : 0 < s.size) (hle : s.size ≤ 1) (h45 : ((s[0].toNat : Int) == 45) = true) :
    Calls Try.prog 21 #[.string s] w fun e w' => e = .returned (.tuple #[.int .i64 (Nm.parse s.data.toList).1, .int .i64 (Nm.parse s.data.toList).2]) ∧ w = w' := by
  have hneg : Nm.neg s.data.toList = true := by rw [neg_of s (by omega)]; simp at h45; simp; omega
  have hbd := body_neg hneg
  have hb : Nm.bad s.data.toList = true := by
    unfold Nm.bad
    rw [hbd]
    have : (s.extract 1 s.size).data.toList = [] := List.eq_nil_of_length_eq_zero (by rw [len_data, size_tail]; omega)
    rw [this]; rfl
  have HP := Lib.hid (parse_bad hb)
  have h1 : ((1 : Int) == (s.size : Int)) = true := by simp; omega
  clear hb hbd hneg
  go_enter Try.func21, Try.ntmps21
  go_wp2
  go_ret2
  rw [HP.out]
  exact ⟨rfl, rfl⟩

/-- the reference's Parse: the number of a text, or the error -/
theorem rparse_any (s : ByteArray) (w : World) (hs : s.size ≤ 4611686018427387904) :
    Calls Try.prog 21 #[.string s] w fun e w' => e = .returned (.tuple #[.int .i64 (Nm.parse s.data.toList).1, .int .i64 (Nm.parse s.data.toList).2]) ∧ w = w' := by
  rcases Nat.eq_zero_or_pos s.size with h0 | h0
  · exact rparse_none s w h0
  · by_cases h : s[0].toNat = 45
    · by_cases h1 : s.size ≤ 1
      · exact rparse_neg1 s w h0 h1 (by simp; omega)
      · exact rparse_neg s w hs (by omega) (by simp; omega)
    · exact rparse_pos s w hs h0 (by simp; omega)

end Go.Proofs.Ythbpkmmnoeikoaa
