import Derived.Test.YtfebiipggcgmdaaGreatDoorAB
namespace Go.Proofs.YtfebiipggcgmdaaGreatDoor
open Go.RowKit

set_option maxRecDepth 100000 in
set_option maxHeartbeats 3200000 in
theorem made_any (f : Nat) (p q : Rat) (N : Int) (D : Nat) (w : World) (hf : f = 55 ∨ f = 99 ∨ f = 86)
    (hop : ∀ b w2, IsS w2 b → Env w2 → Calls Tryz.prog f #[.pointer (some ⟨b, 0, none⟩), .string (it p.num), .string (it (p.den : Int)), .string (it q.num), .string (it (q.den : Int))] w2 (TermsEnd N (D : Int) w2))
    (hp : sm 1024 p) (hq : sm 1024 q) (hD : 0 < D) (hn : In N) (hd : In (D : Int)) (he : Env w) :
    Calls Tryz.prog 54 #[.string (rt p), .string (rt q), .func (.func f) #[] #[]] w (RatEnd (mkRat N D) w) := by
  have HP := Lib.hid hp
  have HQ := Lib.hid hq
  have HO := Lib.hid hop
  have HN := Lib.hid hn
  have HD := Lib.hid hd
  have HZ := Lib.hid hD
  have HE := Lib.hid he
  have hz := it_ne_zero (show (D : Int) ≠ 0 by omega)
  have HC := Lib.hid (two_cells w (.string (rt p)) (.string (rt q)) 26)
  have HB0 := Lib.hid ((Below.refl w.heap.size w).alloc (Nat.le_refl _) (.cells #[.string (rt p), .string (rt q)] 26))
  clear hp hq hop hn hd hD he
  rcases hf with rfl | rfl | rfl
  all_goals go_enter Tryz.func54, Tryz.ntmps54
  all_goals go_wp2_with fail
  all_goals refine (checks_ok _ p q _ HP.out HQ.out (HE.out.below HB0.out) HC.out.1 HC.out.2).mono ?_
  all_goals rintro e w1 ⟨rfl, hb1⟩
  all_goals have HB1 := Lib.hid (HB0.out.trans (hb1.mono (by simp)))
  all_goals clear hb1
  all_goals go_wp2_with fail
  all_goals refine (cut_rt p _ HP.out (HE.out.below HB1.out)).mono ?_
  all_goals rintro e w2 ⟨rfl, hb2⟩
  all_goals have HB2 := Lib.hid (HB1.out.trans (hb2.mono HB1.out.size))
  all_goals clear hb2
  all_goals go_wp2_with fail
  all_goals refine (cut_rt q _ HQ.out (HE.out.below HB2.out)).mono ?_
  all_goals rintro e w3 ⟨rfl, hb3⟩
  all_goals have HB3 := Lib.hid (HB2.out.trans (hb3.mono HB2.out.size))
  all_goals clear hb3
  all_goals have HS := Lib.hid (isS_new w3)
  all_goals have HB4 := Lib.hid (HB3.out.alloc HB3.out.size (.cells #[.int .i64 0] 111))
  all_goals go_wp2_with fail
  all_goals refine (HO.out w3.heap.size _ HS.out (HE.out.below HB4.out)).mono ?_
  all_goals rintro e w5 ⟨rfl, hb5⟩
  all_goals have HS5 := Lib.hid (HS.out.below hb5 HS.out.lt)
  all_goals have HB5 := Lib.hid (HB4.out.trans (hb5.mono HB4.out.size))
  all_goals have c5 := HS5.out.cell
  all_goals clear hb5
  all_goals go_wp2_with fail
  all_goals refine (lowest_any w3.heap.size N D _ HZ.out HS5.out HN.out HD.out (HE.out.below HB5.out)).mono ?_
  all_goals rintro e w6 ⟨rfl, hb6⟩
  all_goals have HS6 := Lib.hid (HS5.out.below hb6 HS5.out.lt)
  all_goals have HB6 := Lib.hid (HB5.out.trans (hb6.mono HB5.out.size))
  all_goals clear hb6 c5
  all_goals have c6 := HS6.out.cell
  all_goals go_wp2
  all_goals go_quiet (fail)
  all_goals go_wp2
  all_goals go_ret2
  all_goals exact ⟨rfl, below_drewN HB6.out _⟩
end Go.Proofs.YtfebiipggcgmdaaGreatDoor

namespace Go.Proofs.YtfebiipggcgmdaaGreatDoor
open Go.RowKit

def SML : Nat := 500
def P500 : Nat := 10 ^ SML
theorem p500 : P500 * P500 * 2 ≤ P1024 := by
  have hs : SML + SML + 1 ≤ LIM := by decide
  unfold P500 P1024
  generalize SML = a at *
  generalize LIM = b at *
  have h4 : 10 ^ (a + a + 1) ≤ 10 ^ b := Nat.pow_le_pow_right (by omega) hs
  rw [Nat.pow_succ, Nat.pow_add] at h4
  omega
theorem sm.n {p : Rat} (h : sm SML p) : p.num.natAbs < P500 := h.1
theorem sm.d {p : Rat} (h : sm SML p) : p.den < P500 := h.2
theorem sm.big {p : Rat} (h : sm SML p) : sm 1024 p := h.mono (by decide)

theorem mul_small {a b A : Nat} (h1 : a < A) (h2 : b < A) : a * b < A * A := Nat.mul_lt_mul'' h1 h2
theorem in_mul {a b : Int} (h1 : a.natAbs < P500) (h2 : b.natAbs < P500) : In (a * b) := In.of_abs (by
  have := p500
  have := mul_small h1 h2
  rw [Int.natAbs_mul]; omega)
theorem in_add {a b c d : Int} (h1 : a.natAbs < P500) (h2 : b.natAbs < P500) (h3 : c.natAbs < P500) (h4 : d.natAbs < P500) : In (a * b + c * d) := In.of_abs (by
  have := p500
  have := mul_small h1 h2
  have := mul_small h3 h4
  have := Int.natAbs_add_le (a * b) (c * d)
  rw [Int.natAbs_mul, Int.natAbs_mul] at this; omega)
theorem in_sub {a b c d : Int} (h1 : a.natAbs < P500) (h2 : b.natAbs < P500) (h3 : c.natAbs < P500) (h4 : d.natAbs < P500) : In (a * b - c * d) := by
  have := in_add h1 h2 (c := -c) (d := d) (by rw [Int.natAbs_neg]; exact h3) h4
  rw [Int.neg_mul, ← Int.sub_eq_add_neg] at this
  exact this

variable {p q : Rat} {w : World}

set_option maxRecDepth 100000 in
theorem radd (hp : sm SML p) (hq : sm SML q) (he : Env w) : Calls Tryz.prog 24 #[.string (rt p), .string (rt q)] w (RatEnd (p + q) w) := by
  have hd : ((p.den * q.den : Nat) : Int) = (p.den : Int) * (q.den : Int) := Int.natCast_mul ..
  have hpd : (p.den : Int).natAbs < P500 := by rw [Int.natAbs_natCast]; exact hp.d
  have hqd : (q.den : Int).natAbs < P500 := by rw [Int.natAbs_natCast]; exact hq.d
  have h := made_any 55 p q (p.num * q.den + q.num * p.den) (p.den * q.den) w (by omega)
    (fun b w2 hs he2 => by
      rw [hd]
      exact addt_any b p.num p.den q.num q.den w2 hs (In.num hp.big) (In.den hp.big) (In.num hq.big) (In.den hq.big) (in_mul hp.n hqd) (in_mul hq.n hpd) (in_add hp.n hqd hq.n hpd) (in_mul hpd hqd) he2)
    hp.big hq.big (Nat.mul_pos p.den_pos q.den_pos) (in_add hp.n hqd hq.n hpd) (by rw [hd]; exact in_mul hpd hqd) he
  rw [← Rat.add_def'] at h
  have H := Lib.hid h
  clear h hd hpd hqd hp hq he
  go_enter Tryz.func24, Tryz.ntmps24
  go_wp2_with fail
  refine H.out.mono ?_
  rintro e w1 ⟨rfl, hb1⟩
  have HB1 := Lib.hid hb1
  clear hb1
  go_wp2
  go_ret2
  exact ⟨rfl, HB1.out⟩

set_option maxRecDepth 100000 in
theorem rsub (hp : sm SML p) (hq : sm SML q) (he : Env w) : Calls Tryz.prog 51 #[.string (rt p), .string (rt q)] w (RatEnd (p - q) w) := by
  have hd : ((p.den * q.den : Nat) : Int) = (p.den : Int) * (q.den : Int) := Int.natCast_mul ..
  have hpd : (p.den : Int).natAbs < P500 := by rw [Int.natAbs_natCast]; exact hp.d
  have hqd : (q.den : Int).natAbs < P500 := by rw [Int.natAbs_natCast]; exact hq.d
  have h := made_any 99 p q (p.num * q.den - q.num * p.den) (p.den * q.den) w (by omega)
    (fun b w2 hs he2 => by
      rw [hd]
      exact subt_any b p.num p.den q.num q.den w2 hs (In.num hp.big) (In.den hp.big) (In.num hq.big) (In.den hq.big) (in_mul hp.n hqd) (in_mul hq.n hpd) (in_sub hp.n hqd hq.n hpd) (in_mul hpd hqd) he2)
    hp.big hq.big (Nat.mul_pos p.den_pos q.den_pos) (in_sub hp.n hqd hq.n hpd) (by rw [hd]; exact in_mul hpd hqd) he
  rw [← Rat.sub_def'] at h
  have H := Lib.hid h
  clear h hd hpd hqd hp hq he
  go_enter Tryz.func51, Tryz.ntmps51
  go_wp2_with fail
  refine H.out.mono ?_
  rintro e w1 ⟨rfl, hb1⟩
  have HB1 := Lib.hid hb1
  clear hb1
  go_wp2
  go_ret2
  exact ⟨rfl, HB1.out⟩

set_option maxRecDepth 100000 in
theorem rmul (hp : sm SML p) (hq : sm SML q) (he : Env w) : Calls Tryz.prog 37 #[.string (rt p), .string (rt q)] w (RatEnd (p * q) w) := by
  have hd : ((p.den * q.den : Nat) : Int) = (p.den : Int) * (q.den : Int) := Int.natCast_mul ..
  have hpd : (p.den : Int).natAbs < P500 := by rw [Int.natAbs_natCast]; exact hp.d
  have hqd : (q.den : Int).natAbs < P500 := by rw [Int.natAbs_natCast]; exact hq.d
  have h := made_any 86 p q (p.num * q.num) (p.den * q.den) w (by omega)
    (fun b w2 hs he2 => by
      rw [hd]
      exact mult_any b p.num p.den q.num q.den w2 hs (In.num hp.big) (In.den hp.big) (In.num hq.big) (In.den hq.big) (in_mul hp.n hq.n) (in_mul hpd hqd) he2)
    hp.big hq.big (Nat.mul_pos p.den_pos q.den_pos) (in_mul hp.n hq.n) (by rw [hd]; exact in_mul hpd hqd) he
  rw [show mkRat (p.num * q.num) (p.den * q.den) = p * q by rw [Rat.mul_def, Rat.normalize_eq_mkRat]] at h
  have H := Lib.hid h
  clear h hd hpd hqd hp hq he
  go_enter Tryz.func37, Tryz.ntmps37
  go_wp2_with fail
  refine H.out.mono ?_
  rintro e w1 ⟨rfl, hb1⟩
  have HB1 := Lib.hid hb1
  clear hb1
  go_wp2
  go_ret2
  exact ⟨rfl, HB1.out⟩
end Go.Proofs.YtfebiipggcgmdaaGreatDoor
