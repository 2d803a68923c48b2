import Derived.Test.YtfebiipggcgmdaaGreatDoorAC
import Derived.Test.YtfebiipggcgmdaaGreatDoorA1
import Derived.Test.YtfebiipggcgmdaaGreatDoorP1
namespace Go.Proofs.YtfebiipggcgmdaaGreatDoor
open Go.RowKit

def E256 : Nat := 256
def TT : Nat := 2 ^ E256
theorem E256_eq : E256 = 256 := rfl
theorem ch_two : ∀ n k : Nat, ch n k ≤ 2 ^ n
  | 0, 0 => by rw [ch_zero]; exact Nat.le_refl _
  | 0, k + 1 => by rw [ch_zs]; omega
  | n + 1, 0 => by rw [ch_zero]; exact Nat.pos_of_ne_zero (Nat.pos_iff_ne_zero.1 (Nat.two_pow_pos _))
  | n + 1, k + 1 => by
    rw [ch_ss, Nat.pow_succ]
    have := ch_two n k
    have := ch_two n (k + 1)
    omega
theorem ch_TT {n : Nat} (k : Nat) (h : n ≤ 256) : ch n k ≤ TT := Nat.le_trans (ch_two n k) (Nat.pow_le_pow_right (by omega) (by rw [E256_eq]; exact h))
theorem TT_room : TT * 1048576 < P500 := by
  have e1 : (1048576 : Nat) = 2 ^ 20 := by decide
  have hs : 93 ≤ SML := by decide
  unfold TT P500
  generalize SML = a at *
  obtain ⟨t, ht⟩ : ∃ t, t = 93 := ⟨_, rfl⟩
  obtain ⟨u, hu⟩ : ∃ u, E256 = u := ⟨_, rfl⟩
  rw [E256_eq] at hu
  rw [show E256 = u from hu, e1, ← Nat.pow_add]
  have h1 : 2 ^ (u + 20) < 2 ^ (3 * t) := Nat.pow_lt_pow_right (by omega) (by omega)
  rw [Nat.pow_mul] at h1
  have h2 : (2 ^ 3) ^ t ≤ 10 ^ t := Nat.pow_le_pow_left (by omega) _
  have h3 : 10 ^ t ≤ 10 ^ a := Nat.pow_le_pow_right (by omega) (by omega)
  exact Nat.lt_of_lt_of_le h1 (Nat.le_trans h2 h3)
theorem TT_pos : 0 < TT := Nat.two_pow_pos _
theorem P500_lt : P500 < P1024 := by
  have := p500
  have h : 0 < P500 := Nat.pow_pos (by omega)
  have := Nat.le_mul_of_pos_left P500 h
  omega
theorem in_500 {z : Nat} (h : z < P500) : In (z : Int) := In.of_abs (by
  rw [Int.natAbs_natCast]; exact Nat.lt_trans h P500_lt)
theorem in_TT {z : Nat} (h : z ≤ TT * 65536) : In (z : Int) := in_500 (by have := TT_room; have := TT_pos; omega)
theorem T_le {z c : Nat} (hc : 1 ≤ c) (h : z ≤ TT) : z ≤ TT * c := Nat.le_trans h (Nat.le_mul_of_pos_right _ hc)
theorem in_T1 {z : Nat} (h : z ≤ TT) : In (z : Int) := in_TT (T_le (by decide) h)
theorem in_T2 {z : Nat} (h : z ≤ TT * 256) : In (z : Int) := in_TT (Nat.le_trans h (Nat.mul_le_mul (Nat.le_refl _) (by decide)))
theorem in_T0 {z : Nat} (h : z ≤ 65536) : In (z : Int) := in_TT (Nat.le_trans h (Nat.le_mul_of_pos_left _ TT_pos))
theorem lt_T1 {z : Nat} (h : z ≤ TT) : z < P500 := Nat.lt_of_le_of_lt (T_le (by decide) h) TT_room
theorem lt_T2 {z : Nat} (h : z ≤ TT * 256) : z < P500 := Nat.lt_of_le_of_lt (Nat.le_trans h (Nat.mul_le_mul (Nat.le_refl _) (by decide))) TT_room
theorem ch_step_le {n i : Nat} (h : n ≤ 256) : ch n i * (n - i) ≤ TT * 256 := Nat.mul_le_mul (ch_TT i h) (by omega)

/-- a fraction with small parts is small -/
theorem sm_mk {a : Int} {d : Nat} (hd : 0 < d) (ha : a.natAbs < P500) (hd2 : d < P500) : sm SML (mkRat a d) := by
  have hg : 0 < d.gcd a.natAbs := Nat.gcd_pos_of_pos_left _ hd
  refine ⟨?_, ?_⟩
  · rw [Rat.num_mkRat, if_neg (by omega)]
    refine Nat.lt_of_le_of_lt ?_ ha
    exact Int.natAbs_ediv_le_natAbs _ _
  · rw [Rat.den_mkRat, if_neg (by omega)]
    exact Nat.lt_of_le_of_lt (Nat.div_le_self _ _) hd2

theorem mkRat_add_same (a b : Int) {d : Nat} (hd : 0 < d) : mkRat a d + mkRat b d = mkRat (a + b) d := by
  rw [Rat.mkRat_add_mkRat _ _ (by omega) (by omega), ← Int.add_mul]
  exact Rat.mkRat_mul_right (by omega)
theorem mkRat_one {d : Nat} (hd : 0 < d) : mkRat (d : Int) d = 1 := by
  have h : mkRat ((d : Nat) : Int) d = mkRat 1 1 := (Rat.mkRat_eq_iff (by omega) (by omega)).2 (by omega)
  rw [h]; rfl
theorem mkRat_le_iff {a b : Int} {c d : Nat} (hc : 0 < c) (hd : 0 < d) : mkRat a c ≤ mkRat b d ↔ a * d ≤ b * c := by
  have hp : (0 : Int) < (d : Int) * (c : Int) := Int.mul_pos (by omega) (by omega)
  rw [Rat.le_iff_sub_nonneg, ← Rat.divInt_ofNat, ← Rat.divInt_ofNat, Rat.divInt_sub_divInt _ _ (by omega) (by omega), Rat.divInt_nonneg_iff_of_pos_right hp]
  omega
/-- what a comparison says -/
theorem cmp_le (p q : Rat) : (p.num * q.den - q.num * p.den).sign ≤ 0 ↔ p ≤ q := by
  rw [Rat.le_iff]
  have : ∀ z : Int, z.sign ≤ 0 ↔ z ≤ 0 := fun z => by
    rcases Int.lt_trichotomy z 0 with h | h | h
    · rw [Int.sign_eq_neg_one_of_neg h]; omega
    · subst h; simp
    · rw [Int.sign_eq_one_of_pos h]; omega
  rw [this]; omega
theorem cmp_ge (p q : Rat) : 0 ≤ (p.num * q.den - q.num * p.den).sign ↔ q ≤ p := by
  rw [Rat.le_iff]
  have : ∀ z : Int, 0 ≤ z.sign ↔ 0 ≤ z := fun z => by
    rcases Int.lt_trichotomy z 0 with h | h | h
    · rw [Int.sign_eq_neg_one_of_neg h]; omega
    · subst h; simp
    · rw [Int.sign_eq_one_of_pos h]; omega
  rw [this]; omega
theorem cmp_gt (p q : Rat) : 0 < (p.num * q.den - q.num * p.den).sign ↔ q < p := by
  have := cmp_le p q
  rw [← Rat.not_le, ← this]; omega
theorem cmp_lt (p q : Rat) : (p.num * q.den - q.num * p.den).sign < 0 ↔ p < q := by
  have := cmp_ge p q
  rw [← Rat.not_le, ← this]; omega
theorem good_le {N C lot bad : Nat} (hC : C ≤ N) (hb : bad ≤ lot) : good N C lot bad ≤ ch lot N := by
  rw [← good_all rfl hb]
  exact su_mono (by omega)
/-- the number of samples, weighted with the bad parts that stay -/
def left (N C lot bad : Nat) : Nat := su (fun k => ch bad k * ch (lot - bad) (N - k) * (bad - k)) (min C bad + 1)
theorem left_le {N C lot bad : Nat} (hC : C ≤ N) (hb : bad ≤ lot) : left N C lot bad ≤ ch lot N * bad := by
  unfold left
  refine Nat.le_trans (su_le (g := fun k => bad * (ch bad k * ch (lot - bad) (N - k))) fun k _ => ?_) ?_
  · rw [Nat.mul_comm bad]; exact Nat.mul_le_mul (Nat.le_refl _) (Nat.sub_le _ _)
  · rw [su_mul, Nat.mul_comm]
    refine Nat.mul_le_mul (Nat.le_trans (su_mono (n := C + 1) (by omega)) (good_le hC hb)) (Nat.le_refl _)
/-- the weight of the samples of a process -/
def procs (N C a b : Nat) : Nat := su (fun k => ch N k * (a ^ k * b ^ (N - k))) (C + 1)
theorem procs_le {N C a b : Nat} (hC : C ≤ N) : procs N C a b ≤ (a + b) ^ N := by
  rw [← binom]
  exact su_mono (by omega)
theorem su_term {f : Nat → Nat} {n i : Nat} (h : i < n) : f i ≤ su f n := by
  induction n with
  | zero => omega
  | succ n ih =>
    rcases Nat.lt_or_eq_of_le (Nat.le_of_lt_succ h) with h | rfl
    · exact Nat.le_trans (ih h) (Nat.le_add_right _ _)
    · exact Nat.le_add_left _ _
end Go.Proofs.YtfebiipggcgmdaaGreatDoor

namespace Go.Proofs.YtfebiipggcgmdaaGreatDoor
open Go.RowKit

theorem chosen_nat (n k : Nat) (w : World) (hn : n ≤ 256) (he : Env w) : Calls Tryz.prog 64 #[.int .i64 n, .int .i64 k] w (OkEnd ((ch n k : Nat) : Int) w) := by
  by_cases hk : k ≤ n
  · have h := chosen_low n k (min k (n - k)) w hk (by omega) rfl (fun i _ => in_T2 (ch_step_le hn)) he
    by_cases hm : k ≤ n - k
    · rw [Nat.min_eq_left hm] at h; exact h
    · rw [Nat.min_eq_right (by omega), ch_symm hk] at h; exact h
  · rw [ch_gt (by omega)]
    exact chosen_out n k w (.inr (by omega))

set_option maxRecDepth 100000 in
set_option maxHeartbeats 1600000 in
theorem samples_any (N C lot bad k : Nat) (w : World) (hk : k ≤ N) (hN : N ≤ 256) (hb : bad ≤ lot) (hL : lot ≤ 256) (he : Env w) :
    Calls Tryz.prog 91 #[pl N C, .int .i64 lot, .int .i64 bad, .int .i64 k] w (OkEnd ((ch bad k * ch (lot - bad) (N - k) : Nat) : Int) w) := by
  have e1 : IntKind.i64.wrap ((lot : Int) - bad) = ((lot - bad : Nat) : Int) := by rw [Int.ofNat_sub hb]; exact IntWalk.i64_in _ (by omega)
  have e2 : IntKind.i64.wrap ((N : Int) - k) = ((N - k : Nat) : Int) := by rw [Int.ofNat_sub hk]; exact IntWalk.i64_in _ (by omega)
  obtain ⟨u, hu⟩ : ∃ u, lot - bad = u := ⟨_, rfl⟩
  obtain ⟨v, hv⟩ : ∃ v, N - k = v := ⟨_, rfl⟩
  rw [hu] at e1 ⊢
  rw [hv] at e2 ⊢
  have hu2 : u ≤ 256 := by omega
  have hle : ch bad k * ch u v ≤ TT := by
    have h1 : ch bad k * ch u v ≤ good N N lot bad := by
      rw [← hu, ← hv]
      exact su_term (f := fun k => ch bad k * ch (lot - bad) (N - k)) (by omega)
    exact Nat.le_trans h1 (Nat.le_trans (good_le (Nat.le_refl _) hb) (ch_TT N hL))
  have HA := Lib.hid (in_T1 (ch_TT k (show bad ≤ 256 by omega)))
  have HC := Lib.hid (in_T1 (ch_TT v hu2))
  have HP := Lib.hid (in_T1 hle)
  have H1 := Lib.hid (in_T0 (z := 1) (by decide))
  have HE := Lib.hid he
  have hc := two_cells w (.int .i64 N) (.int .i64 C) 30
  obtain ⟨c0, c1⟩ := hc
  have HB0 := Lib.hid ((Below.refl w.heap.size w).alloc (Nat.le_refl _) (.cells #[.int .i64 N, .int .i64 C] 30))
  have HSZ := Lib.hid (show (w.alloc (.cells #[.int .i64 N, .int .i64 C] 30)).heap.size = w.heap.size + 1 by simp)
  have hbb : bad ≤ 256 := by omega
  unfold pl
  clear he hle hu hv
  go_enter Tryz.func91, Tryz.ntmps91
  go_wp2_with fail
  refine (chosen_nat bad k _ hbb (HE.out.below HB0.out)).mono ?_
  rintro e w1 ⟨rfl, hb1⟩
  have HB1 := Lib.hid (HB0.out.trans (hb1.mono HB0.out.size))
  have d0 := (hb1.cell (p := ⟨w.heap.size, 0, none⟩) (by rw [HSZ.out]; exact Nat.lt_succ_self _)).trans c0
  clear hb1
  go_wp2_with fail
  refine (chosen_nat u v _ hu2 (HE.out.below HB1.out)).mono ?_
  rintro e w2 ⟨rfl, hb2⟩
  have HB2 := Lib.hid (HB1.out.trans (hb2.mono HB1.out.size))
  clear hb2
  have hc := two_cells w2 (.string (it ((ch bad k : Nat) : Int))) (.string (it ((ch u v : Nat) : Int))) 63
  have HC2 := Lib.hid hc
  have HB3 := Lib.hid (HB2.out.alloc HB2.out.size (.cells #[.string (it ((ch bad k : Nat) : Int)), .string (it ((ch u v : Nat) : Int))] 63))
  have HG := Lib.hid (show w2.heap.size < (w2.alloc (.cells #[.string (it ((ch bad k : Nat) : Int)), .string (it ((ch u v : Nat) : Int))] 63)).heap.size by simp)
  have hpr : pr [((ch bad k : Nat) : Int), ((ch u v : Nat) : Int)] 2 = ((ch bad k * ch u v : Nat) : Int) := by simp [pr]
  have HPR := Lib.hid hpr
  clear hc hpr
  go_wp2_with fail
  refine (product_any w2.heap.size [((ch bad k : Nat) : Int), ((ch u v : Nat) : Int)] _ (by simp) HG.out ?_ ?_ ?_ (HE.out.below HB3.out)).mono ?_
  · intro i z hi
    rcases i with _ | _ | i
    · cases hi; exact HC2.out.1
    · cases hi; exact HC2.out.2
    · cases hi
  · intro i z hi
    rcases i with _ | _ | i
    · cases hi; exact HA.out
    · cases hi; exact HC.out
    · cases hi
  · intro j hj
    rcases (show j = 0 ∨ j = 1 ∨ j = 2 by simp at hj; omega) with rfl | rfl | rfl
    · exact H1.out
    · have : pr [((ch bad k : Nat) : Int), ((ch u v : Nat) : Int)] 1 = ((ch bad k : Nat) : Int) := by simp [pr]
      rw [this]; exact HA.out
    · rw [HPR.out]; exact HP.out
  rintro e w3 ⟨rfl, hb3⟩
  have HB4 := Lib.hid (HB3.out.trans (hb3.mono HB3.out.size))
  clear hb3
  go_wp2
  go_ret2
  exact ⟨by rw [← HPR.out]; rfl, HB4.out⟩
end Go.Proofs.YtfebiipggcgmdaaGreatDoor

namespace Go.Proofs.YtfebiipggcgmdaaGreatDoor
open Go.RowKit

/-- what a closure with three variables captured keeps -/
def TermOk (f g1 g2 g3 c : Nat) (T : Nat → Nat) (w : World) : Prop := ∀ (k : Nat) (w2 : World), k ≤ c → Below w.heap.size w w2 →
  Calls Tryz.prog f #[.int .i64 k, .pointer (some ⟨g1, 0, none⟩), .pointer (some ⟨g2, 0, none⟩), .pointer (some ⟨g3, 0, none⟩)] w2 (OkEnd ((T k : Nat) : Int) w2)
theorem su_mono2 {f : Nat → Nat} {m n B : Nat} (h : su f n < B) (hm : m ≤ n) : su f m < B := Nat.lt_of_le_of_lt (su_mono hm) h

set_option maxRecDepth 100000 in
set_option maxHeartbeats 1600000 in
theorem total_accept (g1 g2 g3 c all : Nat) (T : Nat → Nat) (w : World) (hop : TermOk 90 g1 g2 g3 c T w) (hc : c ≤ 4096) (h0 : 0 < all) (ha : all < P500) (hs : su T (c + 1) < P500) (he : Env w) :
    Calls Tryz.prog 62 #[.int .i64 c, .string (it (all : Int)), .func (.func 90) #[] #[.pointer (some ⟨g1, 0, none⟩), .pointer (some ⟨g2, 0, none⟩), .pointer (some ⟨g3, 0, none⟩)]] w (RatEnd (mkRat ((su T (c + 1) : Nat) : Int) all) w) := by
  have HO := Lib.hid hop
  have HS := Lib.hid hs
  have HE := Lib.hid he
  have H0 := Lib.hid h0
  have HA := Lib.hid (in_500 ha)
  have HZ := Lib.hid it_zero
  have e1 : IntKind.i64.wrap ((c : Int) + 1) = (c : Int) + 1 := IntWalk.i64_in _ (by omega)
  clear hop h0 ha hs he
  go_enter Tryz.func62, Tryz.ntmps62
  go_wp2
  go_loopg [8, 14] (c + 1) (fun k s i wr => ∃ j : Nat, s = .string (it ((su T j : Nat) : Int)) ∧ i = .int .i64 j ∧ j + k = c + 1 ∧ Below w.heap.size w wr)
  case atStart => exact ⟨0, congrArg Value.string HZ.out.symm, rfl, by omega, Below.refl _ _⟩
  case round =>
    obtain ⟨j, rfl, rfl, hk, hbl⟩ := hrel
    by_cases hz : gk = 0
    · obtain rfl : j = c + 1 := by omega
      have HI := Lib.hid (in_500 HS.out)
      have HB := Lib.hid hbl
      clear hbl
      go_wp2_with fail
      refine (make_any ((su T (c + 1) : Nat) : Int) all _ H0.out HI.out HA.out (HE.out.below HB.out)).mono ?_
      rintro e w2 ⟨rfl, hb2⟩
      have HB2 := Lib.hid (HB.out.trans (hb2.mono HB.out.size))
      clear hb2
      go_wp2
      go_ret2
      exact ⟨rfl, HB2.out⟩
    · have hj : j ≤ c := by omega
      have hji : (j : Int) < (c : Int) + 1 := by omega
      have e2 : IntKind.i64.wrap ((j : Int) + 1) = (j : Int) + 1 := IntWalk.i64_in _ (by omega)
      have HB := Lib.hid hbl
      have HT := Lib.hid (HO.out j wr hj hbl)
      have HI := Lib.hid (in_500 (su_mono2 HS.out (show j ≤ c + 1 by omega)))
      have HJ := Lib.hid (in_500 (z := T j) (Nat.lt_of_le_of_lt (su_term (f := T) (show j < c + 1 by omega)) HS.out))
      have HK := Lib.hid (show ((su T (j + 1) : Nat) : Int) = ((su T j : Nat) : Int) + ((T j : Nat) : Int) from Int.natCast_add _ _)
      have HL := Lib.hid (in_500 (su_mono2 HS.out (show j + 1 ≤ c + 1 by omega)))
      clear hbl
      go_wp2_with fail
      refine HT.out.mono ?_
      rintro e w2 ⟨rfl, hb2⟩
      have HB2 := Lib.hid (HB.out.trans (hb2.mono HB.out.size))
      clear hb2
      go_wp2_with fail
      refine (add_any ((su T j : Nat) : Int) ((T j : Nat) : Int) _ HI.out HJ.out (by rw [← HK.out]; exact HL.out) (HE.out.below HB2.out)).mono ?_
      rintro e w3 ⟨rfl, hb3⟩
      have HB3 := Lib.hid (HB2.out.trans (hb3.mono HB2.out.size))
      clear hb3
      go_wp2
      go_roundg (gk - 1)
      case rel => exact ⟨j + 1, by rw [HK.out], by simp, by omega, HB3.out⟩
      case measure => omega

set_option maxRecDepth 100000 in
set_option maxHeartbeats 1600000 in
theorem total_outgoing (g1 g2 g3 c all : Nat) (T : Nat → Nat) (w : World) (hop : TermOk 96 g1 g2 g3 c T w) (hc : c ≤ 4096) (h0 : 0 < all) (ha : all < P500) (hs : su T (c + 1) < P500) (he : Env w) :
    Calls Tryz.prog 62 #[.int .i64 c, .string (it (all : Int)), .func (.func 96) #[] #[.pointer (some ⟨g1, 0, none⟩), .pointer (some ⟨g2, 0, none⟩), .pointer (some ⟨g3, 0, none⟩)]] w (RatEnd (mkRat ((su T (c + 1) : Nat) : Int) all) w) := by
  have HO := Lib.hid hop
  have HS := Lib.hid hs
  have HE := Lib.hid he
  have H0 := Lib.hid h0
  have HA := Lib.hid (in_500 ha)
  have HZ := Lib.hid it_zero
  have e1 : IntKind.i64.wrap ((c : Int) + 1) = (c : Int) + 1 := IntWalk.i64_in _ (by omega)
  clear hop h0 ha hs he
  go_enter Tryz.func62, Tryz.ntmps62
  go_wp2
  go_loopg [8, 14] (c + 1) (fun k s i wr => ∃ j : Nat, s = .string (it ((su T j : Nat) : Int)) ∧ i = .int .i64 j ∧ j + k = c + 1 ∧ Below w.heap.size w wr)
  case atStart => exact ⟨0, congrArg Value.string HZ.out.symm, rfl, by omega, Below.refl _ _⟩
  case round =>
    obtain ⟨j, rfl, rfl, hk, hbl⟩ := hrel
    by_cases hz : gk = 0
    · obtain rfl : j = c + 1 := by omega
      have HI := Lib.hid (in_500 HS.out)
      have HB := Lib.hid hbl
      clear hbl
      go_wp2_with fail
      refine (make_any ((su T (c + 1) : Nat) : Int) all _ H0.out HI.out HA.out (HE.out.below HB.out)).mono ?_
      rintro e w2 ⟨rfl, hb2⟩
      have HB2 := Lib.hid (HB.out.trans (hb2.mono HB.out.size))
      clear hb2
      go_wp2
      go_ret2
      exact ⟨rfl, HB2.out⟩
    · have hj : j ≤ c := by omega
      have hji : (j : Int) < (c : Int) + 1 := by omega
      have e2 : IntKind.i64.wrap ((j : Int) + 1) = (j : Int) + 1 := IntWalk.i64_in _ (by omega)
      have HB := Lib.hid hbl
      have HT := Lib.hid (HO.out j wr hj hbl)
      have HI := Lib.hid (in_500 (su_mono2 HS.out (show j ≤ c + 1 by omega)))
      have HJ := Lib.hid (in_500 (z := T j) (Nat.lt_of_le_of_lt (su_term (f := T) (show j < c + 1 by omega)) HS.out))
      have HK := Lib.hid (show ((su T (j + 1) : Nat) : Int) = ((su T j : Nat) : Int) + ((T j : Nat) : Int) from Int.natCast_add _ _)
      have HL := Lib.hid (in_500 (su_mono2 HS.out (show j + 1 ≤ c + 1 by omega)))
      clear hbl
      go_wp2_with fail
      refine HT.out.mono ?_
      rintro e w2 ⟨rfl, hb2⟩
      have HB2 := Lib.hid (HB.out.trans (hb2.mono HB.out.size))
      clear hb2
      go_wp2_with fail
      refine (add_any ((su T j : Nat) : Int) ((T j : Nat) : Int) _ HI.out HJ.out (by rw [← HK.out]; exact HL.out) (HE.out.below HB2.out)).mono ?_
      rintro e w3 ⟨rfl, hb3⟩
      have HB3 := Lib.hid (HB2.out.trans (hb3.mono HB2.out.size))
      clear hb3
      go_wp2
      go_roundg (gk - 1)
      case rel => exact ⟨j + 1, by rw [HK.out], by simp, by omega, HB3.out⟩
      case measure => omega

set_option maxRecDepth 100000 in
set_option maxHeartbeats 1600000 in
theorem total_Binomial (g1 g2 g3 c all : Nat) (T : Nat → Nat) (w : World) (hop : TermOk 63 g1 g2 g3 c T w) (hc : c ≤ 4096) (h0 : 0 < all) (ha : all < P500) (hs : su T (c + 1) < P500) (he : Env w) :
    Calls Tryz.prog 62 #[.int .i64 c, .string (it (all : Int)), .func (.func 63) #[] #[.pointer (some ⟨g1, 0, none⟩), .pointer (some ⟨g2, 0, none⟩), .pointer (some ⟨g3, 0, none⟩)]] w (RatEnd (mkRat ((su T (c + 1) : Nat) : Int) all) w) := by
  have HO := Lib.hid hop
  have HS := Lib.hid hs
  have HE := Lib.hid he
  have H0 := Lib.hid h0
  have HA := Lib.hid (in_500 ha)
  have HZ := Lib.hid it_zero
  have e1 : IntKind.i64.wrap ((c : Int) + 1) = (c : Int) + 1 := IntWalk.i64_in _ (by omega)
  clear hop h0 ha hs he
  go_enter Tryz.func62, Tryz.ntmps62
  go_wp2
  go_loopg [8, 14] (c + 1) (fun k s i wr => ∃ j : Nat, s = .string (it ((su T j : Nat) : Int)) ∧ i = .int .i64 j ∧ j + k = c + 1 ∧ Below w.heap.size w wr)
  case atStart => exact ⟨0, congrArg Value.string HZ.out.symm, rfl, by omega, Below.refl _ _⟩
  case round =>
    obtain ⟨j, rfl, rfl, hk, hbl⟩ := hrel
    by_cases hz : gk = 0
    · obtain rfl : j = c + 1 := by omega
      have HI := Lib.hid (in_500 HS.out)
      have HB := Lib.hid hbl
      clear hbl
      go_wp2_with fail
      refine (make_any ((su T (c + 1) : Nat) : Int) all _ H0.out HI.out HA.out (HE.out.below HB.out)).mono ?_
      rintro e w2 ⟨rfl, hb2⟩
      have HB2 := Lib.hid (HB.out.trans (hb2.mono HB.out.size))
      clear hb2
      go_wp2
      go_ret2
      exact ⟨rfl, HB2.out⟩
    · have hj : j ≤ c := by omega
      have hji : (j : Int) < (c : Int) + 1 := by omega
      have e2 : IntKind.i64.wrap ((j : Int) + 1) = (j : Int) + 1 := IntWalk.i64_in _ (by omega)
      have HB := Lib.hid hbl
      have HT := Lib.hid (HO.out j wr hj hbl)
      have HI := Lib.hid (in_500 (su_mono2 HS.out (show j ≤ c + 1 by omega)))
      have HJ := Lib.hid (in_500 (z := T j) (Nat.lt_of_le_of_lt (su_term (f := T) (show j < c + 1 by omega)) HS.out))
      have HK := Lib.hid (show ((su T (j + 1) : Nat) : Int) = ((su T j : Nat) : Int) + ((T j : Nat) : Int) from Int.natCast_add _ _)
      have HL := Lib.hid (in_500 (su_mono2 HS.out (show j + 1 ≤ c + 1 by omega)))
      clear hbl
      go_wp2_with fail
      refine HT.out.mono ?_
      rintro e w2 ⟨rfl, hb2⟩
      have HB2 := Lib.hid (HB.out.trans (hb2.mono HB.out.size))
      clear hb2
      go_wp2_with fail
      refine (add_any ((su T j : Nat) : Int) ((T j : Nat) : Int) _ HI.out HJ.out (by rw [← HK.out]; exact HL.out) (HE.out.below HB2.out)).mono ?_
      rintro e w3 ⟨rfl, hb3⟩
      have HB3 := Lib.hid (HB2.out.trans (hb3.mono HB2.out.size))
      clear hb3
      go_wp2
      go_roundg (gk - 1)
      case rel => exact ⟨j + 1, by rw [HK.out], by simp, by omega, HB3.out⟩
      case measure => omega
end Go.Proofs.YtfebiipggcgmdaaGreatDoor

namespace Go.Proofs.YtfebiipggcgmdaaGreatDoor
open Go.RowKit

/-- three boxes: a plan and two values -/
structure Box3 (w : World) (g1 g2 g3 : Nat) (N C x y : Value) : Prop where
  n : w.cell? ⟨g1, 0, none⟩ = some N
  c : w.cell? ⟨g1, 1, none⟩ = some C
  x : w.cell? ⟨g2, 0, none⟩ = some x
  y : w.cell? ⟨g3, 0, none⟩ = some y
  h1 : g1 < w.heap.size
  h2 : g2 < w.heap.size
  h3 : g3 < w.heap.size
theorem Box3.below {w w' : World} {g1 g2 g3 : Nat} {N C x y : Value} (h : Box3 w g1 g2 g3 N C x y) (hb : Below w.heap.size w w') : Box3 w' g1 g2 g3 N C x y :=
  ⟨(hb.cell (p := ⟨g1, 0, none⟩) h.h1).trans h.n, (hb.cell (p := ⟨g1, 1, none⟩) h.h1).trans h.c, (hb.cell (p := ⟨g2, 0, none⟩) h.h2).trans h.x, (hb.cell (p := ⟨g3, 0, none⟩) h.h3).trans h.y,
    Nat.lt_of_lt_of_le h.h1 hb.size, Nat.lt_of_lt_of_le h.h2 hb.size, Nat.lt_of_lt_of_le h.h3 hb.size⟩

theorem box3_new (w : World) (N C x y : Value) (t1 t2 t3 : TypeId) : Box3 (((w.alloc (.cells #[N, C] t1)).alloc (.cells #[x] t2)).alloc (.cells #[y] t3)) w.heap.size (w.heap.size + 1) (w.heap.size + 1 + 1) N C x y := by
  have a1 := two_cells w N C t1
  obtain ⟨W1, hW1⟩ : ∃ W1, w.alloc (.cells #[N, C] t1) = W1 := ⟨_, rfl⟩
  have s1 : W1.heap.size = w.heap.size + 1 := by rw [← hW1]; simp
  rw [hW1] at a1 ⊢
  obtain ⟨W2, hW2⟩ : ∃ W2, W1.alloc (.cells #[x] t2) = W2 := ⟨_, rfl⟩
  have s2 : W2.heap.size = w.heap.size + 1 + 1 := by rw [← hW2]; simp [s1]
  have b2 : Below W1.heap.size W1 W2 := by rw [← hW2]; exact (Below.refl _ _).alloc (Nat.le_refl _) _
  have c2 : W2.cell? ⟨w.heap.size + 1, 0, none⟩ = some x := by
    rw [← hW2, ← s1]; simp only [World.cell?, heap_alloc_new]; rfl
  rw [hW2]
  obtain ⟨W3, hW3⟩ : ∃ W3, W2.alloc (.cells #[y] t3) = W3 := ⟨_, rfl⟩
  have b3 : Below W2.heap.size W2 W3 := by rw [← hW3]; exact (Below.refl _ _).alloc (Nat.le_refl _) _
  have s3 : W3.heap.size = w.heap.size + 1 + 1 + 1 := by rw [← hW3]; simp [s2]
  have c3 : W3.cell? ⟨w.heap.size + 1 + 1, 0, none⟩ = some y := by
    rw [← hW3, ← s2]; simp only [World.cell?, heap_alloc_new]; rfl
  rw [hW3]
  refine ⟨?_, ?_, ?_, c3, by omega, by omega, by omega⟩
  · exact (b3.cell (p := ⟨w.heap.size, 0, none⟩) (by show w.heap.size < _; omega)).trans ((b2.cell (p := ⟨w.heap.size, 0, none⟩) (by show w.heap.size < _; omega)).trans a1.1)
  · exact (b3.cell (p := ⟨w.heap.size, 1, none⟩) (by show w.heap.size < _; omega)).trans ((b2.cell (p := ⟨w.heap.size, 1, none⟩) (by show w.heap.size < _; omega)).trans a1.2)
  · exact (b3.cell (p := ⟨w.heap.size + 1, 0, none⟩) (by show w.heap.size + 1 < _; omega)).trans c2

set_option maxRecDepth 100000 in
set_option maxHeartbeats 1600000 in
theorem acceptC_any (g1 g2 g3 N C lot bad c : Nat) (w : World) (h : Box3 w g1 g2 g3 (.int .i64 N) (.int .i64 C) (.int .i64 lot) (.int .i64 bad)) (hc : c ≤ N) (hN : N ≤ 256) (hb : bad ≤ lot) (hL : lot ≤ 256) (he : Env w) :
    TermOk 90 g1 g2 g3 c (fun k => ch bad k * ch (lot - bad) (N - k)) w := by
  intro k w2 hk hbl
  obtain ⟨c1, c2, c3, c4, -, -, -⟩ := h.below hbl
  have HE := Lib.hid (he.below hbl)
  have hkN : k ≤ N := by omega
  have HS := Lib.hid (samples_any N C lot bad k w2 hkN hN hb hL HE.out)
  clear he hbl h
  go_enter Tryz.func90, Tryz.ntmps90
  go_wp2_with fail
  refine HS.out.mono ?_
  rintro e w3 ⟨rfl, hb3⟩
  have HB3 := Lib.hid hb3
  clear hb3
  go_wp2
  go_ret2
  exact ⟨rfl, HB3.out⟩

set_option maxRecDepth 100000 in
set_option maxHeartbeats 3200000 in
theorem accept_any (N C lot bad : Nat) (w : World) (hC : C ≤ N) (hN : N ≤ lot) (hb : bad ≤ lot) (hL : lot ≤ 256) (he : Env w) :
    Calls Tryz.prog 44 #[pl N C, .int .i64 lot, .int .i64 bad] w (RatEnd (mkRat ((good N C lot bad : Nat) : Int) (ch lot N)) w) := by
  have hmf : ∀ (fn : Fn) (first cap : Array Value) (w : World), (Instr.makeFunc fn first cap).run Tryz.prog w = .ok (.func fn first cap) w := fun _ _ _ _ => rfl
  have HE := Lib.hid he
  have hbx := box3_new w (.int .i64 N) (.int .i64 C) (.int .i64 lot) (.int .i64 bad) 30 3 3
  have HX := Lib.hid hbx
  obtain ⟨c1, c2, c3, c4, -, -, -⟩ := hbx
  have HB0 := Lib.hid ((((Below.refl w.heap.size w).alloc (Nat.le_refl _) (.cells #[.int .i64 N, .int .i64 C] 30)).alloc (by simp) (.cells #[.int .i64 lot] 3)).alloc (by simp; omega) (.cells #[.int .i64 bad] 3))
  have HT := Lib.hid (show good N C lot bad < P500 from lt_T1 (Nat.le_trans (good_le hC hb) (ch_TT N hL)))
  have HA := Lib.hid (show ch lot N < P500 from lt_T1 (ch_TT N hL))
  have HP := Lib.hid (ch_pos hN)
  unfold pl
  clear he
  go_enter Tryz.func44, Tryz.ntmps44
  go_wp2_with fail
  refine (chosen_nat lot N _ hL (HE.out.below HB0.out)).mono ?_
  rintro e w1 ⟨rfl, hb1⟩
  have HB1 := Lib.hid (HB0.out.trans (hb1.mono HB0.out.size))
  have hx1 := HX.out.below hb1
  have HX1 := Lib.hid hx1
  obtain ⟨d1, d2, d3, d4, -, -, -⟩ := hx1
  clear hb1 c1 c2 c3 c4
  go_wp2_with fail
  refine (total_accept w.heap.size (w.heap.size + 1) (w.heap.size + 1 + 1) C (ch lot N) (fun k => ch bad k * ch (lot - bad) (N - k)) w1 (acceptC_any _ _ _ N C lot bad C w1 HX1.out hC (by omega) hb hL (HE.out.below HB1.out)) (by omega) HP.out HA.out HT.out (HE.out.below HB1.out)).mono ?_
  rintro e w2 ⟨rfl, hb2⟩
  have HB2 := Lib.hid (HB1.out.trans (hb2.mono HB1.out.size))
  clear hb2
  go_wp2
  go_ret2
  exact ⟨rfl, HB2.out⟩
end Go.Proofs.YtfebiipggcgmdaaGreatDoor

namespace Go.Proofs.YtfebiipggcgmdaaGreatDoor
open Go.RowKit

set_option maxRecDepth 100000 in
set_option maxHeartbeats 1600000 in
theorem outgoingC_any (g1 g2 g3 N C lot bad c : Nat) (w : World) (h : Box3 w g1 g2 g3 (.int .i64 N) (.int .i64 C) (.int .i64 lot) (.int .i64 bad)) (hc : c ≤ N) (hcb : c ≤ bad) (hN : N ≤ 256) (hb : bad ≤ lot) (hL : lot ≤ 256) (he : Env w) :
    TermOk 96 g1 g2 g3 c (fun k => ch bad k * ch (lot - bad) (N - k) * (bad - k)) w := by
  intro k w2 hk hbl
  obtain ⟨c1, c2, c3, c4, -, -, l3⟩ := h.below hbl
  have HE := Lib.hid (he.below hbl)
  have hkN : k ≤ N := by omega
  have HS := Lib.hid (samples_any N C lot bad k w2 hkN hN hb hL HE.out)
  have e1 : IntKind.i64.wrap ((bad : Int) - k) = ((bad - k : Nat) : Int) := by rw [Int.ofNat_sub (by omega)]; exact IntWalk.i64_in _ (by omega)
  obtain ⟨v, hv⟩ : ∃ v, bad - k = v := ⟨_, rfl⟩
  have hle : ch bad k * ch (lot - bad) (N - k) ≤ TT := by
    have h1 : ch bad k * ch (lot - bad) (N - k) ≤ good N N lot bad := su_term (f := fun k => ch bad k * ch (lot - bad) (N - k)) (by omega)
    exact Nat.le_trans h1 (Nat.le_trans (good_le (Nat.le_refl _) hb) (ch_TT N hL))
  show Calls _ _ _ _ (OkEnd ((ch bad k * ch (lot - bad) (N - k) * (bad - k) : Nat) : Int) w2)
  rw [hv] at e1 ⊢
  have hv2 : v ≤ 256 := by omega
  obtain ⟨u, hu⟩ : ∃ u, ch bad k * ch (lot - bad) (N - k) = u := ⟨_, rfl⟩
  rw [hu] at HS hle ⊢
  have huv : u * v ≤ TT * 256 := Nat.mul_le_mul hle hv2
  have HA := Lib.hid (in_T1 hle)
  have HC := Lib.hid (in_T0 (z := v) (by omega))
  have HP := Lib.hid (in_T2 huv)
  have H1 := Lib.hid (in_T0 (z := 1) (by decide))
  clear he hbl h hle huv hv hu
  go_enter Tryz.func96, Tryz.ntmps96
  go_wp2_with fail
  refine HS.out.mono ?_
  rintro e w3 ⟨rfl, hb3⟩
  have HB3 := Lib.hid hb3
  have d4 := (hb3.cell (p := ⟨g3, 0, none⟩) l3).trans c4
  clear hb3
  go_wp2_with fail
  refine (of_any v (by omega) (by omega) _ (HE.out.below HB3.out)).mono ?_
  rintro e w4 ⟨rfl, hb4⟩
  have HB4 := Lib.hid (HB3.out.trans (hb4.mono HB3.out.size))
  clear hb4
  have hc := two_cells w4 (.string (it (u : Int))) (.string (it (v : Int))) 63
  have HC2 := Lib.hid hc
  have HB5 := Lib.hid (HB4.out.alloc HB4.out.size (.cells #[.string (it (u : Int)), .string (it (v : Int))] 63))
  have HG := Lib.hid (show w4.heap.size < (w4.alloc (.cells #[.string (it (u : Int)), .string (it (v : Int))] 63)).heap.size by simp)
  have hpr : pr [(u : Int), (v : Int)] 2 = ((u * v : Nat) : Int) := by simp [pr]
  have HPR := Lib.hid hpr
  clear hc hpr
  go_wp2_with fail
  refine (product_any w4.heap.size [(u : Int), (v : Int)] _ (by simp) HG.out ?_ ?_ ?_ (HE.out.below HB5.out)).mono ?_
  · intro i z hi
    rcases i with _ | _ | i
    · cases hi; exact HC2.out.1
    · cases hi; exact HC2.out.2
    · cases hi
  · intro i z hi
    rcases i with _ | _ | i
    · cases hi; exact HA.out
    · cases hi; exact HC.out
    · cases hi
  · intro j hj
    rcases (show j = 0 ∨ j = 1 ∨ j = 2 by simp at hj; omega) with rfl | rfl | rfl
    · exact H1.out
    · have : pr [(u : Int), (v : Int)] 1 = (u : Int) := by simp [pr]
      rw [this]; exact HA.out
    · rw [HPR.out]; exact HP.out
  rintro e w6 ⟨rfl, hb6⟩
  have HB6 := Lib.hid (HB5.out.trans (hb6.mono HB5.out.size))
  clear hb6
  go_wp2
  go_ret2
  exact ⟨by rw [← HPR.out]; rfl, HB6.out⟩

set_option maxRecDepth 100000 in
set_option maxHeartbeats 3200000 in
theorem outgoing_any (N C lot bad : Nat) (w : World) (hC : C ≤ N) (hN : N ≤ lot) (hb : bad ≤ lot) (hL : lot ≤ 256) (hl0 : 0 < lot) (he : Env w) :
    Calls Tryz.prog 47 #[pl N C, .int .i64 lot, .int .i64 bad] w (RatEnd (mkRat ((left N C lot bad : Nat) : Int) (ch lot N * lot)) w) := by
  have hmf : ∀ (fn : Fn) (first cap : Array Value) (w : World), (Instr.makeFunc fn first cap).run Tryz.prog w = .ok (.func fn first cap) w := fun _ _ _ _ => rfl
  have HE := Lib.hid he
  have hbx := box3_new w (.int .i64 N) (.int .i64 C) (.int .i64 lot) (.int .i64 bad) 30 3 3
  have HX := Lib.hid hbx
  obtain ⟨c1, c2, c3, c4, -, -, -⟩ := hbx
  have HB0 := Lib.hid ((((Below.refl w.heap.size w).alloc (Nat.le_refl _) (.cells #[.int .i64 N, .int .i64 C] 30)).alloc (by simp) (.cells #[.int .i64 lot] 3)).alloc (by simp; omega) (.cells #[.int .i64 bad] 3))
  have hll : ch lot N * bad ≤ TT * 256 := Nat.mul_le_mul (ch_TT N hL) (by omega)
  have hal : ch lot N * lot ≤ TT * 256 := Nat.mul_le_mul (ch_TT N hL) (by omega)
  have HT := Lib.hid (show left N C lot bad < P500 from lt_T2 (Nat.le_trans (left_le hC hb) hll))
  have hA := lt_T2 hal
  have HI := Lib.hid (in_T1 (ch_TT N hL))
  have HJ := Lib.hid (in_T0 (z := lot) (by omega))
  have hP := Nat.mul_pos (ch_pos hN) hl0
  obtain ⟨all, hall⟩ : ∃ all, ch lot N * lot = all := ⟨_, rfl⟩
  have HM := Lib.hid (show ((ch lot N : Nat) : Int) * ((lot : Nat) : Int) = ((all : Nat) : Int) by rw [← hall]; exact (Int.natCast_mul _ _).symm)
  rw [hall] at hA hP ⊢
  have HA := Lib.hid hA
  have HP := Lib.hid hP
  have hmin : min (C : Int) (bad : Int) = ((min C bad : Nat) : Int) := by omega
  obtain ⟨m, hm⟩ : ∃ m, min C bad = m := ⟨_, rfl⟩
  have HMI := Lib.hid hm
  rw [hm] at hmin
  have hm1 : m ≤ C := by omega
  have hm2 : m ≤ bad := by omega
  unfold pl
  clear he hll hal hm hall hA hP
  go_enter Tryz.func47, Tryz.ntmps47
  go_wp2_with fail
  refine (chosen_nat lot N _ hL (HE.out.below HB0.out)).mono ?_
  rintro e w1 ⟨rfl, hb1⟩
  have HB1 := Lib.hid (HB0.out.trans (hb1.mono HB0.out.size))
  have hx1 := HX.out.below hb1
  have HX1 := Lib.hid hx1
  obtain ⟨d1, d2, d3, d4, -, -, -⟩ := hx1
  clear hb1 c1 c2 c3 c4
  go_wp2_with fail
  refine (of_any lot (by omega) (by omega) _ (HE.out.below HB1.out)).mono ?_
  rintro e w2 ⟨rfl, hb2⟩
  have HB2 := Lib.hid (HB1.out.trans (hb2.mono HB1.out.size))
  have HX2 := Lib.hid (HX1.out.below hb2)
  clear hb2 d1 d2 d3 d4
  go_wp2_with fail
  refine (muli_any ((ch lot N : Nat) : Int) lot _ HI.out HJ.out (by rw [HM.out]; exact in_500 HA.out) (HE.out.below HB2.out)).mono ?_
  rintro e w3 ⟨rfl, hb3⟩
  have HB3 := Lib.hid (HB2.out.trans (hb3.mono HB2.out.size))
  have hx3 := HX2.out.below hb3
  have HX3 := Lib.hid hx3
  obtain ⟨d1, d2, d3, d4, -, -, -⟩ := hx3
  clear hb3
  rw [HM.out]
  go_wp2_with fail
  refine (total_outgoing w.heap.size (w.heap.size + 1) (w.heap.size + 1 + 1) m all (fun k => ch bad k * ch (lot - bad) (N - k) * (bad - k)) w3 (outgoingC_any _ _ _ N C lot bad m w3 HX3.out (by omega) (by omega) (by omega) hb hL (HE.out.below HB3.out)) (by omega) HP.out HA.out (by rw [← HMI.out]; exact HT.out) (HE.out.below HB3.out)).mono ?_
  rintro e w4 ⟨rfl, hb4⟩
  have HB4 := Lib.hid (HB3.out.trans (hb4.mono HB3.out.size))
  clear hb4
  go_wp2
  go_ret2
  refine ⟨?_, HB4.out⟩
  have hl : left N C lot bad = su (fun k => ch bad k * ch (lot - bad) (N - k) * (bad - k)) (m + 1) := by unfold left; rw [HMI.out]
  rw [hl]; rfl
end Go.Proofs.YtfebiipggcgmdaaGreatDoor
