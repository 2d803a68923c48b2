import Derived.Test.YtfebiipggcgmdaaGreatDoorQ1
namespace Go.Proofs.YtfebiipggcgmdaaGreatDoor
open Go.RowKit

/-! ## The reference's probability of a process -/
theorem pbg_mk {a d : Nat} (hd : 0 < d) (ha : dl (a : Int) ≤ 20000) (hd2 : dl (d : Int) ≤ 20000) : pbg (mkRat (a : Int) d) := by
  refine ⟨⟨?_, ?_⟩, ?_⟩
  · refine Nat.le_trans (dl_mono ?_) ha
    rw [Rat.num_mkRat, if_neg (by omega), Int.natAbs_natCast, ← Int.natCast_ediv, Int.natAbs_natCast]
    exact Nat.div_le_self _ _
  · refine Nat.le_trans (dl_mono ?_) hd2
    rw [Rat.den_mkRat, if_neg (by omega), Int.natAbs_natCast, Int.natAbs_natCast]
    exact Nat.div_le_self _ _
  · rw [Rat.num_mkRat, if_neg (by omega), Int.natAbs_natCast, ← Int.natCast_ediv]
    exact Int.natCast_nonneg _
theorem dl_nat_mul (a b : Nat) : dl ((a * b : Nat) : Int) ≤ dl (a : Int) + dl (b : Int) := by rw [Int.natCast_mul]; exact dl_mul _ _
theorem dl_nat_le {a b : Nat} (h : a ≤ b) : dl (a : Int) ≤ dl (b : Int) := dl_mono (by rw [Int.natAbs_natCast, Int.natAbs_natCast]; exact h)
theorem dl_pow (d : Nat) : ∀ i : Nat, dl ((d ^ i : Nat) : Int) ≤ 1 + i * dl (d : Int)
  | 0 => by rw [Nat.pow_zero, show ((1 : Nat) : Int) = 1 from rfl]; exact Nat.le_trans ((dl_le_iff (k := 1) (by omega)).2 (by decide)) (by omega)
  | i + 1 => by
    have ih := dl_pow d i
    have h := dl_nat_mul (d ^ i) d
    rw [Nat.pow_succ, Nat.add_mul]
    omega
/-- the product behind i factors -/
def xk (N k n b : Nat) : Nat → Nat
  | 0 => ch N k
  | i + 1 => xk N k n b i * if i < k then n else b
theorem xk_lo (N k n b : Nat) : ∀ i : Nat, i ≤ k → xk N k n b i = ch N k * n ^ i
  | 0, _ => by simp [xk]
  | i + 1, h => by rw [xk, xk_lo N k n b i (by omega), if_pos (by omega), Nat.pow_succ, Nat.mul_assoc]
theorem xk_hi (N k n b : Nat) : ∀ j : Nat, xk N k n b (k + j) = ch N k * (n ^ k * b ^ j)
  | 0 => by rw [Nat.add_zero, xk_lo N k n b k (Nat.le_refl _)]; simp
  | j + 1 => by rw [← Nat.add_assoc, xk, xk_hi N k n b j, if_neg (by omega), Nat.pow_succ]; ac_rfl
theorem xk_end {N k n b : Nat} (h : k ≤ N) : xk N k n b N = ch N k * (n ^ k * b ^ (N - k)) := by
  have := xk_hi N k n b (N - k)
  rw [show k + (N - k) = N by omega] at this
  exact this
theorem xk_le {N k n b d : Nat} (hn : n ≤ d) (hb : b ≤ d) : ∀ i : Nat, xk N k n b i ≤ ch N k * d ^ i
  | 0 => by simp [xk]
  | i + 1 => by
    rw [xk, Nat.pow_succ, ← Nat.mul_assoc]
    refine Nat.mul_le_mul (xk_le hn hb i) ?_
    split <;> assumption
theorem mk_mul (a n d e : Nat) : mkRat (a : Int) d * mkRat (n : Int) e = mkRat ((a * n : Nat) : Int) (d * e) := by
  rw [Rat.mkRat_mul_mkRat, Int.natCast_mul]
theorem q_mk {q : Rat} {n : Nat} (h : q.num = (n : Int)) : q = mkRat (n : Int) q.den := by rw [← h]; exact (Rat.mkRat_self q).symm
theorem r_mk {q : Rat} {n b : Nat} (h : q.num = (n : Int)) (hb : n + b = q.den) : 1 - q = mkRat (b : Int) q.den := by
  rw [one_sub, h, show (q.den : Int) - n = (b : Int) by omega]
/-- what the walk needs of a small process -/
structure Proc (N C n b : Nat) (q : Rat) : Prop where
  h1 : 1 ≤ N
  h8 : N ≤ 8
  hC : C ≤ N
  hq : q.num = (n : Int)
  hb : n + b = q.den
  hd : dl (q.den : Int) ≤ 12
theorem ch8 {N k : Nat} (h : N ≤ 8) : ch N k ≤ 256 := Nat.le_trans (ch_two N k) (Nat.le_trans (Nat.pow_le_pow_right (by omega) h) (by decide))
section
variable {N C n b : Nat} {q : Rat}
theorem Proc.dp (h : Proc N C n b q) {i : Nat} (hi : i ≤ N) : dl ((q.den ^ i : Nat) : Int) ≤ 97 := by
  have h2 := dl_pow q.den i
  have h3 := h.hd
  have h4 : i * dl (q.den : Int) ≤ 8 * 12 := Nat.mul_le_mul (by have := h.h8; omega) h3
  omega
theorem Proc.px (h : Proc N C n b q) {k i : Nat} (hi : i ≤ N) : pbg (mkRat ((xk N k n b i : Nat) : Int) (q.den ^ i)) := by
  refine pbg_mk (Nat.pow_pos q.den_pos) ?_ (Nat.le_trans (h.dp hi) (by omega))
  have h1 := xk_le (N := N) (k := k) (n := n) (b := b) (d := q.den) (by have := h.hb; omega) (by have := h.hb; omega) i
  have h2 := dl_nat_le h1
  have h3 := dl_nat_mul (ch N k) (q.den ^ i)
  have h4 := dl_nat_le (ch8 (k := k) h.h8)
  have h5 : dl ((256 : Nat) : Int) ≤ 3 := (dl_le_iff (by omega)).2 (by decide)
  have h6 := h.dp hi
  omega
theorem Proc.pq (h : Proc N C n b q) : pbg q := by
  refine ⟨⟨?_, ?_⟩, by rw [h.hq]; exact Int.natCast_nonneg _⟩
  · rw [h.hq]
    have := dl_nat_le (show n ≤ q.den by have := h.hb; omega)
    have := h.hd
    omega
  · have := h.hd; omega
theorem Proc.pr (h : Proc N C n b q) : pbg (1 - q) := by
  rw [r_mk h.hq h.hb]
  have h1 := dl_nat_le (show b ≤ q.den by have := h.hb; omega)
  have h2 := h.hd
  exact pbg_mk q.den_pos (by omega) (by omega)
/-- the sum of the first terms -/
def sk (N n b : Nat) (k : Nat) : Nat := su (fun k => ch N k * (n ^ k * b ^ (N - k))) k
theorem Proc.ps (h : Proc N C n b q) {k : Nat} (hk : k ≤ N + 1) : pbg (mkRat ((sk N n b k : Nat) : Int) (q.den ^ N)) := by
  have h1 : sk N n b k ≤ q.den ^ N := by
    rw [← h.hb]
    refine Nat.le_trans (su_mono hk) ?_
    exact procs_le (Nat.le_refl N)
  have h2 := h.dp (Nat.le_refl N)
  have h3 := dl_nat_le h1
  exact pbg_mk (Nat.pow_pos q.den_pos) (by omega) (by omega)
theorem Proc.stepq (h : Proc N C n b q) {k i : Nat} (hi : i < k) : mkRat ((xk N k n b i : Nat) : Int) (q.den ^ i) * q = mkRat ((xk N k n b (i + 1) : Nat) : Int) (q.den ^ (i + 1)) := by
  have e := q_mk h.hq
  rw [show mkRat ((xk N k n b i : Nat) : Int) (q.den ^ i) * q = mkRat ((xk N k n b i : Nat) : Int) (q.den ^ i) * mkRat (n : Int) q.den by rw [← e], mk_mul, xk, if_pos hi, Nat.pow_succ]
theorem Proc.stepr (h : Proc N C n b q) {k i : Nat} (hi : ¬ i < k) : mkRat ((xk N k n b i : Nat) : Int) (q.den ^ i) * (1 - q) = mkRat ((xk N k n b (i + 1) : Nat) : Int) (q.den ^ (i + 1)) := by
  rw [r_mk h.hq h.hb, mk_mul, xk, if_neg hi, Nat.pow_succ]
theorem proc_sum (N n b : Nat) (q : Rat) {k : Nat} (hk : k ≤ N) : mkRat ((sk N n b k : Nat) : Int) (q.den ^ N) + mkRat ((xk N k n b N : Nat) : Int) (q.den ^ N) = mkRat ((sk N n b (k + 1) : Nat) : Int) (q.den ^ N) := by
  rw [mkRat_add_same _ _ (Nat.pow_pos q.den_pos), ← Int.natCast_add, xk_end hk]
  rfl
end

set_option maxRecDepth 100000 in
theorem rwhole (n : Nat) (w : World) (hn : n < 9223372036854775808) : Calls Tryz.prog 115 #[.int .i64 n] w fun e w' => e = .returned (.string (rt (mkRat (n : Int) 1))) ∧ Below w.heap.size w w' := by
  have HO := Lib.hid (fun w => rof_nat n w hn)
  rw [show mkRat (n : Int) 1 = ((n : Int) : Rat) from by rw [Rat.mkRat_one], rt_int]
  clear hn
  go_enter Tryz.func115, Tryz.ntmps115
  go_wp2_with fail
  refine (HO.out _).mono ?_
  rintro e w1 ⟨rfl, hb1⟩
  have B1 := Lib.hid hb1
  clear hb1
  go_wp2
  go_ret
  exact ⟨rfl, B1.out⟩

set_option maxRecDepth 100000 in
set_option maxHeartbeats 1600000 in
theorem process_any (N C n b : Nat) (q : Rat) (w : World) (h : Proc N C n b q) :
    Calls Tryz.prog 69 #[pl N C, .string (rt q)] w fun e w' => e = .returned (.string (rt (mkRat ((procs N C n b : Nat) : Int) (q.den ^ N)))) ∧ Below w.heap.size w w' := by
  have HP := Lib.hid h
  have HIP := Lib.hid (IsP.new w (.int .i64 N) (.int .i64 C) 23)
  have HB0 := Lib.hid ((Below.refl w.heap.size w).alloc (Nat.le_refl _) (.cells #[.int .i64 N, .int .i64 C] 23))
  have HMI := Lib.hid (fun w => rminus02 1 q w ⟨bg_one, by decide⟩ h.pq (by
    rw [Rat.le_iff]
    have e1 := h.hq
    have e2 := h.hb
    show q.num * 1 ≤ 1 * (q.den : Int)
    omega))
  rw [rt_one] at HMI
  have hN8 := h.h8
  have HLS := Lib.hid (fun (k : Nat) (hk : k ≤ N) (w : World) => lists_any N (by omega) k hk w)
  have HLL := Lib.hid (fun (k : Nat) (hk : k ≤ N) => show (lists N k).length = ch N k from (fin_at (lot := N) (N := k) (bad := 0) (C := 0) (by omega) hk (by omega) (by omega)).1)
  have HCH := Lib.hid (fun k => ch8 (N := N) (k := k) h.h8)
  have HZ := Lib.hid rt_zero
  have hCN := Lib.hid h.hC
  obtain ⟨c0, c1, -⟩ := HIP.out
  unfold pl
  clear h hN8
  go_enter Tryz.func69, Tryz.ntmps69
  go_wp2_with fail
  refine (HMI.out _).mono ?_
  rintro e w1 ⟨rfl, hb1⟩
  have HIP1 := Lib.hid (HIP.out.below hb1)
  have HB1 := Lib.hid (HB0.out.trans (hb1.mono HB0.out.size))
  clear hb1 c0 c1
  go_wp2
  go_loopg [6, 7] (C + 1) (fun k sv kv wr => ∃ j : Nat, sv = .string (rt (mkRat ((sk N n b j : Nat) : Int) (q.den ^ N))) ∧ kv = .int .i64 j ∧ j + k = C + 1 ∧ Below w1.heap.size w1 wr)
  case atStart => exact ⟨0, by rw [show sk N n b 0 = 0 from rfl, show ((0 : Nat) : Int) = 0 from rfl, Rat.zero_mkRat, HZ.out], rfl, by omega, Below.refl _ _⟩
  case round =>
    obtain ⟨j, rfl, rfl, hjk, hbl⟩ := hrel
    have HBL := Lib.hid hbl
    have HBQ := Lib.hid (HB1.out.trans (hbl.mono HB1.out.size))
    obtain ⟨c0, c1, -⟩ := HIP1.out.below hbl
    have HIPR := Lib.hid (HIP1.out.below hbl)
    by_cases hz : gk = 0
    · obtain rfl : j = C + 1 := by omega
      have hnl : ¬ (((C + 1 : Nat) : Int) ≤ C) := by omega
      have hnl2 : ¬ ((C : Int) + 1 ≤ C) := by omega
      clear hbl
      go_wp2
      go_ret
      exact ⟨rfl, HBQ.out⟩
    · have hj : j ≤ C := by omega
      have hji : (j : Int) ≤ C := by omega
      have HJN := Lib.hid (show j ≤ N by have := hCN.out; omega)
      have HJK := Lib.hid (show j + gk = C + 1 ∧ 0 < gk by omega)
      obtain ⟨ok, hok⟩ : ∃ ok, ok = gk := ⟨_, rfl⟩
      have HGK := Lib.hid hok
      obtain ⟨wo, hwo⟩ : ∃ wo : World, wo = wr := ⟨_, rfl⟩
      subst hwo
      clear hbl hz hjk hok
      go_wp2_with fail
      refine (HLS.out j HJN.out _).mono ?_
      rintro e w2 ⟨v, xs, rfl, hown, hls, hb2⟩
      obtain ⟨g, cap, rfl, -, -⟩ := lists_read hown hls (List.length_pos_of_mem (range_in HJN.out))
      rw [HLL.out j HJN.out]
      have HB2 := Lib.hid (HBL.out.trans (hb2.mono HBL.out.size))
      have HIP2 := Lib.hid (HIPR.out.below hb2)
      have hch : ch N j < 9223372036854775808 := by have := HCH.out j; omega
      have HWH := Lib.hid (fun w => rwhole (ch N j) w hch)
      have HT := Lib.hid (proc_sum N n b q HJN.out)
      have HX0 := Lib.hid (show mkRat ((ch N j : Nat) : Int) 1 = mkRat ((xk N j n b 0 : Nat) : Int) (q.den ^ 0) from rfl)
      obtain ⟨cc, hcc⟩ : ∃ cc, ch N j = cc := ⟨_, rfl⟩
      rw [hcc] at HWH HX0 ⊢
      clear hown hls hb2 hch hcc c0 c1
      go_wp2_with fail
      refine (HWH.out _).mono ?_
      rintro e w3 ⟨rfl, hb3⟩
      have HB3 := Lib.hid (HB2.out.trans (hb3.mono HB2.out.size))
      have HIP3 := Lib.hid (HIP2.out.below hb3)
      clear hb3
      rw [HX0.out]
      go_wp2
      go_loopg [8, 9] N (fun k xv iv wz => ∃ i : Nat, xv = .string (rt (mkRat ((xk N j n b i : Nat) : Int) (q.den ^ i))) ∧ iv = .int .i64 i ∧ i + k = N ∧ Below w3.heap.size w3 wz)
      case atStart => exact ⟨0, rfl, rfl, by omega, Below.refl _ _⟩
      case round =>
        obtain ⟨i, rfl, rfl, hik, hbz⟩ := hrel
        have HBZ := Lib.hid (HB3.out.trans (hbz.mono HB3.out.size))
        have HBZ3 := Lib.hid hbz
        obtain ⟨c0, c1, -⟩ := HIP3.out.below hbz
        clear hbz
        by_cases hz : gk = 0
        · obtain rfl : i = N := by omega
          have hnl : ¬ ((i : Nat) : Int) < (i : Nat) := by omega
          have HPL := Lib.hid (fun w => rplus02 _ _ w (HP.out.ps (k := j) (by have := HJN.out; omega)) (HP.out.px (k := j) (Nat.le_refl _)))
          rw [HT.out] at HPL
          have e2 : IntKind.i64.wrap ((j : Int) + 1) = (j : Int) + 1 := IntWalk.i64_in _ (by have := HP.out.h8; have := HJN.out; omega)
          clear hik
          go_wp2_with fail
          refine (HPL.out _).mono ?_
          rintro e w4 ⟨rfl, hb4⟩
          have HB4 := Lib.hid (HBZ.out.trans (hb4.mono HBZ.out.size))
          clear hb4
          go_wp2
          go_roundg (ok - 1)
          case rel => exact ⟨j + 1, rfl, by simp, by have := HJK.out; have := HGK.out; omega, HB4.out⟩
          case measure => have := HJK.out; have := HGK.out; omega
        · have hi : i < N := by omega
          have hii : (i : Int) < N := by omega
          have e2 : IntKind.i64.wrap ((i : Int) + 1) = (i : Int) + 1 := IntWalk.i64_in _ (by have := HP.out.h8; omega)
          have HIK := Lib.hid (show i + gk = N ∧ 0 < gk by omega)
          have HIN := Lib.hid (show i ≤ N by omega)
          clear hik hz hi
          by_cases hij : i < j
          · have HTM := Lib.hid (fun w => rtimes02 _ _ w (HP.out.px (k := j) HIN.out) HP.out.pq)
            rw [HP.out.stepq hij] at HTM
            have hiji : (i : Int) < j := by omega
            clear hij
            go_wp2_with fail
            refine (HTM.out _).mono ?_
            rintro e w4 ⟨rfl, hb4⟩
            have HB4 := Lib.hid (HBZ3.out.trans (hb4.mono HBZ3.out.size))
            clear hb4
            go_wp2
            go_roundg (gk - 1)
            case rel => exact ⟨i + 1, rfl, by simp, by have := HIK.out; omega, HB4.out⟩
            case measure => have := HIK.out; omega
          · have HTM := Lib.hid (fun w => rtimes02 _ _ w (HP.out.px (k := j) HIN.out) HP.out.pr)
            rw [HP.out.stepr hij] at HTM
            have hiji : ¬ (i : Int) < j := by omega
            clear hij
            go_wp2_with fail
            refine (HTM.out _).mono ?_
            rintro e w4 ⟨rfl, hb4⟩
            have HB4 := Lib.hid (HBZ3.out.trans (hb4.mono HBZ3.out.size))
            clear hb4
            go_wp2
            go_roundg (gk - 1)
            case rel => exact ⟨i + 1, rfl, by simp, by have := HIK.out; omega, HB4.out⟩
            case measure => have := HIK.out; omega
end Go.Proofs.YtfebiipggcgmdaaGreatDoor
