import Derived.Test.YtfebiipggcgmdaaGreatDoorM1
namespace Go.Proofs.YtfebiipggcgmdaaGreatDoor
open Go.RowKit

/-! ## PlanMixes -/
theorem procs_cross {N C a g a' b' d e : Nat} (hC : C ≤ N) (h1 : a * d = a' * e) (h2 : g * d = b' * e) : procs N C a g * d ^ N = procs N C a' b' * e ^ N := by
  unfold procs
  rw [Nat.mul_comm, ← su_mul, Nat.mul_comm _ (e ^ N), ← su_mul]
  refine su_congr fun k hk => ?_
  have e1 : d ^ N = d ^ k * d ^ (N - k) := by rw [← Nat.pow_add]; congr 1; omega
  have e2 : e ^ N = e ^ k * e ^ (N - k) := by rw [← Nat.pow_add]; congr 1; omega
  have e3 : a ^ k * d ^ k = a' ^ k * e ^ k := by rw [← Nat.mul_pow, h1, Nat.mul_pow]
  have e4 : g ^ (N - k) * d ^ (N - k) = b' ^ (N - k) * e ^ (N - k) := by rw [← Nat.mul_pow, h2, Nat.mul_pow]
  have l : d ^ N * (ch N k * (a ^ k * g ^ (N - k))) = ch N k * ((a ^ k * d ^ k) * (g ^ (N - k) * d ^ (N - k))) := by rw [e1]; ac_rfl
  have r : e ^ N * (ch N k * (a' ^ k * b' ^ (N - k))) = ch N k * ((a' ^ k * e ^ k) * (b' ^ (N - k) * e ^ (N - k))) := by rw [e2]; ac_rfl
  rw [l, r, e3, e4]
/-- the sum over some entries -/
def ms (N C L a g : Nat) (l : List Nat) : Rat := mkRat ((lsum (fun k => wt L a g k * good N C L k) l : Nat) : Int) (4 ^ L * ch L N)
theorem ms_total (N C L a g : Nat) : lsum (fun k => wt L a g k * good N C L k) (kept L a g (L + 1)) = su (fun k => ch L k * (a ^ k * g ^ (L - k)) * good N C L k) (L + 1) := by
  rw [lsum_kept]; rfl
theorem ms_le {N C L a g : Nat} (hC : C ≤ N) (h4 : a + g = 4) (i : Nat) : lsum (fun k => wt L a g k * good N C L k) ((kept L a g (L + 1)).take i) ≤ 4 ^ L * ch L N := by
  refine Nat.le_trans (lsum_le _ _ i) ?_
  rw [ms_total]
  refine Nat.le_trans (su_le (g := fun k => ch L N * (ch L k * (a ^ k * g ^ (L - k)))) fun k hk => ?_) ?_
  · rw [Nat.mul_comm]
    exact Nat.mul_le_mul_right _ (good_le hC (by omega))
  · rw [su_mul, binom, h4, Nat.mul_comm]
    exact Nat.le_refl _
theorem ms_step {N C L a g i k : Nat} (hN : N ≤ L) (hi : (kept L a g (L + 1))[i]? = some k) :
    ms N C L a g ((kept L a g (L + 1)).take i) + mkRat ((wt L a g k : Nat) : Int) (4 ^ L) * pa N C L k = ms N C L a g ((kept L a g (L + 1)).take (i + 1)) := by
  unfold ms pa
  rw [mk_mul, mkRat_add_same _ _ (Nat.mul_pos (Nat.pow_pos (by omega)) (ch_pos hN)), lsum_take hi, Int.natCast_add]
theorem ms_end {N C L a g a' b' d : Nat} (hN : N ≤ L) (hC : C ≤ N) (h4 : a + g = 4) (h1 : a * d = a' * 4) (h2 : g * d = b' * 4) (hd : 0 < d) :
    ms N C L a g (kept L a g (L + 1)) = mkRat ((procs N C a' b' : Nat) : Int) (d ^ N) := by
  unfold ms
  rw [ms_total, mixed hN hC, h4]
  have hp : procs N C a g * d ^ N = procs N C a' b' * 4 ^ N := procs_cross hC h1 h2
  have e : 4 ^ L = 4 ^ (L - N) * 4 ^ N := by rw [← Nat.pow_add]; congr 1; omega
  refine (Rat.mkRat_eq_iff (Nat.ne_of_gt (Nat.mul_pos (Nat.pow_pos (by omega)) (ch_pos hN))) (Nat.ne_of_gt (Nat.pow_pos hd))).2 ?_
  show ((ch L N * (4 ^ (L - N) * procs N C a g) : Nat) : Int) * ((d ^ N : Nat) : Int) = ((procs N C a' b' : Nat) : Int) * ((4 ^ L * ch L N : Nat) : Int)
  rw [← Int.natCast_mul, ← Int.natCast_mul]
  congr 1
  rw [e]
  have l : ch L N * (4 ^ (L - N) * procs N C a g) * d ^ N = ch L N * (4 ^ (L - N) * (procs N C a g * d ^ N)) := by ac_rfl
  rw [l, hp]
  ac_rfl
section
variable {N C L a g : Nat}
theorem dl_4 (hL : L ≤ 12) : dl ((4 ^ L : Nat) : Int) ≤ 51 := dl_small_pow (by omega) (by omega)
theorem dl_ch12 (hL : L ≤ 12) : dl ((ch L N : Nat) : Int) ≤ 4 := (dl_le_iff (by omega)).2 (by rw [Int.natAbs_natCast]; have := ch_12 L N hL; omega)
theorem ms_pbg (hN : N ≤ L) (hC : C ≤ N) (hL : L ≤ 12) (h4 : a + g = 4) (i : Nat) : pbg (ms N C L a g ((kept L a g (L + 1)).take i)) := by
  have h1 := dl_nat_mul (4 ^ L) (ch L N)
  have h2 := dl_4 hL
  have h3 := dl_ch12 (N := N) hL
  have h5 := dl_nat_le (ms_le (N := N) (C := C) (L := L) hC h4 i)
  exact pbg_mk (Nat.mul_pos (Nat.pow_pos (by omega)) (ch_pos hN)) (by omega) (by omega)
theorem wt_pbg (hL : L ≤ 12) (h4 : a + g = 4) {k : Nat} (hk : k ≤ L) : pbg (mkRat ((wt L a g k : Nat) : Int) (4 ^ L)) := by
  have h1 := wt_le (n := L) (a := a) (g := g) (by omega) hL hk
  have h2 := dl_4 hL
  exact pbg_mk (Nat.pow_pos (by omega)) (by omega) (by omega)
theorem pa_pbg (hN : N ≤ L) (hC : C ≤ N) (hL : L ≤ 12) {k : Nat} (hk : k ≤ L) : pbg (pa N C L k) := by
  have h1 := dl_ch12 (N := N) hL
  have h2 := dl_nat_le (good_le (N := N) (C := C) (lot := L) hC hk)
  exact pbg_mk (ch_pos hN) (by omega) (by omega)
theorem mul_pbg (hN : N ≤ L) (hC : C ≤ N) (hL : L ≤ 12) (h4 : a + g = 4) {k : Nat} (hk : k ≤ L) : pbg (mkRat ((wt L a g k : Nat) : Int) (4 ^ L) * pa N C L k) := by
  unfold pa
  rw [mk_mul]
  have h1 := dl_nat_mul (4 ^ L) (ch L N)
  have h2 := dl_4 hL
  have h3 := dl_ch12 (N := N) hL
  have h5 := dl_nat_mul (wt L a g k) (good N C L k)
  have h6 := wt_le (n := L) (a := a) (g := g) (by omega) hL hk
  have h7 := dl_nat_le (good_le (N := N) (C := C) (lot := L) hC hk)
  exact pbg_mk (Nat.mul_pos (Nat.pow_pos (by omega)) (ch_pos hN)) (by omega) (by omega)
end

set_option maxRecDepth 100000 in
set_option maxHeartbeats 6400000 in
theorem mixes_core (N C L num a g a' b' : Nat) (w : World) (he : Env w) (h1 : 1 ≤ N) (hN : N ≤ L) (hC : C ≤ N) (hL : L ≤ 12) (ha : num % 5 = a) (h4 : a + g = 4)
    (hq : (mkRat (a : Int) 4).num = (a' : Int)) (hb : a' + b' = (mkRat (a : Int) 4).den) (hc1 : a * (mkRat (a : Int) 4).den = a' * 4) (hc2 : g * (mkRat (a : Int) 4).den = b' * 4) (hd4 : (mkRat (a : Int) 4).den ≤ 4)
    (hR : ∀ w, Calls Tryz.prog 23 #[pl N C, .int .i64 L] w fun e w' => e = .returned (.bool true) ∧ Below w.heap.size w w') :
    Calls Tryz.prog 8 #[pl N C, .int .i64 L, .int .u8 num] w fun e w' => e = .returned (.bool true) ∧ Below w.heap.size w w' := by
  have HE := Lib.hid he
  have HR := Lib.hid hR
  have HSE := Lib.hid (fun w => sent_any N C w)
  have HCU := Lib.hid (fun (w : World) (he : Env w) => curve_ok N C L w h1 hC hN (by omega) he)
  have HOV := Lib.hid (fun w => over_small a 4 w (by omega) (by omega) (by omega))
  have HBI := Lib.hid (fun (w : World) (he : Env w) => Binomial_ok N C a' b' (mkRat (a : Int) 4) w h1 (by omega) hC hq hb (pow40 (by omega) (mkRat (a : Int) 4).den_pos (by omega)) he)
  have HTR := Lib.hid (fun w => trials26 L a g w hL h4)
  have HEND := Lib.hid (ms_end (L := L) hN hC h4 hc1 hc2 (mkRat (a : Int) 4).den_pos)
  have HLK := Lib.hid (fun k hk => kept_lt L a g (L + 1) k hk)
  have HKL := Lib.hid (kept_len L a g (L + 1))
  have HWS := Lib.hid (show lsum (fun k => wt L a g k) (kept L a g (L + 1)) = 4 ^ L by rw [wt_sum, h4])
  obtain ⟨K, hK⟩ : ∃ K, kept L a g (L + 1) = K := ⟨_, rfl⟩
  have HCHA := Lib.hid (fun (b cap i k : Nat) (w : World) (ht : IsT w b L a g K) (hi : K[i]? = some k) => chance26 b cap L a g i k K w ht (by rw [← hK]; have := HKL.out; omega) hL (fun k hk => by rw [← hK] at hk; have := HLK.out k hk; omega) h4 hi (by rw [← hK]; exact HWS.out))
  have HTI := Lib.hid (fun (k : Nat) (hk : k ≤ L) (w : World) => rtimes02 (mkRat ((wt L a g k : Nat) : Int) (4 ^ L)) (pa N C L k) w (wt_pbg hL h4 hk) (pa_pbg hN hC hL hk))
  have HPLU := Lib.hid (fun (i k : Nat) (hk : k ≤ L) (hi : K[i]? = some k) (w : World) => show Calls Tryz.prog 34 #[.string (rt (ms N C L a g (K.take i))), .string (rt (mkRat ((wt L a g k : Nat) : Int) (4 ^ L) * pa N C L k))] w fun e w' => e = .returned (.string (rt (ms N C L a g (K.take (i + 1))))) ∧ Below w.heap.size w w' by
    have hm := ms_pbg (C := C) (a := a) (g := g) hN hC hL h4 i
    rw [← hK] at hi ⊢
    rw [← ms_step hN hi]
    exact rplus02 _ _ w hm (mul_pbg hN hC hL h4 hk))
  have HCK := Lib.hid (fun (k : Nat) (hk : k ≤ L) (w : World) => show Calls Tryz.prog 33 #[.string (rt (pa N C L k))] w fun e w' => e = .returned (.int .i64 0) ∧ Below w.heap.size w w' by
    have hsm : sm SML (pa N C L k) := sm_good hC hN hk (by omega)
    have h := rcheck02 (rt (pa N C L k)) w (by have := rt_size hsm.big; omega)
    rw [rChk_rt hsm.big] at h
    exact h)
  rw [hK] at HTR HEND HLK HKL HWS
  have HZ := Lib.hid (show rt (ms N C L a g (K.take 0)) = ⟨#[48]⟩ by
    rw [← rt_zero]
    congr 1
    unfold ms
    rw [List.take_zero]
    exact Rat.zero_mkRat _)
  have HF := Lib.hid (show K.take K.length = K from List.take_length)
  have hrem : (num : Int) % 5 = (a : Int) := by omega
  have hremt : (num : Int).tmod 5 = (a : Int) := by rw [← ha]; exact (Int.ofNat_tmod num 5).symm
  have hua : IntKind.u8.wrap (a : Int) = (a : Int) := u8_in (by omega)
  have hia : IntKind.i64.wrap (a : Int) = (a : Int) := IntWalk.i64_in _ (by omega)
  have hL12 : ¬ (12 : Int) < L := by omega
  have HL := Lib.hid hL
  have e1 : IntKind.i64.wrap ((L : Int) + 1) = (L : Int) + 1 := IntWalk.i64_in _ (by omega)
  have HX0 := Lib.hid (IsP.new w (.int .i64 N) (.int .i64 C) 23)
  have HQ0 := Lib.hid ((Below.refl w.heap.size w).alloc (Nat.le_refl _) (.cells #[.int .i64 N, .int .i64 C] 23))
  obtain ⟨x, hx⟩ : ∃ x, rt (mkRat ((procs N C a' b' : Nat) : Int) ((mkRat (a : Int) 4).den ^ N)) = x := ⟨_, rfl⟩
  have HXE := Lib.hid (show rt (ms N C L a g K) = x by rw [HEND.out]; exact hx)
  have HBI2 := Lib.hid (fun (w : World) (he : Env w) => show Calls Tryz.prog 25 #[pl N C, .string (rt (mkRat (a : Int) 4))] w (TxtEnd x w) by rw [← hx]; exact HBI.out w he)
  obtain ⟨y, hy⟩ : ∃ y, rt (mkRat (a : Int) 4) = y := ⟨_, rfl⟩
  rw [show rt (mkRat ((a : Nat) : Int) 4) = y from hy] at HOV
  rw [hy] at HBI2
  unfold TxtEnd at HBI2
  unfold pl at HR HSE HCU HBI2 ⊢
  clear he hR h1 hN hC hL ha h4 hq hb hc1 hc2 hd4 hK HBI hx hy HEND
  obtain ⟨c0, c1, -⟩ := HX0.out
  go_enter Tryz.func8, Tryz.ntmps8
  go_wp2_with fail
  refine (HR.out _).mono ?_
  rintro e w1 ⟨rfl, hb1⟩
  have HQ1 := Lib.hid (HQ0.out.trans (hb1.mono HQ0.out.size))
  have HX1 := Lib.hid (HX0.out.below hb1)
  clear hb1 c0 c1
  obtain ⟨c0, c1, -⟩ := HX1.out
  go_wp2_with fail
  refine (HSE.out _).mono ?_
  rintro e w2 ⟨rfl, hb2⟩
  have HQ2 := Lib.hid (HQ1.out.trans (hb2.mono HQ1.out.size))
  have HX2 := Lib.hid (HX1.out.below hb2)
  clear hb2 c0 c1
  obtain ⟨c0, c1, -⟩ := HX2.out
  go_wp2_with fail
  refine (HCU.out _ (HE.out.below HQ2.out)).mono ?_
  rintro e w3 ⟨gl, capl, rfl, hrow, hb3⟩
  have HQ3 := Lib.hid (HQ2.out.trans (hb3.mono HQ2.out.size))
  have HX3 := Lib.hid (HX2.out.below hb3)
  have HI3 := Lib.hid hrow
  clear hb3 hrow c0 c1
  obtain ⟨c0, c1, -⟩ := HX3.out
  go_wp2_with fail
  refine (HSE.out _).mono ?_
  rintro e w4 ⟨rfl, hb4⟩
  have HQ4 := Lib.hid (HQ3.out.trans (hb4.mono HQ3.out.size))
  have HI4 := Lib.hid (HI3.out.below hb4)
  clear hb4 c0 c1
  go_wp2_with fail
  refine (HOV.out _).mono ?_
  rintro e w5 ⟨rfl, hb5⟩
  have HQ5 := Lib.hid (HQ4.out.trans (hb5.mono HQ4.out.size))
  have HI5 := Lib.hid (HI4.out.below hb5)
  clear hb5
  go_wp2_with fail
  refine (HBI2.out _ (HE.out.below HQ5.out)).mono ?_
  rintro e w6 ⟨rfl, hb6⟩
  have HQ6 := Lib.hid (HQ5.out.trans (hb6.mono HQ5.out.size))
  have HI6 := Lib.hid (HI5.out.below hb6)
  clear hb6
  go_wp2_with fail
  refine (HTR.out _).mono ?_
  rintro e w7 ⟨bd, capd, rfl, hT, hb7⟩
  have HQ7 := Lib.hid (HQ6.out.trans (hb7.mono HQ6.out.size))
  have HI7 := Lib.hid (HI6.out.below hb7)
  have HT7 := Lib.hid hT
  clear hb7 hT
  go_wp2
  clear hrem hremt hua hia hL12 e1
  go_loopg [11, 60] K.length (fun m sv iv wr => ∃ i : Nat, sv = .string (rt (ms N C L a g (K.take i))) ∧ iv = .int .i64 i ∧ i + m = K.length ∧ Below w7.heap.size w7 wr)
  case atStart => exact ⟨0, by rw [HZ.out], rfl, by omega, Below.refl _ _⟩
  case round =>
    obtain ⟨i, rfl, rfl, him, hbl⟩ := hrel
    have HBL := Lib.hid hbl
    have HBW := Lib.hid (HQ7.out.trans (hbl.mono HQ7.out.size))
    by_cases hz : gk = 0
    · obtain rfl : i = K.length := by omega
      rw [HF.out, HXE.out]
      have hnl : ¬ ((K.length : Nat) : Int) < (K.length : Nat) := by omega
      clear hbl
      go_wp2_with fail
      refine (awake_any _ (HE.out.below HBW.out)).mono ?_
      rintro e wa ⟨rfl, hba⟩
      have HQA := Lib.hid (HBW.out.trans (hba.mono HBW.out.size))
      clear hba
      go_wp2
      go_ret
      exact ⟨rfl, HQA.out⟩
    · have hi : i < K.length := by omega
      have hii : (i : Int) < K.length := by omega
      have hi0 : (0 : Int) ≤ i := by omega
      obtain ⟨k, hk⟩ : ∃ k, K[i]? = some k := ⟨_, List.getElem?_eq_getElem hi⟩
      have hkl := HLK.out k (List.mem_of_getElem? hk)
      have hkL : k ≤ L := by omega
      have HTR2 := Lib.hid (HT7.out.below hbl)
      have HIR2 := Lib.hid (HI7.out.below hbl)
      have CF := Lib.hid (fun (w2 : World) (ht : IsT w2 bd L a g K) (hr : IsR w2 gl (L + 1) (fun j => rt (pa N C L j))) => show w2.cell? ⟨bd, i * 2, none⟩ = some (.int .i64 (k : Int)) ∧ w2.cell? ⟨gl, k, none⟩ = some (.string (rt (pa N C L k))) from ⟨by rw [Nat.mul_comm]; exact ht.c0 i k hk, hr.cell k hkl⟩)
      have CCH := Lib.hid (fun (w2 : World) (ht : IsT w2 bd L a g K) => HCHA.out bd capd i k w2 ht hk)
      have CTI := Lib.hid (HTI.out k hkL)
      have CPL := Lib.hid (HPLU.out i k hkL hk)
      have CCK := Lib.hid (HCK.out k hkL)
      obtain ⟨c0, c1⟩ := CF.out wr HTR2.out HIR2.out
      have hki : (k : Int) < (L : Int) + 1 := by omega
      have hk0 : (0 : Int) ≤ k := by omega
      have HL12 := HL.out
      have e2 : IntKind.i64.wrap ((i : Int) + 1) = (i : Int) + 1 := IntWalk.i64_in _ (by have := HKL.out; omega)
      have e3 : IntKind.i64.wrap (i : Int) = (i : Int) := IntWalk.i64_in _ (by have := HKL.out; omega)
      have e4 : IntKind.i64.wrap (k : Int) = (k : Int) := IntWalk.i64_in _ (by omega)
      have HIM := Lib.hid (show i + gk = K.length ∧ 0 < gk by omega)
      obtain ⟨s0, hs0⟩ : ∃ s, rt (ms N C L a g (K.take i)) = s := ⟨_, rfl⟩
      obtain ⟨s1, hs1⟩ : ∃ s, rt (ms N C L a g (K.take (i + 1))) = s := ⟨_, rfl⟩
      obtain ⟨s2, hs2⟩ : ∃ s, rt (mkRat ((wt L a g k : Nat) : Int) (4 ^ L)) = s := ⟨_, rfl⟩
      obtain ⟨s3, hs3⟩ : ∃ s, rt (pa N C L k) = s := ⟨_, rfl⟩
      obtain ⟨s4, hs4⟩ : ∃ s, rt (mkRat ((wt L a g k : Nat) : Int) (4 ^ L) * pa N C L k) = s := ⟨_, rfl⟩
      rw [hs0, hs4, hs1] at CPL
      rw [hs2, hs3, hs4] at CTI
      rw [hs2] at CCH
      rw [hs3] at CCK CF c1
      rw [hs0]
      have HS1 := Lib.hid hs1
      clear hbl him hz hk hkl hkL hs0 hs1 hs2 hs3 hs4 HL12 hi
      go_wp2_with fail
      refine (CCK.out _).mono ?_
      rintro e w8 ⟨rfl, hb8⟩
      have HB8 := Lib.hid (HBL.out.trans (hb8.mono HBL.out.size))
      have HT8 := Lib.hid (HTR2.out.below hb8)
      have HI8 := Lib.hid (HIR2.out.below hb8)
      clear hb8 c0 c1
      obtain ⟨c0, c1⟩ := CF.out w8 HT8.out HI8.out
      have HTD := Lib.hid (show IsT w8.drew bd L a g K from ⟨HT8.out.c0, HT8.out.c1, HT8.out.lt⟩)
      have HID := Lib.hid (show IsR w8.drew gl (L + 1) (fun j => rt (pa N C L j)) from ⟨HI8.out.cell, HI8.out.lt⟩)
      go_wp2_with fail
      go_region_held3 (fun w' => w'.cell? ⟨bd, i * 2, none⟩ = some (.int .i64 (k : Int)) ∧ w'.cell? ⟨gl, k, none⟩ = some (.string s3)) (first | exact ⟨c0, c1⟩ | exact a0 | exact b0 | exact d0 | fail) (first
        | (go_at_call 36; refine (CCH.out _ HTD.out).mono ?_; rintro e wa ⟨rfl, hba⟩; have BA := Lib.hid (HB8.out.drew.trans (hba.mono HB8.out.drew.size)); have TA := Lib.hid (HTD.out.below hba); have IA := Lib.hid (HID.out.below hba); have a0 := CF.out _ TA.out IA.out; clear hba)
        | (go_at_call 35; refine (CTI.out _).mono ?_; rintro e wb ⟨rfl, hbb⟩; have BC := Lib.hid (BA.out.trans (hbb.mono BA.out.size)); have TB := Lib.hid (TA.out.below hbb); have IB := Lib.hid (IA.out.below hbb); have b0 := CF.out _ TB.out IB.out; clear hbb)
        | (go_at_call 34; refine (CPL.out _).mono ?_; rintro e wd ⟨rfl, hbd⟩; have BD := Lib.hid (BC.out.trans (hbd.mono BC.out.size)); have d0 := CF.out _ (TB.out.below hbd) (IB.out.below hbd); clear hbd)
        | fail)
      go_wp2
      go_roundg (gk - 1)
      case rel => exact ⟨i + 1, by rw [HS1.out], by simp, by have := HIM.out; omega, BD.out⟩
      case measure => have := HIM.out; omega

set_option maxRecDepth 100000 in
set_option maxHeartbeats 800000 in
theorem mixes_out (N C L B : Int) (w : World) (he : Env w) (h : ¬ (L ≤ 40 ∧ szP N C L = 0) ∨ 12 < L) :
    Calls Tryz.prog 8 #[pl N C, .int .i64 L, .int .u8 B] w fun e w' => e = .returned (.bool true) ∧ Below w.heap.size w w' := by
  have HE := Lib.hid he
  have HR := Lib.hid (fun w => right_any N C L w)
  have HX0 := Lib.hid (IsP.new w (.int .i64 N) (.int .i64 C) 23)
  have HQ0 := Lib.hid ((Below.refl w.heap.size w).alloc (Nat.le_refl _) (.cells #[.int .i64 N, .int .i64 C] 23))
  have hw : decide (L ≤ 40 ∧ szP N C L = 0) = false ∨ decide (L ≤ 40 ∧ szP N C L = 0) = true ∧ 12 < L := by
    by_cases g : L ≤ 40 ∧ szP N C L = 0
    · exact .inr ⟨decide_eq_true g, h.resolve_left (fun hn => hn g)⟩
    · exact .inl (decide_eq_false g)
  obtain ⟨b, hb⟩ : ∃ b, decide (L ≤ 40 ∧ szP N C L = 0) = b := ⟨_, rfl⟩
  rw [hb] at HR hw
  unfold pl at HR ⊢
  clear he h hb
  rcases hw with rfl | ⟨rfl, h12⟩
  all_goals
    obtain ⟨c0, c1, -⟩ := HX0.out
    go_enter Tryz.func8, Tryz.ntmps8
    go_wp2_with fail
    refine (HR.out _).mono ?_
    rintro e w1 ⟨rfl, hb1⟩
    have HQ1 := Lib.hid (HQ0.out.trans (hb1.mono HQ0.out.size))
    clear hb1 c0 c1
    go_wp2_with fail
    refine (awake_any _ (HE.out.below HQ1.out)).mono ?_
    rintro e wa ⟨rfl, hba⟩
    have HQA := Lib.hid (HQ1.out.trans (hba.mono HQ1.out.size))
    clear hba
    go_wp2
    go_ret
    exact ⟨rfl, HQA.out⟩

/-- PlanMixes answers true at every input. -/
theorem mixes_any (N C L B : Int) (w : World) (he : Env w) (h0 : 0 ≤ B) (_h1 : B ≤ 255) :
    Calls Tryz.prog 8 #[pl N C, .int .i64 L, .int .u8 B] w fun e w' => e = .returned (.bool true) ∧ Below w.heap.size w w' := by
  by_cases h : ¬ (L ≤ 40 ∧ szP N C L = 0) ∨ 12 < L
  · exact mixes_out N C L B w he h
  · simp only [not_or, Classical.not_not] at h
    obtain ⟨⟨h40, hs⟩, hL⟩ := h
    rcases szP_two N C L with hz | ⟨_, g1, g2, g3, g4, g5, g6⟩
    · rw [hs] at hz; cases hz
    obtain ⟨n, rfl⟩ := Int.eq_ofNat_of_zero_le (show 0 ≤ N by omega)
    obtain ⟨c, rfl⟩ := Int.eq_ofNat_of_zero_le (show 0 ≤ C by omega)
    obtain ⟨l, rfl⟩ := Int.eq_ofNat_of_zero_le (show 0 ≤ L by omega)
    obtain ⟨b, rfl⟩ := Int.eq_ofNat_of_zero_le h0
    obtain ⟨a, ha⟩ : ∃ a, b % 5 = a := ⟨_, rfl⟩
    have ha4 : a ≤ 4 := by omega
    obtain ⟨a', b', d, e1, e2, -, -, e5, e6, e7⟩ := mk_parts (k := a) (lot := 4) (by omega) ha4
    have hq : (mkRat (a : Int) 4) = mkRat (a' : Int) d := by rw [← e1, ← e2]; exact (Rat.mkRat_self _).symm
    have hcr := (Rat.mkRat_eq_iff (by omega) (by omega)).1 hq
    have hc1 : a * d = a' * 4 := by
      have h : ((a * d : Nat) : Int) = ((a' * 4 : Nat) : Int) := by rw [Int.natCast_mul, Int.natCast_mul]; exact hcr
      exact Int.ofNat.inj h
    have hc2 : (4 - a) * d = b' * 4 := by
      rw [Nat.sub_mul, hc1]
      omega
    refine mixes_core n c l b a (4 - a) a' b' w he (by omega) (by omega) (by omega) (by omega) ha (by omega) e1 (by rw [e2]; exact e5) (by rw [e2]; exact hc1) (by rw [e2]; exact hc2) (by rw [e2]; exact e7) (fun w => ?_)
    have h := right_any n c l w
    rw [decide_eq_true ⟨h40, hs⟩] at h
    exact h
end Go.Proofs.YtfebiipggcgmdaaGreatDoor
