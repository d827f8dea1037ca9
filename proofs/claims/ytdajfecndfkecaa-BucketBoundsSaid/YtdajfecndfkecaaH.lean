/-
  Lemmas and contracts on the way to the laws of this seat; each theorem states its own conditions, and there are no others.
-/
import Derived.Test.YtdajfecndfkecaaG
import Derived.Test.YtdajfecndfkecaaR
namespace Go.Proofs.Ytdajfecndfkecaa
open Go.RowKit

theorem valid_c : valid ⟨3, 2, 10, 20, 0⟩ = true := valid_mk (by decide) (by decide) (by decide) (by decide) (.inr ⟨by decide, by decide, by decide, by decide, by decide, by decide, by decide⟩)
theorem newr_c : newr 3 2 10 0 = (⟨3, 2, 10, 20, 0⟩, 0) := by
  have e : wrap64 (10 * 2) = 20 := IntWalk.wrap64_in _ (by decide)
  have v := valid_c
  have e2 : wrap64 20 = 20 := IntWalk.wrap64_in _ (by decide)
  simp [newr, e, e2, v, inB]
theorem wr_small (f r : Int) (h1 : 0 ≤ f) (h2 : f ≤ 28) (h3 : 0 ≤ r) (h4 : r < 9) : IntKind.i64.wrap (f + r) = f + r := IntWalk.i64_in _ (by omega)
theorem wr_tok (t : Int) (h1 : 0 ≤ t) (h2 : t ≤ 1073741824) : IntKind.i64.wrap (1 + t) = 1 + t := IntWalk.i64_in _ (by omega)
/-- What a round of the loop finds: k rounds are left. -/
def LoopInv (D N B : Nat) (w0 : World) (k : Nat) (wr : World) : Prop :=
  DiceAt wr D ∧ BB D w0 wr ∧ AnyBk wr N ∧ ∃ a b c d f : Int, BkAt wr B a b c d f ∧ ((a = 0 ∧ b = 0 ∧ c = 0 ∧ d = 0 ∧ f = 0) ∨ (valid ⟨a, b, c, d, f⟩ = true ∧ f ≤ 28 - 8 * k))

set_option maxHeartbeats 1600000 in
theorem dbucket_any (D : Nat) (w : World) (hd : DiceAt w D) :
    Calls Try.prog 11 #[.pointer (some ⟨D, 0, none⟩)] w fun e w' => ∃ a b c d f : Int, (valid ⟨a, b, c, d, f⟩ = true ∧ f ≤ 28) ∧ e = .returned (.agg #[.int .i64 a, .int .i64 b, .int .i64 c, .int .i64 d, .int .i64 f]) ∧ DiceAt w' D ∧ BB D w w' := by
  have hlt := hd.lt
  go_enter Try.func11, Try.ntmps11
  go_wp2_with fail
  refine (pick_new D [0, 1, 3, 7, 100, 1073741824, 4611686018427387904] _ _ _ _ _ (by simp) rfl rfl (hd.alloc _) (by decide) (by decide)).mono ?_
  rintro e w1 ⟨r1, rfl, hm1, hd1, hb1⟩
  have hz1 := hb1.size
  simp at hz1
  clear hm1
  go_wp2_with fail
  refine (pick_new D [1, 2, 3, 10, 100, 1048576] _ _ _ _ _ (by simp) rfl rfl hd1 (by decide) (by decide)).mono ?_
  rintro e w2 ⟨r2, rfl, hm2, hd2, hb2⟩
  have hz2 := hb2.size
  clear hm2
  go_wp2_with fail
  refine (pick_new D [0, 1, 10, 100, 1073741824] _ _ _ _ _ (by simp) rfl rfl hd2 (by decide) (by decide)).mono ?_
  rintro e w3 ⟨r3, rfl, hm3, hd3, hb3⟩
  have hz3 := hb3.size
  clear hm3
  go_wp2_with fail
  refine (next_any D 5 _ hd3 (by decide)).mono ?_
  rintro e w4 ⟨r4, rfl, hr4, hd4, hb4⟩
  have hz4 := hb4.size
  have hr4a : 0 ≤ r4 := hr4.1
  have hr4b : r4 < 5 := hr4.2.1 (by decide)
  clear hr4
  go_wp2_with fail
  refine (newr_any _ _ _ _ _).mono ?_
  rintro e w5 ⟨x1, x2, x3, x4, x5, x6, hx, rfl, hb5⟩
  have hz5 := hb5.size
  have hd5 := hd4.keep hb5
  have hbb : BB D (w.alloc _) w5 := (((hb1.trans hb2).trans hb3).trans hb4).trans (BB.of_below hb5)
  have HX := Lib.hid hx
  clear hx hb1 hb2 hb3 hb4 hb5 hd1 hd2 hd3 hd4
  go_wp2_with fail
  refine (next_any D 4 _ (hd5.alloc _) (by decide)).mono ?_
  rintro e w6 ⟨r6, rfl, hr6, hd6, hb6⟩
  have hz6 := hb6.size
  simp at hz6
  obtain ⟨k0, rfl⟩ := Int.eq_ofNat_of_zero_le hr6.1
  have hk0 : k0 ≤ 3 := by have := hr6.2.1 (by decide); omega
  clear hr6
  have hlt5 := hd5.lt
  have hz5' : w.heap.size + 1 ≤ w5.heap.size := by have := hbb.size; simpa using this
  have hN5 : BkAt w5 w.heap.size 0 0 0 0 0 := by
    have := hbb.block w.heap.size (by simp) (by omega)
    unfold BkAt; rw [this, heap_alloc_new]
  have hinv : LoopInv D w.heap.size w5.heap.size w k0 w6 := by
    refine ⟨hd6, BB.weaken (by (repeat (first | with_reducible exact Below.refl _ _ | with_reducible exact Nat.le_refl _ | with_reducible refine Below.setCell ?_ ?_ _ | with_reducible refine Below.alloc ?_ ?_ _ | with_reducible refine Below.drew ?_ | with_reducible refine belN ?_ _ | with_reducible refine Below.trans ?_ (Below.mono (by with_reducible assumption) ?_) | omega | focus (simp; done) | focus (simp; omega)))) (hbb.trans (BB.weaken (by (repeat (first | with_reducible exact Below.refl _ _ | with_reducible exact Nat.le_refl _ | with_reducible refine Below.setCell ?_ ?_ _ | with_reducible refine Below.alloc ?_ ?_ _ | with_reducible refine Below.drew ?_ | with_reducible refine belN ?_ _ | with_reducible refine Below.trans ?_ (Below.mono (by with_reducible assumption) ?_) | omega | focus (simp; done) | focus (simp; omega)))) hb6)), ?_, x1, x2, x3, x4, x5, ?_, ?_⟩
    · exact ⟨0, 0, 0, 0, 0, (hN5.keep (by (repeat (first | with_reducible exact Below.refl _ _ | with_reducible exact Nat.le_refl _ | with_reducible refine Below.setCell ?_ ?_ _ | with_reducible refine Below.alloc ?_ ?_ _ | with_reducible refine Below.drew ?_ | with_reducible refine belN ?_ _ | with_reducible refine Below.trans ?_ (Below.mono (by with_reducible assumption) ?_) | omega | focus (simp; done) | focus (simp; omega))))).keepBB hb6 (by omega)⟩
    · have h1 : BkAt (w5.alloc (.cells #[.int .i64 x1, .int .i64 x2, .int .i64 x3, .int .i64 x4, .int .i64 x5] 28)) w5.heap.size x1 x2 x3 x4 x5 := by
        unfold BkAt; rw [heap_alloc_new]
      exact h1.keepBB hb6 (by omega)
    · rcases newr_ok (a := r1) (b := r2) (c := r3) (f := r4) with h | ⟨a', b', c', d', h, hv⟩
      · have := HX.out; rw [h] at this; simp [zeroBk] at this; left; omega
      · have := HX.out; rw [h] at this; simp at this; obtain ⟨⟨rfl, rfl, rfl, rfl, rfl⟩, _⟩ := this; right; exact ⟨hv, by omega⟩
  have hB0 : w.heap.size < w5.heap.size := by omega
  have hBD : w5.heap.size ≠ D := by omega
  have hND : w.heap.size ≠ D := by omega
  generalize w5.heap.size = B at *
  have hNB : w.heap.size ≠ B := by omega
  have HI := Lib.hid hinv
  clear hinv hN5 hbb hd5 hd6 hb6 HX hz1 hz2 hz3 hz4 hz5 hlt5 hz5' hz6
  go_wp2_with fail
  go_loopw [5] (fun i wr => ∃ k : Nat, i = .int .i64 k ∧ k ≤ 3 ∧ LoopInv D w.heap.size B w k wr) (fun i _ => (intOf i).toNat)
  case atStart => exact ⟨k0, rfl, hk0, HI.out⟩
  case round =>
    clear HI hk0
    obtain ⟨k, rfl, hk, hdr, hbr, hNr, a, b, c, d, f, hBr, hp⟩ := hrel
    obtain ⟨n0, n1, n2, n3, n4, hNr⟩ := hNr
    obtain ⟨c0, c1, c2, c3, c4, cf, cs⟩ := hBr.cells
    obtain ⟨g0, g1, g2, g3, g4, gf, gs⟩ := hNr.cells
    have HBr := Lib.hid hBr
    have HNr := Lib.hid hNr
    have HP := Lib.hid hp
    have Hbr := Lib.hid hbr
    have Hdr := Lib.hid hdr
    clear hBr hNr hp hbr hdr
    by_cases hk0 : k = 0
    · have hk1 : k ≤ 0 := by omega
      clear hk0
      go_wp2_with (first | (go_at_call 24; refine (validr_any _ _ _ _ _ _).mono ?_; rintro e w' ⟨rfl, hb⟩; have hc0 := fun o => hb.cell (p := ⟨B, o, none⟩) (by first | omega | (simp; done) | (simp; omega)); have hf0 := fun o => hb.frozen (p := ⟨B, o, none⟩) (by first | omega | (simp; done) | (simp; omega)); have hc1 := fun o => hb.cell (p := ⟨w.heap.size, o, none⟩) (by first | omega | (simp; done) | (simp; omega)); have hf1 := fun o => hb.frozen (p := ⟨w.heap.size, o, none⟩) (by first | omega | (simp; done) | (simp; omega)); have hz := hb.size; (try simp at hz); (have HB1 := Lib.hid hb; clear hb)) | (go_at_call 21; refine (newr_any _ _ _ _ _).mono ?_; rintro e w' ⟨y1, y2, y3, y4, y5, y6, hy, rfl, hb⟩; have hc0 := fun o => hb.cell (p := ⟨B, o, none⟩) (by first | omega | (simp; done) | (simp; omega)); have hf0 := fun o => hb.frozen (p := ⟨B, o, none⟩) (by first | omega | (simp; done) | (simp; omega)); have hc1 := fun o => hb.cell (p := ⟨w.heap.size, o, none⟩) (by first | omega | (simp; done) | (simp; omega)); have hf1 := fun o => hb.frozen (p := ⟨w.heap.size, o, none⟩) (by first | omega | (simp; done) | (simp; omega)); have hz := hb.size; (try simp at hz); (have Hy := Lib.hid hy; have HB2 := Lib.hid hb; clear hb hy)))
      all_goals (apply bodyPost_ret (hd := rfl); case hr => (simp [results, Try.results11, go_sem, *]; rfl))
      all_goals
        have HBR := Hbr.out
        have HDR := Hdr.out
        have HB1x := HB1.out
      · have HB2x := HB2.out
        have hy := newr_c
        have hy2 := Hy.out
        rw [hy] at hy2
        simp only [Prod.mk.injEq, Bk.mk.injEq] at hy2
        obtain ⟨⟨rfl, rfl, rfl, rfl, rfl⟩, rfl⟩ := hy2
        refine ⟨3, 2, 10, 20, 0, ⟨valid_c, by decide⟩, rfl, ?_, ?_⟩
        · (repeat (first | with_reducible assumption | with_reducible refine DiceAt.store ?_ ?_ _ | with_reducible refine DiceAt.alloc ?_ _ | with_reducible refine DiceAt.drew ?_ | with_reducible refine DiceAt.keepBB ?_ (by with_reducible assumption) ?_ | with_reducible refine DiceAt.keep ?_ (by with_reducible assumption) | omega | focus (simp; omega)))
        · (repeat (first | with_reducible assumption | with_reducible exact BB.refl _ _ | with_reducible refine BB.setNew ?_ ?_ _ | with_reducible refine BB.drewN ?_ _ | with_reducible refine BB.trans ?_ (by with_reducible assumption) | with_reducible refine BB.trans ?_ (BB.of_below (by with_reducible assumption)) | omega | focus (simp; done) | focus (simp; omega)))
      · refine ⟨a, b, c, d, f, ⟨by simpa using ‹(!valid ⟨a, b, c, d, f⟩) = false›, ?_⟩, rfl, ?_, ?_⟩
        · rcases HP.out with h | h <;> omega
        · (repeat (first | with_reducible assumption | with_reducible refine DiceAt.store ?_ ?_ _ | with_reducible refine DiceAt.alloc ?_ _ | with_reducible refine DiceAt.drew ?_ | with_reducible refine DiceAt.keepBB ?_ (by with_reducible assumption) ?_ | with_reducible refine DiceAt.keep ?_ (by with_reducible assumption) | omega | focus (simp; omega)))
        · (repeat (first | with_reducible assumption | with_reducible exact BB.refl _ _ | with_reducible refine BB.setNew ?_ ?_ _ | with_reducible refine BB.drewN ?_ _ | with_reducible refine BB.trans ?_ (by with_reducible assumption) | with_reducible refine BB.trans ?_ (BB.of_below (by with_reducible assumption)) | omega | focus (simp; done) | focus (simp; omega)))
    · obtain ⟨j, rfl⟩ : ∃ j, k = j + 1 := ⟨k - 1, by omega⟩
      clear hk0
      have hf0 : 0 ≤ f ∧ f ≤ 28 := by
        rcases HP.out with h | h
        · omega
        · have := vbd h.1; omega
      have hf1 : 0 ≤ f := hf0.1
      have hf2 : f ≤ 28 := hf0.2
      have ht : 0 ≤ tokens ⟨a, b, c, d, f⟩ ∧ tokens ⟨a, b, c, d, f⟩ ≤ 1073741824 := by
        rcases HP.out with h | h
        · obtain ⟨rfl, rfl, rfl, rfl, rfl⟩ := h; decide
        · exact tokens_bd h.1
      have ht1 := ht.1
      have ht2 := ht.2
      clear hf0 ht
      have ht3 : 1 + tokens ⟨a, b, c, d, f⟩ ≤ 9223372036854775807 := by omega
      have ht4 := Lib.hid (wr_tok _ ht1 ht2)
      go_wp2_with fail
      have HS : Hid (BkAt wr.drew B a b c d f) := Lib.hid HBr.out
      clear c0 c1 c2 c3 c4 cf g0 g1 g2 g3 g4 gf
      refine wp_region_anyT (t := 15) (fun w' => BkAt w' B a b c d f) (by kernel_rfl) ?_
      (apply AnyT.soft (i := 0) rfl (by kernel_rfl) (fun _ _ _ h => h) HS.out (by rfl); focus (intro w' hSw; (obtain ⟨e0, e1, e2, e3, e4, _, _⟩ := BkAt.cells hSw); go_simp; try with_reducible rfl); (try simp only [Act.put, List.setIfInBounds_toArray, List.set_cons_zero, List.set_cons_succ]))
      (apply AnyT.soft (i := 1) rfl (by kernel_rfl) (fun _ _ _ h => h) HS.out (by rfl); focus (intro w' hSw; (obtain ⟨e0, e1, e2, e3, e4, _, _⟩ := BkAt.cells hSw); go_simp; try with_reducible rfl); (try simp only [Act.put, List.setIfInBounds_toArray, List.set_cons_zero, List.set_cons_succ]))
      (apply AnyT.soft (i := 2) rfl (by kernel_rfl) (fun _ _ _ h => h) HS.out (by rfl); focus (intro w' hSw; (obtain ⟨e0, e1, e2, e3, e4, _, _⟩ := BkAt.cells hSw); go_simp; try with_reducible rfl); (try simp only [Act.put, List.setIfInBounds_toArray, List.set_cons_zero, List.set_cons_succ]))
      (apply AnyT.soft (i := 3) rfl (by kernel_rfl) (fun _ _ _ h => h) HS.out (by rfl); focus (intro w' hSw; (obtain ⟨e0, e1, e2, e3, e4, _, _⟩ := BkAt.cells hSw); go_simp; try with_reducible rfl); (try simp only [Act.put, List.setIfInBounds_toArray, List.set_cons_zero, List.set_cons_succ]))
      (apply AnyT.soft (i := 6) rfl (by kernel_rfl) (fun _ _ _ h => h) HS.out (by rfl); focus (intro w' hSw; (obtain ⟨e0, e1, e2, e3, e4, _, _⟩ := BkAt.cells hSw); go_simp; try with_reducible rfl); (try simp only [Act.put, List.setIfInBounds_toArray, List.set_cons_zero, List.set_cons_succ]))
      (apply AnyT.soft (i := 7) rfl (by kernel_rfl) (fun _ _ _ h => h) HS.out (by rfl); focus (intro w' hSw; (obtain ⟨e0, e1, e2, e3, e4, _, _⟩ := BkAt.cells hSw); go_simp; try with_reducible rfl); (try simp only [Act.put, List.setIfInBounds_toArray, List.set_cons_zero, List.set_cons_succ]))
      (refine AnyT.loud (i := 4) rfl (by kernel_rfl) (fun K hK => ?_); have HK := Lib.hid hK; clear hK; go_simp; (refine (next_any D 9 _ (Hdr.out.keep (Below.drew (Below.refl _ _))) (by decide)).mono ?_; rintro e wa ⟨ra, rfl, hra, hda, hba⟩; have hra0 : 0 ≤ ra := hra.1; have hra9 : ra < 9 := hra.2.1 (by decide); have HSa := Lib.hid (HS.out.keepBB hba hBD); have Hda := Lib.hid hda; have Hba := Lib.hid hba; clear hra hda hba); refine HK.out _ _ HSa.out ?_; clear HK K; (try simp only [Act.put, List.setIfInBounds_toArray, List.set_cons_zero, List.set_cons_succ]))
      have ew2 : IntKind.i64.wrap (f + ra) = f + ra := wr_small f ra hf1 hf2 hra0 hra9
      (apply AnyT.pure (i := 5) rfl (by kernel_rfl) (fun _ _ _ h => h) (.inr HSa.out) (by rfl); focus (intro w'; go_simp; try with_reducible rfl); (try simp only [Act.put, List.setIfInBounds_toArray, List.set_cons_zero, List.set_cons_succ]))
      clear ew2
      (refine AnyT.loud (i := 8) rfl (by kernel_rfl) (fun K hK => ?_); have HK := Lib.hid hK; clear hK; go_simp; (refine (tokensr_any _ _ _ _ _ _).mono ?_; rintro e wb ⟨rfl, hbb⟩; have HSb := Lib.hid (HSa.out.keep hbb); have Hbb := Lib.hid hbb; clear hbb); refine HK.out _ _ HSb.out ?_; clear HK K; (try simp only [Act.put, List.setIfInBounds_toArray, List.set_cons_zero, List.set_cons_succ]))
      have ew1 := ht4.out
      (apply AnyT.pure (i := 9) rfl (by kernel_rfl) (fun _ _ _ h => h) (.inr HSb.out) (by rfl); focus (intro w'; go_simp; try with_reducible rfl); (try simp only [Act.put, List.setIfInBounds_toArray, List.set_cons_zero, List.set_cons_succ]))
      clear ew1
      (refine AnyT.loud (i := 10) rfl (by kernel_rfl) (fun K hK => ?_); have HK := Lib.hid hK; clear hK; go_simp; (refine (next_any D _ _ (Hda.out.keep Hbb.out) ht3).mono ?_; rintro e wc ⟨rc, rfl, hrc, hdc, hbc⟩; have HSc := Lib.hid (HSb.out.keepBB hbc hBD); have hrc0 : 0 ≤ rc := hrc.1; have Hrc := Lib.hid hrc; have Hdc := Lib.hid hdc; have Hbc := Lib.hid hbc; clear hrc hdc hbc); refine HK.out _ _ HSc.out ?_; clear HK K; (try simp only [Act.put, List.setIfInBounds_toArray, List.set_cons_zero, List.set_cons_succ]))
      (refine AnyT.loud (i := 11) rfl (by kernel_rfl) (fun K hK => ?_); have HK := Lib.hid hK; clear hK; go_simp; (refine (taker_any _ _ _ _ _ _ _ _).mono ?_; rintro e wd ⟨y1, y2, y3, y4, y5, y6, hy, rfl, hbd⟩; have HSd := Lib.hid (HSc.out.keep hbd); have Hy := Lib.hid hy; have Hbd := Lib.hid hbd; clear hy hbd); refine HK.out _ _ HSd.out ?_; clear HK K; (try simp only [Act.put, List.setIfInBounds_toArray, List.set_cons_zero, List.set_cons_succ]))
      (apply AnyT.pure (i := 12) rfl (by kernel_rfl) (fun _ _ _ h => h) (.inr HSd.out) (by rfl); focus (intro w'; go_simp; try with_reducible rfl); (try simp only [Act.put, List.setIfInBounds_toArray, List.set_cons_zero, List.set_cons_succ]))
      (apply AnyT.pure (i := 13) rfl (by kernel_rfl) (fun _ _ _ h => h) (.inr HSd.out) (by rfl); focus (intro w'; go_simp; try with_reducible rfl); (try simp only [Act.put, List.setIfInBounds_toArray, List.set_cons_zero, List.set_cons_succ]))
      (apply AnyT.pure (i := 14) rfl (by kernel_rfl) (fun _ _ _ h => h) (.inr HSd.out) (by rfl); focus (intro w'; go_simp; try with_reducible rfl); (try simp only [Act.put, List.setIfInBounds_toArray, List.set_cons_zero, List.set_cons_succ]))
      obtain ⟨c0, c1, c2, c3, c4, cf, cs'⟩ := HSd.out.cells
      (refine AnyT.turn rfl (by kernel_rfl) (fun K hK => ?_); have HK := Lib.hid hK; clear hK; go_simp; refine HK.out _ _ ?_; clear HK K; refine AnyT.done (by kernel_rfl) ?_)
      go_wp2_with fail
      have q1 := Hdc.out
      have q2 := Hbd.out
      have q3 := Hbr.out
      have q4 : BB D w wd := (((((q3.trans (BB.of_below (Below.drew (Below.refl _ _)))).trans Hba.out).trans (BB.of_below Hbb.out)).trans Hbc.out).trans (BB.of_below q2))
      have q5 : BkAt wd w.heap.size n0 n1 n2 n3 n4 := (((((HNr.out.keep (Below.drew (Below.refl _ _))).keepBB Hba.out hND).keep Hbb.out).keepBB Hbc.out hND).keep q2)
      have q6 := Hrc.out
      have q7 : (y1 = 0 ∧ y2 = 0 ∧ y3 = 0 ∧ y4 = 0 ∧ y5 = 0) ∨ (valid ⟨y1, y2, y3, y4, y5⟩ = true ∧ y5 ≤ 28 - 8 * (j : Int)) := by
        have hy := Hy.out
        rcases HP.out with h | h
        · obtain ⟨rfl, rfl, rfl, rfl, rfl⟩ := h
          rw [taker_zero] at hy
          simp only [zeroBk, Prod.mk.injEq, Bk.mk.injEq] at hy
          left; omega
        · obtain ⟨a', b', c', d', e, hv⟩ := taker_ok h.1 hf2 hra0 (by omega : ra ≤ 8) hrc0 (by have := q6.2.1 (by omega); omega)
          rw [e] at hy
          simp only [Prod.mk.injEq, Bk.mk.injEq] at hy
          obtain ⟨⟨rfl, rfl, rfl, rfl, rfl⟩, _⟩ := hy
          right; exact ⟨hv, by have := h.2; omega⟩
      refine ⟨⟨j, rfl, by omega, ?_, ?_, ⟨n0, n1, n2, n3, n4, ?_⟩, y1, y2, y3, y4, y5, HSd.out.store, q7⟩, by simp [intOf]⟩
      · clear q3 q4 q5 q6 q7
        (repeat (first | with_reducible assumption | with_reducible refine DiceAt.store ?_ ?_ _ | with_reducible refine DiceAt.alloc ?_ _ | with_reducible refine DiceAt.drew ?_ | with_reducible refine DiceAt.keepBB ?_ (by with_reducible assumption) ?_ | with_reducible refine DiceAt.keep ?_ (by with_reducible assumption) | omega | focus (simp; omega)))
      · clear q1 q2 q3 q5 q6 q7
        (repeat (first | with_reducible assumption | with_reducible exact BB.refl _ _ | with_reducible refine BB.setNew ?_ ?_ _ | with_reducible refine BB.drewN ?_ _ | with_reducible refine BB.trans ?_ (by with_reducible assumption) | with_reducible refine BB.trans ?_ (BB.of_below (by with_reducible assumption)) | omega | focus (simp; done) | focus (simp; omega)))
      · exact ((((q5.other hNB).other hNB).other hNB).other hNB).other hNB
end Go.Proofs.Ytdajfecndfkecaa
