/- A part of the proof of the laws of layer 32: abstract values and contracts of functions; no statement of its own. -/
import Derived.Test.YtobhdinkckckhaaGreatA5
set_option linter.unusedSimpArgs false
set_option linter.unusedVariables false
set_option maxRecDepth 100000
set_option linter.unusedSimpArgs false
set_option linter.unusedVariables false
set_option pp.maxSteps 2000
namespace Go.Am.Tryz
open Go.Proofs
def sp_forkledgerref30_EncodeView (args : List AV) : RM CallSpec := sp_snapshot_Encode args
attribute [go_sem] sp_forkledgerref30_EncodeView
theorem encView_ok {v : View} (hs : smallW v) : FnG Tryz.prog 10 [viewA v] [] (encOut v) := by
  refine FnG_of_W (sp := spL [(30, sp_forkledgerref1_AppendUint), (31, sp_forkledgerref6_EncodeSigned), (32, sp_forkledgerref1_AppendBytes), (33, sp_forkledgerref6_LessSigned)]) (tb := tbOf Tryz.prog) (tbOf_ok _) (by kernel_rfl) Tryz.func10 (c := _) rfl (by kernel_rfl) (by kernel_rfl) (Nat.le_of_ble_eq_true rfl) (rs := [.tmp 2, .tmp 3]) rfl ?_
  unfold FnW
  obtain ⟨hs1, hs2, hs3, hs4⟩ := hs
  repeat' (first | (with_reducible intro _) | (with_reducible refine wcond_not ?_) | ((with_reducible refine wcond_dec (fun _ => ?_) (fun _ => ?_)) <;> try (exfalso; omega)) | (with_reducible refine wcond_split (fun _ => ?_) (fun _ => ?_)) | (with_reducible refine draw_ro (by kernel_rfl) ?_) | simp +contextual -implicitDefEqProofs (disch := first | exact dsc _ | fail) only [go_sem, ↓reduceIte, Nat.reduceEqDiff, Nat.reduceAdd, Nat.reduceMul, Nat.reduceSub, Nat.reduceLT, Nat.reduceLeDiff, Nat.reduceBEq, reduceCtorEq, BEq.rfl, Int.reduceLT, Int.reduceLE, Int.reduceAdd, Int.reduceToNat, Int.reduceSub, Int.reduceMul, Int.reduceNeg, Int.reduceEq, *] | (with_reducible refine And.intro (by first | omega | assumption | rfl) ?_))
  rename_i r0 r1 h01
  refine wloopW (α := Nat × Id × Nat) (fun p => ⟨[(1, .ptr r0 []), (5, .int .i64 p.1), (4, .own p.2.1 [] 1 0 (4 + 393 * p.1) p.2.2)],
      [(p.2.1, .row 5 1 (bys (be v.votes.length 4 ++ (v.votes.take p.1).flatMap encS)) 0), (r0, .box (viewA v))]⟩)
    (fun p => p.1 ≤ v.votes.length ∧ (v.votes.take p.1).all okS = true ∧ 4 + 393 * p.1 ≤ p.2.2 ∧ ¬ p.2.1 = r0 ∧ ¬ r0 = p.2.1) (fun p => v.votes.length - p.1) (0, r1, 4) ?_ ?_ ?_
  · simp_all
  · simp +contextual -implicitDefEqProofs (disch := first | exact dsc _ | fail) only [go_sem, push_cast, ↓reduceIte, Nat.reduceEqDiff, Nat.reduceAdd, Nat.reduceMul, Nat.reduceSub, Nat.reduceLT, Nat.reduceLeDiff, Nat.reduceBEq, reduceCtorEq, BEq.rfl, Int.reduceLT, Int.reduceLE, Int.reduceAdd, Int.reduceToNat, Int.reduceSub, Int.reduceMul, Int.reduceNeg, Int.reduceEq, *]
    all_goals simp
  · rintro ⟨i, r, mc⟩ ⟨hi, hall, hmc, hne, hne'⟩
    have hi : i ≤ v.votes.length := hi
    have hall : (v.votes.take i).all okS = true := hall
    have hmc : 4 + 393 * i ≤ mc := hmc
    have hne : ¬ r = r0 := hne
    have hne' : ¬ r0 = r := hne'
    have hL := votes_len hi hall
    by_cases hlt : i < v.votes.length
    · obtain ⟨s, hs⟩ := get_lt hlt
      have hsig := hs3 s (List.mem_of_getElem? hs)
      have hE : (encS s).length ≤ 1000023 := by rw [encS_len]; omega
      repeat' (first | (with_reducible intro _) | (with_reducible refine wcond_not ?_) | ((with_reducible refine wcond_dec (fun _ => ?_) (fun _ => ?_)) <;> try (exfalso; omega)) | (with_reducible refine wcond_split (fun _ => ?_) (fun _ => ?_)) | (with_reducible refine draw_ro (by kernel_rfl) ?_) | simp +contextual -implicitDefEqProofs (disch := first | exact dsc _ | fail) only [go_sem, ↓reduceIte, Nat.reduceEqDiff, Nat.reduceAdd, Nat.reduceMul, Nat.reduceSub, Nat.reduceLT, Nat.reduceLeDiff, Nat.reduceBEq, reduceCtorEq, BEq.rfl, Int.reduceLT, Int.reduceLE, Int.reduceAdd, Int.reduceToNat, Int.reduceSub, Int.reduceMul, Int.reduceNeg, Int.reduceEq, *, hL, sp_signed_Encode] | (with_reducible refine And.intro (by first | omega | assumption | rfl) ?_))
      · rename_i r4 h4
        have hok : okS s = true := by assumption
        have he := encS_ok hok
        refine round_intro (i + 1, r4, 4 + 393 * i + 393) ⟨hlt, all_snoc hs hall hok, by show 4 + 393 * (i + 1) ≤ 4 + 393 * i + 393; omega, by simp_all⟩ (by show v.votes.length - (i + 1) < v.votes.length - i; omega) ?_
        simp +contextual -implicitDefEqProofs (disch := first | exact dsc _ | fail) only [go_sem, push_cast, ↓reduceIte, Nat.reduceEqDiff, Nat.reduceAdd, Nat.reduceMul, Nat.reduceSub, Nat.reduceLT, Nat.reduceLeDiff, Nat.reduceBEq, reduceCtorEq, BEq.rfl, Int.reduceLT, Int.reduceLE, Int.reduceAdd, Int.reduceToNat, Int.reduceSub, Int.reduceMul, Int.reduceNeg, Int.reduceEq, *]
        rw [flat_snoc encS hs, List.append_assoc]
        repeat' (first | (apply And.intro) | rfl | omega)
      · have hok : okS s = false := by rename_i hok; simpa using hok
        have he : errW v = 1 := by simp [errW, all_bad hs hok]
        rw [show encOut v = .val (.tup [.nils, .int .i64 1]) from by simp [encOut, he]]
        ((first | refine Fin_v1 (by rfl) ?_ | refine Fin_vn (by intro h; cases h) ?_ | refine Fin_f1 (by rfl) ?_ | refine Fin_fn (by intro h; cases h) (fun _ => rfl) ?_ | refine Fin_u1 (by rfl) ?_ | refine Fin_un (by intro h; cases h) ?_); try simp +contextual -implicitDefEqProofs (disch := first | exact dsc _ | fail) only [go_sem, push_cast, ↓reduceIte, Nat.reduceEqDiff, Nat.reduceAdd, Nat.reduceMul, Nat.reduceSub, Nat.reduceLT, Nat.reduceLeDiff, Nat.reduceBEq, reduceCtorEq, BEq.rfl, Int.reduceLT, Int.reduceLE, Int.reduceAdd, Int.reduceToNat, Int.reduceSub, Int.reduceMul, Int.reduceNeg, Int.reduceEq, *])
    · have hall' : v.votes.all okS = true := by rw [List.take_of_length_le (by omega)] at hall; exact hall
      have hin : i = v.votes.length := by omega
      subst hin
      rw [List.take_length] at hL
      repeat' (first | (with_reducible intro _) | (with_reducible refine wcond_not ?_) | ((with_reducible refine wcond_dec (fun _ => ?_) (fun _ => ?_)) <;> try (exfalso; omega)) | (with_reducible refine wcond_split (fun _ => ?_) (fun _ => ?_)) | (with_reducible refine draw_ro (by kernel_rfl) ?_) | simp +contextual -implicitDefEqProofs (disch := first | exact dsc _ | fail) only [go_sem, ↓reduceIte, Nat.reduceEqDiff, Nat.reduceAdd, Nat.reduceMul, Nat.reduceSub, Nat.reduceLT, Nat.reduceLeDiff, Nat.reduceBEq, reduceCtorEq, BEq.rfl, Int.reduceLT, Int.reduceLE, Int.reduceAdd, Int.reduceToNat, Int.reduceSub, Int.reduceMul, Int.reduceNeg, Int.reduceEq, *, hL, List.take_length] | (with_reducible refine And.intro (by first | omega | assumption | rfl) ?_))
      rename_i r3 h3
      refine wloopW (α := Nat × Id × Nat) (fun p => ⟨[(1, .ptr r0 []), (8, .int .i64 p.1), (4, .own p.2.1 [] 1 0 (8 + 393 * v.votes.length + ((v.texts.take p.1).flatMap encT).length) p.2.2)],
          [(p.2.1, .row 5 1 (bys (be v.votes.length 4 ++ v.votes.flatMap encS ++ be v.texts.length 4 ++ (v.texts.take p.1).flatMap encT)) 0), (r0, .box (viewA v))]⟩)
        (fun p => p.1 ≤ v.texts.length ∧ (v.texts.take p.1).all okT = true ∧ 8 + 393 * v.votes.length + ((v.texts.take p.1).flatMap encT).length ≤ p.2.2 ∧ ¬ p.2.1 = r0 ∧ ¬ r0 = p.2.1) (fun p => v.texts.length - p.1) (0, r3, 4 + 393 * v.votes.length + 4) ?_ ?_ ?_
      · simp_all; omega
      · simp +contextual -implicitDefEqProofs (disch := first | exact dsc _ | fail) only [go_sem, push_cast, ↓reduceIte, Nat.reduceEqDiff, Nat.reduceAdd, Nat.reduceMul, Nat.reduceSub, Nat.reduceLT, Nat.reduceLeDiff, Nat.reduceBEq, reduceCtorEq, BEq.rfl, Int.reduceLT, Int.reduceLE, Int.reduceAdd, Int.reduceToNat, Int.reduceSub, Int.reduceMul, Int.reduceNeg, Int.reduceEq, *]
        simp
        try omega
      · rintro ⟨i, r, mc⟩ ⟨hi, hall, hmc, hne, hne'⟩
        have hi : i ≤ v.texts.length := hi
        have hall : (v.texts.take i).all okT = true := hall
        have hmc : 8 + 393 * v.votes.length + ((v.texts.take i).flatMap encT).length ≤ mc := hmc
        have hne : ¬ r = r0 := hne
        have hne' : ¬ r0 = r := hne'
        have hT := texts_len hall
        by_cases hlt : i < v.texts.length
        · obtain ⟨s, hs⟩ := get_lt hlt
          have hlen := hs4 s (List.mem_of_getElem? hs)
          have hE : (encT s).length ≤ 10000002 := by rw [encT_len]; omega
          have hsn := flat_snoc encT hs
          repeat' (first | (with_reducible intro _) | (with_reducible refine wcond_not ?_) | ((with_reducible refine wcond_dec (fun _ => ?_) (fun _ => ?_)) <;> try (exfalso; omega)) | (with_reducible refine wcond_split (fun _ => ?_) (fun _ => ?_)) | (with_reducible refine draw_ro (by kernel_rfl) ?_) | simp +contextual -implicitDefEqProofs (disch := first | exact dsc _ | fail) only [go_sem, ↓reduceIte, Nat.reduceEqDiff, Nat.reduceAdd, Nat.reduceMul, Nat.reduceSub, Nat.reduceLT, Nat.reduceLeDiff, Nat.reduceBEq, reduceCtorEq, BEq.rfl, Int.reduceLT, Int.reduceLE, Int.reduceAdd, Int.reduceToNat, Int.reduceSub, Int.reduceMul, Int.reduceNeg, Int.reduceEq, *, hL, sp_codec_AppendBytes] | (with_reducible refine And.intro (by first | omega | assumption | rfl) ?_))
          · rename_i r6 h6
            have hok : okT s = true := by assumption
            refine round_intro (i + 1, r6, 8 + 393 * v.votes.length + ((v.texts.take (i + 1)).flatMap encT).length) ⟨hlt, all_snoc hs hall hok, Nat.le_refl _, by simp_all⟩ (by show v.texts.length - (i + 1) < v.texts.length - i; omega) ?_
            simp +contextual -implicitDefEqProofs (disch := first | exact dsc _ | fail) only [go_sem, push_cast, ↓reduceIte, Nat.reduceEqDiff, Nat.reduceAdd, Nat.reduceMul, Nat.reduceSub, Nat.reduceLT, Nat.reduceLeDiff, Nat.reduceBEq, reduceCtorEq, BEq.rfl, Int.reduceLT, Int.reduceLE, Int.reduceAdd, Int.reduceToNat, Int.reduceSub, Int.reduceMul, Int.reduceNeg, Int.reduceEq, *]
            repeat' (first | (apply And.intro) | rfl | omega | (rw [List.length_append]; omega) | (simp only [List.append_assoc]; done))
          · have hok : okT s = false := by rename_i hok; simpa using hok
            have he : errW v = 1 := by simp [errW, all_bad hs hok]
            rw [show encOut v = .val (.tup [.nils, .int .i64 1]) from by simp [encOut, he]]
            ((first | refine Fin_v1 (by rfl) ?_ | refine Fin_vn (by intro h; cases h) ?_ | refine Fin_f1 (by rfl) ?_ | refine Fin_fn (by intro h; cases h) (fun _ => rfl) ?_ | refine Fin_u1 (by rfl) ?_ | refine Fin_un (by intro h; cases h) ?_); try simp +contextual -implicitDefEqProofs (disch := first | exact dsc _ | fail) only [go_sem, push_cast, ↓reduceIte, Nat.reduceEqDiff, Nat.reduceAdd, Nat.reduceMul, Nat.reduceSub, Nat.reduceLT, Nat.reduceLeDiff, Nat.reduceBEq, reduceCtorEq, BEq.rfl, Int.reduceLT, Int.reduceLE, Int.reduceAdd, Int.reduceToNat, Int.reduceSub, Int.reduceMul, Int.reduceNeg, Int.reduceEq, *])
        · have hall2 : v.texts.all okT = true := by rw [List.take_of_length_le (by omega)] at hall; exact hall
          have hin : i = v.texts.length := by omega
          subst hin
          rw [List.take_length] at hT
          have hb : (bytesW v).length = 8 + 393 * v.votes.length + (List.flatMap encT v.texts).length := by
            simp only [bytesW, List.length_append, be_len, hL]; omega
          repeat' (first | (with_reducible intro _) | (with_reducible refine wcond_not ?_) | ((with_reducible refine wcond_dec (fun _ => ?_) (fun _ => ?_)) <;> try (exfalso; omega)) | (with_reducible refine wcond_split (fun _ => ?_) (fun _ => ?_)) | (with_reducible refine draw_ro (by kernel_rfl) ?_) | simp +contextual -implicitDefEqProofs (disch := first | exact dsc _ | fail) only [go_sem, ↓reduceIte, Nat.reduceEqDiff, Nat.reduceAdd, Nat.reduceMul, Nat.reduceSub, Nat.reduceLT, Nat.reduceLeDiff, Nat.reduceBEq, reduceCtorEq, BEq.rfl, Int.reduceLT, Int.reduceLE, Int.reduceAdd, Int.reduceToNat, Int.reduceSub, Int.reduceMul, Int.reduceNeg, Int.reduceEq, *, hL, List.take_length] | (with_reducible refine And.intro (by first | omega | assumption | rfl) ?_))
          refine wloopW (α := Nat) (fun i => ⟨[(1, .ptr r0 []), (11, .int .i64 (i + 1)), (4, .own r [] 1 0 (bytesW v).length mc)], [(r, .row 5 1 (bys (bytesW v)) 0), (r0, .box (viewA v))]⟩) (fun i => (i = 0 ∨ i < v.votes.length) ∧ chainB sgnLt (v.votes.take (i + 1)) = true) (fun i => v.votes.length - i) 0 ⟨.inl rfl, chain_short (by simp; omega)⟩ ?_ ?_
          · simp +contextual -implicitDefEqProofs (disch := first | exact dsc _ | fail) only [go_sem, push_cast, ↓reduceIte, Nat.reduceEqDiff, Nat.reduceAdd, Nat.reduceMul, Nat.reduceSub, Nat.reduceLT, Nat.reduceLeDiff, Nat.reduceBEq, reduceCtorEq, BEq.rfl, Int.reduceLT, Int.reduceLE, Int.reduceAdd, Int.reduceToNat, Int.reduceSub, Int.reduceMul, Int.reduceNeg, Int.reduceEq, *]
            all_goals (try rw [List.take_length])
            all_goals first | exact ⟨rfl, rfl, by rw [bytesW]⟩ | exact ⟨rfl, by rw [bytesW]⟩ | rw [bytesW]
          · intro i hi
            obtain ⟨hi1, hi2⟩ := hi
            by_cases hlt : i + 1 < v.votes.length
            · obtain ⟨a, ha⟩ := get_lt (l := v.votes) (n := i) (by omega)
              obtain ⟨b, hb⟩ := get_lt hlt
              have hc := chain_take (lt := sgnLt) ha hb
              have hi' : ((i : Int) + 1).toNat = i + 1 := by omega
              repeat' (first | (with_reducible intro _) | (with_reducible refine wcond_not ?_) | ((with_reducible refine wcond_dec (fun _ => ?_) (fun _ => ?_)) <;> try (exfalso; omega)) | (with_reducible refine wcond_split (fun _ => ?_) (fun _ => ?_)) | (with_reducible refine draw_ro (by kernel_rfl) ?_) | simp +contextual -implicitDefEqProofs (disch := first | exact dsc _ | fail) only [go_sem, ↓reduceIte, Nat.reduceEqDiff, Nat.reduceAdd, Nat.reduceMul, Nat.reduceSub, Nat.reduceLT, Nat.reduceLeDiff, Nat.reduceBEq, reduceCtorEq, BEq.rfl, Int.reduceLT, Int.reduceLE, Int.reduceAdd, Int.reduceToNat, Int.reduceSub, Int.reduceMul, Int.reduceNeg, Int.reduceEq, *, hi'] | (with_reducible refine And.intro (by first | omega | assumption | rfl) ?_))
              · refine round_intro (i + 1) ⟨.inr hlt, by simp_all⟩ (by show v.votes.length - (i + 1) < v.votes.length - i; omega) ?_
                simp +contextual -implicitDefEqProofs (disch := first | exact dsc _ | fail) only [go_sem, push_cast, ↓reduceIte, Nat.reduceEqDiff, Nat.reduceAdd, Nat.reduceMul, Nat.reduceSub, Nat.reduceLT, Nat.reduceLeDiff, Nat.reduceBEq, reduceCtorEq, BEq.rfl, Int.reduceLT, Int.reduceLE, Int.reduceAdd, Int.reduceToNat, Int.reduceSub, Int.reduceMul, Int.reduceNeg, Int.reduceEq, *]
                all_goals try rfl
              · have he : errW v = 10 := by simp [errW, hall', hall2, ordW, chain_bad ha hb (lt := sgnLt) (by assumption)]
                rw [show encOut v = .val (.tup [.nils, .int .i64 10]) from by simp [encOut, he]]
                ((first | refine Fin_v1 (by rfl) ?_ | refine Fin_vn (by intro h; cases h) ?_ | refine Fin_f1 (by rfl) ?_ | refine Fin_fn (by intro h; cases h) (fun _ => rfl) ?_ | refine Fin_u1 (by rfl) ?_ | refine Fin_un (by intro h; cases h) ?_); try simp +contextual -implicitDefEqProofs (disch := first | exact dsc _ | fail) only [go_sem, push_cast, ↓reduceIte, Nat.reduceEqDiff, Nat.reduceAdd, Nat.reduceMul, Nat.reduceSub, Nat.reduceLT, Nat.reduceLeDiff, Nat.reduceBEq, reduceCtorEq, BEq.rfl, Int.reduceLT, Int.reduceLE, Int.reduceAdd, Int.reduceToNat, Int.reduceSub, Int.reduceMul, Int.reduceNeg, Int.reduceEq, *])
            · have hv : chainB sgnLt v.votes = true := by
                rw [List.take_of_length_le (by omega)] at hi2; exact hi2
              repeat' (first | (with_reducible intro _) | (with_reducible refine wcond_not ?_) | ((with_reducible refine wcond_dec (fun _ => ?_) (fun _ => ?_)) <;> try (exfalso; omega)) | (with_reducible refine wcond_split (fun _ => ?_) (fun _ => ?_)) | (with_reducible refine draw_ro (by kernel_rfl) ?_) | simp +contextual -implicitDefEqProofs (disch := first | exact dsc _ | fail) only [go_sem, ↓reduceIte, Nat.reduceEqDiff, Nat.reduceAdd, Nat.reduceMul, Nat.reduceSub, Nat.reduceLT, Nat.reduceLeDiff, Nat.reduceBEq, reduceCtorEq, BEq.rfl, Int.reduceLT, Int.reduceLE, Int.reduceAdd, Int.reduceToNat, Int.reduceSub, Int.reduceMul, Int.reduceNeg, Int.reduceEq, *] | (with_reducible refine And.intro (by first | omega | assumption | rfl) ?_))
              refine wloopW (α := Nat) (fun i => ⟨[(1, .ptr r0 []), (12, .int .i64 (i + 1)), (4, .own r [] 1 0 (bytesW v).length mc)], [(r, .row 5 1 (bys (bytesW v)) 0), (r0, .box (viewA v))]⟩) (fun i => (i = 0 ∨ i < v.texts.length) ∧ chainB txtLt (v.texts.take (i + 1)) = true) (fun i => v.texts.length - i) 0 ⟨.inl rfl, chain_short (by simp; omega)⟩ ?_ ?_
              · simp +contextual -implicitDefEqProofs (disch := first | exact dsc _ | fail) only [go_sem, push_cast, ↓reduceIte, Nat.reduceEqDiff, Nat.reduceAdd, Nat.reduceMul, Nat.reduceSub, Nat.reduceLT, Nat.reduceLeDiff, Nat.reduceBEq, reduceCtorEq, BEq.rfl, Int.reduceLT, Int.reduceLE, Int.reduceAdd, Int.reduceToNat, Int.reduceSub, Int.reduceMul, Int.reduceNeg, Int.reduceEq, *]
                try rfl
              · intro i hi
                obtain ⟨hi1, hi2⟩ := hi
                by_cases hlt : i + 1 < v.texts.length
                · obtain ⟨a, ha⟩ := get_lt (l := v.texts) (n := i) (by omega)
                  obtain ⟨b, hb⟩ := get_lt hlt
                  have hc := chain_take (lt := txtLt) ha hb
                  have hi' : ((i : Int) + 1).toNat = i + 1 := by omega
                  repeat' (first | (with_reducible intro _) | (with_reducible refine wcond_not ?_) | ((with_reducible refine wcond_dec (fun _ => ?_) (fun _ => ?_)) <;> try (exfalso; omega)) | (with_reducible refine wcond_split (fun _ => ?_) (fun _ => ?_)) | (with_reducible refine draw_ro (by kernel_rfl) ?_) | simp +contextual -implicitDefEqProofs (disch := first | exact dsc _ | fail) only [go_sem, ↓reduceIte, Nat.reduceEqDiff, Nat.reduceAdd, Nat.reduceMul, Nat.reduceSub, Nat.reduceLT, Nat.reduceLeDiff, Nat.reduceBEq, reduceCtorEq, BEq.rfl, Int.reduceLT, Int.reduceLE, Int.reduceAdd, Int.reduceToNat, Int.reduceSub, Int.reduceMul, Int.reduceNeg, Int.reduceEq, *, hi'] | (with_reducible refine And.intro (by first | omega | assumption | rfl) ?_))
                  · refine round_intro (i + 1) ⟨.inr hlt, by rw [hc, hi2]; simp [txtLt]; omega⟩ (by show v.texts.length - (i + 1) < v.texts.length - i; omega) ?_
                    simp +contextual -implicitDefEqProofs (disch := first | exact dsc _ | fail) only [go_sem, push_cast, ↓reduceIte, Nat.reduceEqDiff, Nat.reduceAdd, Nat.reduceMul, Nat.reduceSub, Nat.reduceLT, Nat.reduceLeDiff, Nat.reduceBEq, reduceCtorEq, BEq.rfl, Int.reduceLT, Int.reduceLE, Int.reduceAdd, Int.reduceToNat, Int.reduceSub, Int.reduceMul, Int.reduceNeg, Int.reduceEq, *]
                    all_goals try rfl
                  · have he : errW v = 10 := by simp [errW, hall', hall2, ordW, chain_bad ha hb (lt := txtLt) (by simp [txtLt]; omega)]
                    rw [show encOut v = .val (.tup [.nils, .int .i64 10]) from by simp [encOut, he]]
                    ((first | refine Fin_v1 (by rfl) ?_ | refine Fin_vn (by intro h; cases h) ?_ | refine Fin_f1 (by rfl) ?_ | refine Fin_fn (by intro h; cases h) (fun _ => rfl) ?_ | refine Fin_u1 (by rfl) ?_ | refine Fin_un (by intro h; cases h) ?_); try simp +contextual -implicitDefEqProofs (disch := first | exact dsc _ | fail) only [go_sem, push_cast, ↓reduceIte, Nat.reduceEqDiff, Nat.reduceAdd, Nat.reduceMul, Nat.reduceSub, Nat.reduceLT, Nat.reduceLeDiff, Nat.reduceBEq, reduceCtorEq, BEq.rfl, Int.reduceLT, Int.reduceLE, Int.reduceAdd, Int.reduceToNat, Int.reduceSub, Int.reduceMul, Int.reduceNeg, Int.reduceEq, *])
                · have hv2 : chainB txtLt v.texts = true := by
                    rw [List.take_of_length_le (by omega)] at hi2; exact hi2
                  have he : errW v = 0 := by simp [errW, hall', hall2, ordW, hv, hv2]
                  repeat' (first | (with_reducible intro _) | (with_reducible refine wcond_not ?_) | ((with_reducible refine wcond_dec (fun _ => ?_) (fun _ => ?_)) <;> try (exfalso; omega)) | (with_reducible refine wcond_split (fun _ => ?_) (fun _ => ?_)) | (with_reducible refine draw_ro (by kernel_rfl) ?_) | simp +contextual -implicitDefEqProofs (disch := first | exact dsc _ | fail) only [go_sem, ↓reduceIte, Nat.reduceEqDiff, Nat.reduceAdd, Nat.reduceMul, Nat.reduceSub, Nat.reduceLT, Nat.reduceLeDiff, Nat.reduceBEq, reduceCtorEq, BEq.rfl, Int.reduceLT, Int.reduceLE, Int.reduceAdd, Int.reduceToNat, Int.reduceSub, Int.reduceMul, Int.reduceNeg, Int.reduceEq, *] | (with_reducible refine And.intro (by first | omega | assumption | rfl) ?_))
                  rw [show encOut v = outE (bytesW v) from by simp [encOut, he]]
                  ((first | refine Fin_v1 (by rfl) ?_ | refine Fin_vn (by intro h; cases h) ?_ | refine Fin_f1 (by rfl) ?_ | refine Fin_fn (by intro h; cases h) (fun _ => rfl) ?_ | refine Fin_u1 (by rfl) ?_ | refine Fin_un (by intro h; cases h) ?_); try simp +contextual -implicitDefEqProofs (disch := first | exact dsc _ | fail) only [go_sem, push_cast, ↓reduceIte, Nat.reduceEqDiff, Nat.reduceAdd, Nat.reduceMul, Nat.reduceSub, Nat.reduceLT, Nat.reduceLeDiff, Nat.reduceBEq, reduceCtorEq, BEq.rfl, Int.reduceLT, Int.reduceLE, Int.reduceAdd, Int.reduceToNat, Int.reduceSub, Int.reduceMul, Int.reduceNeg, Int.reduceEq, *])
                  all_goals rw [List.take_length] at hmc
                  all_goals first | exact ⟨hb.symm, hb ▸ hmc⟩ | omega | exact ⟨by omega, by omega⟩ | (rw [hb]; exact ⟨rfl, hmc⟩)
theorem t_forkledgerref30_EncodeView_y {v : View} (h : errW v = 0) (hs : smallW v) : FnG Tryz.prog 10 [viewA v] [] (outE (bytesW v)) = True := by
  have := encView_ok hs
  rw [show encOut v = outE (bytesW v) from by simp [encOut, h]] at this
  exact eq_true this
attribute [go_sem ↓] t_forkledgerref30_EncodeView_y
theorem t_forkledgerref30_EncodeView_n {v : View} (h : ¬ errW v = 0) (hs : smallW v) : FnG Tryz.prog 10 [viewA v] [] (.val (.tup [.nils, .int .i64 (errW v)])) = True := by
  have := encView_ok hs
  rw [show encOut v = .val (.tup [.nils, .int .i64 (errW v)]) from by simp [encOut, h]] at this
  exact eq_true this
attribute [go_sem ↓] t_forkledgerref30_EncodeView_n
end Go.Am.Tryz
set_option maxRecDepth 100000
set_option linter.unusedSimpArgs false
set_option linter.unusedVariables false
set_option pp.maxSteps 2000
namespace Go.Am.Tryz
open Go.Proofs
def sp_codec_follow (args : List AV) : RM CallSpec := match args with
  | [x0, x1, x2] => (bysM x0).bind fun l => (opt (intD x1)).bind fun a => (opt (intD x2)).bind fun n => pureS [.list (bys l), .int .i64 a, .int .i64 n] (.bool (followB l a n))
  | _ => .fail
attribute [go_sem] sp_codec_follow
theorem t_codec_follow (l : List UInt8) (a : Int) (n : Int) (ha : -4611686018427387904 ≤ a ∧ a ≤ 4611686018427387904) (hl : l.length ≤ 35184372088832) : FnG Tryz.prog 107 [.list (bys l), .int .i64 a, .int .i64 n] [] (.val (.bool (followB l a n))) = True := by
  refine eq_true ?_
  refine FnG_of_W (sp := spL []) (tb := tbOf Tryz.prog) (tbOf_ok _) (by kernel_rfl) Tryz.func107 (c := _) rfl (by kernel_rfl) (by kernel_rfl) (Nat.le_of_ble_eq_true rfl) (rs := [.tmp 6]) rfl ?_
  unfold FnW
  have e : IntKind.i64.wrap ((l.length : Int) - a) = l.length - a := wrap64 (by omega) (by omega)
  repeat' (first | (with_reducible intro _) | (with_reducible refine wcond_not ?_) | ((with_reducible refine wcond_dec (fun _ => ?_) (fun _ => ?_)) <;> try (exfalso; omega)) | (with_reducible refine wcond_split (fun _ => ?_) (fun _ => ?_)) | (with_reducible refine draw_ro (by kernel_rfl) ?_) | simp +contextual -implicitDefEqProofs (disch := first | exact dsc _ | fail) only [go_sem, ↓reduceIte, Nat.reduceEqDiff, Nat.reduceAdd, Nat.reduceMul, Nat.reduceSub, Nat.reduceLT, Nat.reduceLeDiff, Nat.reduceBEq, reduceCtorEq, BEq.rfl, Int.reduceLT, Int.reduceLE, Int.reduceAdd, Int.reduceToNat, Int.reduceSub, Int.reduceMul, Int.reduceNeg, Int.reduceEq, *, e] | (with_reducible refine And.intro (by first | omega | assumption | rfl) ?_))
  all_goals ((first | refine Fin_v1 (by rfl) ?_ | refine Fin_vn (by intro h; cases h) ?_ | refine Fin_f1 (by rfl) ?_ | refine Fin_fn (by intro h; cases h) (fun _ => rfl) ?_ | refine Fin_u1 (by rfl) ?_ | refine Fin_un (by intro h; cases h) ?_); try simp +contextual -implicitDefEqProofs (disch := first | exact dsc _ | fail) only [go_sem, push_cast, ↓reduceIte, Nat.reduceEqDiff, Nat.reduceAdd, Nat.reduceMul, Nat.reduceSub, Nat.reduceLT, Nat.reduceLeDiff, Nat.reduceBEq, reduceCtorEq, BEq.rfl, Int.reduceLT, Int.reduceLE, Int.reduceAdd, Int.reduceToNat, Int.reduceSub, Int.reduceMul, Int.reduceNeg, Int.reduceEq, *])
  all_goals simp [followB]
attribute [go_sem ↓] t_codec_follow
def sp_codec_Uint (args : List AV) : RM CallSpec := match args with
  | [x0, x1, x2] => (bysM x0).bind fun l => (opt (intD x1)).bind fun a => (opt (intD x2)).bind fun k => pureS [.list (bys l), .int .i64 a, .int .i64 k] (.tup [.int .u64 (uintV l a k), .bool (uintOk l a k)])
  | _ => .fail
attribute [go_sem] sp_codec_Uint
theorem t_codec_Uint (l : List UInt8) (a : Int) (k : Int) (ha : -4611686018427387904 ≤ a ∧ a ≤ 4611686018427387904) (hk : -4611686018427387904 ≤ k ∧ k ≤ 4611686018427387904) (hl : l.length ≤ 35184372088832) : FnG Tryz.prog 81 [.list (bys l), .int .i64 a, .int .i64 k] [] (.val (.tup [.int .u64 (uintV l a k), .bool (uintOk l a k)])) = True := by
  refine eq_true ?_
  refine FnG_of_W (sp := spL [(107, sp_codec_follow)]) (tb := tbOf Tryz.prog) (tbOf_ok _) (by kernel_rfl) Tryz.func81 (c := _) rfl (by kernel_rfl) (by kernel_rfl) (Nat.le_of_ble_eq_true rfl) (rs := [.tmp 6, .tmp 7]) rfl ?_
  unfold FnW
  have hcond : (decide (k < 1) || decide (8 < k) || !followB l a k) = !uintOk l a k := by
    rw [Bool.eq_iff_iff]; simp [uintOk]
  cases hok : uintOk l a k with
  | true =>
    obtain ⟨h1, h2, h3, h4, h5⟩ := uintOk_iff.1 hok
    have hsl := seg_len (l := l) (k := k) h3 h4 (by omega) h5
    have e1 : (a + k).toNat - a.toNat = k.toNat := by omega
    have e2 : min k.toNat (l.length - a.toNat) = k.toNat := by omega
    have e3 : (k.toNat : Int) = k := by omega
    repeat' (first | (with_reducible intro _) | (with_reducible refine wcond_not ?_) | ((with_reducible refine wcond_dec (fun _ => ?_) (fun _ => ?_)) <;> try (exfalso; omega)) | (with_reducible refine wcond_split (fun _ => ?_) (fun _ => ?_)) | (with_reducible refine draw_ro (by kernel_rfl) ?_) | simp +contextual -implicitDefEqProofs (disch := first | exact dsc _ | fail) only [go_sem, ↓reduceIte, Nat.reduceEqDiff, Nat.reduceAdd, Nat.reduceMul, Nat.reduceSub, Nat.reduceLT, Nat.reduceLeDiff, Nat.reduceBEq, reduceCtorEq, BEq.rfl, Int.reduceLT, Int.reduceLE, Int.reduceAdd, Int.reduceToNat, Int.reduceSub, Int.reduceMul, Int.reduceNeg, Int.reduceEq, *, hcond, hok, e1, e2, e3] | (with_reducible refine And.intro (by first | omega | assumption | rfl) ?_))
    refine wloopW (α := Nat) (fun i => ⟨[(29, .list (bys (seg l a k))), (30, .int .i64 k), (31, .int .i64 i), (8, .int .u64 (unbe ((seg l a k).take i)))], []⟩) (fun i => i ≤ k.toNat) (fun i => k.toNat - i) 0 (Nat.zero_le _) ?_ ?_
    · simp +contextual -implicitDefEqProofs (disch := first | exact dsc _ | fail) only [go_sem, push_cast, ↓reduceIte, Nat.reduceEqDiff, Nat.reduceAdd, Nat.reduceMul, Nat.reduceSub, Nat.reduceLT, Nat.reduceLeDiff, Nat.reduceBEq, reduceCtorEq, BEq.rfl, Int.reduceLT, Int.reduceLE, Int.reduceAdd, Int.reduceToNat, Int.reduceSub, Int.reduceMul, Int.reduceNeg, Int.reduceEq, *]
      simp [seg, unbe_nil]
    · intro i hi
      have hi : i ≤ k.toNat := hi
      by_cases hlt : i < k.toNat
      · obtain ⟨c, hc⟩ := get_lt (l := seg l a k) (n := i) (by omega)
        have hb := unbe7 (l := (seg l a k).take i) (by rw [List.length_take]; omega)
        repeat' (first | (with_reducible intro _) | (with_reducible refine wcond_not ?_) | ((with_reducible refine wcond_dec (fun _ => ?_) (fun _ => ?_)) <;> try (exfalso; omega)) | (with_reducible refine wcond_split (fun _ => ?_) (fun _ => ?_)) | (with_reducible refine draw_ro (by kernel_rfl) ?_) | simp +contextual -implicitDefEqProofs (disch := first | exact dsc _ | fail) only [go_sem, ↓reduceIte, Nat.reduceEqDiff, Nat.reduceAdd, Nat.reduceMul, Nat.reduceSub, Nat.reduceLT, Nat.reduceLeDiff, Nat.reduceBEq, reduceCtorEq, BEq.rfl, Int.reduceLT, Int.reduceLE, Int.reduceAdd, Int.reduceToNat, Int.reduceSub, Int.reduceMul, Int.reduceNeg, Int.reduceEq, *, hc, shl8_run _ hb, or8_run _ _ hb] | (with_reducible refine And.intro (by first | omega | assumption | rfl) ?_))
        refine round_intro (i + 1) (by show i + 1 ≤ k.toNat; omega) (by show k.toNat - (i + 1) < k.toNat - i; omega) ?_
        simp +contextual -implicitDefEqProofs (disch := first | exact dsc _ | fail) only [go_sem, push_cast, ↓reduceIte, Nat.reduceEqDiff, Nat.reduceAdd, Nat.reduceMul, Nat.reduceSub, Nat.reduceLT, Nat.reduceLeDiff, Nat.reduceBEq, reduceCtorEq, BEq.rfl, Int.reduceLT, Int.reduceLE, Int.reduceAdd, Int.reduceToNat, Int.reduceSub, Int.reduceMul, Int.reduceNeg, Int.reduceEq, *]
        have : (seg l a k).take (i + 1) = (seg l a k).take i ++ [c] := by rw [List.take_add_one, hc]; rfl
        rw [this, unbe_snoc]
        simp
      · have hik : i = k.toNat := by omega
        have ht : (seg l a k).take i = seg l a k := List.take_of_length_le (by omega)
        rw [ht]
        repeat' (first | (with_reducible intro _) | (with_reducible refine wcond_not ?_) | ((with_reducible refine wcond_dec (fun _ => ?_) (fun _ => ?_)) <;> try (exfalso; omega)) | (with_reducible refine wcond_split (fun _ => ?_) (fun _ => ?_)) | (with_reducible refine draw_ro (by kernel_rfl) ?_) | simp +contextual -implicitDefEqProofs (disch := first | exact dsc _ | fail) only [go_sem, ↓reduceIte, Nat.reduceEqDiff, Nat.reduceAdd, Nat.reduceMul, Nat.reduceSub, Nat.reduceLT, Nat.reduceLeDiff, Nat.reduceBEq, reduceCtorEq, BEq.rfl, Int.reduceLT, Int.reduceLE, Int.reduceAdd, Int.reduceToNat, Int.reduceSub, Int.reduceMul, Int.reduceNeg, Int.reduceEq, *] | (with_reducible refine And.intro (by first | omega | assumption | rfl) ?_))
        ((first | refine Fin_v1 (by rfl) ?_ | refine Fin_vn (by intro h; cases h) ?_ | refine Fin_f1 (by rfl) ?_ | refine Fin_fn (by intro h; cases h) (fun _ => rfl) ?_ | refine Fin_u1 (by rfl) ?_ | refine Fin_un (by intro h; cases h) ?_); try simp +contextual -implicitDefEqProofs (disch := first | exact dsc _ | fail) only [go_sem, push_cast, ↓reduceIte, Nat.reduceEqDiff, Nat.reduceAdd, Nat.reduceMul, Nat.reduceSub, Nat.reduceLT, Nat.reduceLeDiff, Nat.reduceBEq, reduceCtorEq, BEq.rfl, Int.reduceLT, Int.reduceLE, Int.reduceAdd, Int.reduceToNat, Int.reduceSub, Int.reduceMul, Int.reduceNeg, Int.reduceEq, *])
        simp [uintV, hok]
  | false =>
    repeat' (first | (with_reducible intro _) | (with_reducible refine wcond_not ?_) | ((with_reducible refine wcond_dec (fun _ => ?_) (fun _ => ?_)) <;> try (exfalso; omega)) | (with_reducible refine wcond_split (fun _ => ?_) (fun _ => ?_)) | (with_reducible refine draw_ro (by kernel_rfl) ?_) | simp +contextual -implicitDefEqProofs (disch := first | exact dsc _ | fail) only [go_sem, ↓reduceIte, Nat.reduceEqDiff, Nat.reduceAdd, Nat.reduceMul, Nat.reduceSub, Nat.reduceLT, Nat.reduceLeDiff, Nat.reduceBEq, reduceCtorEq, BEq.rfl, Int.reduceLT, Int.reduceLE, Int.reduceAdd, Int.reduceToNat, Int.reduceSub, Int.reduceMul, Int.reduceNeg, Int.reduceEq, *, hcond, hok] | (with_reducible refine And.intro (by first | omega | assumption | rfl) ?_))
    ((first | refine Fin_v1 (by rfl) ?_ | refine Fin_vn (by intro h; cases h) ?_ | refine Fin_f1 (by rfl) ?_ | refine Fin_fn (by intro h; cases h) (fun _ => rfl) ?_ | refine Fin_u1 (by rfl) ?_ | refine Fin_un (by intro h; cases h) ?_); try simp +contextual -implicitDefEqProofs (disch := first | exact dsc _ | fail) only [go_sem, push_cast, ↓reduceIte, Nat.reduceEqDiff, Nat.reduceAdd, Nat.reduceMul, Nat.reduceSub, Nat.reduceLT, Nat.reduceLeDiff, Nat.reduceBEq, reduceCtorEq, BEq.rfl, Int.reduceLT, Int.reduceLE, Int.reduceAdd, Int.reduceToNat, Int.reduceSub, Int.reduceMul, Int.reduceNeg, Int.reduceEq, *])
    simp [uintV, hok]
attribute [go_sem ↓] t_codec_Uint
end Go.Am.Tryz
set_option maxRecDepth 100000
set_option linter.unusedSimpArgs false
set_option linter.unusedVariables false
set_option pp.maxSteps 2000
namespace Go.Am.Tryz
open Go.Proofs
def outBytes (l : List UInt8) (e : Int) : Out := .fresh fun r => (.tup [.own r [] 1 0 l.length l.length, .int .i64 e, .bool true], [(r, .row 5 1 (bys l) 0)])
attribute [go_sem] outBytes
def sp_codec_Bytes (args : List AV) : RM CallSpec := match args with
  | [b, .int .i64 a] => (bysM b).bind fun l => if bytesOk l a = true then mkS [.list (bys l), .int .i64 a] [] (outBytes (bytesV l a) (a + 2 + uintV l a 2)) false else mkS [.list (bys l), .int .i64 a] [] (.val (.tup [.nils, .int .i64 0, .bool false])) false
  | _ => .fail
attribute [go_sem] sp_codec_Bytes
theorem t_codec_Bytes_y {l : List UInt8} {a : Int} (h : bytesOk l a = true) (ha : -4611686018427387904 ≤ a ∧ a ≤ 4611686018427387) (hl : l.length ≤ 35184372088832) : FnG Tryz.prog 83 [.list (bys l), .int .i64 a] [] (outBytes (bytesV l a) (a + 2 + uintV l a 2)) = True := by
  refine eq_true ?_
  refine FnG_of_W (sp := spL [(81, sp_codec_Uint), (107, sp_codec_follow)]) (tb := tbOf Tryz.prog) (tbOf_ok _) (by kernel_rfl) Tryz.func83 (c := _) rfl (by kernel_rfl) (by kernel_rfl) (Nat.le_of_ble_eq_true rfl) (rs := [.tmp 4, .tmp 5, .tmp 6]) rfl ?_
  unfold FnW
  have hv := uintV2 l a
  have hb := bytesOk_iff.1 h
  have hbl := bytesV_len h
  obtain ⟨h1, h2⟩ : uintOk l a 2 = true ∧ followB l (a + 2) (uintV l a 2) = true := by simpa [bytesOk] using h
  repeat' (first | (with_reducible intro _) | (with_reducible refine wcond_not ?_) | ((with_reducible refine wcond_dec (fun _ => ?_) (fun _ => ?_)) <;> try (exfalso; omega)) | (with_reducible refine wcond_split (fun _ => ?_) (fun _ => ?_)) | (with_reducible refine draw_ro (by kernel_rfl) ?_) | simp +contextual -implicitDefEqProofs (disch := first | exact dsc _ | fail) only [go_sem, ↓reduceIte, Nat.reduceEqDiff, Nat.reduceAdd, Nat.reduceMul, Nat.reduceSub, Nat.reduceLT, Nat.reduceLeDiff, Nat.reduceBEq, reduceCtorEq, BEq.rfl, Int.reduceLT, Int.reduceLE, Int.reduceAdd, Int.reduceToNat, Int.reduceSub, Int.reduceMul, Int.reduceNeg, Int.reduceEq, *, h1, h2] | (with_reducible refine And.intro (by first | omega | assumption | rfl) ?_))
  all_goals ((first | refine Fin_v1 (by rfl) ?_ | refine Fin_vn (by intro h; cases h) ?_ | refine Fin_f1 (by rfl) ?_ | refine Fin_fn (by intro h; cases h) (fun _ => rfl) ?_ | refine Fin_u1 (by rfl) ?_ | refine Fin_un (by intro h; cases h) ?_); try simp +contextual -implicitDefEqProofs (disch := first | exact dsc _ | fail) only [go_sem, push_cast, ↓reduceIte, Nat.reduceEqDiff, Nat.reduceAdd, Nat.reduceMul, Nat.reduceSub, Nat.reduceLT, Nat.reduceLeDiff, Nat.reduceBEq, reduceCtorEq, BEq.rfl, Int.reduceLT, Int.reduceLE, Int.reduceAdd, Int.reduceToNat, Int.reduceSub, Int.reduceMul, Int.reduceNeg, Int.reduceEq, *])
  have e4 : (a + 2 + (uintV l a 2 : Int)).toNat - (a + 2).toNat = uintV l a 2 := by omega
  refine ⟨by omega, by omega, ?_⟩
  rw [e4, bytesV, seg]
  rfl
attribute [go_sem ↓] t_codec_Bytes_y
theorem t_codec_Bytes_n {l : List UInt8} {a : Int} (h : bytesOk l a = false) (ha : -4611686018427387904 ≤ a ∧ a ≤ 4611686018427387) (hl : l.length ≤ 35184372088832) : FnG Tryz.prog 83 [.list (bys l), .int .i64 a] [] (.val (.tup [.nils, .int .i64 0, .bool false])) = True := by
  refine eq_true ?_
  refine FnG_of_W (sp := spL [(81, sp_codec_Uint), (107, sp_codec_follow)]) (tb := tbOf Tryz.prog) (tbOf_ok _) (by kernel_rfl) Tryz.func83 (c := _) rfl (by kernel_rfl) (by kernel_rfl) (Nat.le_of_ble_eq_true rfl) (rs := [.tmp 4, .tmp 5, .tmp 6]) rfl ?_
  unfold FnW
  have hv := uintV2 l a
  have h : (!uintOk l a 2 || !followB l (a + 2) (uintV l a 2)) = true := by
    rw [← Bool.not_and]; rw [show (uintOk l a 2 && followB l (a + 2) (uintV l a 2)) = false from h]; rfl
  repeat' (first | (with_reducible intro _) | (with_reducible refine wcond_not ?_) | ((with_reducible refine wcond_dec (fun _ => ?_) (fun _ => ?_)) <;> try (exfalso; omega)) | (with_reducible refine wcond_split (fun _ => ?_) (fun _ => ?_)) | (with_reducible refine draw_ro (by kernel_rfl) ?_) | simp +contextual -implicitDefEqProofs (disch := first | exact dsc _ | fail) only [go_sem, ↓reduceIte, Nat.reduceEqDiff, Nat.reduceAdd, Nat.reduceMul, Nat.reduceSub, Nat.reduceLT, Nat.reduceLeDiff, Nat.reduceBEq, reduceCtorEq, BEq.rfl, Int.reduceLT, Int.reduceLE, Int.reduceAdd, Int.reduceToNat, Int.reduceSub, Int.reduceMul, Int.reduceNeg, Int.reduceEq, *] | (with_reducible refine And.intro (by first | omega | assumption | rfl) ?_))
  all_goals ((first | refine Fin_v1 (by rfl) ?_ | refine Fin_vn (by intro h; cases h) ?_ | refine Fin_f1 (by rfl) ?_ | refine Fin_fn (by intro h; cases h) (fun _ => rfl) ?_ | refine Fin_u1 (by rfl) ?_ | refine Fin_un (by intro h; cases h) ?_); try simp +contextual -implicitDefEqProofs (disch := first | exact dsc _ | fail) only [go_sem, push_cast, ↓reduceIte, Nat.reduceEqDiff, Nat.reduceAdd, Nat.reduceMul, Nat.reduceSub, Nat.reduceLT, Nat.reduceLeDiff, Nat.reduceBEq, reduceCtorEq, BEq.rfl, Int.reduceLT, Int.reduceLE, Int.reduceAdd, Int.reduceToNat, Int.reduceSub, Int.reduceMul, Int.reduceNeg, Int.reduceEq, *])
attribute [go_sem ↓] t_codec_Bytes_n
def curA (b : List UInt8) (at' : Int) (bad : Bool) : AV := .agg [.list (bys b), .int .i64 at', .bool bad]
def curD : AV → Option (List UInt8 × Int × Bool)
  | .agg [.list l, .int .i64 a, .bool d] => (match bytesA l with | some b => some (b, a, d) | none => none)
  | _ => none
theorem curD_mk {b a d} : curD (.agg [.list (bys b), .int .i64 a, .bool d]) = some (b, a, d) := by simp [curD, bytesA_bys]
def curM (x : AV) (k : Id → List UInt8 → Int → Bool → RM CallSpec) : RM CallSpec := match x with
  | .ptr r p => (match p with | [] => @getI _ r ⟨fun e => (match e with | some (.box v) => (match curD v with | some (b, a, d) => k r b a d | none => .fail) | _ => .fail)⟩ | _ => .fail)
  | _ => .fail
attribute [go_sem] curA curD_mk curM
def curOk (b : List UInt8) (at' : Int) : Prop := 0 ≤ at' ∧ at' ≤ b.length ∧ b.length ≤ 35184372088832
def sp_cursor_New (args : List AV) : RM CallSpec := match args with
  | [b] => (bysM b).bind fun l => mkS [.list (bys l)] [] (.fresh fun r => (.ptr r [], [(r, .box (curA l 0 false))])) false
  | _ => .fail
attribute [go_sem] sp_cursor_New
theorem t_cursor_New {l : List UInt8} : FnG Tryz.prog 34 [.list (bys l)] [] (.fresh fun r => (.ptr r [], [(r, .box (curA l 0 false))])) = True := by
  refine eq_true ?_
  refine FnG_of_W (sp := spL []) (tb := tbOf Tryz.prog) (tbOf_ok _) (by kernel_rfl) Tryz.func34 (c := _) rfl (by kernel_rfl) (by kernel_rfl) (Nat.le_of_ble_eq_true rfl) (rs := [.tmp 2]) rfl ?_
  unfold FnW
  repeat' (first | (with_reducible intro _) | (with_reducible refine wcond_not ?_) | ((with_reducible refine wcond_dec (fun _ => ?_) (fun _ => ?_)) <;> try (exfalso; omega)) | (with_reducible refine wcond_split (fun _ => ?_) (fun _ => ?_)) | (with_reducible refine draw_ro (by kernel_rfl) ?_) | simp +contextual -implicitDefEqProofs (disch := first | exact dsc _ | fail) only [go_sem, ↓reduceIte, Nat.reduceEqDiff, Nat.reduceAdd, Nat.reduceMul, Nat.reduceSub, Nat.reduceLT, Nat.reduceLeDiff, Nat.reduceBEq, reduceCtorEq, BEq.rfl, Int.reduceLT, Int.reduceLE, Int.reduceAdd, Int.reduceToNat, Int.reduceSub, Int.reduceMul, Int.reduceNeg, Int.reduceEq, *] | (with_reducible refine And.intro (by first | omega | assumption | rfl) ?_))
  all_goals ((first | refine Fin_v1 (by rfl) ?_ | refine Fin_vn (by intro h; cases h) ?_ | refine Fin_f1 (by rfl) ?_ | refine Fin_fn (by intro h; cases h) (fun _ => rfl) ?_ | refine Fin_u1 (by rfl) ?_ | refine Fin_un (by intro h; cases h) ?_); try simp +contextual -implicitDefEqProofs (disch := first | exact dsc _ | fail) only [go_sem, push_cast, ↓reduceIte, Nat.reduceEqDiff, Nat.reduceAdd, Nat.reduceMul, Nat.reduceSub, Nat.reduceLT, Nat.reduceLeDiff, Nat.reduceBEq, reduceCtorEq, BEq.rfl, Int.reduceLT, Int.reduceLE, Int.reduceAdd, Int.reduceToNat, Int.reduceSub, Int.reduceMul, Int.reduceNeg, Int.reduceEq, *])
attribute [go_sem ↓] t_cursor_New
def curU (b : List UInt8) (a k : Int) (d : Bool) : Int × Int × Bool := if d = false ∧ uintOk b a k = true then (uintV b a k, a + k, false) else (0, a, true)
def sp_cursor_Cursor_Uint (args : List AV) : RM CallSpec := match args with
  | [c, .int .i64 k] => curM c fun r b a d => mkS [.ptr r [], .int .i64 k] [(r, .box (curA b a d))] (.upd (.int .i64 (curU b a k d).1) [(r, .box (curA b (curU b a k d).2.1 (curU b a k d).2.2))]) false
  | _ => .fail
attribute [go_sem] sp_cursor_Cursor_Uint
theorem t_cursor_Cursor_Uint {r : Id} {b : List UInt8} {a : Int} {d : Bool} (h0 : 0 ≤ a ∧ a ≤ b.length ∧ b.length ≤ 35184372088832) : FnG Tryz.prog 35 [.ptr r [], .int .i64 4] [(r, .box (curA b a d))] (.upd (.int .i64 (curU b a 4 d).1) [(r, .box (curA b (curU b a 4 d).2.1 (curU b a 4 d).2.2))]) = True := by
  refine eq_true ?_
  refine FnG_of_W (sp := spL [(81, sp_codec_Uint)]) (tb := tbOf Tryz.prog) (tbOf_ok _) (by kernel_rfl) Tryz.func35 (c := _) rfl (by kernel_rfl) (by kernel_rfl) (Nat.le_of_ble_eq_true rfl) (rs := [.tmp 4]) rfl ?_
  unfold FnW
  have hv := uintV4 b a
  cases d <;> cases h : uintOk b a 4
  all_goals repeat' (first | (with_reducible intro _) | (with_reducible refine wcond_not ?_) | ((with_reducible refine wcond_dec (fun _ => ?_) (fun _ => ?_)) <;> try (exfalso; omega)) | (with_reducible refine wcond_split (fun _ => ?_) (fun _ => ?_)) | (with_reducible refine draw_ro (by kernel_rfl) ?_) | simp +contextual -implicitDefEqProofs (disch := first | exact dsc _ | fail) only [go_sem, ↓reduceIte, Nat.reduceEqDiff, Nat.reduceAdd, Nat.reduceMul, Nat.reduceSub, Nat.reduceLT, Nat.reduceLeDiff, Nat.reduceBEq, reduceCtorEq, BEq.rfl, Int.reduceLT, Int.reduceLE, Int.reduceAdd, Int.reduceToNat, Int.reduceSub, Int.reduceMul, Int.reduceNeg, Int.reduceEq, *] | (with_reducible refine And.intro (by first | omega | assumption | rfl) ?_))
  all_goals ((first | refine Fin_v1 (by rfl) ?_ | refine Fin_vn (by intro h; cases h) ?_ | refine Fin_f1 (by rfl) ?_ | refine Fin_fn (by intro h; cases h) (fun _ => rfl) ?_ | refine Fin_u1 (by rfl) ?_ | refine Fin_un (by intro h; cases h) ?_); try simp +contextual -implicitDefEqProofs (disch := first | exact dsc _ | fail) only [go_sem, push_cast, ↓reduceIte, Nat.reduceEqDiff, Nat.reduceAdd, Nat.reduceMul, Nat.reduceSub, Nat.reduceLT, Nat.reduceLeDiff, Nat.reduceBEq, reduceCtorEq, BEq.rfl, Int.reduceLT, Int.reduceLE, Int.reduceAdd, Int.reduceToNat, Int.reduceSub, Int.reduceMul, Int.reduceNeg, Int.reduceEq, *, curU, h])
attribute [go_sem ↓] t_cursor_Cursor_Uint
def curF (b : List UInt8) (a k : Int) (d : Bool) : List UInt8 × Int × Bool := if d = false ∧ k ≤ b.length - a then (seg b a k, a + k, false) else ([], a, true)
def sp_cursor_Cursor_Fixed (args : List AV) : RM CallSpec := match args with
  | [c, .int .i64 k] => curM c fun r b a d => mkS [.ptr r [], .int .i64 k] [(r, .box (curA b a d))] (.upd (.list (bys (curF b a k d).1)) [(r, .box (curA b (curF b a k d).2.1 (curF b a k d).2.2))]) false
  | _ => .fail
attribute [go_sem] sp_cursor_Cursor_Fixed
theorem t_cursor_Cursor_Fixed {r : Id} {b : List UInt8} {a k : Int} {d : Bool} (h0 : 0 ≤ a ∧ a ≤ b.length ∧ b.length ≤ 35184372088832) (hk : 0 ≤ k) : FnG Tryz.prog 38 [.ptr r [], .int .i64 k] [(r, .box (curA b a d))] (.upd (.list (bys (curF b a k d).1)) [(r, .box (curA b (curF b a k d).2.1 (curF b a k d).2.2))]) = True := by
  refine eq_true ?_
  refine FnG_of_W (sp := spL []) (tb := tbOf Tryz.prog) (tbOf_ok _) (by kernel_rfl) Tryz.func38 (c := _) rfl (by kernel_rfl) (by kernel_rfl) (Nat.le_of_ble_eq_true rfl) (rs := [.tmp 4]) rfl ?_
  unfold FnW
  by_cases h : d = false ∧ k ≤ b.length - a
  · have e : curF b a k d = (seg b a k, a + k, false) := by simp [curF, h]
    rw [e]
    obtain ⟨rfl, h⟩ := h
    have hx : (decide (k < 0) || decide ((b.length : Int) - a < k)) = false := by simp; omega
    repeat' (first | (with_reducible intro _) | (with_reducible refine wcond_not ?_) | ((with_reducible refine wcond_dec (fun _ => ?_) (fun _ => ?_)) <;> try (exfalso; omega)) | (with_reducible refine wcond_split (fun _ => ?_) (fun _ => ?_)) | (first | (with_reducible refine draw_we [(false, []), (false, []), (false, []), (true, []), (false, []), (false, []), (false, []), (true, [3]), (false, []), (false, []), (false, []), (false, [3, 7]), (false, []), (false, []), (false, []), (false, []), (false, []), (false, []), (false, []), (false, []), (false, []), (false, [])] (by kernel_rfl) (by decide +kernel) ?_) | (with_reducible refine draw_ro (by kernel_rfl) ?_)) | simp +contextual -implicitDefEqProofs (disch := first | exact dsc _ | fail) only [go_sem, ↓reduceIte, Nat.reduceEqDiff, Nat.reduceAdd, Nat.reduceMul, Nat.reduceSub, Nat.reduceLT, Nat.reduceLeDiff, Nat.reduceBEq, reduceCtorEq, BEq.rfl, Int.reduceLT, Int.reduceLE, Int.reduceAdd, Int.reduceToNat, Int.reduceSub, Int.reduceMul, Int.reduceNeg, Int.reduceEq, *] | (with_reducible refine And.intro (by first | omega | assumption | rfl) ?_))
    ((first | refine Fin_v1 (by rfl) ?_ | refine Fin_vn (by intro h; cases h) ?_ | refine Fin_f1 (by rfl) ?_ | refine Fin_fn (by intro h; cases h) (fun _ => rfl) ?_ | refine Fin_u1 (by rfl) ?_ | refine Fin_un (by intro h; cases h) ?_); try simp +contextual -implicitDefEqProofs (disch := first | exact dsc _ | fail) only [go_sem, push_cast, ↓reduceIte, Nat.reduceEqDiff, Nat.reduceAdd, Nat.reduceMul, Nat.reduceSub, Nat.reduceLT, Nat.reduceLeDiff, Nat.reduceBEq, reduceCtorEq, BEq.rfl, Int.reduceLT, Int.reduceLE, Int.reduceAdd, Int.reduceToNat, Int.reduceSub, Int.reduceMul, Int.reduceNeg, Int.reduceEq, *])
    have e : (a + k).toNat - a.toNat = k.toNat := by omega
    rw [e, seg]
  · have e : curF b a k d = ([], a, true) := by simp only [curF, h, if_false]
    rw [e]
    cases d with
    | false =>
      have hx : (decide (k < 0) || decide ((b.length : Int) - a < k)) = true := by
        have : ¬ k ≤ b.length - a := fun e => h ⟨rfl, e⟩
        simp; omega
      clear h
      repeat' (first | (with_reducible intro _) | (with_reducible refine wcond_not ?_) | ((with_reducible refine wcond_dec (fun _ => ?_) (fun _ => ?_)) <;> try (exfalso; omega)) | (with_reducible refine wcond_split (fun _ => ?_) (fun _ => ?_)) | (first | (with_reducible refine draw_we [(false, []), (false, []), (false, []), (true, []), (false, []), (false, []), (false, []), (true, [3]), (false, []), (false, []), (false, []), (false, [3, 7]), (false, []), (false, []), (false, []), (false, []), (false, []), (false, []), (false, []), (false, []), (false, []), (false, [])] (by kernel_rfl) (by decide +kernel) ?_) | (with_reducible refine draw_ro (by kernel_rfl) ?_)) | simp +contextual -implicitDefEqProofs (disch := first | exact dsc _ | fail) only [go_sem, ↓reduceIte, Nat.reduceEqDiff, Nat.reduceAdd, Nat.reduceMul, Nat.reduceSub, Nat.reduceLT, Nat.reduceLeDiff, Nat.reduceBEq, reduceCtorEq, BEq.rfl, Int.reduceLT, Int.reduceLE, Int.reduceAdd, Int.reduceToNat, Int.reduceSub, Int.reduceMul, Int.reduceNeg, Int.reduceEq, *] | (with_reducible refine And.intro (by first | omega | assumption | rfl) ?_))
      ((first | refine Fin_v1 (by rfl) ?_ | refine Fin_vn (by intro h; cases h) ?_ | refine Fin_f1 (by rfl) ?_ | refine Fin_fn (by intro h; cases h) (fun _ => rfl) ?_ | refine Fin_u1 (by rfl) ?_ | refine Fin_un (by intro h; cases h) ?_); try simp +contextual -implicitDefEqProofs (disch := first | exact dsc _ | fail) only [go_sem, push_cast, ↓reduceIte, Nat.reduceEqDiff, Nat.reduceAdd, Nat.reduceMul, Nat.reduceSub, Nat.reduceLT, Nat.reduceLeDiff, Nat.reduceBEq, reduceCtorEq, BEq.rfl, Int.reduceLT, Int.reduceLE, Int.reduceAdd, Int.reduceToNat, Int.reduceSub, Int.reduceMul, Int.reduceNeg, Int.reduceEq, *])
    | true =>
      clear h
      repeat' (first | (with_reducible intro _) | (with_reducible refine wcond_not ?_) | ((with_reducible refine wcond_dec (fun _ => ?_) (fun _ => ?_)) <;> try (exfalso; omega)) | (with_reducible refine wcond_split (fun _ => ?_) (fun _ => ?_)) | (first | (with_reducible refine draw_we [(false, []), (false, []), (false, []), (true, []), (false, []), (false, []), (false, []), (true, [3]), (false, []), (false, []), (false, []), (false, [3, 7]), (false, []), (false, []), (false, []), (false, []), (false, []), (false, []), (false, []), (false, []), (false, []), (false, [])] (by kernel_rfl) (by decide +kernel) ?_) | (with_reducible refine draw_ro (by kernel_rfl) ?_)) | simp +contextual -implicitDefEqProofs (disch := first | exact dsc _ | fail) only [go_sem, ↓reduceIte, Nat.reduceEqDiff, Nat.reduceAdd, Nat.reduceMul, Nat.reduceSub, Nat.reduceLT, Nat.reduceLeDiff, Nat.reduceBEq, reduceCtorEq, BEq.rfl, Int.reduceLT, Int.reduceLE, Int.reduceAdd, Int.reduceToNat, Int.reduceSub, Int.reduceMul, Int.reduceNeg, Int.reduceEq, *] | (with_reducible refine And.intro (by first | omega | assumption | rfl) ?_))
      ((first | refine Fin_v1 (by rfl) ?_ | refine Fin_vn (by intro h; cases h) ?_ | refine Fin_f1 (by rfl) ?_ | refine Fin_fn (by intro h; cases h) (fun _ => rfl) ?_ | refine Fin_u1 (by rfl) ?_ | refine Fin_un (by intro h; cases h) ?_); try simp +contextual -implicitDefEqProofs (disch := first | exact dsc _ | fail) only [go_sem, push_cast, ↓reduceIte, Nat.reduceEqDiff, Nat.reduceAdd, Nat.reduceMul, Nat.reduceSub, Nat.reduceLT, Nat.reduceLeDiff, Nat.reduceBEq, reduceCtorEq, BEq.rfl, Int.reduceLT, Int.reduceLE, Int.reduceAdd, Int.reduceToNat, Int.reduceSub, Int.reduceMul, Int.reduceNeg, Int.reduceEq, *])
attribute [go_sem ↓] t_cursor_Cursor_Fixed
def curB (b : List UInt8) (a : Int) (d : Bool) : List UInt8 × Int × Bool := if d = false ∧ bytesOk b a = true then (bytesV b a, a + 2 + uintV b a 2, false) else ([], a, true)
def sp_cursor_Cursor_Bytes (args : List AV) : RM CallSpec := match args with
  | [c] => curM c fun r b a d => mkS [.ptr r []] [(r, .box (curA b a d))] (.upd (.list (bys (curB b a d).1)) [(r, .box (curA b (curB b a d).2.1 (curB b a d).2.2))]) false
  | _ => .fail
attribute [go_sem] sp_cursor_Cursor_Bytes
theorem t_cursor_Cursor_Bytes {r : Id} {b : List UInt8} {a : Int} {d : Bool} (h0 : 0 ≤ a ∧ a ≤ b.length ∧ b.length ≤ 35184372088832) : FnG Tryz.prog 39 [.ptr r []] [(r, .box (curA b a d))] (.upd (.list (bys (curB b a d).1)) [(r, .box (curA b (curB b a d).2.1 (curB b a d).2.2))]) = True := by
  refine eq_true ?_
  refine FnG_of_W (sp := spL [(83, sp_codec_Bytes)]) (tb := tbOf Tryz.prog) (tbOf_ok _) (by kernel_rfl) Tryz.func39 (c := _) rfl (by kernel_rfl) (by kernel_rfl) (Nat.le_of_ble_eq_true rfl) (rs := [.tmp 2]) rfl ?_
  unfold FnW
  by_cases h : d = false ∧ bytesOk b a = true
  · have e : curB b a d = (bytesV b a, a + 2 + uintV b a 2, false) := by simp [curB, h]
    rw [e]
    obtain ⟨rfl, h⟩ := h
    repeat' (first | (with_reducible intro _) | (with_reducible refine wcond_not ?_) | ((with_reducible refine wcond_dec (fun _ => ?_) (fun _ => ?_)) <;> try (exfalso; omega)) | (with_reducible refine wcond_split (fun _ => ?_) (fun _ => ?_)) | (with_reducible refine draw_we [(false, []), (false, []), (false, []), (true, []), (false, []), (false, []), (false, []), (false, [3]), (false, []), (false, []), (false, []), (false, []), (false, []), (false, []), (false, []), (false, [])] (by kernel_rfl) (by decide +kernel) ?_) | simp +contextual -implicitDefEqProofs (disch := first | exact dsc _ | fail) only [go_sem, ↓reduceIte, Nat.reduceEqDiff, Nat.reduceAdd, Nat.reduceMul, Nat.reduceSub, Nat.reduceLT, Nat.reduceLeDiff, Nat.reduceBEq, reduceCtorEq, BEq.rfl, Int.reduceLT, Int.reduceLE, Int.reduceAdd, Int.reduceToNat, Int.reduceSub, Int.reduceMul, Int.reduceNeg, Int.reduceEq, *] | (with_reducible refine And.intro (by first | omega | assumption | rfl) ?_))
    ((first | refine Fin_v1 (by rfl) ?_ | refine Fin_vn (by intro h; cases h) ?_ | refine Fin_f1 (by rfl) ?_ | refine Fin_fn (by intro h; cases h) (fun _ => rfl) ?_ | refine Fin_u1 (by rfl) ?_ | refine Fin_un (by intro h; cases h) ?_); try simp +contextual -implicitDefEqProofs (disch := first | exact dsc _ | fail) only [go_sem, push_cast, ↓reduceIte, Nat.reduceEqDiff, Nat.reduceAdd, Nat.reduceMul, Nat.reduceSub, Nat.reduceLT, Nat.reduceLeDiff, Nat.reduceBEq, reduceCtorEq, BEq.rfl, Int.reduceLT, Int.reduceLE, Int.reduceAdd, Int.reduceToNat, Int.reduceSub, Int.reduceMul, Int.reduceNeg, Int.reduceEq, *])
  · have e : curB b a d = ([], a, true) := by simp only [curB, h, if_false]
    rw [e]
    cases d <;> cases hb : bytesOk b a
    · repeat' (first | (with_reducible intro _) | (with_reducible refine wcond_not ?_) | ((with_reducible refine wcond_dec (fun _ => ?_) (fun _ => ?_)) <;> try (exfalso; omega)) | (with_reducible refine wcond_split (fun _ => ?_) (fun _ => ?_)) | (with_reducible refine draw_we [(false, []), (false, []), (false, []), (true, []), (false, []), (false, []), (false, []), (false, [3]), (false, []), (false, []), (false, []), (false, []), (false, []), (false, []), (false, []), (false, [])] (by kernel_rfl) (by decide +kernel) ?_) | simp +contextual -implicitDefEqProofs (disch := first | exact dsc _ | fail) only [go_sem, ↓reduceIte, Nat.reduceEqDiff, Nat.reduceAdd, Nat.reduceMul, Nat.reduceSub, Nat.reduceLT, Nat.reduceLeDiff, Nat.reduceBEq, reduceCtorEq, BEq.rfl, Int.reduceLT, Int.reduceLE, Int.reduceAdd, Int.reduceToNat, Int.reduceSub, Int.reduceMul, Int.reduceNeg, Int.reduceEq, *] | (with_reducible refine And.intro (by first | omega | assumption | rfl) ?_))
      ((first | refine Fin_v1 (by rfl) ?_ | refine Fin_vn (by intro h; cases h) ?_ | refine Fin_f1 (by rfl) ?_ | refine Fin_fn (by intro h; cases h) (fun _ => rfl) ?_ | refine Fin_u1 (by rfl) ?_ | refine Fin_un (by intro h; cases h) ?_); try simp +contextual -implicitDefEqProofs (disch := first | exact dsc _ | fail) only [go_sem, push_cast, ↓reduceIte, Nat.reduceEqDiff, Nat.reduceAdd, Nat.reduceMul, Nat.reduceSub, Nat.reduceLT, Nat.reduceLeDiff, Nat.reduceBEq, reduceCtorEq, BEq.rfl, Int.reduceLT, Int.reduceLE, Int.reduceAdd, Int.reduceToNat, Int.reduceSub, Int.reduceMul, Int.reduceNeg, Int.reduceEq, *])
    · exact absurd ⟨rfl, hb⟩ h
    · repeat' (first | (with_reducible intro _) | (with_reducible refine wcond_not ?_) | ((with_reducible refine wcond_dec (fun _ => ?_) (fun _ => ?_)) <;> try (exfalso; omega)) | (with_reducible refine wcond_split (fun _ => ?_) (fun _ => ?_)) | (with_reducible refine draw_we [(false, []), (false, []), (false, []), (true, []), (false, []), (false, []), (false, []), (false, [3]), (false, []), (false, []), (false, []), (false, []), (false, []), (false, []), (false, []), (false, [])] (by kernel_rfl) (by decide +kernel) ?_) | simp +contextual -implicitDefEqProofs (disch := first | exact dsc _ | fail) only [go_sem, ↓reduceIte, Nat.reduceEqDiff, Nat.reduceAdd, Nat.reduceMul, Nat.reduceSub, Nat.reduceLT, Nat.reduceLeDiff, Nat.reduceBEq, reduceCtorEq, BEq.rfl, Int.reduceLT, Int.reduceLE, Int.reduceAdd, Int.reduceToNat, Int.reduceSub, Int.reduceMul, Int.reduceNeg, Int.reduceEq, *] | (with_reducible refine And.intro (by first | omega | assumption | rfl) ?_))
      ((first | refine Fin_v1 (by rfl) ?_ | refine Fin_vn (by intro h; cases h) ?_ | refine Fin_f1 (by rfl) ?_ | refine Fin_fn (by intro h; cases h) (fun _ => rfl) ?_ | refine Fin_u1 (by rfl) ?_ | refine Fin_un (by intro h; cases h) ?_); try simp +contextual -implicitDefEqProofs (disch := first | exact dsc _ | fail) only [go_sem, push_cast, ↓reduceIte, Nat.reduceEqDiff, Nat.reduceAdd, Nat.reduceMul, Nat.reduceSub, Nat.reduceLT, Nat.reduceLeDiff, Nat.reduceBEq, reduceCtorEq, BEq.rfl, Int.reduceLT, Int.reduceLE, Int.reduceAdd, Int.reduceToNat, Int.reduceSub, Int.reduceMul, Int.reduceNeg, Int.reduceEq, *])
    · repeat' (first | (with_reducible intro _) | (with_reducible refine wcond_not ?_) | ((with_reducible refine wcond_dec (fun _ => ?_) (fun _ => ?_)) <;> try (exfalso; omega)) | (with_reducible refine wcond_split (fun _ => ?_) (fun _ => ?_)) | (with_reducible refine draw_we [(false, []), (false, []), (false, []), (true, []), (false, []), (false, []), (false, []), (false, [3]), (false, []), (false, []), (false, []), (false, []), (false, []), (false, []), (false, []), (false, [])] (by kernel_rfl) (by decide +kernel) ?_) | simp +contextual -implicitDefEqProofs (disch := first | exact dsc _ | fail) only [go_sem, ↓reduceIte, Nat.reduceEqDiff, Nat.reduceAdd, Nat.reduceMul, Nat.reduceSub, Nat.reduceLT, Nat.reduceLeDiff, Nat.reduceBEq, reduceCtorEq, BEq.rfl, Int.reduceLT, Int.reduceLE, Int.reduceAdd, Int.reduceToNat, Int.reduceSub, Int.reduceMul, Int.reduceNeg, Int.reduceEq, *] | (with_reducible refine And.intro (by first | omega | assumption | rfl) ?_))
      ((first | refine Fin_v1 (by rfl) ?_ | refine Fin_vn (by intro h; cases h) ?_ | refine Fin_f1 (by rfl) ?_ | refine Fin_fn (by intro h; cases h) (fun _ => rfl) ?_ | refine Fin_u1 (by rfl) ?_ | refine Fin_un (by intro h; cases h) ?_); try simp +contextual -implicitDefEqProofs (disch := first | exact dsc _ | fail) only [go_sem, push_cast, ↓reduceIte, Nat.reduceEqDiff, Nat.reduceAdd, Nat.reduceMul, Nat.reduceSub, Nat.reduceLT, Nat.reduceLeDiff, Nat.reduceBEq, reduceCtorEq, BEq.rfl, Int.reduceLT, Int.reduceLE, Int.reduceAdd, Int.reduceToNat, Int.reduceSub, Int.reduceMul, Int.reduceNeg, Int.reduceEq, *])
attribute [go_sem ↓] t_cursor_Cursor_Bytes
def sp_cursor_Cursor_OK (args : List AV) : RM CallSpec := match args with
  | [c] => curM c fun r b a d => mkS [.ptr r []] [(r, .box (curA b a d))] (.upd (.bool !d) [(r, .box (curA b a d))]) false
  | _ => .fail
attribute [go_sem] sp_cursor_Cursor_OK
theorem t_cursor_Cursor_OK {r : Id} {b : List UInt8} {a : Int} {d : Bool} : FnG Tryz.prog 36 [.ptr r []] [(r, .box (curA b a d))] (.upd (.bool !d) [(r, .box (curA b a d))]) = True := by
  refine eq_true ?_
  refine FnG_of_W (sp := spL []) (tb := tbOf Tryz.prog) (tbOf_ok _) (by kernel_rfl) Tryz.func36 (c := _) rfl (by kernel_rfl) (by kernel_rfl) (Nat.le_of_ble_eq_true rfl) (rs := [.tmp 2]) rfl ?_
  unfold FnW
  repeat' (first | (with_reducible intro _) | (with_reducible refine wcond_not ?_) | ((with_reducible refine wcond_dec (fun _ => ?_) (fun _ => ?_)) <;> try (exfalso; omega)) | (with_reducible refine wcond_split (fun _ => ?_) (fun _ => ?_)) | (with_reducible refine draw_ro (by kernel_rfl) ?_) | simp +contextual -implicitDefEqProofs (disch := first | exact dsc _ | fail) only [go_sem, ↓reduceIte, Nat.reduceEqDiff, Nat.reduceAdd, Nat.reduceMul, Nat.reduceSub, Nat.reduceLT, Nat.reduceLeDiff, Nat.reduceBEq, reduceCtorEq, BEq.rfl, Int.reduceLT, Int.reduceLE, Int.reduceAdd, Int.reduceToNat, Int.reduceSub, Int.reduceMul, Int.reduceNeg, Int.reduceEq, *] | (with_reducible refine And.intro (by first | omega | assumption | rfl) ?_))
  ((first | refine Fin_v1 (by rfl) ?_ | refine Fin_vn (by intro h; cases h) ?_ | refine Fin_f1 (by rfl) ?_ | refine Fin_fn (by intro h; cases h) (fun _ => rfl) ?_ | refine Fin_u1 (by rfl) ?_ | refine Fin_un (by intro h; cases h) ?_); try simp +contextual -implicitDefEqProofs (disch := first | exact dsc _ | fail) only [go_sem, push_cast, ↓reduceIte, Nat.reduceEqDiff, Nat.reduceAdd, Nat.reduceMul, Nat.reduceSub, Nat.reduceLT, Nat.reduceLeDiff, Nat.reduceBEq, reduceCtorEq, BEq.rfl, Int.reduceLT, Int.reduceLE, Int.reduceAdd, Int.reduceToNat, Int.reduceSub, Int.reduceMul, Int.reduceNeg, Int.reduceEq, *])
attribute [go_sem ↓] t_cursor_Cursor_OK
def sp_cursor_Cursor_Done (args : List AV) : RM CallSpec := match args with
  | [c] => curM c fun r b a d => mkS [.ptr r []] [(r, .box (curA b a d))] (.upd (.bool (!d && decide (a = b.length))) [(r, .box (curA b a d))]) false
  | _ => .fail
attribute [go_sem] sp_cursor_Cursor_Done
theorem t_cursor_Cursor_Done {r : Id} {b : List UInt8} {a : Int} {d : Bool} : FnG Tryz.prog 40 [.ptr r []] [(r, .box (curA b a d))] (.upd (.bool (!d && decide (a = b.length))) [(r, .box (curA b a d))]) = True := by
  refine eq_true ?_
  refine FnG_of_W (sp := spL []) (tb := tbOf Tryz.prog) (tbOf_ok _) (by kernel_rfl) Tryz.func40 (c := _) rfl (by kernel_rfl) (by kernel_rfl) (Nat.le_of_ble_eq_true rfl) (rs := [.tmp 2]) rfl ?_
  unfold FnW
  repeat' (first | (with_reducible intro _) | (with_reducible refine wcond_not ?_) | ((with_reducible refine wcond_dec (fun _ => ?_) (fun _ => ?_)) <;> try (exfalso; omega)) | (with_reducible refine wcond_split (fun _ => ?_) (fun _ => ?_)) | (with_reducible refine draw_ro (by kernel_rfl) ?_) | simp +contextual -implicitDefEqProofs (disch := first | exact dsc _ | fail) only [go_sem, ↓reduceIte, Nat.reduceEqDiff, Nat.reduceAdd, Nat.reduceMul, Nat.reduceSub, Nat.reduceLT, Nat.reduceLeDiff, Nat.reduceBEq, reduceCtorEq, BEq.rfl, Int.reduceLT, Int.reduceLE, Int.reduceAdd, Int.reduceToNat, Int.reduceSub, Int.reduceMul, Int.reduceNeg, Int.reduceEq, *] | (with_reducible refine And.intro (by first | omega | assumption | rfl) ?_))
  ((first | refine Fin_v1 (by rfl) ?_ | refine Fin_vn (by intro h; cases h) ?_ | refine Fin_f1 (by rfl) ?_ | refine Fin_fn (by intro h; cases h) (fun _ => rfl) ?_ | refine Fin_u1 (by rfl) ?_ | refine Fin_un (by intro h; cases h) ?_); try simp +contextual -implicitDefEqProofs (disch := first | exact dsc _ | fail) only [go_sem, push_cast, ↓reduceIte, Nat.reduceEqDiff, Nat.reduceAdd, Nat.reduceMul, Nat.reduceSub, Nat.reduceLT, Nat.reduceLeDiff, Nat.reduceBEq, reduceCtorEq, BEq.rfl, Int.reduceLT, Int.reduceLE, Int.reduceAdd, Int.reduceToNat, Int.reduceSub, Int.reduceMul, Int.reduceNeg, Int.reduceEq, *])
attribute [go_sem ↓] t_cursor_Cursor_Done
end Go.Am.Tryz
set_option maxRecDepth 100000
set_option linter.unusedSimpArgs false
set_option linter.unusedVariables false
set_option pp.maxSteps 2000
namespace Go.Am.Tryz
open Go.Proofs
def sp_vote_Decode (args : List AV) : RM CallSpec := match args with
  | [x0] => (bysM x0).bind fun l => pureS [.list (bys l)] (.tup [voteA (decV l).1, .int .i64 (decV l).2])
  | _ => .fail
attribute [go_sem] sp_vote_Decode
theorem t_vote_Decode (l : List UInt8) (hl : l.length ≤ 35184372088832) : FnG Tryz.prog 82 [.list (bys l)] [] (.val (.tup [voteA (decV l).1, .int .i64 (decV l).2])) = True := by
  refine eq_true ?_
  refine FnG_of_W (sp := spL [(81, sp_codec_Uint), (103, sp_vote_Valid)]) (tb := tbOf Tryz.prog) (tbOf_ok _) (by kernel_rfl) Tryz.func82 (c := _) rfl (by kernel_rfl) (by kernel_rfl) (Nat.le_of_ble_eq_true rfl) (rs := [.cell 2 55, .tmp 3]) rfl ?_
  unfold FnW
  by_cases h1 : l.length < 23
  · have e : decV l = (vote0, 2) := by simp [decV, h1]
    rw [e]
    repeat' (first | (with_reducible intro _) | (with_reducible refine wcond_not ?_) | ((with_reducible refine wcond_dec (fun _ => ?_) (fun _ => ?_)) <;> try (exfalso; omega)) | (with_reducible refine wcond_split (fun _ => ?_) (fun _ => ?_)) | (first | (with_reducible refine draw_we [(false, []), (false, []), (true, []), (true, []), (false, []), (false, []), (true, [2, 3]), (true, [2, 3]), (false, []), (false, []), (true, [2, 3, 6, 7]), (true, [2, 3, 6, 7]), (false, []), (false, []), (true, [2, 3, 6, 7, 10, 11]), (true, [2, 3, 6, 7, 10, 11]), (false, []), (false, []), (true, [2, 3, 6, 7, 10, 11, 14, 15]), (true, [2, 3, 6, 7, 10, 11, 14, 15]), (false, []), (true, [2, 3, 6, 7, 10, 11, 14, 15, 18, 19]), (false, []), (false, [2, 3, 6, 7, 10, 11, 14, 15, 18, 19, 21]), (false, [])] (by kernel_rfl) (by decide +kernel) ?_) | (with_reducible refine draw_we [(false, []), (true, []), (false, []), (false, [1]), (false, []), (false, []), (false, []), (false, []), (false, []), (false, []), (false, []), (false, []), (false, []), (false, []), (false, []), (false, []), (false, []), (false, []), (false, []), (false, []), (false, []), (false, []), (false, []), (false, []), (false, [])] (by kernel_rfl) (by decide +kernel) ?_)) | simp +contextual -implicitDefEqProofs (disch := first | exact dsc _ | fail) only [go_sem, ↓reduceIte, Nat.reduceEqDiff, Nat.reduceAdd, Nat.reduceMul, Nat.reduceSub, Nat.reduceLT, Nat.reduceLeDiff, Nat.reduceBEq, reduceCtorEq, BEq.rfl, Int.reduceLT, Int.reduceLE, Int.reduceAdd, Int.reduceToNat, Int.reduceSub, Int.reduceMul, Int.reduceNeg, Int.reduceEq, *] | (with_reducible refine And.intro (by first | omega | assumption | rfl) ?_))
    all_goals ((first | refine Fin_v1 (by rfl) ?_ | refine Fin_vn (by intro h; cases h) ?_ | refine Fin_f1 (by rfl) ?_ | refine Fin_fn (by intro h; cases h) (fun _ => rfl) ?_ | refine Fin_u1 (by rfl) ?_ | refine Fin_un (by intro h; cases h) ?_); try simp +contextual -implicitDefEqProofs (disch := first | exact dsc _ | fail) only [go_sem, push_cast, ↓reduceIte, Nat.reduceEqDiff, Nat.reduceAdd, Nat.reduceMul, Nat.reduceSub, Nat.reduceLT, Nat.reduceLeDiff, Nat.reduceBEq, reduceCtorEq, BEq.rfl, Int.reduceLT, Int.reduceLE, Int.reduceAdd, Int.reduceToNat, Int.reduceSub, Int.reduceMul, Int.reduceNeg, Int.reduceEq, *, vote0])
  · by_cases h2 : 23 < l.length
    · have e : decV l = (vote0, 3) := by simp [decV, h1, h2]
      rw [e]
      repeat' (first | (with_reducible intro _) | (with_reducible refine wcond_not ?_) | ((with_reducible refine wcond_dec (fun _ => ?_) (fun _ => ?_)) <;> try (exfalso; omega)) | (with_reducible refine wcond_split (fun _ => ?_) (fun _ => ?_)) | (first | (with_reducible refine draw_we [(false, []), (false, []), (true, []), (true, []), (false, []), (false, []), (true, [2, 3]), (true, [2, 3]), (false, []), (false, []), (true, [2, 3, 6, 7]), (true, [2, 3, 6, 7]), (false, []), (false, []), (true, [2, 3, 6, 7, 10, 11]), (true, [2, 3, 6, 7, 10, 11]), (false, []), (false, []), (true, [2, 3, 6, 7, 10, 11, 14, 15]), (true, [2, 3, 6, 7, 10, 11, 14, 15]), (false, []), (true, [2, 3, 6, 7, 10, 11, 14, 15, 18, 19]), (false, []), (false, [2, 3, 6, 7, 10, 11, 14, 15, 18, 19, 21]), (false, [])] (by kernel_rfl) (by decide +kernel) ?_) | (with_reducible refine draw_we [(false, []), (true, []), (false, []), (false, [1]), (false, []), (false, []), (false, []), (false, []), (false, []), (false, []), (false, []), (false, []), (false, []), (false, []), (false, []), (false, []), (false, []), (false, []), (false, []), (false, []), (false, []), (false, []), (false, []), (false, []), (false, [])] (by kernel_rfl) (by decide +kernel) ?_)) | simp +contextual -implicitDefEqProofs (disch := first | exact dsc _ | fail) only [go_sem, ↓reduceIte, Nat.reduceEqDiff, Nat.reduceAdd, Nat.reduceMul, Nat.reduceSub, Nat.reduceLT, Nat.reduceLeDiff, Nat.reduceBEq, reduceCtorEq, BEq.rfl, Int.reduceLT, Int.reduceLE, Int.reduceAdd, Int.reduceToNat, Int.reduceSub, Int.reduceMul, Int.reduceNeg, Int.reduceEq, *] | (with_reducible refine And.intro (by first | omega | assumption | rfl) ?_))
      all_goals ((first | refine Fin_v1 (by rfl) ?_ | refine Fin_vn (by intro h; cases h) ?_ | refine Fin_f1 (by rfl) ?_ | refine Fin_fn (by intro h; cases h) (fun _ => rfl) ?_ | refine Fin_u1 (by rfl) ?_ | refine Fin_un (by intro h; cases h) ?_); try simp +contextual -implicitDefEqProofs (disch := first | exact dsc _ | fail) only [go_sem, push_cast, ↓reduceIte, Nat.reduceEqDiff, Nat.reduceAdd, Nat.reduceMul, Nat.reduceSub, Nat.reduceLT, Nat.reduceLeDiff, Nat.reduceBEq, reduceCtorEq, BEq.rfl, Int.reduceLT, Int.reduceLE, Int.reduceAdd, Int.reduceToNat, Int.reduceSub, Int.reduceMul, Int.reduceNeg, Int.reduceEq, *, vote0])
    · have hlen : l.length = 23 := by omega
      obtain ⟨c0, h0⟩ := get_lt (l := l) (n := 0) (by omega)
      obtain ⟨c1, h1'⟩ := get_lt (l := l) (n := 1) (by omega)
      obtain ⟨c2, h2'⟩ := get_lt (l := l) (n := 2) (by omega)
      obtain ⟨c3, h3⟩ := get_lt (l := l) (n := 3) (by omega)
      obtain ⟨c4, h4⟩ := get_lt (l := l) (n := 4) (by omega)
      have hu : uintOk l 5 2 = true := uintOk_iff.2 (by omega)
      have hv : uintV l 5 2 = unbe ((l.drop 5).take 2) := by simp [uintV, hu, seg]
      have hvb := uintV2 l 5
      have hm : mkV l = ⟨c0.toNat, c1.toNat, c2.toNat, c3.toNat, c4.toNat, uintV l 5 2, nmOf ((l.drop 7).take 8), nmOf (l.drop 15)⟩ := by
        have k : (l.drop 15).take 8 = l.drop 15 := List.take_of_length_le (by simp; omega)
        simp [mkV, byteN_get h0, byteN_get h1', byteN_get h2', byteN_get h3, byteN_get h4, hv, k]
      clear hv
      have k1 : ((l.drop 7).take 8).length = 8 := by simp; omega
      have k2 : (l.drop 15).length = 8 := by simp; omega
      have k1' := nmOf_l k1
      have k2' := nmOf_l k2
      repeat' (first | (with_reducible intro _) | (with_reducible refine wcond_not ?_) | ((with_reducible refine wcond_dec (fun _ => ?_) (fun _ => ?_)) <;> try (exfalso; omega)) | (with_reducible refine wcond_split (fun _ => ?_) (fun _ => ?_)) | (first | (with_reducible refine draw_we [(false, []), (false, []), (true, []), (true, []), (false, []), (false, []), (true, [2, 3]), (true, [2, 3]), (false, []), (false, []), (true, [2, 3, 6, 7]), (true, [2, 3, 6, 7]), (false, []), (false, []), (true, [2, 3, 6, 7, 10, 11]), (true, [2, 3, 6, 7, 10, 11]), (false, []), (false, []), (true, [2, 3, 6, 7, 10, 11, 14, 15]), (true, [2, 3, 6, 7, 10, 11, 14, 15]), (false, []), (true, [2, 3, 6, 7, 10, 11, 14, 15, 18, 19]), (false, []), (false, [2, 3, 6, 7, 10, 11, 14, 15, 18, 19, 21]), (false, [])] (by kernel_rfl) (by decide +kernel) ?_) | (with_reducible refine draw_we [(false, []), (true, []), (false, []), (false, [1]), (false, []), (false, []), (false, []), (false, []), (false, []), (false, []), (false, []), (false, []), (false, []), (false, []), (false, []), (false, []), (false, []), (false, []), (false, []), (false, []), (false, []), (false, []), (false, []), (false, []), (false, [])] (by kernel_rfl) (by decide +kernel) ?_)) | simp +contextual -implicitDefEqProofs (disch := first | exact dsc _ | fail) only [go_sem, ↓reduceIte, Nat.reduceEqDiff, Nat.reduceAdd, Nat.reduceMul, Nat.reduceSub, Nat.reduceLT, Nat.reduceLeDiff, Nat.reduceBEq, reduceCtorEq, BEq.rfl, Int.reduceLT, Int.reduceLE, Int.reduceAdd, Int.reduceToNat, Int.reduceSub, Int.reduceMul, Int.reduceNeg, Int.reduceEq, *, voteD, nmD_bys k1, nmD_bys k2, spliceB_all] | (with_reducible refine And.intro (by first | omega | assumption | rfl) ?_))
      · have e : decV l = (mkV l, 0) := by simp [decV, hlen, hm, *]
        rw [e, hm]
        ((first | refine Fin_v1 (by rfl) ?_ | refine Fin_vn (by intro h; cases h) ?_ | refine Fin_f1 (by rfl) ?_ | refine Fin_fn (by intro h; cases h) (fun _ => rfl) ?_ | refine Fin_u1 (by rfl) ?_ | refine Fin_un (by intro h; cases h) ?_); try simp +contextual -implicitDefEqProofs (disch := first | exact dsc _ | fail) only [go_sem, push_cast, ↓reduceIte, Nat.reduceEqDiff, Nat.reduceAdd, Nat.reduceMul, Nat.reduceSub, Nat.reduceLT, Nat.reduceLeDiff, Nat.reduceBEq, reduceCtorEq, BEq.rfl, Int.reduceLT, Int.reduceLE, Int.reduceAdd, Int.reduceToNat, Int.reduceSub, Int.reduceMul, Int.reduceNeg, Int.reduceEq, *])
      · have e : decV l = (vote0, 11) := by simp [decV, hlen, hm, *]
        rw [e]
        ((first | refine Fin_v1 (by rfl) ?_ | refine Fin_vn (by intro h; cases h) ?_ | refine Fin_f1 (by rfl) ?_ | refine Fin_fn (by intro h; cases h) (fun _ => rfl) ?_ | refine Fin_u1 (by rfl) ?_ | refine Fin_un (by intro h; cases h) ?_); try simp +contextual -implicitDefEqProofs (disch := first | exact dsc _ | fail) only [go_sem, push_cast, ↓reduceIte, Nat.reduceEqDiff, Nat.reduceAdd, Nat.reduceMul, Nat.reduceSub, Nat.reduceLT, Nat.reduceLeDiff, Nat.reduceBEq, reduceCtorEq, BEq.rfl, Int.reduceLT, Int.reduceLE, Int.reduceAdd, Int.reduceToNat, Int.reduceSub, Int.reduceMul, Int.reduceNeg, Int.reduceEq, *, vote0])
attribute [go_sem ↓] t_vote_Decode
end Go.Am.Tryz
set_option maxRecDepth 100000
set_option linter.unusedSimpArgs false
set_option linter.unusedVariables false
set_option pp.maxSteps 2000
namespace Go.Am.Tryz
open Go.Proofs
def sp_forkledgerref1_Uint (args : List AV) : RM CallSpec := match args with
  | [x0, x1, x2] => (bysM x0).bind fun l => (opt (intD x1)).bind fun a => (opt (intD x2)).bind fun k => pureS [.list (bys l), .int .i64 a, .int .i64 k] (.tup [.int .u64 (uintV l a k), .bool (uintOk l a k)])
  | _ => .fail
attribute [go_sem] sp_forkledgerref1_Uint
theorem t_forkledgerref1_Uint (l : List UInt8) (a : Int) (k : Int) (ha : -4611686018427387904 ≤ a ∧ a ≤ 4611686018427387904) (hk : -4611686018427387904 ≤ k ∧ k ≤ 4611686018427387904) (hl : l.length ≤ 35184372088832) : FnG Tryz.prog 43 [.list (bys l), .int .i64 a, .int .i64 k] [] (.val (.tup [.int .u64 (uintV l a k), .bool (uintOk l a k)])) = True := by
  refine eq_true ?_
  refine FnG_of_W (sp := spL []) (tb := tbOf Tryz.prog) (tbOf_ok _) (by kernel_rfl) Tryz.func43 (c := _) rfl (by kernel_rfl) (by kernel_rfl) (Nat.le_of_ble_eq_true rfl) (rs := [.tmp 6, .tmp 7]) rfl ?_
  unfold FnW
  have hcond : (decide (k < 1) || decide (8 < k) || decide (a < 0) || decide ((l.length : Int) - k < a)) = !uintOk l a k := by
    rw [Bool.eq_iff_iff]; simp [uintOk, followB]; omega
  cases hok : uintOk l a k with
  | true =>
    obtain ⟨h1, h2, h3, h4, h5⟩ := uintOk_iff.1 hok
    have hsl := seg_len (l := l) (k := k) h3 h4 (by omega) h5
    repeat' (first | (with_reducible intro _) | (with_reducible refine wcond_not ?_) | ((with_reducible refine wcond_dec (fun _ => ?_) (fun _ => ?_)) <;> try (exfalso; omega)) | (with_reducible refine wcond_split (fun _ => ?_) (fun _ => ?_)) | (with_reducible refine draw_ro (by kernel_rfl) ?_) | simp +contextual -implicitDefEqProofs (disch := first | exact dsc _ | fail) only [go_sem, ↓reduceIte, Nat.reduceEqDiff, Nat.reduceAdd, Nat.reduceMul, Nat.reduceSub, Nat.reduceLT, Nat.reduceLeDiff, Nat.reduceBEq, reduceCtorEq, BEq.rfl, Int.reduceLT, Int.reduceLE, Int.reduceAdd, Int.reduceToNat, Int.reduceSub, Int.reduceMul, Int.reduceNeg, Int.reduceEq, *, hcond, hok] | (with_reducible refine And.intro (by first | omega | assumption | rfl) ?_))
    refine wloopW (α := Nat) (fun i => ⟨[(0, .list (bys l)), (1, .int .i64 a), (2, .int .i64 k), (9, .int .i64 i), (8, .int .u64 (unbe ((seg l a k).take i)))], []⟩) (fun i => i ≤ k.toNat) (fun i => k.toNat - i) 0 (Nat.zero_le _) ?_ ?_
    · simp +contextual -implicitDefEqProofs (disch := first | exact dsc _ | fail) only [go_sem, push_cast, ↓reduceIte, Nat.reduceEqDiff, Nat.reduceAdd, Nat.reduceMul, Nat.reduceSub, Nat.reduceLT, Nat.reduceLeDiff, Nat.reduceBEq, reduceCtorEq, BEq.rfl, Int.reduceLT, Int.reduceLE, Int.reduceAdd, Int.reduceToNat, Int.reduceSub, Int.reduceMul, Int.reduceNeg, Int.reduceEq, *]
      all_goals simp [seg, unbe_nil]
    · intro i hi
      have hi : i ≤ k.toNat := hi
      by_cases hlt : i < k.toNat
      · obtain ⟨c, hc⟩ := get_lt (l := seg l a k) (n := i) (by omega)
        have hb := unbe7 (l := (seg l a k).take i) (by rw [List.length_take]; omega)
        have hcl : l[(a + i).toNat]? = some c := by
          have : (a + i).toNat = a.toNat + i := by omega
          rw [this, ← List.getElem?_drop, ← hc, seg, List.getElem?_take, if_pos hlt]
        repeat' (first | (with_reducible intro _) | (with_reducible refine wcond_not ?_) | ((with_reducible refine wcond_dec (fun _ => ?_) (fun _ => ?_)) <;> try (exfalso; omega)) | (with_reducible refine wcond_split (fun _ => ?_) (fun _ => ?_)) | (with_reducible refine draw_ro (by kernel_rfl) ?_) | simp +contextual -implicitDefEqProofs (disch := first | exact dsc _ | fail) only [go_sem, ↓reduceIte, Nat.reduceEqDiff, Nat.reduceAdd, Nat.reduceMul, Nat.reduceSub, Nat.reduceLT, Nat.reduceLeDiff, Nat.reduceBEq, reduceCtorEq, BEq.rfl, Int.reduceLT, Int.reduceLE, Int.reduceAdd, Int.reduceToNat, Int.reduceSub, Int.reduceMul, Int.reduceNeg, Int.reduceEq, *, hcl, shl8_run _ hb, or8_run _ _ hb] | (with_reducible refine And.intro (by first | omega | assumption | rfl) ?_))
        refine round_intro (i + 1) (by show i + 1 ≤ k.toNat; omega) (by show k.toNat - (i + 1) < k.toNat - i; omega) ?_
        simp +contextual -implicitDefEqProofs (disch := first | exact dsc _ | fail) only [go_sem, push_cast, ↓reduceIte, Nat.reduceEqDiff, Nat.reduceAdd, Nat.reduceMul, Nat.reduceSub, Nat.reduceLT, Nat.reduceLeDiff, Nat.reduceBEq, reduceCtorEq, BEq.rfl, Int.reduceLT, Int.reduceLE, Int.reduceAdd, Int.reduceToNat, Int.reduceSub, Int.reduceMul, Int.reduceNeg, Int.reduceEq, *]
        have : (seg l a k).take (i + 1) = (seg l a k).take i ++ [c] := by rw [List.take_add_one, hc]; rfl
        rw [this, unbe_snoc]
        simp
      · have hik : i = k.toNat := by omega
        have ht : (seg l a k).take i = seg l a k := List.take_of_length_le (by omega)
        rw [ht]
        repeat' (first | (with_reducible intro _) | (with_reducible refine wcond_not ?_) | ((with_reducible refine wcond_dec (fun _ => ?_) (fun _ => ?_)) <;> try (exfalso; omega)) | (with_reducible refine wcond_split (fun _ => ?_) (fun _ => ?_)) | (with_reducible refine draw_ro (by kernel_rfl) ?_) | simp +contextual -implicitDefEqProofs (disch := first | exact dsc _ | fail) only [go_sem, ↓reduceIte, Nat.reduceEqDiff, Nat.reduceAdd, Nat.reduceMul, Nat.reduceSub, Nat.reduceLT, Nat.reduceLeDiff, Nat.reduceBEq, reduceCtorEq, BEq.rfl, Int.reduceLT, Int.reduceLE, Int.reduceAdd, Int.reduceToNat, Int.reduceSub, Int.reduceMul, Int.reduceNeg, Int.reduceEq, *] | (with_reducible refine And.intro (by first | omega | assumption | rfl) ?_))
        ((first | refine Fin_v1 (by rfl) ?_ | refine Fin_vn (by intro h; cases h) ?_ | refine Fin_f1 (by rfl) ?_ | refine Fin_fn (by intro h; cases h) (fun _ => rfl) ?_ | refine Fin_u1 (by rfl) ?_ | refine Fin_un (by intro h; cases h) ?_); try simp +contextual -implicitDefEqProofs (disch := first | exact dsc _ | fail) only [go_sem, push_cast, ↓reduceIte, Nat.reduceEqDiff, Nat.reduceAdd, Nat.reduceMul, Nat.reduceSub, Nat.reduceLT, Nat.reduceLeDiff, Nat.reduceBEq, reduceCtorEq, BEq.rfl, Int.reduceLT, Int.reduceLE, Int.reduceAdd, Int.reduceToNat, Int.reduceSub, Int.reduceMul, Int.reduceNeg, Int.reduceEq, *])
        all_goals simp [uintV, hok]
  | false =>
    repeat' (first | (with_reducible intro _) | (with_reducible refine wcond_not ?_) | ((with_reducible refine wcond_dec (fun _ => ?_) (fun _ => ?_)) <;> try (exfalso; omega)) | (with_reducible refine wcond_split (fun _ => ?_) (fun _ => ?_)) | (with_reducible refine draw_ro (by kernel_rfl) ?_) | simp +contextual -implicitDefEqProofs (disch := first | exact dsc _ | fail) only [go_sem, ↓reduceIte, Nat.reduceEqDiff, Nat.reduceAdd, Nat.reduceMul, Nat.reduceSub, Nat.reduceLT, Nat.reduceLeDiff, Nat.reduceBEq, reduceCtorEq, BEq.rfl, Int.reduceLT, Int.reduceLE, Int.reduceAdd, Int.reduceToNat, Int.reduceSub, Int.reduceMul, Int.reduceNeg, Int.reduceEq, *, hcond, hok] | (with_reducible refine And.intro (by first | omega | assumption | rfl) ?_))
    ((first | refine Fin_v1 (by rfl) ?_ | refine Fin_vn (by intro h; cases h) ?_ | refine Fin_f1 (by rfl) ?_ | refine Fin_fn (by intro h; cases h) (fun _ => rfl) ?_ | refine Fin_u1 (by rfl) ?_ | refine Fin_un (by intro h; cases h) ?_); try simp +contextual -implicitDefEqProofs (disch := first | exact dsc _ | fail) only [go_sem, push_cast, ↓reduceIte, Nat.reduceEqDiff, Nat.reduceAdd, Nat.reduceMul, Nat.reduceSub, Nat.reduceLT, Nat.reduceLeDiff, Nat.reduceBEq, reduceCtorEq, BEq.rfl, Int.reduceLT, Int.reduceLE, Int.reduceAdd, Int.reduceToNat, Int.reduceSub, Int.reduceMul, Int.reduceNeg, Int.reduceEq, *])
    all_goals simp [uintV, hok]
attribute [go_sem ↓] t_forkledgerref1_Uint
def refB (l : List UInt8) (a : Int) : List UInt8 × Int × Bool := if bytesOk l a = true then (bytesV l a, a + 2 + uintV l a 2, true) else ([], 0, false)
def sp_forkledgerref1_Bytes (args : List AV) : RM CallSpec := match args with
  | [b, .int .i64 a] => (bysM b).bind fun l => mkS [.list (bys l), .int .i64 a] [] (.val (.tup [.list (bys (refB l a).1), .int .i64 (refB l a).2.1, .bool (refB l a).2.2])) false
  | _ => .fail
attribute [go_sem] sp_forkledgerref1_Bytes
theorem t_forkledgerref1_Bytes {l : List UInt8} {a : Int} (ha : -4611686018427387904 ≤ a ∧ a ≤ 4611686018427387) (hl : l.length ≤ 35184372088832) : FnG Tryz.prog 45 [.list (bys l), .int .i64 a] [] (.val (.tup [.list (bys (refB l a).1), .int .i64 (refB l a).2.1, .bool (refB l a).2.2])) = True := by
  refine eq_true ?_
  refine FnG_of_W (sp := spL [(43, sp_forkledgerref1_Uint)]) (tb := tbOf Tryz.prog) (tbOf_ok _) (by kernel_rfl) Tryz.func45 (c := _) rfl (by kernel_rfl) (by kernel_rfl) (Nat.le_of_ble_eq_true rfl) (rs := [.tmp 4, .tmp 5, .tmp 6]) rfl ?_
  unfold FnW
  have hv := uintV2 l a
  by_cases h : bytesOk l a = true
  · have e : refB l a = (bytesV l a, a + 2 + uintV l a 2, true) := by rw [refB, if_pos h]
    rw [e]
    have hb := bytesOk_iff.1 h
    have hbl := bytesV_len h
    obtain ⟨h1, h2⟩ : uintOk l a 2 = true ∧ followB l (a + 2) (uintV l a 2) = true := by simpa [bytesOk] using h
    have hx : decide ((l.length : Int) - a - 2 < (uintV l a 2 : Int)) = false := by simp; omega
    repeat' (first | (with_reducible intro _) | (with_reducible refine wcond_not ?_) | ((with_reducible refine wcond_dec (fun _ => ?_) (fun _ => ?_)) <;> try (exfalso; omega)) | (with_reducible refine wcond_split (fun _ => ?_) (fun _ => ?_)) | (with_reducible refine draw_ro (by kernel_rfl) ?_) | simp +contextual -implicitDefEqProofs (disch := first | exact dsc _ | fail) only [go_sem, ↓reduceIte, Nat.reduceEqDiff, Nat.reduceAdd, Nat.reduceMul, Nat.reduceSub, Nat.reduceLT, Nat.reduceLeDiff, Nat.reduceBEq, reduceCtorEq, BEq.rfl, Int.reduceLT, Int.reduceLE, Int.reduceAdd, Int.reduceToNat, Int.reduceSub, Int.reduceMul, Int.reduceNeg, Int.reduceEq, *, h1, h2] | (with_reducible refine And.intro (by first | omega | assumption | rfl) ?_))
    all_goals ((first | refine Fin_v1 (by rfl) ?_ | refine Fin_vn (by intro h; cases h) ?_ | refine Fin_f1 (by rfl) ?_ | refine Fin_fn (by intro h; cases h) (fun _ => rfl) ?_ | refine Fin_u1 (by rfl) ?_ | refine Fin_un (by intro h; cases h) ?_); try simp +contextual -implicitDefEqProofs (disch := first | exact dsc _ | fail) only [go_sem, push_cast, ↓reduceIte, Nat.reduceEqDiff, Nat.reduceAdd, Nat.reduceMul, Nat.reduceSub, Nat.reduceLT, Nat.reduceLeDiff, Nat.reduceBEq, reduceCtorEq, BEq.rfl, Int.reduceLT, Int.reduceLE, Int.reduceAdd, Int.reduceToNat, Int.reduceSub, Int.reduceMul, Int.reduceNeg, Int.reduceEq, *])
    all_goals have e4 : (a + 2 + (uintV l a 2 : Int)).toNat - (a + 2).toNat = uintV l a 2 := by omega
    all_goals (rw [e4, bytesV, seg, Int.toNat_natCast])
  · have e : refB l a = ([], 0, false) := by rw [refB, if_neg h]
    rw [e]
    have h : bytesOk l a = false := by simpa using h
    have hx : (!uintOk l a 2 || decide ((l.length : Int) - a - 2 < (uintV l a 2 : Int))) = true := by
      cases hu : uintOk l a 2 with
      | false => rfl
      | true =>
        have h3 := uintOk_iff.1 hu
        have h4 : ¬ (0 ≤ a ∧ a + 2 + uintV l a 2 ≤ l.length) := fun e => by rw [bytesOk_iff.2 e] at h; cases h
        simp; omega
    repeat' (first | (with_reducible intro _) | (with_reducible refine wcond_not ?_) | ((with_reducible refine wcond_dec (fun _ => ?_) (fun _ => ?_)) <;> try (exfalso; omega)) | (with_reducible refine wcond_split (fun _ => ?_) (fun _ => ?_)) | (with_reducible refine draw_ro (by kernel_rfl) ?_) | simp +contextual -implicitDefEqProofs (disch := first | exact dsc _ | fail) only [go_sem, ↓reduceIte, Nat.reduceEqDiff, Nat.reduceAdd, Nat.reduceMul, Nat.reduceSub, Nat.reduceLT, Nat.reduceLeDiff, Nat.reduceBEq, reduceCtorEq, BEq.rfl, Int.reduceLT, Int.reduceLE, Int.reduceAdd, Int.reduceToNat, Int.reduceSub, Int.reduceMul, Int.reduceNeg, Int.reduceEq, *] | (with_reducible refine And.intro (by first | omega | assumption | rfl) ?_))
    all_goals ((first | refine Fin_v1 (by rfl) ?_ | refine Fin_vn (by intro h; cases h) ?_ | refine Fin_f1 (by rfl) ?_ | refine Fin_fn (by intro h; cases h) (fun _ => rfl) ?_ | refine Fin_u1 (by rfl) ?_ | refine Fin_un (by intro h; cases h) ?_); try simp +contextual -implicitDefEqProofs (disch := first | exact dsc _ | fail) only [go_sem, push_cast, ↓reduceIte, Nat.reduceEqDiff, Nat.reduceAdd, Nat.reduceMul, Nat.reduceSub, Nat.reduceLT, Nat.reduceLeDiff, Nat.reduceBEq, reduceCtorEq, BEq.rfl, Int.reduceLT, Int.reduceLE, Int.reduceAdd, Int.reduceToNat, Int.reduceSub, Int.reduceMul, Int.reduceNeg, Int.reduceEq, *])
attribute [go_sem ↓] t_forkledgerref1_Bytes
def sp_forkledgerref6_Decode (args : List AV) : RM CallSpec := match args with
  | [x0] => (bysM x0).bind fun l => pureS [.list (bys l)] (.tup [voteA (decV l).1, .int .i64 (decV l).2])
  | _ => .fail
attribute [go_sem] sp_forkledgerref6_Decode
theorem t_forkledgerref6_Decode (l : List UInt8) (hl : l.length ≤ 35184372088832) : FnG Tryz.prog 84 [.list (bys l)] [] (.val (.tup [voteA (decV l).1, .int .i64 (decV l).2])) = True := by
  refine eq_true ?_
  refine FnG_of_W (sp := spL [(105, sp_forkledgerref6_Valid)]) (tb := tbOf Tryz.prog) (tbOf_ok _) (by kernel_rfl) Tryz.func84 (c := _) rfl (by kernel_rfl) (by kernel_rfl) (Nat.le_of_ble_eq_true rfl) (rs := [.cell 2 55, .tmp 3]) rfl ?_
  unfold FnW
  by_cases h1 : l.length < 23
  · have e : decV l = (vote0, 2) := by simp [decV, h1]
    rw [e]
    repeat' (first | (with_reducible intro _) | (with_reducible refine wcond_not ?_) | ((with_reducible refine wcond_dec (fun _ => ?_) (fun _ => ?_)) <;> try (exfalso; omega)) | (with_reducible refine wcond_split (fun _ => ?_) (fun _ => ?_)) | (first | (with_reducible refine draw_we [(false, []), (false, []), (true, []), (true, []), (false, []), (false, []), (true, [2, 3]), (true, [2, 3]), (false, []), (false, []), (true, [2, 3, 6, 7]), (true, [2, 3, 6, 7]), (false, []), (false, []), (true, [2, 3, 6, 7, 10, 11]), (true, [2, 3, 6, 7, 10, 11]), (false, []), (false, []), (true, [2, 3, 6, 7, 10, 11, 14, 15]), (true, [2, 3, 6, 7, 10, 11, 14, 15]), (false, []), (false, []), (true, [2, 3, 6, 7, 10, 11, 14, 15, 18, 19]), (true, [2, 3, 6, 7, 10, 11, 14, 15, 18, 19]), (false, []), (false, []), (false, []), (true, [2, 3, 6, 7, 10, 11, 14, 15, 18, 19, 22, 23]), (true, [2, 3, 6, 7, 10, 11, 14, 15, 18, 19, 22, 23]), (false, []), (false, []), (false, [2, 3, 6, 7, 10, 11, 14, 15, 18, 19, 22, 23, 27, 28]), (false, [])] (by kernel_rfl) (by decide +kernel) ?_) | (with_reducible refine draw_we [(false, []), (true, []), (false, []), (false, [1]), (false, []), (false, []), (false, []), (false, []), (false, []), (false, []), (false, []), (false, []), (false, []), (false, []), (false, []), (false, []), (false, []), (false, []), (false, []), (false, []), (false, []), (false, []), (false, []), (false, []), (false, []), (false, []), (false, []), (false, []), (false, []), (false, []), (false, []), (false, []), (false, [])] (by kernel_rfl) (by decide +kernel) ?_)) | simp +contextual -implicitDefEqProofs (disch := first | exact dsc _ | fail) only [go_sem, ↓reduceIte, Nat.reduceEqDiff, Nat.reduceAdd, Nat.reduceMul, Nat.reduceSub, Nat.reduceLT, Nat.reduceLeDiff, Nat.reduceBEq, reduceCtorEq, BEq.rfl, Int.reduceLT, Int.reduceLE, Int.reduceAdd, Int.reduceToNat, Int.reduceSub, Int.reduceMul, Int.reduceNeg, Int.reduceEq, *] | (with_reducible refine And.intro (by first | omega | assumption | rfl) ?_))
    all_goals ((first | refine Fin_v1 (by rfl) ?_ | refine Fin_vn (by intro h; cases h) ?_ | refine Fin_f1 (by rfl) ?_ | refine Fin_fn (by intro h; cases h) (fun _ => rfl) ?_ | refine Fin_u1 (by rfl) ?_ | refine Fin_un (by intro h; cases h) ?_); try simp +contextual -implicitDefEqProofs (disch := first | exact dsc _ | fail) only [go_sem, push_cast, ↓reduceIte, Nat.reduceEqDiff, Nat.reduceAdd, Nat.reduceMul, Nat.reduceSub, Nat.reduceLT, Nat.reduceLeDiff, Nat.reduceBEq, reduceCtorEq, BEq.rfl, Int.reduceLT, Int.reduceLE, Int.reduceAdd, Int.reduceToNat, Int.reduceSub, Int.reduceMul, Int.reduceNeg, Int.reduceEq, *, vote0])
  · by_cases h2 : 23 < l.length
    · have e : decV l = (vote0, 3) := by simp [decV, h1, h2]
      rw [e]
      repeat' (first | (with_reducible intro _) | (with_reducible refine wcond_not ?_) | ((with_reducible refine wcond_dec (fun _ => ?_) (fun _ => ?_)) <;> try (exfalso; omega)) | (with_reducible refine wcond_split (fun _ => ?_) (fun _ => ?_)) | (first | (with_reducible refine draw_we [(false, []), (false, []), (true, []), (true, []), (false, []), (false, []), (true, [2, 3]), (true, [2, 3]), (false, []), (false, []), (true, [2, 3, 6, 7]), (true, [2, 3, 6, 7]), (false, []), (false, []), (true, [2, 3, 6, 7, 10, 11]), (true, [2, 3, 6, 7, 10, 11]), (false, []), (false, []), (true, [2, 3, 6, 7, 10, 11, 14, 15]), (true, [2, 3, 6, 7, 10, 11, 14, 15]), (false, []), (false, []), (true, [2, 3, 6, 7, 10, 11, 14, 15, 18, 19]), (true, [2, 3, 6, 7, 10, 11, 14, 15, 18, 19]), (false, []), (false, []), (false, []), (true, [2, 3, 6, 7, 10, 11, 14, 15, 18, 19, 22, 23]), (true, [2, 3, 6, 7, 10, 11, 14, 15, 18, 19, 22, 23]), (false, []), (false, []), (false, [2, 3, 6, 7, 10, 11, 14, 15, 18, 19, 22, 23, 27, 28]), (false, [])] (by kernel_rfl) (by decide +kernel) ?_) | (with_reducible refine draw_we [(false, []), (true, []), (false, []), (false, [1]), (false, []), (false, []), (false, []), (false, []), (false, []), (false, []), (false, []), (false, []), (false, []), (false, []), (false, []), (false, []), (false, []), (false, []), (false, []), (false, []), (false, []), (false, []), (false, []), (false, []), (false, []), (false, []), (false, []), (false, []), (false, []), (false, []), (false, []), (false, []), (false, [])] (by kernel_rfl) (by decide +kernel) ?_)) | simp +contextual -implicitDefEqProofs (disch := first | exact dsc _ | fail) only [go_sem, ↓reduceIte, Nat.reduceEqDiff, Nat.reduceAdd, Nat.reduceMul, Nat.reduceSub, Nat.reduceLT, Nat.reduceLeDiff, Nat.reduceBEq, reduceCtorEq, BEq.rfl, Int.reduceLT, Int.reduceLE, Int.reduceAdd, Int.reduceToNat, Int.reduceSub, Int.reduceMul, Int.reduceNeg, Int.reduceEq, *] | (with_reducible refine And.intro (by first | omega | assumption | rfl) ?_))
      all_goals ((first | refine Fin_v1 (by rfl) ?_ | refine Fin_vn (by intro h; cases h) ?_ | refine Fin_f1 (by rfl) ?_ | refine Fin_fn (by intro h; cases h) (fun _ => rfl) ?_ | refine Fin_u1 (by rfl) ?_ | refine Fin_un (by intro h; cases h) ?_); try simp +contextual -implicitDefEqProofs (disch := first | exact dsc _ | fail) only [go_sem, push_cast, ↓reduceIte, Nat.reduceEqDiff, Nat.reduceAdd, Nat.reduceMul, Nat.reduceSub, Nat.reduceLT, Nat.reduceLeDiff, Nat.reduceBEq, reduceCtorEq, BEq.rfl, Int.reduceLT, Int.reduceLE, Int.reduceAdd, Int.reduceToNat, Int.reduceSub, Int.reduceMul, Int.reduceNeg, Int.reduceEq, *, vote0])
    · have hlen : l.length = 23 := by omega
      obtain ⟨c0, h0⟩ := get_lt (l := l) (n := 0) (by omega)
      obtain ⟨c1, h1'⟩ := get_lt (l := l) (n := 1) (by omega)
      obtain ⟨c2, h2'⟩ := get_lt (l := l) (n := 2) (by omega)
      obtain ⟨c3, h3⟩ := get_lt (l := l) (n := 3) (by omega)
      obtain ⟨c4, h4⟩ := get_lt (l := l) (n := 4) (by omega)
      obtain ⟨c5, h5⟩ := get_lt (l := l) (n := 5) (by omega)
      obtain ⟨c6, h6⟩ := get_lt (l := l) (n := 6) (by omega)
      have hm : mkV l = ⟨c0.toNat, c1.toNat, c2.toNat, c3.toNat, c4.toNat, ((c5.toNat * 256 + c6.toNat : Nat) : Int), nmOf ((l.drop 7).take 8), nmOf (l.drop 15)⟩ := by
        have k : (l.drop 15).take 8 = l.drop 15 := List.take_of_length_le (by simp; omega)
        simp [mkV, byteN_get h0, byteN_get h1', byteN_get h2', byteN_get h3, byteN_get h4, k, take_drop_two h5 h6, unbe_two]
      have k1 : ((l.drop 7).take 8).length = 8 := by simp; omega
      have k2 : (l.drop 15).length = 8 := by simp; omega
      have k1' := nmOf_l k1
      have k2' := nmOf_l k2
      repeat' (first | (with_reducible intro _) | (with_reducible refine wcond_not ?_) | ((with_reducible refine wcond_dec (fun _ => ?_) (fun _ => ?_)) <;> try (exfalso; omega)) | (with_reducible refine wcond_split (fun _ => ?_) (fun _ => ?_)) | (first | (with_reducible refine draw_we [(false, []), (false, []), (true, []), (true, []), (false, []), (false, []), (true, [2, 3]), (true, [2, 3]), (false, []), (false, []), (true, [2, 3, 6, 7]), (true, [2, 3, 6, 7]), (false, []), (false, []), (true, [2, 3, 6, 7, 10, 11]), (true, [2, 3, 6, 7, 10, 11]), (false, []), (false, []), (true, [2, 3, 6, 7, 10, 11, 14, 15]), (true, [2, 3, 6, 7, 10, 11, 14, 15]), (false, []), (false, []), (true, [2, 3, 6, 7, 10, 11, 14, 15, 18, 19]), (true, [2, 3, 6, 7, 10, 11, 14, 15, 18, 19]), (false, []), (false, []), (false, []), (true, [2, 3, 6, 7, 10, 11, 14, 15, 18, 19, 22, 23]), (true, [2, 3, 6, 7, 10, 11, 14, 15, 18, 19, 22, 23]), (false, []), (false, []), (false, [2, 3, 6, 7, 10, 11, 14, 15, 18, 19, 22, 23, 27, 28]), (false, [])] (by kernel_rfl) (by decide +kernel) ?_) | (with_reducible refine draw_we [(false, []), (true, []), (false, []), (false, [1]), (false, []), (false, []), (false, []), (false, []), (false, []), (false, []), (false, []), (false, []), (false, []), (false, []), (false, []), (false, []), (false, []), (false, []), (false, []), (false, []), (false, []), (false, []), (false, []), (false, []), (false, []), (false, []), (false, []), (false, []), (false, []), (false, []), (false, []), (false, []), (false, [])] (by kernel_rfl) (by decide +kernel) ?_)) | simp +contextual -implicitDefEqProofs (disch := first | exact dsc _ | fail) only [go_sem, ↓reduceIte, Nat.reduceEqDiff, Nat.reduceAdd, Nat.reduceMul, Nat.reduceSub, Nat.reduceLT, Nat.reduceLeDiff, Nat.reduceBEq, reduceCtorEq, BEq.rfl, Int.reduceLT, Int.reduceLE, Int.reduceAdd, Int.reduceToNat, Int.reduceSub, Int.reduceMul, Int.reduceNeg, Int.reduceEq, *, voteD, nmD_bys k1, nmD_bys k2, spliceB_all, shlI_run, orI_run] | (with_reducible refine And.intro (by first | omega | assumption | rfl) ?_))
      · rename_i hval
        have hval : validV (mkV l) = true := by rw [hm]; assumption
        have e : decV l = (mkV l, 0) := by simp [decV, hlen, hval]
        rw [e, hm]
        ((first | refine Fin_v1 (by rfl) ?_ | refine Fin_vn (by intro h; cases h) ?_ | refine Fin_f1 (by rfl) ?_ | refine Fin_fn (by intro h; cases h) (fun _ => rfl) ?_ | refine Fin_u1 (by rfl) ?_ | refine Fin_un (by intro h; cases h) ?_); try simp +contextual -implicitDefEqProofs (disch := first | exact dsc _ | fail) only [go_sem, push_cast, ↓reduceIte, Nat.reduceEqDiff, Nat.reduceAdd, Nat.reduceMul, Nat.reduceSub, Nat.reduceLT, Nat.reduceLeDiff, Nat.reduceBEq, reduceCtorEq, BEq.rfl, Int.reduceLT, Int.reduceLE, Int.reduceAdd, Int.reduceToNat, Int.reduceSub, Int.reduceMul, Int.reduceNeg, Int.reduceEq, *])
      · have hval : validV (mkV l) = false := by rw [hm]; assumption
        have e : decV l = (vote0, 11) := by simp [decV, hlen, hval]
        rw [e]
        ((first | refine Fin_v1 (by rfl) ?_ | refine Fin_vn (by intro h; cases h) ?_ | refine Fin_f1 (by rfl) ?_ | refine Fin_fn (by intro h; cases h) (fun _ => rfl) ?_ | refine Fin_u1 (by rfl) ?_ | refine Fin_un (by intro h; cases h) ?_); try simp +contextual -implicitDefEqProofs (disch := first | exact dsc _ | fail) only [go_sem, push_cast, ↓reduceIte, Nat.reduceEqDiff, Nat.reduceAdd, Nat.reduceMul, Nat.reduceSub, Nat.reduceLT, Nat.reduceLeDiff, Nat.reduceBEq, reduceCtorEq, BEq.rfl, Int.reduceLT, Int.reduceLE, Int.reduceAdd, Int.reduceToNat, Int.reduceSub, Int.reduceMul, Int.reduceNeg, Int.reduceEq, *, vote0])
attribute [go_sem ↓] t_forkledgerref6_Decode
def sp_signed_Decode (args : List AV) : RM CallSpec := match args with
  | [b] => (bysM b).bind fun l => mkS [.list (bys l)] [] (.val (.tup [sgnA (decS l).1, .int .i64 (decS l).2])) false
  | _ => .fail
attribute [go_sem] sp_signed_Decode
theorem t_signed_Decode {l : List UInt8} (hl : l.length ≤ 35184372080000) : FnG Tryz.prog 37 [.list (bys l)] [] (.val (.tup [sgnA (decS l).1, .int .i64 (decS l).2])) = True := by
  refine eq_true ?_
  refine FnG_of_W (sp := spL [(82, sp_vote_Decode), (26, sp_codec_AppendUint)]) (tb := tbOf Tryz.prog) (tbOf_ok _) (by kernel_rfl) Tryz.func37 (c := _) rfl (by kernel_rfl) (by kernel_rfl) (Nat.le_of_ble_eq_true rfl) (rs := [.cell 2 57, .tmp 3]) rfl ?_
  unfold FnW
  by_cases h1 : l.length < 393
  · have e : decS l = (sgn0, 2) := by simp [decS, h1]
    rw [e]
    repeat' (first | (with_reducible intro _) | (with_reducible refine wcond_not ?_) | ((with_reducible refine wcond_dec (fun _ => ?_) (fun _ => ?_)) <;> try (exfalso; omega)) | (with_reducible refine wcond_split (fun _ => ?_) (fun _ => ?_)) | (with_reducible refine draw_we [(true, []), (false, []), (false, [0]), (false, [10000, 0]), (false, []), (false, []), (false, [])] (by kernel_rfl) (by decide +kernel) ?_) | simp +contextual -implicitDefEqProofs (disch := first | exact dsc _ | fail) only [go_sem, ↓reduceIte, Nat.reduceEqDiff, Nat.reduceAdd, Nat.reduceMul, Nat.reduceSub, Nat.reduceLT, Nat.reduceLeDiff, Nat.reduceBEq, reduceCtorEq, BEq.rfl, Int.reduceLT, Int.reduceLE, Int.reduceAdd, Int.reduceToNat, Int.reduceSub, Int.reduceMul, Int.reduceNeg, Int.reduceEq, *] | (with_reducible refine And.intro (by first | omega | assumption | rfl) ?_))
    all_goals ((first | refine Fin_v1 (by rfl) ?_ | refine Fin_vn (by intro h; cases h) ?_ | refine Fin_f1 (by rfl) ?_ | refine Fin_fn (by intro h; cases h) (fun _ => rfl) ?_ | refine Fin_u1 (by rfl) ?_ | refine Fin_un (by intro h; cases h) ?_); try simp +contextual -implicitDefEqProofs (disch := first | exact dsc _ | fail) only [go_sem, push_cast, ↓reduceIte, Nat.reduceEqDiff, Nat.reduceAdd, Nat.reduceMul, Nat.reduceSub, Nat.reduceLT, Nat.reduceLeDiff, Nat.reduceBEq, reduceCtorEq, BEq.rfl, Int.reduceLT, Int.reduceLE, Int.reduceAdd, Int.reduceToNat, Int.reduceSub, Int.reduceMul, Int.reduceNeg, Int.reduceEq, *, sgn0, vote0])
  · by_cases h2 : 393 < l.length
    · have e : decS l = (sgn0, 3) := by simp [decS, h1, h2]
      rw [e]
      repeat' (first | (with_reducible intro _) | (with_reducible refine wcond_not ?_) | ((with_reducible refine wcond_dec (fun _ => ?_) (fun _ => ?_)) <;> try (exfalso; omega)) | (with_reducible refine wcond_split (fun _ => ?_) (fun _ => ?_)) | (with_reducible refine draw_we [(true, []), (false, []), (false, [0]), (false, [10000, 0]), (false, []), (false, []), (false, [])] (by kernel_rfl) (by decide +kernel) ?_) | simp +contextual -implicitDefEqProofs (disch := first | exact dsc _ | fail) only [go_sem, ↓reduceIte, Nat.reduceEqDiff, Nat.reduceAdd, Nat.reduceMul, Nat.reduceSub, Nat.reduceLT, Nat.reduceLeDiff, Nat.reduceBEq, reduceCtorEq, BEq.rfl, Int.reduceLT, Int.reduceLE, Int.reduceAdd, Int.reduceToNat, Int.reduceSub, Int.reduceMul, Int.reduceNeg, Int.reduceEq, *] | (with_reducible refine And.intro (by first | omega | assumption | rfl) ?_))
      all_goals ((first | refine Fin_v1 (by rfl) ?_ | refine Fin_vn (by intro h; cases h) ?_ | refine Fin_f1 (by rfl) ?_ | refine Fin_fn (by intro h; cases h) (fun _ => rfl) ?_ | refine Fin_u1 (by rfl) ?_ | refine Fin_un (by intro h; cases h) ?_); try simp +contextual -implicitDefEqProofs (disch := first | exact dsc _ | fail) only [go_sem, push_cast, ↓reduceIte, Nat.reduceEqDiff, Nat.reduceAdd, Nat.reduceMul, Nat.reduceSub, Nat.reduceLT, Nat.reduceLeDiff, Nat.reduceBEq, reduceCtorEq, BEq.rfl, Int.reduceLT, Int.reduceLE, Int.reduceAdd, Int.reduceToNat, Int.reduceSub, Int.reduceMul, Int.reduceNeg, Int.reduceEq, *, sgn0, vote0])
    · have hlen : l.length = 393 := by omega
      repeat' (first | (with_reducible intro _) | (with_reducible refine wcond_not ?_) | ((with_reducible refine wcond_dec (fun _ => ?_) (fun _ => ?_)) <;> try (exfalso; omega)) | (with_reducible refine wcond_split (fun _ => ?_) (fun _ => ?_)) | (with_reducible refine draw_we [(true, []), (false, []), (false, [0]), (false, [10000, 0]), (false, []), (false, []), (false, [])] (by kernel_rfl) (by decide +kernel) ?_) | simp +contextual -implicitDefEqProofs (disch := first | exact dsc _ | fail) only [go_sem, ↓reduceIte, Nat.reduceEqDiff, Nat.reduceAdd, Nat.reduceMul, Nat.reduceSub, Nat.reduceLT, Nat.reduceLeDiff, Nat.reduceBEq, reduceCtorEq, BEq.rfl, Int.reduceLT, Int.reduceLE, Int.reduceAdd, Int.reduceToNat, Int.reduceSub, Int.reduceMul, Int.reduceNeg, Int.reduceEq, *] | (with_reducible refine And.intro (by first | omega | assumption | rfl) ?_))
      · have e : decS l = (⟨(decV (l.take 23)).1, l.drop 23⟩, 0) := by
          have h0 : (decV (l.take 23)).2 = 0 := by assumption
          simp [decS, hlen, h0]
        rw [e]
        ((first | refine Fin_v1 (by rfl) ?_ | refine Fin_vn (by intro h; cases h) ?_ | refine Fin_f1 (by rfl) ?_ | refine Fin_fn (by intro h; cases h) (fun _ => rfl) ?_ | refine Fin_u1 (by rfl) ?_ | refine Fin_un (by intro h; cases h) ?_); try simp +contextual -implicitDefEqProofs (disch := first | exact dsc _ | fail) only [go_sem, push_cast, ↓reduceIte, Nat.reduceEqDiff, Nat.reduceAdd, Nat.reduceMul, Nat.reduceSub, Nat.reduceLT, Nat.reduceLeDiff, Nat.reduceBEq, reduceCtorEq, BEq.rfl, Int.reduceLT, Int.reduceLE, Int.reduceAdd, Int.reduceToNat, Int.reduceSub, Int.reduceMul, Int.reduceNeg, Int.reduceEq, *])
        all_goals simp [be]
      · have e : decS l = (sgn0, (decV (l.take 23)).2) := by
          have h0 : ¬ (decV (l.take 23)).2 = 0 := by assumption
          simp [decS, hlen, h0]
        rw [e]
        ((first | refine Fin_v1 (by rfl) ?_ | refine Fin_vn (by intro h; cases h) ?_ | refine Fin_f1 (by rfl) ?_ | refine Fin_fn (by intro h; cases h) (fun _ => rfl) ?_ | refine Fin_u1 (by rfl) ?_ | refine Fin_un (by intro h; cases h) ?_); try simp +contextual -implicitDefEqProofs (disch := first | exact dsc _ | fail) only [go_sem, push_cast, ↓reduceIte, Nat.reduceEqDiff, Nat.reduceAdd, Nat.reduceMul, Nat.reduceSub, Nat.reduceLT, Nat.reduceLeDiff, Nat.reduceBEq, reduceCtorEq, BEq.rfl, Int.reduceLT, Int.reduceLE, Int.reduceAdd, Int.reduceToNat, Int.reduceSub, Int.reduceMul, Int.reduceNeg, Int.reduceEq, *, sgn0, vote0])
attribute [go_sem ↓] t_signed_Decode
def sp_forkledgerref6_DecodeSigned (args : List AV) : RM CallSpec := sp_signed_Decode args
attribute [go_sem] sp_forkledgerref6_DecodeSigned
theorem t_forkledgerref6_DecodeSigned {l : List UInt8} (hl : l.length ≤ 35184372080000) : FnG Tryz.prog 44 [.list (bys l)] [] (.val (.tup [sgnA (decS l).1, .int .i64 (decS l).2])) = True := by
  refine eq_true ?_
  refine FnG_of_W (sp := spL [(84, sp_forkledgerref6_Decode)]) (tb := tbOf Tryz.prog) (tbOf_ok _) (by kernel_rfl) Tryz.func44 (c := _) rfl (by kernel_rfl) (by kernel_rfl) (Nat.le_of_ble_eq_true rfl) (rs := [.cell 2 57, .tmp 3]) rfl ?_
  unfold FnW
  by_cases h1 : l.length < 393
  · have e : decS l = (sgn0, 2) := by simp [decS, h1]
    rw [e]
    repeat' (first | (with_reducible intro _) | (with_reducible refine wcond_not ?_) | ((with_reducible refine wcond_dec (fun _ => ?_) (fun _ => ?_)) <;> try (exfalso; omega)) | (with_reducible refine wcond_split (fun _ => ?_) (fun _ => ?_)) | (with_reducible refine draw_we [(true, []), (false, []), (false, [0]), (false, [0]), (false, []), (false, []), (false, [])] (by kernel_rfl) (by decide +kernel) ?_) | simp +contextual -implicitDefEqProofs (disch := first | exact dsc _ | fail) only [go_sem, ↓reduceIte, Nat.reduceEqDiff, Nat.reduceAdd, Nat.reduceMul, Nat.reduceSub, Nat.reduceLT, Nat.reduceLeDiff, Nat.reduceBEq, reduceCtorEq, BEq.rfl, Int.reduceLT, Int.reduceLE, Int.reduceAdd, Int.reduceToNat, Int.reduceSub, Int.reduceMul, Int.reduceNeg, Int.reduceEq, *] | (with_reducible refine And.intro (by first | omega | assumption | rfl) ?_))
    all_goals ((first | refine Fin_v1 (by rfl) ?_ | refine Fin_vn (by intro h; cases h) ?_ | refine Fin_f1 (by rfl) ?_ | refine Fin_fn (by intro h; cases h) (fun _ => rfl) ?_ | refine Fin_u1 (by rfl) ?_ | refine Fin_un (by intro h; cases h) ?_); try simp +contextual -implicitDefEqProofs (disch := first | exact dsc _ | fail) only [go_sem, push_cast, ↓reduceIte, Nat.reduceEqDiff, Nat.reduceAdd, Nat.reduceMul, Nat.reduceSub, Nat.reduceLT, Nat.reduceLeDiff, Nat.reduceBEq, reduceCtorEq, BEq.rfl, Int.reduceLT, Int.reduceLE, Int.reduceAdd, Int.reduceToNat, Int.reduceSub, Int.reduceMul, Int.reduceNeg, Int.reduceEq, *, sgn0, vote0])
  · by_cases h2 : 393 < l.length
    · have e : decS l = (sgn0, 3) := by simp [decS, h1, h2]
      rw [e]
      repeat' (first | (with_reducible intro _) | (with_reducible refine wcond_not ?_) | ((with_reducible refine wcond_dec (fun _ => ?_) (fun _ => ?_)) <;> try (exfalso; omega)) | (with_reducible refine wcond_split (fun _ => ?_) (fun _ => ?_)) | (with_reducible refine draw_we [(true, []), (false, []), (false, [0]), (false, [0]), (false, []), (false, []), (false, [])] (by kernel_rfl) (by decide +kernel) ?_) | simp +contextual -implicitDefEqProofs (disch := first | exact dsc _ | fail) only [go_sem, ↓reduceIte, Nat.reduceEqDiff, Nat.reduceAdd, Nat.reduceMul, Nat.reduceSub, Nat.reduceLT, Nat.reduceLeDiff, Nat.reduceBEq, reduceCtorEq, BEq.rfl, Int.reduceLT, Int.reduceLE, Int.reduceAdd, Int.reduceToNat, Int.reduceSub, Int.reduceMul, Int.reduceNeg, Int.reduceEq, *] | (with_reducible refine And.intro (by first | omega | assumption | rfl) ?_))
      all_goals ((first | refine Fin_v1 (by rfl) ?_ | refine Fin_vn (by intro h; cases h) ?_ | refine Fin_f1 (by rfl) ?_ | refine Fin_fn (by intro h; cases h) (fun _ => rfl) ?_ | refine Fin_u1 (by rfl) ?_ | refine Fin_un (by intro h; cases h) ?_); try simp +contextual -implicitDefEqProofs (disch := first | exact dsc _ | fail) only [go_sem, push_cast, ↓reduceIte, Nat.reduceEqDiff, Nat.reduceAdd, Nat.reduceMul, Nat.reduceSub, Nat.reduceLT, Nat.reduceLeDiff, Nat.reduceBEq, reduceCtorEq, BEq.rfl, Int.reduceLT, Int.reduceLE, Int.reduceAdd, Int.reduceToNat, Int.reduceSub, Int.reduceMul, Int.reduceNeg, Int.reduceEq, *, sgn0, vote0])
    · have hlen : l.length = 393 := by omega
      repeat' (first | (with_reducible intro _) | (with_reducible refine wcond_not ?_) | ((with_reducible refine wcond_dec (fun _ => ?_) (fun _ => ?_)) <;> try (exfalso; omega)) | (with_reducible refine wcond_split (fun _ => ?_) (fun _ => ?_)) | (with_reducible refine draw_we [(true, []), (false, []), (false, [0]), (false, [0]), (false, []), (false, []), (false, [])] (by kernel_rfl) (by decide +kernel) ?_) | simp +contextual -implicitDefEqProofs (disch := first | exact dsc _ | fail) only [go_sem, ↓reduceIte, Nat.reduceEqDiff, Nat.reduceAdd, Nat.reduceMul, Nat.reduceSub, Nat.reduceLT, Nat.reduceLeDiff, Nat.reduceBEq, reduceCtorEq, BEq.rfl, Int.reduceLT, Int.reduceLE, Int.reduceAdd, Int.reduceToNat, Int.reduceSub, Int.reduceMul, Int.reduceNeg, Int.reduceEq, *] | (with_reducible refine And.intro (by first | omega | assumption | rfl) ?_))
      · have e : decS l = (⟨(decV (l.take 23)).1, l.drop 23⟩, 0) := by
          have h0 : (decV (l.take 23)).2 = 0 := by assumption
          simp [decS, hlen, h0]
        rw [e]
        ((first | refine Fin_v1 (by rfl) ?_ | refine Fin_vn (by intro h; cases h) ?_ | refine Fin_f1 (by rfl) ?_ | refine Fin_fn (by intro h; cases h) (fun _ => rfl) ?_ | refine Fin_u1 (by rfl) ?_ | refine Fin_un (by intro h; cases h) ?_); try simp +contextual -implicitDefEqProofs (disch := first | exact dsc _ | fail) only [go_sem, push_cast, ↓reduceIte, Nat.reduceEqDiff, Nat.reduceAdd, Nat.reduceMul, Nat.reduceSub, Nat.reduceLT, Nat.reduceLeDiff, Nat.reduceBEq, reduceCtorEq, BEq.rfl, Int.reduceLT, Int.reduceLE, Int.reduceAdd, Int.reduceToNat, Int.reduceSub, Int.reduceMul, Int.reduceNeg, Int.reduceEq, *])
        all_goals simp [be]
      · have e : decS l = (sgn0, (decV (l.take 23)).2) := by
          have h0 : ¬ (decV (l.take 23)).2 = 0 := by assumption
          simp [decS, hlen, h0]
        rw [e]
        ((first | refine Fin_v1 (by rfl) ?_ | refine Fin_vn (by intro h; cases h) ?_ | refine Fin_f1 (by rfl) ?_ | refine Fin_fn (by intro h; cases h) (fun _ => rfl) ?_ | refine Fin_u1 (by rfl) ?_ | refine Fin_un (by intro h; cases h) ?_); try simp +contextual -implicitDefEqProofs (disch := first | exact dsc _ | fail) only [go_sem, push_cast, ↓reduceIte, Nat.reduceEqDiff, Nat.reduceAdd, Nat.reduceMul, Nat.reduceSub, Nat.reduceLT, Nat.reduceLeDiff, Nat.reduceBEq, reduceCtorEq, BEq.rfl, Int.reduceLT, Int.reduceLE, Int.reduceAdd, Int.reduceToNat, Int.reduceSub, Int.reduceMul, Int.reduceNeg, Int.reduceEq, *, sgn0, vote0])
attribute [go_sem ↓] t_forkledgerref6_DecodeSigned
end Go.Am.Tryz
