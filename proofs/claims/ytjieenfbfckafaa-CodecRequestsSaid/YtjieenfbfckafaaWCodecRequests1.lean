/- What the claim of CodecRequests reaches, part 1. -/
import Derived.Test.YtjieenfbfckafaaWCodecRequests0
namespace Go.Proofs.Ytjieenfbfckafaa.Am
open Go
set_option linter.unusedVariables false
set_option linter.unusedSimpArgs false
set_option maxRecDepth 100000
set_option maxHeartbeats 1000000
/-- codec.putRequest -/
theorem putRequest_meets (b : List UInt8) (q : Req) (hq : q.ok) (h : b.length ≤ 100000000000) : Meets Try.prog F_codec_putRequest ⟨[buf 0 b, .agg q.enc], [(0, bob b)], 1, buf 1 (b ++ encReq q), [(1, bob (b ++ encReq q))], 2⟩ := by
  obtain ⟨hw, h1, h3, h4, h5⟩ := hq
  have h6 := encIdent_len hw
  have h7 := len1 h1
  refine fits_codec_putRequest.meets rfl (by simp) fun Q hQ => ?_
  (conv => whnf); repeat' (first | (refine And.intro ?_ ?_; (focus (first | omega | (dsimp only; omega) | (simp only [List.length_append]; omega) | (simp [pb]; done) | (simp [pb]; omega) | (simp [zeros_u8, pb]; done) | (simp [zeros_u8, pb]; omega) | (simp [ByteArray.size]; omega) | exact Nat.le_of_ble_eq_true rfl | exact u64_nonneg _ | (show chkDraw _ _ = true; kernel_rfl) | (decide; done))); (conv => whnf)) | (refine onB_intro (fun hb => ?_) (fun hb => ?_) <;> (try simp only [decide_eq_true_eq, decide_eq_false_iff_not, Bool.not_eq_true', Bool.not_eq_false', Bool.and_eq_true, Bool.and_eq_false_iff, Int.not_le, Int.not_lt, bsz, ByteArray.toList_eq, beq_iff_eq, beq_eq_false_iff_ne, ne_eq] at hb) <;> (try (exfalso; omega)) <;> (try (exfalso; first | contradiction | (simp [ByteArray.toList_eq] at hb; done))) <;> (conv => whnf)) | (refine (hQ _ _ _ ?_).1; (conv => whnf)) | (refine ⟨_, rfl, ?_⟩; (conv => whnf)) | (refine ⟨_, mp_cut _ _ _, ?_⟩; (conv => whnf)) | (refine ⟨_, dbs_cut _ _ _, ?_⟩; (conv => whnf)) | (refine ⟨[_], rfl, ?_⟩; (conv => whnf)) | (refine ⟨[_, _], rfl, ?_⟩; (conv => whnf)) | (refine ⟨[_, _, _], rfl, ?_⟩; (conv => whnf)) | (refine ⟨[_, _, _, _], rfl, ?_⟩; (conv => whnf)) | (apply call_buf (putInts_meets b [q.k] (all1 h1) (by omega) (by simp)) (fun F => by first | exact rfl | exact bob_ren F _ | exact ob_ren F _ _) (fun F => by first | exact rfl | exact bob_ren F _ | exact ob_ren F _ _); (focus ((repeat' (first | exact trivial | exact Sub.refl _ | exact sub_nil | exact Or.inl rfl | exact Or.inr ⟨rfl, rfl⟩ | (refine sub_ref ?_; (first | omega | (simp; done) | (simp; omega))) | (refine sub_int ?_; (first | omega | rfl | (simp [bsz]; done))) | refine sub_tup ?_ | exact sub_agg_dbs_r | exact sub_agg_take_r rfl (by first | assumption | omega) | (refine sub_agg_take rfl ?_; (first | ((try rw [dbs_length]); assumption) | ((try rw [dbs_length]); omega))) | refine sub_agg ?_ | (refine sub_val ?_ ?_ <;> (first | omega | (simp [pb, List.map_take, List.map_drop, List.take_take]; done) | (simp [pb, List.map_take, List.map_drop]; omega) | (simp [pb, List.take_of_length_le]; done))) | (refine or_val ?_ ?_ <;> (first | omega | (simp [pb, List.map_take, List.map_drop, List.take_take]; done) | (simp [pb, List.map_take, List.map_drop]; omega) | (simp [pb, List.take_of_length_le]; done))) | refine And.intro ?_ ?_)); done)); (focus (first | exact rfl | exact hp_eq rfl (dbs_app _ _ _ rfl) | exact hp_eq rfl (dbs_appo _ _ _ _ rfl rfl) | (refine hp_eq rfl ?_; (simp only [bob, ← List.length_append, dbs_appo', dbs_app', bsz]; done)) | (refine hp_eq rfl ?_; (simp [dbs, pb]; done)))); (conv => whnf)) | (apply call_buf (putIdentifier_meets (b ++ encInts [q.k]) q.who hw (by simp only [List.length_append]; omega)) (fun F => by first | exact rfl | exact bob_ren F _ | exact ob_ren F _ _) (fun F => by first | exact rfl | exact bob_ren F _ | exact ob_ren F _ _); (focus ((repeat' (first | exact trivial | exact Sub.refl _ | exact sub_nil | exact Or.inl rfl | exact Or.inr ⟨rfl, rfl⟩ | (refine sub_ref ?_; (first | omega | (simp; done) | (simp; omega))) | (refine sub_int ?_; (first | omega | rfl | (simp [bsz]; done))) | refine sub_tup ?_ | exact sub_agg_dbs_r | exact sub_agg_take_r rfl (by first | assumption | omega) | (refine sub_agg_take rfl ?_; (first | ((try rw [dbs_length]); assumption) | ((try rw [dbs_length]); omega))) | refine sub_agg ?_ | (refine sub_val ?_ ?_ <;> (first | omega | (simp [pb, List.map_take, List.map_drop, List.take_take]; done) | (simp [pb, List.map_take, List.map_drop]; omega) | (simp [pb, List.take_of_length_le]; done))) | (refine or_val ?_ ?_ <;> (first | omega | (simp [pb, List.map_take, List.map_drop, List.take_take]; done) | (simp [pb, List.map_take, List.map_drop]; omega) | (simp [pb, List.take_of_length_le]; done))) | refine And.intro ?_ ?_)); done)); (focus (first | exact rfl | exact hp_eq rfl (dbs_app _ _ _ rfl) | exact hp_eq rfl (dbs_appo _ _ _ _ rfl rfl) | (refine hp_eq rfl ?_; (simp only [bob, ← List.length_append, dbs_appo', dbs_app', bsz]; done)) | (refine hp_eq rfl ?_; (simp [dbs, pb]; done)))); (conv => whnf)) | (apply call_buf (putInts_meets (b ++ encInts [q.k] ++ encIdent q.who) [q.seq, q.day, q.dl] (all3 h3 h4 h5) (by simp only [List.length_append]; omega) (by simp)) (fun F => by first | exact rfl | exact bob_ren F _ | exact ob_ren F _ _) (fun F => by first | exact rfl | exact bob_ren F _ | exact ob_ren F _ _); (focus ((repeat' (first | exact trivial | exact Sub.refl _ | exact sub_nil | exact Or.inl rfl | exact Or.inr ⟨rfl, rfl⟩ | (refine sub_ref ?_; (first | omega | (simp; done) | (simp; omega))) | (refine sub_int ?_; (first | omega | rfl | (simp [bsz]; done))) | refine sub_tup ?_ | exact sub_agg_dbs_r | exact sub_agg_take_r rfl (by first | assumption | omega) | (refine sub_agg_take rfl ?_; (first | ((try rw [dbs_length]); assumption) | ((try rw [dbs_length]); omega))) | refine sub_agg ?_ | (refine sub_val ?_ ?_ <;> (first | omega | (simp [pb, List.map_take, List.map_drop, List.take_take]; done) | (simp [pb, List.map_take, List.map_drop]; omega) | (simp [pb, List.take_of_length_le]; done))) | (refine or_val ?_ ?_ <;> (first | omega | (simp [pb, List.map_take, List.map_drop, List.take_take]; done) | (simp [pb, List.map_take, List.map_drop]; omega) | (simp [pb, List.take_of_length_le]; done))) | refine And.intro ?_ ?_)); done)); (focus (first | exact rfl | exact hp_eq rfl (dbs_app _ _ _ rfl) | exact hp_eq rfl (dbs_appo _ _ _ _ rfl rfl) | (refine hp_eq rfl ?_; (simp only [bob, ← List.length_append, dbs_appo', dbs_app', bsz]; done)) | (refine hp_eq rfl ?_; (simp [dbs, pb]; done)))); (conv => whnf)) | fail)
  all_goals (exact ret_buf rfl rfl rfl (by first | rfl | exact congrArg List.length (by (first | rfl | (simp_all [encReq]; done) | (simp [encReq]; done))) | (simp [bsz, encReq]; omega) | (simp_all [bsz, encReq]; done) | (simp_all [bsz, encReq]; omega)) (by first | rfl | exact congrArg dbs (by (first | rfl | (simp_all [encReq]; done) | (simp [encReq]; done))) | exact (dbs_app _ _ _ rfl).trans (congrArg dbs (by (first | rfl | (simp_all [encReq]; done) | (simp [encReq]; done)))) | exact (dbs_appo _ _ _ _ rfl rfl).trans (congrArg dbs (by (first | rfl | (simp_all [encReq]; done) | (simp [encReq]; done)))) | (simp only [bob, ← List.length_append, dbs_appo', dbs_app', bsz]; exact congrArg dbs (by (first | rfl | (simp_all [encReq]; done) | (simp [encReq]; done))))))
/-- erasureref26.Request -/
theorem rreq_meets (q : Req) (hq : q.ok) : Meets Try.prog F_erasureref26Request ⟨[.agg q.enc], [], 0, buf 0 (encReq q), [(0, bob (encReq q))], 1⟩ := by
  obtain ⟨hw, h1, h3, h4, h5⟩ := hq
  have h6 := encIdent_len hw
  have h7 := len1 h1
  have h8 := len3 h3 h4 h5
  refine fits_erasureref26Request.meets rfl (by simp) fun Q hQ => ?_
  (conv => whnf); repeat' (first | (refine And.intro ?_ ?_; (focus (first | omega | (dsimp only; omega) | (simp only [List.length_append]; omega) | (simp [pb]; done) | (simp [pb]; omega) | (simp [zeros_u8, pb]; done) | (simp [zeros_u8, pb]; omega) | (simp [ByteArray.size]; omega) | exact Nat.le_of_ble_eq_true rfl | exact u64_nonneg _ | (show chkDraw _ _ = true; kernel_rfl) | (decide; done))); (conv => whnf)) | (refine onB_intro (fun hb => ?_) (fun hb => ?_) <;> (try simp only [decide_eq_true_eq, decide_eq_false_iff_not, Bool.not_eq_true', Bool.not_eq_false', Bool.and_eq_true, Bool.and_eq_false_iff, Int.not_le, Int.not_lt, bsz, ByteArray.toList_eq, beq_iff_eq, beq_eq_false_iff_ne, ne_eq] at hb) <;> (try (exfalso; omega)) <;> (try (exfalso; first | contradiction | (simp [ByteArray.toList_eq] at hb; done))) <;> (conv => whnf)) | (refine (hQ _ _ _ ?_).1; (conv => whnf)) | (refine ⟨_, rfl, ?_⟩; (conv => whnf)) | (refine ⟨_, mp_cut _ _ _, ?_⟩; (conv => whnf)) | (refine ⟨_, dbs_cut _ _ _, ?_⟩; (conv => whnf)) | (refine ⟨[_], rfl, ?_⟩; (conv => whnf)) | (refine ⟨[_, _], rfl, ?_⟩; (conv => whnf)) | (refine ⟨[_, _, _], rfl, ?_⟩; (conv => whnf)) | (refine ⟨[_, _, _, _], rfl, ?_⟩; (conv => whnf)) | (refine call_new (rints_meets [q.k] (all1 h1) (by simp)) (fun F => by first | exact rfl | exact bob_ren F _ | exact ob_ren F _ _) ?_ ?_; (focus ((repeat' (first | exact trivial | exact Sub.refl _ | exact sub_nil | exact Or.inl rfl | exact Or.inr ⟨rfl, rfl⟩ | (refine sub_ref ?_; (first | omega | (simp; done) | (simp; omega))) | (refine sub_int ?_; (first | omega | rfl | (simp [bsz]; done))) | refine sub_tup ?_ | exact sub_agg_dbs_r | exact sub_agg_take_r rfl (by first | assumption | omega) | (refine sub_agg_take rfl ?_; (first | ((try rw [dbs_length]); assumption) | ((try rw [dbs_length]); omega))) | refine sub_agg ?_ | (refine sub_val ?_ ?_ <;> (first | omega | (simp [pb, List.map_take, List.map_drop, List.take_take]; done) | (simp [pb, List.map_take, List.map_drop]; omega) | (simp [pb, List.take_of_length_le]; done))) | (refine or_val ?_ ?_ <;> (first | omega | (simp [pb, List.map_take, List.map_drop, List.take_take]; done) | (simp [pb, List.map_take, List.map_drop]; omega) | (simp [pb, List.take_of_length_le]; done))) | refine And.intro ?_ ?_)); done)); (conv => whnf)) | (refine call_new (rident_meets q.who hw) (fun F => by first | exact rfl | exact bob_ren F _ | exact ob_ren F _ _) ?_ ?_; (focus ((repeat' (first | exact trivial | exact Sub.refl _ | exact sub_nil | exact Or.inl rfl | exact Or.inr ⟨rfl, rfl⟩ | (refine sub_ref ?_; (first | omega | (simp; done) | (simp; omega))) | (refine sub_int ?_; (first | omega | rfl | (simp [bsz]; done))) | refine sub_tup ?_ | exact sub_agg_dbs_r | exact sub_agg_take_r rfl (by first | assumption | omega) | (refine sub_agg_take rfl ?_; (first | ((try rw [dbs_length]); assumption) | ((try rw [dbs_length]); omega))) | refine sub_agg ?_ | (refine sub_val ?_ ?_ <;> (first | omega | (simp [pb, List.map_take, List.map_drop, List.take_take]; done) | (simp [pb, List.map_take, List.map_drop]; omega) | (simp [pb, List.take_of_length_le]; done))) | (refine or_val ?_ ?_ <;> (first | omega | (simp [pb, List.map_take, List.map_drop, List.take_take]; done) | (simp [pb, List.map_take, List.map_drop]; omega) | (simp [pb, List.take_of_length_le]; done))) | refine And.intro ?_ ?_)); done)); (conv => whnf)) | (refine call_new (rints_meets [q.seq, q.day, q.dl] (all3 h3 h4 h5) (by simp)) (fun F => by first | exact rfl | exact bob_ren F _ | exact ob_ren F _ _) ?_ ?_; (focus ((repeat' (first | exact trivial | exact Sub.refl _ | exact sub_nil | exact Or.inl rfl | exact Or.inr ⟨rfl, rfl⟩ | (refine sub_ref ?_; (first | omega | (simp; done) | (simp; omega))) | (refine sub_int ?_; (first | omega | rfl | (simp [bsz]; done))) | refine sub_tup ?_ | exact sub_agg_dbs_r | exact sub_agg_take_r rfl (by first | assumption | omega) | (refine sub_agg_take rfl ?_; (first | ((try rw [dbs_length]); assumption) | ((try rw [dbs_length]); omega))) | refine sub_agg ?_ | (refine sub_val ?_ ?_ <;> (first | omega | (simp [pb, List.map_take, List.map_drop, List.take_take]; done) | (simp [pb, List.map_take, List.map_drop]; omega) | (simp [pb, List.take_of_length_le]; done))) | (refine or_val ?_ ?_ <;> (first | omega | (simp [pb, List.map_take, List.map_drop, List.take_take]; done) | (simp [pb, List.map_take, List.map_drop]; omega) | (simp [pb, List.take_of_length_le]; done))) | refine And.intro ?_ ?_)); done)); (conv => whnf)) | fail)
  all_goals (exact ret_new rfl rfl (by first | rfl | exact congrArg List.length (by (first | rfl | (simp_all [encReq]; done) | (simp [encReq]; done))) | (simp [bsz, encReq]; omega) | (simp_all [bsz, encReq]; done) | (simp_all [bsz, encReq]; omega)) (by first | rfl | exact congrArg dbs (by (first | rfl | (simp_all [encReq]; done) | (simp [encReq]; done))) | exact (dbs_app _ _ _ rfl).trans (congrArg dbs (by (first | rfl | (simp_all [encReq]; done) | (simp [encReq]; done)))) | exact (dbs_appo _ _ _ _ rfl rfl).trans (congrArg dbs (by (first | rfl | (simp_all [encReq]; done) | (simp [encReq]; done)))) | (simp only [bob, ← List.length_append, dbs_appo', dbs_app', bsz]; exact congrArg dbs (by (first | rfl | (simp_all [encReq]; done) | (simp [encReq]; done))))))
end Go.Proofs.Ytjieenfbfckafaa.Am
namespace Go.Proofs.Ytjieenfbfckafaa.Am
open Go
set_option linter.unusedVariables false
set_option linter.unusedSimpArgs false
set_option maxRecDepth 100000
set_option maxHeartbeats 1000000
/-- codec.AppendInt -/
theorem aAppendInt_meets (b : List UInt8) (n : Int) (hn : inI64 n) (h : b.length ≤ 10000000000) : Meets Try.prog F_codec_AppendInt ⟨[.c (bs b), vi n], [], 0, .c (bs (b ++ encInt n)), [], 0⟩ := by
  refine Meets.frozenB ?_
  refine fits_codec_AppendInt.meets rfl (by simp) fun Q hQ => ?_
  (conv => whnf); repeat' (first | (refine And.intro ?_ ?_; (focus (first | omega | (dsimp only; omega) | (simp only [List.length_append]; omega) | (simp [pb]; done) | (simp [pb]; omega) | (simp [zeros_u8, pb]; done) | (simp [zeros_u8, pb]; omega) | (simp [ByteArray.size]; omega) | exact Nat.le_of_ble_eq_true rfl | exact u64_nonneg _ | (show chkDraw _ _ = true; kernel_rfl) | (decide; done))); (conv => whnf)) | (refine onB_intro (fun hb => ?_) (fun hb => ?_) <;> (try simp only [decide_eq_true_eq, decide_eq_false_iff_not, Bool.not_eq_true', Bool.not_eq_false', Bool.and_eq_true, Bool.and_eq_false_iff, Int.not_le, Int.not_lt, bsz, ByteArray.toList_eq, beq_iff_eq, beq_eq_false_iff_ne, ne_eq] at hb) <;> (try (exfalso; omega)) <;> (try (exfalso; first | contradiction | (simp [ByteArray.toList_eq] at hb; done))) <;> (conv => whnf)) | (refine (hQ _ _ _ ?_).1; (conv => whnf)) | (refine ⟨_, rfl, ?_⟩; (conv => whnf)) | (refine ⟨_, mp_cut _ _ _, ?_⟩; (conv => whnf)) | (refine ⟨_, dbs_cut _ _ _, ?_⟩; (conv => whnf)) | (refine ⟨[_], rfl, ?_⟩; (conv => whnf)) | (refine ⟨[_, _], rfl, ?_⟩; (conv => whnf)) | (refine ⟨[_, _, _], rfl, ?_⟩; (conv => whnf)) | (refine ⟨[_, _, _, _], rfl, ?_⟩; (conv => whnf)) | (refine call_new (cloned_meets b (by omega)) (fun F => by first | exact rfl | exact bob_ren F _ | exact ob_ren F _ _) ?_ ?_; (focus ((repeat' (first | exact trivial | exact Sub.refl _ | exact sub_nil | exact Or.inl rfl | exact Or.inr ⟨rfl, rfl⟩ | (refine sub_ref ?_; (first | omega | (simp; done) | (simp; omega))) | (refine sub_int ?_; (first | omega | rfl | (simp [bsz]; done))) | refine sub_tup ?_ | exact sub_agg_dbs_r | exact sub_agg_take_r rfl (by first | assumption | omega) | (refine sub_agg_take rfl ?_; (first | ((try rw [dbs_length]); assumption) | ((try rw [dbs_length]); omega))) | refine sub_agg ?_ | (refine sub_val ?_ ?_ <;> (first | omega | (simp [pb, List.map_take, List.map_drop, List.take_take]; done) | (simp [pb, List.map_take, List.map_drop]; omega) | (simp [pb, List.take_of_length_le]; done))) | (refine or_val ?_ ?_ <;> (first | omega | (simp [pb, List.map_take, List.map_drop, List.take_take]; done) | (simp [pb, List.map_take, List.map_drop]; omega) | (simp [pb, List.take_of_length_le]; done))) | refine And.intro ?_ ?_)); done)); (conv => whnf)) | (apply call_buf (putInt_meets b n hn (by omega)) (fun F => by first | exact rfl | exact bob_ren F _ | exact ob_ren F _ _) (fun F => by first | exact rfl | exact bob_ren F _ | exact ob_ren F _ _); (focus ((repeat' (first | exact trivial | exact Sub.refl _ | exact sub_nil | exact Or.inl rfl | exact Or.inr ⟨rfl, rfl⟩ | (refine sub_ref ?_; (first | omega | (simp; done) | (simp; omega))) | (refine sub_int ?_; (first | omega | rfl | (simp [bsz]; done))) | refine sub_tup ?_ | exact sub_agg_dbs_r | exact sub_agg_take_r rfl (by first | assumption | omega) | (refine sub_agg_take rfl ?_; (first | ((try rw [dbs_length]); assumption) | ((try rw [dbs_length]); omega))) | refine sub_agg ?_ | (refine sub_val ?_ ?_ <;> (first | omega | (simp [pb, List.map_take, List.map_drop, List.take_take]; done) | (simp [pb, List.map_take, List.map_drop]; omega) | (simp [pb, List.take_of_length_le]; done))) | (refine or_val ?_ ?_ <;> (first | omega | (simp [pb, List.map_take, List.map_drop, List.take_take]; done) | (simp [pb, List.map_take, List.map_drop]; omega) | (simp [pb, List.take_of_length_le]; done))) | refine And.intro ?_ ?_)); done)); (focus (first | exact rfl | exact hp_eq rfl (dbs_app _ _ _ rfl) | exact hp_eq rfl (dbs_appo _ _ _ _ rfl rfl) | (refine hp_eq rfl ?_; (simp only [bob, ← List.length_append, dbs_appo', dbs_app', bsz]; done)) | (refine hp_eq rfl ?_; (simp [dbs, pb]; done)))); (conv => whnf)) | fail)
  all_goals (exact ret_new rfl rfl (by first | rfl | exact congrArg List.length (by (first | rfl | (simp_all [encInt]; done) | (simp [encInt]; done))) | (simp [bsz, encInt]; omega) | (simp_all [bsz, encInt]; done) | (simp_all [bsz, encInt]; omega)) (by first | rfl | exact congrArg dbs (by (first | rfl | (simp_all [encInt]; done) | (simp [encInt]; done))) | exact (dbs_app _ _ _ rfl).trans (congrArg dbs (by (first | rfl | (simp_all [encInt]; done) | (simp [encInt]; done)))) | exact (dbs_appo _ _ _ _ rfl rfl).trans (congrArg dbs (by (first | rfl | (simp_all [encInt]; done) | (simp [encInt]; done)))) | (simp only [bob, ← List.length_append, dbs_appo', dbs_app', bsz]; exact congrArg dbs (by (first | rfl | (simp_all [encInt]; done) | (simp [encInt]; done))))))
/-- codec.AppendIdentifier -/
theorem aAppendIdentifier_meets (b : List UInt8) (i : Ident) (hi : i.ns.length ≤ 10000000000) (h : b.length ≤ 10000000000) : Meets Try.prog F_codec_AppendIdentifier ⟨[.c (bs b), .agg i.enc], [], 0, .c (bs (b ++ encIdent i)), [], 0⟩ := by
  refine Meets.frozenB ?_
  refine fits_codec_AppendIdentifier.meets rfl (by simp) fun Q hQ => ?_
  (conv => whnf); repeat' (first | (refine And.intro ?_ ?_; (focus (first | omega | (dsimp only; omega) | (simp only [List.length_append]; omega) | (simp [pb]; done) | (simp [pb]; omega) | (simp [zeros_u8, pb]; done) | (simp [zeros_u8, pb]; omega) | (simp [ByteArray.size]; omega) | exact Nat.le_of_ble_eq_true rfl | exact u64_nonneg _ | (show chkDraw _ _ = true; kernel_rfl) | (decide; done))); (conv => whnf)) | (refine onB_intro (fun hb => ?_) (fun hb => ?_) <;> (try simp only [decide_eq_true_eq, decide_eq_false_iff_not, Bool.not_eq_true', Bool.not_eq_false', Bool.and_eq_true, Bool.and_eq_false_iff, Int.not_le, Int.not_lt, bsz, ByteArray.toList_eq, beq_iff_eq, beq_eq_false_iff_ne, ne_eq] at hb) <;> (try (exfalso; omega)) <;> (try (exfalso; first | contradiction | (simp [ByteArray.toList_eq] at hb; done))) <;> (conv => whnf)) | (refine (hQ _ _ _ ?_).1; (conv => whnf)) | (refine ⟨_, rfl, ?_⟩; (conv => whnf)) | (refine ⟨_, mp_cut _ _ _, ?_⟩; (conv => whnf)) | (refine ⟨_, dbs_cut _ _ _, ?_⟩; (conv => whnf)) | (refine ⟨[_], rfl, ?_⟩; (conv => whnf)) | (refine ⟨[_, _], rfl, ?_⟩; (conv => whnf)) | (refine ⟨[_, _, _], rfl, ?_⟩; (conv => whnf)) | (refine ⟨[_, _, _, _], rfl, ?_⟩; (conv => whnf)) | (refine call_new (cloned_meets b (by omega)) (fun F => by first | exact rfl | exact bob_ren F _ | exact ob_ren F _ _) ?_ ?_; (focus ((repeat' (first | exact trivial | exact Sub.refl _ | exact sub_nil | exact Or.inl rfl | exact Or.inr ⟨rfl, rfl⟩ | (refine sub_ref ?_; (first | omega | (simp; done) | (simp; omega))) | (refine sub_int ?_; (first | omega | rfl | (simp [bsz]; done))) | refine sub_tup ?_ | exact sub_agg_dbs_r | exact sub_agg_take_r rfl (by first | assumption | omega) | (refine sub_agg_take rfl ?_; (first | ((try rw [dbs_length]); assumption) | ((try rw [dbs_length]); omega))) | refine sub_agg ?_ | (refine sub_val ?_ ?_ <;> (first | omega | (simp [pb, List.map_take, List.map_drop, List.take_take]; done) | (simp [pb, List.map_take, List.map_drop]; omega) | (simp [pb, List.take_of_length_le]; done))) | (refine or_val ?_ ?_ <;> (first | omega | (simp [pb, List.map_take, List.map_drop, List.take_take]; done) | (simp [pb, List.map_take, List.map_drop]; omega) | (simp [pb, List.take_of_length_le]; done))) | refine And.intro ?_ ?_)); done)); (conv => whnf)) | (apply call_buf (putIdentifier_meets b i hi (by omega)) (fun F => by first | exact rfl | exact bob_ren F _ | exact ob_ren F _ _) (fun F => by first | exact rfl | exact bob_ren F _ | exact ob_ren F _ _); (focus ((repeat' (first | exact trivial | exact Sub.refl _ | exact sub_nil | exact Or.inl rfl | exact Or.inr ⟨rfl, rfl⟩ | (refine sub_ref ?_; (first | omega | (simp; done) | (simp; omega))) | (refine sub_int ?_; (first | omega | rfl | (simp [bsz]; done))) | refine sub_tup ?_ | exact sub_agg_dbs_r | exact sub_agg_take_r rfl (by first | assumption | omega) | (refine sub_agg_take rfl ?_; (first | ((try rw [dbs_length]); assumption) | ((try rw [dbs_length]); omega))) | refine sub_agg ?_ | (refine sub_val ?_ ?_ <;> (first | omega | (simp [pb, List.map_take, List.map_drop, List.take_take]; done) | (simp [pb, List.map_take, List.map_drop]; omega) | (simp [pb, List.take_of_length_le]; done))) | (refine or_val ?_ ?_ <;> (first | omega | (simp [pb, List.map_take, List.map_drop, List.take_take]; done) | (simp [pb, List.map_take, List.map_drop]; omega) | (simp [pb, List.take_of_length_le]; done))) | refine And.intro ?_ ?_)); done)); (focus (first | exact rfl | exact hp_eq rfl (dbs_app _ _ _ rfl) | exact hp_eq rfl (dbs_appo _ _ _ _ rfl rfl) | (refine hp_eq rfl ?_; (simp only [bob, ← List.length_append, dbs_appo', dbs_app', bsz]; done)) | (refine hp_eq rfl ?_; (simp [dbs, pb]; done)))); (conv => whnf)) | fail)
  all_goals (exact ret_new rfl rfl (by first | rfl | exact congrArg List.length (by (first | rfl | (simp_all [encIdent]; done) | (simp [encIdent]; done))) | (simp [bsz, encIdent]; omega) | (simp_all [bsz, encIdent]; done) | (simp_all [bsz, encIdent]; omega)) (by first | rfl | exact congrArg dbs (by (first | rfl | (simp_all [encIdent]; done) | (simp [encIdent]; done))) | exact (dbs_app _ _ _ rfl).trans (congrArg dbs (by (first | rfl | (simp_all [encIdent]; done) | (simp [encIdent]; done)))) | exact (dbs_appo _ _ _ _ rfl rfl).trans (congrArg dbs (by (first | rfl | (simp_all [encIdent]; done) | (simp [encIdent]; done)))) | (simp only [bob, ← List.length_append, dbs_appo', dbs_app', bsz]; exact congrArg dbs (by (first | rfl | (simp_all [encIdent]; done) | (simp [encIdent]; done))))))
/-- codec.AppendLink -/
theorem aAppendLink_meets (b : List UInt8) (l : Link) (hl : l.ok) (h : b.length ≤ 10000000000) : Meets Try.prog F_codec_AppendLink ⟨[.c (bs b), .agg l.enc], [], 0, .c (bs (b ++ encLink l)), [], 0⟩ := by
  refine Meets.frozenB ?_
  refine fits_codec_AppendLink.meets rfl (by simp) fun Q hQ => ?_
  (conv => whnf); repeat' (first | (refine And.intro ?_ ?_; (focus (first | omega | (dsimp only; omega) | (simp only [List.length_append]; omega) | (simp [pb]; done) | (simp [pb]; omega) | (simp [zeros_u8, pb]; done) | (simp [zeros_u8, pb]; omega) | (simp [ByteArray.size]; omega) | exact Nat.le_of_ble_eq_true rfl | exact u64_nonneg _ | (show chkDraw _ _ = true; kernel_rfl) | (decide; done))); (conv => whnf)) | (refine onB_intro (fun hb => ?_) (fun hb => ?_) <;> (try simp only [decide_eq_true_eq, decide_eq_false_iff_not, Bool.not_eq_true', Bool.not_eq_false', Bool.and_eq_true, Bool.and_eq_false_iff, Int.not_le, Int.not_lt, bsz, ByteArray.toList_eq, beq_iff_eq, beq_eq_false_iff_ne, ne_eq] at hb) <;> (try (exfalso; omega)) <;> (try (exfalso; first | contradiction | (simp [ByteArray.toList_eq] at hb; done))) <;> (conv => whnf)) | (refine (hQ _ _ _ ?_).1; (conv => whnf)) | (refine ⟨_, rfl, ?_⟩; (conv => whnf)) | (refine ⟨_, mp_cut _ _ _, ?_⟩; (conv => whnf)) | (refine ⟨_, dbs_cut _ _ _, ?_⟩; (conv => whnf)) | (refine ⟨[_], rfl, ?_⟩; (conv => whnf)) | (refine ⟨[_, _], rfl, ?_⟩; (conv => whnf)) | (refine ⟨[_, _, _], rfl, ?_⟩; (conv => whnf)) | (refine ⟨[_, _, _, _], rfl, ?_⟩; (conv => whnf)) | (refine call_new (cloned_meets b (by omega)) (fun F => by first | exact rfl | exact bob_ren F _ | exact ob_ren F _ _) ?_ ?_; (focus ((repeat' (first | exact trivial | exact Sub.refl _ | exact sub_nil | exact Or.inl rfl | exact Or.inr ⟨rfl, rfl⟩ | (refine sub_ref ?_; (first | omega | (simp; done) | (simp; omega))) | (refine sub_int ?_; (first | omega | rfl | (simp [bsz]; done))) | refine sub_tup ?_ | exact sub_agg_dbs_r | exact sub_agg_take_r rfl (by first | assumption | omega) | (refine sub_agg_take rfl ?_; (first | ((try rw [dbs_length]); assumption) | ((try rw [dbs_length]); omega))) | refine sub_agg ?_ | (refine sub_val ?_ ?_ <;> (first | omega | (simp [pb, List.map_take, List.map_drop, List.take_take]; done) | (simp [pb, List.map_take, List.map_drop]; omega) | (simp [pb, List.take_of_length_le]; done))) | (refine or_val ?_ ?_ <;> (first | omega | (simp [pb, List.map_take, List.map_drop, List.take_take]; done) | (simp [pb, List.map_take, List.map_drop]; omega) | (simp [pb, List.take_of_length_le]; done))) | refine And.intro ?_ ?_)); done)); (conv => whnf)) | (apply call_buf (putLink_meets b l hl (by omega)) (fun F => by first | exact rfl | exact bob_ren F _ | exact ob_ren F _ _) (fun F => by first | exact rfl | exact bob_ren F _ | exact ob_ren F _ _); (focus ((repeat' (first | exact trivial | exact Sub.refl _ | exact sub_nil | exact Or.inl rfl | exact Or.inr ⟨rfl, rfl⟩ | (refine sub_ref ?_; (first | omega | (simp; done) | (simp; omega))) | (refine sub_int ?_; (first | omega | rfl | (simp [bsz]; done))) | refine sub_tup ?_ | exact sub_agg_dbs_r | exact sub_agg_take_r rfl (by first | assumption | omega) | (refine sub_agg_take rfl ?_; (first | ((try rw [dbs_length]); assumption) | ((try rw [dbs_length]); omega))) | refine sub_agg ?_ | (refine sub_val ?_ ?_ <;> (first | omega | (simp [pb, List.map_take, List.map_drop, List.take_take]; done) | (simp [pb, List.map_take, List.map_drop]; omega) | (simp [pb, List.take_of_length_le]; done))) | (refine or_val ?_ ?_ <;> (first | omega | (simp [pb, List.map_take, List.map_drop, List.take_take]; done) | (simp [pb, List.map_take, List.map_drop]; omega) | (simp [pb, List.take_of_length_le]; done))) | refine And.intro ?_ ?_)); done)); (focus (first | exact rfl | exact hp_eq rfl (dbs_app _ _ _ rfl) | exact hp_eq rfl (dbs_appo _ _ _ _ rfl rfl) | (refine hp_eq rfl ?_; (simp only [bob, ← List.length_append, dbs_appo', dbs_app', bsz]; done)) | (refine hp_eq rfl ?_; (simp [dbs, pb]; done)))); (conv => whnf)) | fail)
  all_goals (exact ret_new rfl rfl (by first | rfl | exact congrArg List.length (by (first | rfl | (simp_all [encLink]; done) | (simp [encLink]; done))) | (simp [bsz, encLink]; omega) | (simp_all [bsz, encLink]; done) | (simp_all [bsz, encLink]; omega)) (by first | rfl | exact congrArg dbs (by (first | rfl | (simp_all [encLink]; done) | (simp [encLink]; done))) | exact (dbs_app _ _ _ rfl).trans (congrArg dbs (by (first | rfl | (simp_all [encLink]; done) | (simp [encLink]; done)))) | exact (dbs_appo _ _ _ _ rfl rfl).trans (congrArg dbs (by (first | rfl | (simp_all [encLink]; done) | (simp [encLink]; done)))) | (simp only [bob, ← List.length_append, dbs_appo', dbs_app', bsz]; exact congrArg dbs (by (first | rfl | (simp_all [encLink]; done) | (simp [encLink]; done))))))
/-- codec.AppendHold -/
theorem aAppendHold_meets (b : List UInt8) (q : Hold) (hq : q.ok) (h : b.length ≤ 10000000000) : Meets Try.prog F_codec_AppendHold ⟨[.c (bs b), .agg q.enc], [], 0, .c (bs (b ++ encHold q)), [], 0⟩ := by
  refine Meets.frozenB ?_
  refine fits_codec_AppendHold.meets rfl (by simp) fun Q hQ => ?_
  (conv => whnf); repeat' (first | (refine And.intro ?_ ?_; (focus (first | omega | (dsimp only; omega) | (simp only [List.length_append]; omega) | (simp [pb]; done) | (simp [pb]; omega) | (simp [zeros_u8, pb]; done) | (simp [zeros_u8, pb]; omega) | (simp [ByteArray.size]; omega) | exact Nat.le_of_ble_eq_true rfl | exact u64_nonneg _ | (show chkDraw _ _ = true; kernel_rfl) | (decide; done))); (conv => whnf)) | (refine onB_intro (fun hb => ?_) (fun hb => ?_) <;> (try simp only [decide_eq_true_eq, decide_eq_false_iff_not, Bool.not_eq_true', Bool.not_eq_false', Bool.and_eq_true, Bool.and_eq_false_iff, Int.not_le, Int.not_lt, bsz, ByteArray.toList_eq, beq_iff_eq, beq_eq_false_iff_ne, ne_eq] at hb) <;> (try (exfalso; omega)) <;> (try (exfalso; first | contradiction | (simp [ByteArray.toList_eq] at hb; done))) <;> (conv => whnf)) | (refine (hQ _ _ _ ?_).1; (conv => whnf)) | (refine ⟨_, rfl, ?_⟩; (conv => whnf)) | (refine ⟨_, mp_cut _ _ _, ?_⟩; (conv => whnf)) | (refine ⟨_, dbs_cut _ _ _, ?_⟩; (conv => whnf)) | (refine ⟨[_], rfl, ?_⟩; (conv => whnf)) | (refine ⟨[_, _], rfl, ?_⟩; (conv => whnf)) | (refine ⟨[_, _, _], rfl, ?_⟩; (conv => whnf)) | (refine ⟨[_, _, _, _], rfl, ?_⟩; (conv => whnf)) | (refine call_new (cloned_meets b (by omega)) (fun F => by first | exact rfl | exact bob_ren F _ | exact ob_ren F _ _) ?_ ?_; (focus ((repeat' (first | exact trivial | exact Sub.refl _ | exact sub_nil | exact Or.inl rfl | exact Or.inr ⟨rfl, rfl⟩ | (refine sub_ref ?_; (first | omega | (simp; done) | (simp; omega))) | (refine sub_int ?_; (first | omega | rfl | (simp [bsz]; done))) | refine sub_tup ?_ | exact sub_agg_dbs_r | exact sub_agg_take_r rfl (by first | assumption | omega) | (refine sub_agg_take rfl ?_; (first | ((try rw [dbs_length]); assumption) | ((try rw [dbs_length]); omega))) | refine sub_agg ?_ | (refine sub_val ?_ ?_ <;> (first | omega | (simp [pb, List.map_take, List.map_drop, List.take_take]; done) | (simp [pb, List.map_take, List.map_drop]; omega) | (simp [pb, List.take_of_length_le]; done))) | (refine or_val ?_ ?_ <;> (first | omega | (simp [pb, List.map_take, List.map_drop, List.take_take]; done) | (simp [pb, List.map_take, List.map_drop]; omega) | (simp [pb, List.take_of_length_le]; done))) | refine And.intro ?_ ?_)); done)); (conv => whnf)) | (apply call_buf (putHold_meets b q hq (by omega)) (fun F => by first | exact rfl | exact bob_ren F _ | exact ob_ren F _ _) (fun F => by first | exact rfl | exact bob_ren F _ | exact ob_ren F _ _); (focus ((repeat' (first | exact trivial | exact Sub.refl _ | exact sub_nil | exact Or.inl rfl | exact Or.inr ⟨rfl, rfl⟩ | (refine sub_ref ?_; (first | omega | (simp; done) | (simp; omega))) | (refine sub_int ?_; (first | omega | rfl | (simp [bsz]; done))) | refine sub_tup ?_ | exact sub_agg_dbs_r | exact sub_agg_take_r rfl (by first | assumption | omega) | (refine sub_agg_take rfl ?_; (first | ((try rw [dbs_length]); assumption) | ((try rw [dbs_length]); omega))) | refine sub_agg ?_ | (refine sub_val ?_ ?_ <;> (first | omega | (simp [pb, List.map_take, List.map_drop, List.take_take]; done) | (simp [pb, List.map_take, List.map_drop]; omega) | (simp [pb, List.take_of_length_le]; done))) | (refine or_val ?_ ?_ <;> (first | omega | (simp [pb, List.map_take, List.map_drop, List.take_take]; done) | (simp [pb, List.map_take, List.map_drop]; omega) | (simp [pb, List.take_of_length_le]; done))) | refine And.intro ?_ ?_)); done)); (focus (first | exact rfl | exact hp_eq rfl (dbs_app _ _ _ rfl) | exact hp_eq rfl (dbs_appo _ _ _ _ rfl rfl) | (refine hp_eq rfl ?_; (simp only [bob, ← List.length_append, dbs_appo', dbs_app', bsz]; done)) | (refine hp_eq rfl ?_; (simp [dbs, pb]; done)))); (conv => whnf)) | fail)
  all_goals (exact ret_new rfl rfl (by first | rfl | exact congrArg List.length (by (first | rfl | (simp_all [encHold]; done) | (simp [encHold]; done))) | (simp [bsz, encHold]; omega) | (simp_all [bsz, encHold]; done) | (simp_all [bsz, encHold]; omega)) (by first | rfl | exact congrArg dbs (by (first | rfl | (simp_all [encHold]; done) | (simp [encHold]; done))) | exact (dbs_app _ _ _ rfl).trans (congrArg dbs (by (first | rfl | (simp_all [encHold]; done) | (simp [encHold]; done)))) | exact (dbs_appo _ _ _ _ rfl rfl).trans (congrArg dbs (by (first | rfl | (simp_all [encHold]; done) | (simp [encHold]; done)))) | (simp only [bob, ← List.length_append, dbs_appo', dbs_app', bsz]; exact congrArg dbs (by (first | rfl | (simp_all [encHold]; done) | (simp [encHold]; done))))))
/-- codec.AppendRequest -/
theorem aAppendRequest_meets (b : List UInt8) (q : Req) (hq : q.ok) (h : b.length ≤ 10000000000) : Meets Try.prog F_codec_AppendRequest ⟨[.c (bs b), .agg q.enc], [], 0, .c (bs (b ++ encReq q)), [], 0⟩ := by
  refine Meets.frozenB ?_
  refine fits_codec_AppendRequest.meets rfl (by simp) fun Q hQ => ?_
  (conv => whnf); repeat' (first | (refine And.intro ?_ ?_; (focus (first | omega | (dsimp only; omega) | (simp only [List.length_append]; omega) | (simp [pb]; done) | (simp [pb]; omega) | (simp [zeros_u8, pb]; done) | (simp [zeros_u8, pb]; omega) | (simp [ByteArray.size]; omega) | exact Nat.le_of_ble_eq_true rfl | exact u64_nonneg _ | (show chkDraw _ _ = true; kernel_rfl) | (decide; done))); (conv => whnf)) | (refine onB_intro (fun hb => ?_) (fun hb => ?_) <;> (try simp only [decide_eq_true_eq, decide_eq_false_iff_not, Bool.not_eq_true', Bool.not_eq_false', Bool.and_eq_true, Bool.and_eq_false_iff, Int.not_le, Int.not_lt, bsz, ByteArray.toList_eq, beq_iff_eq, beq_eq_false_iff_ne, ne_eq] at hb) <;> (try (exfalso; omega)) <;> (try (exfalso; first | contradiction | (simp [ByteArray.toList_eq] at hb; done))) <;> (conv => whnf)) | (refine (hQ _ _ _ ?_).1; (conv => whnf)) | (refine ⟨_, rfl, ?_⟩; (conv => whnf)) | (refine ⟨_, mp_cut _ _ _, ?_⟩; (conv => whnf)) | (refine ⟨_, dbs_cut _ _ _, ?_⟩; (conv => whnf)) | (refine ⟨[_], rfl, ?_⟩; (conv => whnf)) | (refine ⟨[_, _], rfl, ?_⟩; (conv => whnf)) | (refine ⟨[_, _, _], rfl, ?_⟩; (conv => whnf)) | (refine ⟨[_, _, _, _], rfl, ?_⟩; (conv => whnf)) | (refine call_new (cloned_meets b (by omega)) (fun F => by first | exact rfl | exact bob_ren F _ | exact ob_ren F _ _) ?_ ?_; (focus ((repeat' (first | exact trivial | exact Sub.refl _ | exact sub_nil | exact Or.inl rfl | exact Or.inr ⟨rfl, rfl⟩ | (refine sub_ref ?_; (first | omega | (simp; done) | (simp; omega))) | (refine sub_int ?_; (first | omega | rfl | (simp [bsz]; done))) | refine sub_tup ?_ | exact sub_agg_dbs_r | exact sub_agg_take_r rfl (by first | assumption | omega) | (refine sub_agg_take rfl ?_; (first | ((try rw [dbs_length]); assumption) | ((try rw [dbs_length]); omega))) | refine sub_agg ?_ | (refine sub_val ?_ ?_ <;> (first | omega | (simp [pb, List.map_take, List.map_drop, List.take_take]; done) | (simp [pb, List.map_take, List.map_drop]; omega) | (simp [pb, List.take_of_length_le]; done))) | (refine or_val ?_ ?_ <;> (first | omega | (simp [pb, List.map_take, List.map_drop, List.take_take]; done) | (simp [pb, List.map_take, List.map_drop]; omega) | (simp [pb, List.take_of_length_le]; done))) | refine And.intro ?_ ?_)); done)); (conv => whnf)) | (apply call_buf (putRequest_meets b q hq (by omega)) (fun F => by first | exact rfl | exact bob_ren F _ | exact ob_ren F _ _) (fun F => by first | exact rfl | exact bob_ren F _ | exact ob_ren F _ _); (focus ((repeat' (first | exact trivial | exact Sub.refl _ | exact sub_nil | exact Or.inl rfl | exact Or.inr ⟨rfl, rfl⟩ | (refine sub_ref ?_; (first | omega | (simp; done) | (simp; omega))) | (refine sub_int ?_; (first | omega | rfl | (simp [bsz]; done))) | refine sub_tup ?_ | exact sub_agg_dbs_r | exact sub_agg_take_r rfl (by first | assumption | omega) | (refine sub_agg_take rfl ?_; (first | ((try rw [dbs_length]); assumption) | ((try rw [dbs_length]); omega))) | refine sub_agg ?_ | (refine sub_val ?_ ?_ <;> (first | omega | (simp [pb, List.map_take, List.map_drop, List.take_take]; done) | (simp [pb, List.map_take, List.map_drop]; omega) | (simp [pb, List.take_of_length_le]; done))) | (refine or_val ?_ ?_ <;> (first | omega | (simp [pb, List.map_take, List.map_drop, List.take_take]; done) | (simp [pb, List.map_take, List.map_drop]; omega) | (simp [pb, List.take_of_length_le]; done))) | refine And.intro ?_ ?_)); done)); (focus (first | exact rfl | exact hp_eq rfl (dbs_app _ _ _ rfl) | exact hp_eq rfl (dbs_appo _ _ _ _ rfl rfl) | (refine hp_eq rfl ?_; (simp only [bob, ← List.length_append, dbs_appo', dbs_app', bsz]; done)) | (refine hp_eq rfl ?_; (simp [dbs, pb]; done)))); (conv => whnf)) | fail)
  all_goals (exact ret_new rfl rfl (by first | rfl | exact congrArg List.length (by (first | rfl | (simp_all [encReq]; done) | (simp [encReq]; done))) | (simp [bsz, encReq]; omega) | (simp_all [bsz, encReq]; done) | (simp_all [bsz, encReq]; omega)) (by first | rfl | exact congrArg dbs (by (first | rfl | (simp_all [encReq]; done) | (simp [encReq]; done))) | exact (dbs_app _ _ _ rfl).trans (congrArg dbs (by (first | rfl | (simp_all [encReq]; done) | (simp [encReq]; done)))) | exact (dbs_appo _ _ _ _ rfl rfl).trans (congrArg dbs (by (first | rfl | (simp_all [encReq]; done) | (simp [encReq]; done)))) | (simp only [bob, ← List.length_append, dbs_appo', dbs_app', bsz]; exact congrArg dbs (by (first | rfl | (simp_all [encReq]; done) | (simp [encReq]; done))))))
structure Ent where
  row : List Val
  cnt : Int
abbrev Ent.pv (e : Ent) : List PV := [.val e.row.length (pvals e.row), pi e.cnt]
theorem Ent.len (e : Ent) : e.pv.length = 2 := rfl
def Ent.ok (e : Ent) : Prop := e.row.length ≤ 1000 ∧ inI64 e.cnt
structure Chg where
  k : Int
  seq : Int
  day : Int
  t : Int
  row : List Val
  key : Val
  col : Int
  val : Val
abbrev Chg.pv (c : Chg) : List PV := [pi c.k, pi c.seq, pi c.day, pi c.t, .val c.row.length (pvals c.row), pi c.key.k, pi c.key.i, pst c.key.t, pi c.col, pi c.val.k, pi c.val.i, pst c.val.t]
abbrev Chg.enc (c : Chg) : List DV := [di c.k, di c.seq, di c.day, di c.t, dvals c.row, di c.key.k, di c.key.i, .p (pst c.key.t), di c.col, di c.val.k, di c.val.i, .p (pst c.val.t)]
def Chg.ok (c : Chg) : Prop := c.row.length ≤ 1000 ∧ inI64 c.k ∧ inI64 c.seq ∧ inI64 c.day ∧ inI64 c.t ∧ inI64 c.col
structure Recd where
  row : List Val
  seq : List Int
  day : Int
abbrev Recd.pv (r : Recd) : List PV := [.val r.row.length (pvals r.row), .val r.seq.length (r.seq.map pi), pi r.day]
abbrev Recd.enc (r : Recd) : List DV := [dvals r.row, dints r.seq, di r.day]
def Recd.ok (r : Recd) : Prop := (r.row.length ≤ 1000 ∧ r.seq.length ≤ 1000) ∧ inI64 r.day ∧ ∀ n ∈ r.seq, inI64 n
structure LE where
  k : Int
  day : Int
  plan : Int
  step : Int
  req : Req
  link : Link
  hold : Hold
  vers : List Ver
  sous : List Sou
  root : List UInt8
abbrev LE.pv (e : LE) : List PV := pi e.k :: pi e.day :: pi e.plan :: pi e.step :: pi e.req.k :: pst e.req.who.ns :: pi e.req.who.v.k :: pi e.req.who.v.i :: pst e.req.who.v.t :: pi e.req.seq :: pi e.req.day :: pi e.req.dl :: pst e.link.a.ns :: pi e.link.a.v.k :: pi e.link.a.v.i :: pst e.link.a.v.t :: pst e.link.b.ns :: pi e.link.b.v.k :: pi e.link.b.v.i :: pst e.link.b.v.t :: pi e.link.seq :: .v (.bool e.link.rev) :: pi e.hold.t :: pi e.hold.c :: pst e.hold.who.ns :: pi e.hold.who.v.k :: pi e.hold.who.v.i :: pst e.hold.who.v.t :: pi e.hold.seq :: pi e.hold.fr :: pi e.hold.to :: .val e.vers.length (e.vers.flatMap Ver.pv) :: .val e.sous.length (e.sous.flatMap Sou.pv) :: pb e.root
abbrev LE.enc (e : LE) : List DV := di e.k :: di e.day :: di e.plan :: di e.step :: di e.req.k :: .p (pst e.req.who.ns) :: di e.req.who.v.k :: di e.req.who.v.i :: .p (pst e.req.who.v.t) :: di e.req.seq :: di e.req.day :: di e.req.dl :: .p (pst e.link.a.ns) :: di e.link.a.v.k :: di e.link.a.v.i :: .p (pst e.link.a.v.t) :: .p (pst e.link.b.ns) :: di e.link.b.v.k :: di e.link.b.v.i :: .p (pst e.link.b.v.t) :: di e.link.seq :: .p (.v (.bool e.link.rev)) :: di e.hold.t :: di e.hold.c :: .p (pst e.hold.who.ns) :: di e.hold.who.v.k :: di e.hold.who.v.i :: .p (pst e.hold.who.v.t) :: di e.hold.seq :: di e.hold.fr :: di e.hold.to :: dvers e.vers :: dsous e.sous :: dbs e.root
structure LE.ok (e : LE) : Prop where
  k : inI64 e.k
  day : inI64 e.day
  plan : inI64 e.plan
  step : inI64 e.step
  req : e.req.ok
  link : e.link.ok
  hold : e.hold.ok
  vers : ∀ v ∈ e.vers, v.ok
  sous : ∀ v ∈ e.sous, v.ok
  vl : e.vers.length ≤ 1000
  sl : e.sous.length ≤ 1000
  root : e.root.length = 32
end Go.Proofs.Ytjieenfbfckafaa.Am
namespace Go.Proofs.Ytjieenfbfckafaa.Am
open Go
set_option linter.unusedVariables false
set_option linter.unusedSimpArgs false
set_option maxRecDepth 100000
set_option maxHeartbeats 1000000
/-- What is left to be read, and the first error. -/
structure Sr where
  b : List UInt8
  e : Int
def Sr.ok (s : Sr) : Prop := s.b.length ≤ 4611686018427387904
def Sr.fail (s : Sr) (x : Int) : Sr := if s.e = 0 then ⟨s.b, x⟩ else s
def decU (i u : Nat) : List UInt8 → Except Int (Nat × List UInt8)
  | [] => .error 100
  | c :: r => if (i = 9 ∧ 1 < c.toNat) ∨ (0 < i ∧ c.toNat = 0) then .error 1 else if c.toNat < 128 then .ok (u + c.toNat % 128 * 2 ^ (7 * i), r) else decU (i + 1) (u + c.toNat % 128 * 2 ^ (7 * i)) r
def unzz (u : Nat) : Int := if u % 2 = 1 then -1 - ((u / 2 : Nat) : Int) else ((u / 2 : Nat) : Int)
def Sr.int (s : Sr) : Int × Sr := if s.e = 0 then (match decU 0 0 s.b with
  | .error x => (0, ⟨s.b, x⟩)
  | .ok (u, r) => (unzz u, ⟨r, 0⟩)) else (0, s)
theorem Sr.int_ok {s : Sr} (he : s.e = 0) {u : Nat} {r : List UInt8} (h : decU 0 0 s.b = .ok (u, r)) : s.int = (unzz u, ⟨r, 0⟩) := by unfold Sr.int; rw [if_pos he, h]
abbrev sob (s : Sr) : Ob := ⟨T_codec_source, [bs s.b, di s.e]⟩
theorem ret_obj {env : List (Nat × TV)} {hp : List (Nat × Ob)} {nx : Nat} {d r : TV} {o o' : Ob} (h1 : look env 0 = some d) (hs : Sub d r) (h2 : look hp 0 = some o) (ho : o = o') (hr : ∀ F, r.ren F = r) (ho' : ∀ F, o'.ren F = o') :
    RetOk 1 ⟨env, hp, nx⟩ r [(0, o')] 1 := by
  subst ho
  refine retn [] rfl rfl ?_ ⟨?_, trivial⟩
  · show SubO (look env 0) _
    rw [h1, hr]
    exact hs
  · show look hp (oldOf 1 nx [] 0) = some (o.ren _)
    rw [ho']
    exact h2
/-- codec.source.fail -/
theorem fail_meets' (s : Sr) (x : Int) : Meets Try.prog F_codec_source_fail ⟨[.c (.ptr 0 0), vi x], [(0, sob s)], 1, .tup [], [(0, sob (s.fail x))], 1⟩ := by
  unfold Sr.fail
  by_cases h : s.e = 0
  · rw [if_pos h]
    refine fits_codec_source_fail.meets rfl (by simp) fun Q hQ => ?_
    (conv => whnf); repeat' (first | (refine And.intro ?_ ?_; (focus (first | omega | (dsimp only; omega) | (simp only [List.length_append]; omega) | (simp [pb]; done) | (simp [pb]; omega) | (simp [zeros_u8, pb]; done) | (simp [zeros_u8, pb]; omega) | (simp [ByteArray.size]; omega) | exact Nat.le_of_ble_eq_true rfl | exact u64_nonneg _ | (show chkDraw _ _ = true; kernel_rfl) | (decide; done))); (conv => whnf)) | (refine onB_intro (fun hb => ?_) (fun hb => ?_) <;> (try simp only [decide_eq_true_eq, decide_eq_false_iff_not, Bool.not_eq_true', Bool.not_eq_false', Bool.and_eq_true, Bool.and_eq_false_iff, Int.not_le, Int.not_lt, bsz, ByteArray.toList_eq, beq_iff_eq, beq_eq_false_iff_ne, ne_eq] at hb) <;> (try (exfalso; omega)) <;> (try (exfalso; first | contradiction | (simp [ByteArray.toList_eq] at hb; done))) <;> (conv => whnf)) | (refine (hQ _ _ _ ?_).1; (conv => whnf)) | (refine ⟨_, rfl, ?_⟩; (conv => whnf)) | (refine ⟨_, mp_cut _ _ _, ?_⟩; (conv => whnf)) | (refine ⟨_, dbs_cut _ _ _, ?_⟩; (conv => whnf)) | (refine ⟨[_], rfl, ?_⟩; (conv => whnf)) | (refine ⟨[_, _], rfl, ?_⟩; (conv => whnf)) | (refine ⟨[_, _, _], rfl, ?_⟩; (conv => whnf)) | (refine ⟨[_, _, _, _], rfl, ?_⟩; (conv => whnf)) | fail)
    refine (hQ _ _ _ ?_).2
    conv => whnf
    exact ret_obj rfl (Sub.refl _) rfl rfl (fun F => rfl) (fun F => rfl)
  · rw [if_neg h]
    refine fits_codec_source_fail.meets rfl (by simp) fun Q hQ => ?_
    (conv => whnf); repeat' (first | (refine And.intro ?_ ?_; (focus (first | omega | (dsimp only; omega) | (simp only [List.length_append]; omega) | (simp [pb]; done) | (simp [pb]; omega) | (simp [zeros_u8, pb]; done) | (simp [zeros_u8, pb]; omega) | (simp [ByteArray.size]; omega) | exact Nat.le_of_ble_eq_true rfl | exact u64_nonneg _ | (show chkDraw _ _ = true; kernel_rfl) | (decide; done))); (conv => whnf)) | (refine onB_intro (fun hb => ?_) (fun hb => ?_) <;> (try simp only [decide_eq_true_eq, decide_eq_false_iff_not, Bool.not_eq_true', Bool.not_eq_false', Bool.and_eq_true, Bool.and_eq_false_iff, Int.not_le, Int.not_lt, bsz, ByteArray.toList_eq, beq_iff_eq, beq_eq_false_iff_ne, ne_eq] at hb) <;> (try (exfalso; omega)) <;> (try (exfalso; first | contradiction | (simp [ByteArray.toList_eq] at hb; done))) <;> (conv => whnf)) | (refine (hQ _ _ _ ?_).1; (conv => whnf)) | (refine ⟨_, rfl, ?_⟩; (conv => whnf)) | (refine ⟨_, mp_cut _ _ _, ?_⟩; (conv => whnf)) | (refine ⟨_, dbs_cut _ _ _, ?_⟩; (conv => whnf)) | (refine ⟨[_], rfl, ?_⟩; (conv => whnf)) | (refine ⟨[_, _], rfl, ?_⟩; (conv => whnf)) | (refine ⟨[_, _, _], rfl, ?_⟩; (conv => whnf)) | (refine ⟨[_, _, _, _], rfl, ?_⟩; (conv => whnf)) | fail)
    refine (hQ _ _ _ ?_).2
    conv => whnf
    exact ret_obj rfl (Sub.refl _) rfl rfl (fun F => rfl) (fun F => rfl)
theorem elem_pb {l : List UInt8} {k : Nat} {c : UInt8} (h : l[k]? = some c) : ((pb l).drop (Int.toNat (k : Int) * 1)).take 1 = [pb1 c] := elem_map h
theorem pb_rest (l : List UInt8) (k : Nat) (n m : Nat) (hn : n = (k + 1) * 1) (hm : l.length ≤ n + m) : ((pb l).drop n).take m = pb (l.drop (k + 1)) := by
  subst hn
  rw [Nat.mul_one, List.take_of_length_le (by simp [pb]; omega), pb_drop]
theorem decU_step {k u : Nat} {c : UInt8} {r : List UInt8} (h1 : ¬((k = 9 ∧ 1 < c.toNat) ∨ (0 < k ∧ c.toNat = 0))) (h2 : ¬c.toNat < 128) : decU k u (c :: r) = decU (k + 1) (u + c.toNat % 128 * 2 ^ (7 * k)) r := by
  rw [decU, if_neg h1, if_neg h2]
theorem decU_last {k u : Nat} {c : UInt8} {r : List UInt8} (h1 : ¬((k = 9 ∧ 1 < c.toNat) ∨ (0 < k ∧ c.toNat = 0))) (h2 : c.toNat < 128) : decU k u (c :: r) = .ok (u + c.toNat % 128 * 2 ^ (7 * k), r) := by
  rw [decU, if_neg h1, if_pos h2]
theorem decU_bad {k u : Nat} {c : UInt8} {r : List UInt8} (h1 : (k = 9 ∧ 1 < c.toNat) ∨ (0 < k ∧ c.toNat = 0)) : decU k u (c :: r) = .error 1 := by
  rw [decU, if_pos h1]
/-- The next seven bits. -/
theorem next_bound {k u : Nat} {c : UInt8} (hk : k ≤ 9) (h9 : k = 9 → c.toNat ≤ 1) (hu : u < 2 ^ (7 * k)) : c.toNat % 128 * 2 ^ (7 * k) < 2 ^ 64 ∧ u + c.toNat % 128 * 2 ^ (7 * k) < 2 ^ 64 ∧ (k < 9 → u + c.toNat % 128 * 2 ^ (7 * k) < 2 ^ (7 * (k + 1))) := by
  have hc : c.toNat % 128 < 128 := Nat.mod_lt _ (by decide)
  have e : 2 ^ (7 * (k + 1)) = 128 * 2 ^ (7 * k) := by rw [Nat.mul_add, Nat.mul_one, Nat.pow_add]; omega
  have h1 : u + c.toNat % 128 * 2 ^ (7 * k) < 2 ^ (7 * (k + 1)) := by
    rw [e]
    have : c.toNat % 128 * 2 ^ (7 * k) ≤ 127 * 2 ^ (7 * k) := Nat.mul_le_mul_right _ (by omega)
    omega
  rcases Nat.lt_or_ge k 9 with h | h
  · have h2 : (2 : Nat) ^ (7 * (k + 1)) ≤ 2 ^ 64 := Nat.pow_le_pow_right (by decide) (by omega)
    exact ⟨by omega, by omega, fun _ => h1⟩
  · have : k = 9 := by omega
    subst this
    have h3 := h9 rfl
    have h4 : c.toNat % 128 ≤ 1 := by omega
    have h5 : c.toNat % 128 * 2 ^ (7 * 9) ≤ 1 * 2 ^ (7 * 9) := Nat.mul_le_mul_right _ h4
    have h6 : (2 : Nat) ^ (7 * 9) + 2 ^ (7 * 9) = 2 ^ 64 := by decide
    exact ⟨by omega, by omega, fun h => by omega⟩
theorem next_u {k u : Nat} {c : UInt8} (hk : k ≤ 9) (h9 : k = 9 → c.toNat ≤ 1) (hu : u < 2 ^ (7 * k)) :
    bits .or .u64 (u : Int) (IntKind.u64.wrap (IntKind.u64.wrap (bits .and .u8 (c.toNat : Int) 127) * 2 ^ min (Int.toNat (IntKind.u64.wrap (7 * IntKind.u64.wrap (k : Int)))) IntKind.u64.bits)) = ((u + c.toNat % 128 * 2 ^ (7 * k) : Nat) : Int) := by
  have hc : c.toNat < 256 := c.toNat_lt
  obtain ⟨h1, h2, _⟩ := next_bound hk h9 hu
  have e1 : min (Int.toNat (IntKind.u64.wrap (7 * IntKind.u64.wrap (k : Int)))) IntKind.u64.bits = 7 * k := by
    rw [wrap_u64_of (n := (k : Int)) (by omega) (by omega), wrap_u64_of (by omega) (by omega)]
    show min _ 64 = _
    omega
  rw [and_127 (by omega) (by omega), e1, wrap_u64_of (n := (c.toNat : Int) % 128) (by omega) (by omega)]
  have e2 : ((c.toNat : Int) % 128) * 2 ^ (7 * k) = ((c.toNat % 128 * 2 ^ (7 * k) : Nat) : Int) := by
    rw [Int.natCast_mul, Int.natCast_pow]; rfl
  have h1' : ((c.toNat % 128 * 2 ^ (7 * k) : Nat) : Int) < 18446744073709551616 := by
    have h := Int.ofNat_lt.2 h1
    rwa [show ((2 ^ 64 : Nat) : Int) = 18446744073709551616 from rfl] at h
  rw [e2, wrap_u64_of (Int.natCast_nonneg _) h1']
  exact or_above (by omega) hu h1
theorem unzz_pos {u : Nat} (hu : u < 2 ^ 64) (h : u % 2 ≠ 1) : IntKind.i64.wrap (Int.fdiv (u : Int) (2 ^ min (Int.toNat 1) IntKind.u64.bits)) = unzz u := by
  rw [show (2 : Int) ^ min (Int.toNat 1) IntKind.u64.bits = 2 by decide, Int.fdiv_eq_ediv_of_nonneg _ (by decide), wrap_i64_of (by omega) (by omega)]
  unfold unzz; rw [if_neg h]; omega
theorem unzz_neg {u : Nat} (hu : u < 2 ^ 64) (h : u % 2 = 1) : bits .xor .i64 (if IntKind.i64.signed = true then -1 else IntKind.i64.max) (IntKind.i64.wrap (Int.fdiv (u : Int) (2 ^ min (Int.toNat 1) IntKind.u64.bits))) = unzz u := by
  rw [show (if IntKind.i64.signed = true then -1 else IntKind.i64.max) = (-1 : Int) by decide, show (2 : Int) ^ min (Int.toNat 1) IntKind.u64.bits = 2 by decide, Int.fdiv_eq_ediv_of_nonneg _ (by decide), wrap_i64_of (by omega) (by omega), xor_i64 (by omega) (by omega)]
  unfold unzz; rw [if_pos h]; omega
/-- codec.source.integer -/
theorem integer_meets (s : Sr) (hs : s.ok) : Meets Try.prog F_codec_source_integer ⟨[.c (.ptr 0 0)], [(0, sob s)], 1, vi s.int.1, [(0, sob s.int.2)], 1⟩ := by
  have hs : s.b.length ≤ 4611686018427387904 := hs
  by_cases he : s.e = 0
  · refine fits_codec_source_integer.meets rfl (by simp) fun Q hQ => ?_
    have hint : s.int = match decU 0 0 s.b with | .error x => (0, ⟨s.b, x⟩) | .ok (u, r) => (unzz u, ⟨r, 0⟩) := by unfold Sr.int; rw [if_pos he]
    (conv => whnf); repeat' (first | (refine And.intro ?_ ?_; (focus (first | omega | (dsimp only; omega) | (simp only [List.length_append]; omega) | (simp [pb]; done) | (simp [pb]; omega) | (simp [zeros_u8, pb]; done) | (simp [zeros_u8, pb]; omega) | (simp [ByteArray.size]; omega) | exact Nat.le_of_ble_eq_true rfl | exact u64_nonneg _ | (show chkDraw _ _ = true; kernel_rfl) | (decide; done))); (conv => whnf)) | (refine onB_intro (fun hb => ?_) (fun hb => ?_) <;> (try simp only [decide_eq_true_eq, decide_eq_false_iff_not, Bool.not_eq_true', Bool.not_eq_false', Bool.and_eq_true, Bool.and_eq_false_iff, Int.not_le, Int.not_lt, bsz, ByteArray.toList_eq, beq_iff_eq, beq_eq_false_iff_ne, ne_eq] at hb) <;> (try (exfalso; omega)) <;> (try (exfalso; first | contradiction | (simp [ByteArray.toList_eq] at hb; done))) <;> (conv => whnf)) | (refine (hQ _ _ _ ?_).1; (conv => whnf)) | (refine ⟨_, rfl, ?_⟩; (conv => whnf)) | (refine ⟨_, mp_cut _ _ _, ?_⟩; (conv => whnf)) | (refine ⟨_, dbs_cut _ _ _, ?_⟩; (conv => whnf)) | (refine ⟨[_], rfl, ?_⟩; (conv => whnf)) | (refine ⟨[_, _], rfl, ?_⟩; (conv => whnf)) | (refine ⟨[_, _, _], rfl, ?_⟩; (conv => whnf)) | (refine ⟨[_, _, _, _], rfl, ?_⟩; (conv => whnf)) | fail)
    refine loop_fam (ι := Nat × Nat) (fun i => ⟨[(0, .c (.ptr 0 0)), (3, .c (.p (.v (.int .u64 i.2)))), (4, vi i.1)], [(0, sob s)], 1⟩) (fun i => 10 - i.1) (fun i => i.1 ≤ 9 ∧ i.1 ≤ s.b.length ∧ i.2 < 2 ^ (7 * i.1) ∧ decU i.1 i.2 (s.b.drop i.1) = decU 0 0 s.b) (0, 0)
      (wkn [] rfl rfl ⟨Sub.refl _, Sub.refl _, Sub.refl _, trivial⟩ ⟨rfl, trivial⟩) ⟨by omega, by omega, by decide, rfl⟩ ?_
    rintro ⟨k, u⟩ ⟨hk, hkl, hu, hdec⟩ K hK
    simp only at hk hkl hu hdec
    cases hd : s.b.drop k with
    | nil =>
      have hle : s.b.length ≤ k := List.drop_eq_nil_iff.1 hd
      rw [hd] at hdec
      rw [← hdec] at hint
      (conv => whnf); repeat' (first | (refine And.intro ?_ ?_; (focus (first | omega | (dsimp only; omega) | (simp only [List.length_append]; omega) | (simp [pb]; done) | (simp [pb]; omega) | (simp [zeros_u8, pb]; done) | (simp [zeros_u8, pb]; omega) | (simp [ByteArray.size]; omega) | exact Nat.le_of_ble_eq_true rfl | exact u64_nonneg _ | (show chkDraw _ _ = true; kernel_rfl) | (decide; done))); (conv => whnf)) | (refine onB_intro (fun hb => ?_) (fun hb => ?_) <;> (try simp only [decide_eq_true_eq, decide_eq_false_iff_not, Bool.not_eq_true', Bool.not_eq_false', Bool.and_eq_true, Bool.and_eq_false_iff, Int.not_le, Int.not_lt, bsz, ByteArray.toList_eq, beq_iff_eq, beq_eq_false_iff_ne, ne_eq] at hb) <;> (try (exfalso; omega)) <;> (try (exfalso; first | contradiction | (simp [ByteArray.toList_eq] at hb; done))) <;> (conv => whnf)) | (refine (hQ _ _ _ ?_).1; (conv => whnf)) | (refine ⟨_, rfl, ?_⟩; (conv => whnf)) | (refine ⟨_, mp_cut _ _ _, ?_⟩; (conv => whnf)) | (refine ⟨_, dbs_cut _ _ _, ?_⟩; (conv => whnf)) | (refine ⟨[_], rfl, ?_⟩; (conv => whnf)) | (refine ⟨[_, _], rfl, ?_⟩; (conv => whnf)) | (refine ⟨[_, _, _], rfl, ?_⟩; (conv => whnf)) | (refine ⟨[_, _, _, _], rfl, ?_⟩; (conv => whnf)) | (apply call_obj (fail_meets' s 100) (fun F => by first | exact rfl | exact bob_ren F _ | exact ob_ren F _ _) (fun F => by first | exact rfl | exact bob_ren F _ | exact ob_ren F _ _); (focus ((repeat' (first | exact trivial | exact Sub.refl _ | exact sub_nil | exact Or.inl rfl | exact Or.inr ⟨rfl, rfl⟩ | (refine sub_ref ?_; (first | omega | (simp; done) | (simp; omega))) | (refine sub_int ?_; (first | omega | rfl | (simp [bsz]; done))) | refine sub_tup ?_ | exact sub_agg_dbs_r | exact sub_agg_take_r rfl (by first | assumption | omega) | (refine sub_agg_take rfl ?_; (first | ((try rw [dbs_length]); assumption) | ((try rw [dbs_length]); omega))) | refine sub_agg ?_ | (refine sub_val ?_ ?_ <;> (first | omega | (simp [pb, List.map_take, List.map_drop, List.take_take]; done) | (simp [pb, List.map_take, List.map_drop]; omega) | (simp [pb, List.take_of_length_le]; done))) | (refine or_val ?_ ?_ <;> (first | omega | (simp [pb, List.map_take, List.map_drop, List.take_take]; done) | (simp [pb, List.map_take, List.map_drop]; omega) | (simp [pb, List.take_of_length_le]; done))) | refine And.intro ?_ ?_)); done)); (focus (first | exact rfl | exact hp_eq rfl (dbs_app _ _ _ rfl) | exact hp_eq rfl (dbs_appo _ _ _ _ rfl rfl) | (refine hp_eq rfl ?_; (simp only [bob, ← List.length_append, dbs_appo', dbs_app', bsz]; done)) | (refine hp_eq rfl ?_; (simp [dbs, pb]; done)))); (conv => whnf)) | fail)
      rw [hint]
      exact ret_obj rfl (Sub.refl _) rfl (by simp [Sr.fail, he, decU]) (fun F => rfl) (fun F => rfl)
    | cons c r =>
      have hc : s.b[k]? = some c := by have := congrArg List.head? hd; rwa [List.head?_drop] at this
      have hlt : k < s.b.length := (List.getElem?_eq_some_iff.1 hc).1
      have hr : r = s.b.drop (k + 1) := by have := congrArg List.tail hd; rw [List.tail_drop] at this; exact this.symm
      have hcb : c.toNat < 256 := c.toNat_lt
      rw [hd] at hdec
      by_cases hbad : (k = 9 ∧ 1 < c.toNat) ∨ (0 < k ∧ c.toNat = 0)
      · rw [decU_bad hbad] at hdec
        rw [← hdec] at hint
        (conv => whnf); repeat' (first | (refine And.intro ?_ ?_; (focus (first | omega | (dsimp only; omega) | (simp only [List.length_append]; omega) | (simp [pb]; done) | (simp [pb]; omega) | (simp [zeros_u8, pb]; done) | (simp [zeros_u8, pb]; omega) | (simp [ByteArray.size]; omega) | exact Nat.le_of_ble_eq_true rfl | exact u64_nonneg _ | (show chkDraw _ _ = true; kernel_rfl) | (decide; done))); (conv => whnf)) | (refine onB_intro (fun hb => ?_) (fun hb => ?_) <;> (try simp only [decide_eq_true_eq, decide_eq_false_iff_not, Bool.not_eq_true', Bool.not_eq_false', Bool.and_eq_true, Bool.and_eq_false_iff, Int.not_le, Int.not_lt, bsz, ByteArray.toList_eq, beq_iff_eq, beq_eq_false_iff_ne, ne_eq] at hb) <;> (try (exfalso; omega)) <;> (try (exfalso; first | contradiction | (simp [ByteArray.toList_eq] at hb; done))) <;> (conv => whnf)) | (refine (hQ _ _ _ ?_).1; (conv => whnf)) | (refine ⟨_, rfl, ?_⟩; (conv => whnf)) | (refine ⟨_, mp_cut _ _ _, ?_⟩; (conv => whnf)) | (refine ⟨_, dbs_cut _ _ _, ?_⟩; (conv => whnf)) | (refine ⟨[_], rfl, ?_⟩; (conv => whnf)) | (refine ⟨[_, _], rfl, ?_⟩; (conv => whnf)) | (refine ⟨[_, _, _], rfl, ?_⟩; (conv => whnf)) | (refine ⟨[_, _, _, _], rfl, ?_⟩; (conv => whnf)) | (apply call_obj (fail_meets' s 1) (fun F => by first | exact rfl | exact bob_ren F _ | exact ob_ren F _ _) (fun F => by first | exact rfl | exact bob_ren F _ | exact ob_ren F _ _); (focus ((repeat' (first | exact trivial | exact Sub.refl _ | exact sub_nil | exact Or.inl rfl | exact Or.inr ⟨rfl, rfl⟩ | (refine sub_ref ?_; (first | omega | (simp; done) | (simp; omega))) | (refine sub_int ?_; (first | omega | rfl | (simp [bsz]; done))) | refine sub_tup ?_ | exact sub_agg_dbs_r | exact sub_agg_take_r rfl (by first | assumption | omega) | (refine sub_agg_take rfl ?_; (first | ((try rw [dbs_length]); assumption) | ((try rw [dbs_length]); omega))) | refine sub_agg ?_ | (refine sub_val ?_ ?_ <;> (first | omega | (simp [pb, List.map_take, List.map_drop, List.take_take]; done) | (simp [pb, List.map_take, List.map_drop]; omega) | (simp [pb, List.take_of_length_le]; done))) | (refine or_val ?_ ?_ <;> (first | omega | (simp [pb, List.map_take, List.map_drop, List.take_take]; done) | (simp [pb, List.map_take, List.map_drop]; omega) | (simp [pb, List.take_of_length_le]; done))) | refine And.intro ?_ ?_)); done)); (focus (first | exact rfl | exact hp_eq rfl (dbs_app _ _ _ rfl) | exact hp_eq rfl (dbs_appo _ _ _ _ rfl rfl) | (refine hp_eq rfl ?_; (simp only [bob, ← List.length_append, dbs_appo', dbs_app', bsz]; done)) | (refine hp_eq rfl ?_; (simp [dbs, pb]; done)))); (conv => whnf)) | (simp only [elem_pb hc]; (conv => whnf)) | fail)
        all_goals rw [hint]
        all_goals exact ret_obj rfl (Sub.refl _) rfl (by simp [Sr.fail, he]) (fun F => rfl) (fun F => rfl)
      · have h9 : k = 9 → c.toNat ≤ 1 := by omega
        obtain ⟨n1, n2, n3⟩ := next_bound hk h9 hu
        by_cases hlast : c.toNat < 128
        · rw [decU_last hbad hlast] at hdec
          rw [← hdec] at hint
          (conv => whnf); repeat' (first | (refine And.intro ?_ ?_; (focus (first | omega | (dsimp only; omega) | (simp only [List.length_append]; omega) | (simp [pb]; done) | (simp [pb]; omega) | (simp [zeros_u8, pb]; done) | (simp [zeros_u8, pb]; omega) | (simp [ByteArray.size]; omega) | exact Nat.le_of_ble_eq_true rfl | exact u64_nonneg _ | (show chkDraw _ _ = true; kernel_rfl) | (decide; done))); (conv => whnf)) | (refine onB_intro (fun hb => ?_) (fun hb => ?_) <;> (try simp only [decide_eq_true_eq, decide_eq_false_iff_not, Bool.not_eq_true', Bool.not_eq_false', Bool.and_eq_true, Bool.and_eq_false_iff, Int.not_le, Int.not_lt, bsz, ByteArray.toList_eq, beq_iff_eq, beq_eq_false_iff_ne, ne_eq] at hb) <;> (try (exfalso; omega)) <;> (try (exfalso; first | contradiction | (simp [ByteArray.toList_eq] at hb; done))) <;> (conv => whnf)) | (refine (hQ _ _ _ ?_).1; (conv => whnf)) | (refine ⟨_, rfl, ?_⟩; (conv => whnf)) | (refine ⟨_, mp_cut _ _ _, ?_⟩; (conv => whnf)) | (refine ⟨_, dbs_cut _ _ _, ?_⟩; (conv => whnf)) | (refine ⟨[_], rfl, ?_⟩; (conv => whnf)) | (refine ⟨[_, _], rfl, ?_⟩; (conv => whnf)) | (refine ⟨[_, _, _], rfl, ?_⟩; (conv => whnf)) | (refine ⟨[_, _, _, _], rfl, ?_⟩; (conv => whnf)) | (simp only [elem_pb hc, next_u hk h9 hu]; (conv => whnf)) | fail)
          all_goals
            rw [hint]
            have hU : ((u + c.toNat % 128 * 2 ^ (7 * k) : Nat) : Int) < 18446744073709551616 := by
              have h := Int.ofNat_lt.2 n2
              rwa [show ((2 ^ 64 : Nat) : Int) = 18446744073709551616 from rfl] at h
            rw [next_u hk h9 hu, and_1 (Int.natCast_nonneg _) hU] at hb
            clear hint hdec
            generalize u + c.toNat % 128 * 2 ^ (7 * k) = U at hU hb n2 ⊢
            first
              | exact ret_obj rfl (sub_int (unzz_neg n2 (by omega))) rfl (ob2_eq (dv_val (by rw [hr]; simp; omega) (by rw [hr]; exact pb_rest _ k _ _ (by omega) (by omega))) (by rw [he])) (fun F => rfl) (fun F => rfl)
              | exact ret_obj rfl (sub_int (unzz_pos n2 (by omega))) rfl (ob2_eq (dv_val (by rw [hr]; simp; omega) (by rw [hr]; exact pb_rest _ k _ _ (by omega) (by omega))) (by rw [he])) (fun F => rfl) (fun F => rfl)
        · rw [decU_step hbad hlast] at hdec
          have hk9 : k ≠ 9 := by omega
          (conv => whnf); repeat' (first | (refine And.intro ?_ ?_; (focus (first | omega | (dsimp only; omega) | (simp only [List.length_append]; omega) | (simp [pb]; done) | (simp [pb]; omega) | (simp [zeros_u8, pb]; done) | (simp [zeros_u8, pb]; omega) | (simp [ByteArray.size]; omega) | exact Nat.le_of_ble_eq_true rfl | exact u64_nonneg _ | (show chkDraw _ _ = true; kernel_rfl) | (decide; done))); (conv => whnf)) | (refine onB_intro (fun hb => ?_) (fun hb => ?_) <;> (try simp only [decide_eq_true_eq, decide_eq_false_iff_not, Bool.not_eq_true', Bool.not_eq_false', Bool.and_eq_true, Bool.and_eq_false_iff, Int.not_le, Int.not_lt, bsz, ByteArray.toList_eq, beq_iff_eq, beq_eq_false_iff_ne, ne_eq] at hb) <;> (try (exfalso; omega)) <;> (try (exfalso; first | contradiction | (simp [ByteArray.toList_eq] at hb; done))) <;> (conv => whnf)) | (refine (hQ _ _ _ ?_).1; (conv => whnf)) | (refine ⟨_, rfl, ?_⟩; (conv => whnf)) | (refine ⟨_, mp_cut _ _ _, ?_⟩; (conv => whnf)) | (refine ⟨_, dbs_cut _ _ _, ?_⟩; (conv => whnf)) | (refine ⟨[_], rfl, ?_⟩; (conv => whnf)) | (refine ⟨[_, _], rfl, ?_⟩; (conv => whnf)) | (refine ⟨[_, _, _], rfl, ?_⟩; (conv => whnf)) | (refine ⟨[_, _, _, _], rfl, ?_⟩; (conv => whnf)) | (simp only [elem_pb hc]; (conv => whnf)) | fail)
          all_goals refine hK _ _ _ (k + 1, u + c.toNat % 128 * 2 ^ (7 * k)) ⟨by dsimp only; omega, by dsimp only; omega, n3 (by omega), by dsimp only; rw [← hr]; exact hdec⟩ (by dsimp only; omega) (wkn [] rfl rfl ⟨Sub.refl _, sub_int (next_u hk h9 hu), sub_int (by dsimp only; omega), trivial⟩ ⟨rfl, trivial⟩)
  · have hint : s.int = (0, s) := by unfold Sr.int; rw [if_neg he]
    rw [hint]
    refine fits_codec_source_integer.meets rfl (by simp) fun Q hQ => ?_
    (conv => whnf); repeat' (first | (refine And.intro ?_ ?_; (focus (first | omega | (dsimp only; omega) | (simp only [List.length_append]; omega) | (simp [pb]; done) | (simp [pb]; omega) | (simp [zeros_u8, pb]; done) | (simp [zeros_u8, pb]; omega) | (simp [ByteArray.size]; omega) | exact Nat.le_of_ble_eq_true rfl | exact u64_nonneg _ | (show chkDraw _ _ = true; kernel_rfl) | (decide; done))); (conv => whnf)) | (refine onB_intro (fun hb => ?_) (fun hb => ?_) <;> (try simp only [decide_eq_true_eq, decide_eq_false_iff_not, Bool.not_eq_true', Bool.not_eq_false', Bool.and_eq_true, Bool.and_eq_false_iff, Int.not_le, Int.not_lt, bsz, ByteArray.toList_eq, beq_iff_eq, beq_eq_false_iff_ne, ne_eq] at hb) <;> (try (exfalso; omega)) <;> (try (exfalso; first | contradiction | (simp [ByteArray.toList_eq] at hb; done))) <;> (conv => whnf)) | (refine (hQ _ _ _ ?_).1; (conv => whnf)) | (refine ⟨_, rfl, ?_⟩; (conv => whnf)) | (refine ⟨_, mp_cut _ _ _, ?_⟩; (conv => whnf)) | (refine ⟨_, dbs_cut _ _ _, ?_⟩; (conv => whnf)) | (refine ⟨[_], rfl, ?_⟩; (conv => whnf)) | (refine ⟨[_, _], rfl, ?_⟩; (conv => whnf)) | (refine ⟨[_, _, _], rfl, ?_⟩; (conv => whnf)) | (refine ⟨[_, _, _, _], rfl, ?_⟩; (conv => whnf)) | fail)
    refine loop_fam (ι := Unit) (fun i => ⟨[(0, .c (.ptr 0 0)), (3, .c (.p (.v (.int .u64 0)))), (4, vi 0)], [(0, sob s)], 1⟩) (fun i => 0) (fun i => True) ()
      (wkn [] rfl rfl ⟨Sub.refl _, Sub.refl _, Sub.refl _, trivial⟩ ⟨rfl, trivial⟩) trivial ?_
    intro i _ K hK
    (conv => whnf); repeat' (first | (refine And.intro ?_ ?_; (focus (first | omega | (dsimp only; omega) | (simp only [List.length_append]; omega) | (simp [pb]; done) | (simp [pb]; omega) | (simp [zeros_u8, pb]; done) | (simp [zeros_u8, pb]; omega) | (simp [ByteArray.size]; omega) | exact Nat.le_of_ble_eq_true rfl | exact u64_nonneg _ | (show chkDraw _ _ = true; kernel_rfl) | (decide; done))); (conv => whnf)) | (refine onB_intro (fun hb => ?_) (fun hb => ?_) <;> (try simp only [decide_eq_true_eq, decide_eq_false_iff_not, Bool.not_eq_true', Bool.not_eq_false', Bool.and_eq_true, Bool.and_eq_false_iff, Int.not_le, Int.not_lt, bsz, ByteArray.toList_eq, beq_iff_eq, beq_eq_false_iff_ne, ne_eq] at hb) <;> (try (exfalso; omega)) <;> (try (exfalso; first | contradiction | (simp [ByteArray.toList_eq] at hb; done))) <;> (conv => whnf)) | (refine (hQ _ _ _ ?_).1; (conv => whnf)) | (refine ⟨_, rfl, ?_⟩; (conv => whnf)) | (refine ⟨_, mp_cut _ _ _, ?_⟩; (conv => whnf)) | (refine ⟨_, dbs_cut _ _ _, ?_⟩; (conv => whnf)) | (refine ⟨[_], rfl, ?_⟩; (conv => whnf)) | (refine ⟨[_, _], rfl, ?_⟩; (conv => whnf)) | (refine ⟨[_, _, _], rfl, ?_⟩; (conv => whnf)) | (refine ⟨[_, _, _, _], rfl, ?_⟩; (conv => whnf)) | fail)
    exact ret_obj rfl (Sub.refl _) rfl rfl (fun F => rfl) (fun F => rfl)
end Go.Proofs.Ytjieenfbfckafaa.Am
namespace Go.Proofs.Ytjieenfbfckafaa.Am
open Go
set_option linter.unusedVariables false
set_option linter.unusedSimpArgs false
set_option maxRecDepth 100000
def r_erasurelaw26CodecRequests_0 : ACode := .reg [
    ⟨some 3, none, .box 105 (.t 0)⟩,
    ⟨some 4, none, .box 107 (.t 1)⟩,
    ⟨some 5, none, .box 109 (.t 2)⟩,
    ⟨some 6, none, .mov (.k (.bool false))⟩] none [3, 4, 5]
def r_erasurelaw26CodecRequests_1 : ACode := .reg [
    ⟨some 22, none, .fld 1 (.t 3)⟩,
    ⟨some 23, none, .load (some 4) (.t 22)⟩,
    ⟨some 24, none, .call 63 [(.t 23)]⟩,
    ⟨some 25, none, .un .not (.t 24)⟩,
    ⟨some 26, none, .mov (.t 25)⟩,
    ⟨some 27, (some (26, false)), .fld 0 (.t 4)⟩,
    ⟨some 28, (some (26, false)), .load (some 4) (.t 27)⟩,
    ⟨some 29, (some (26, false)), .call 63 [(.t 28)]⟩,
    ⟨some 30, (some (26, false)), .un .not (.t 29)⟩,
    ⟨some 31, none, .pick (.t 26) (.k (.bool true)) (.t 30)⟩,
    ⟨some 32, none, .mov (.t 31)⟩,
    ⟨some 33, (some (32, false)), .fld 4 (.t 4)⟩,
    ⟨some 34, (some (32, false)), .load (some 4) (.t 33)⟩,
    ⟨some 35, (some (32, false)), .call 63 [(.t 34)]⟩,
    ⟨some 36, (some (32, false)), .un .not (.t 35)⟩,
    ⟨some 37, none, .pick (.t 32) (.k (.bool true)) (.t 36)⟩,
    ⟨some 38, none, .mov (.t 37)⟩,
    ⟨some 39, (some (38, false)), .fld 2 (.t 5)⟩,
    ⟨some 40, (some (38, false)), .load (some 4) (.t 39)⟩,
    ⟨some 41, (some (38, false)), .call 63 [(.t 40)]⟩,
    ⟨some 42, (some (38, false)), .un .not (.t 41)⟩,
    ⟨some 43, none, .pick (.t 38) (.k (.bool true)) (.t 42)⟩] none [3, 4, 5, 43]
def r_erasurelaw26CodecRequests_2 : ACode := .reg [
    ⟨some 44, none, .call 18 []⟩,
    ⟨some 6, none, .mov (.t 44)⟩] none [6]
def r_erasurelaw26CodecRequests_3 : ACode := .reg [
    ⟨some 45, none, .load (some 8) (.t 3)⟩,
    ⟨some 46, none, .call 64 [(.k (.slice none 0 0)), (.t 45)]⟩,
    ⟨some 7, none, .mov (.t 46)⟩] none [3, 4, 5, 7]
def r_erasurelaw26CodecRequests_4 : ACode := .reg [
    ⟨some 47, none, .mov (.t 7)⟩,
    ⟨some 48, none, .load (some 10) (.t 4)⟩,
    ⟨some 49, none, .call 65 [(.t 47), (.t 48)]⟩,
    ⟨some 8, none, .mov (.t 49)⟩] none [3, 4, 5, 8]
def r_erasurelaw26CodecRequests_5 : ACode := .reg [
    ⟨some 50, none, .mov (.t 8)⟩,
    ⟨some 51, none, .load (some 9) (.t 5)⟩,
    ⟨some 52, none, .call 66 [(.t 50), (.t 51)]⟩,
    ⟨some 9, none, .mov (.t 52)⟩] none [3, 4, 5, 9]
def r_erasurelaw26CodecRequests_6 : ACode := .reg [
    ⟨some 53, none, .mov (.t 9)⟩,
    ⟨some 54, none, .tostr (.t 53)⟩,
    ⟨some 55, none, .load (some 8) (.t 3)⟩,
    ⟨some 56, none, .call 67 [(.t 55)]⟩,
    ⟨some 57, none, .tostr (.t 56)⟩,
    ⟨some 58, none, .load (some 10) (.t 4)⟩,
    ⟨some 59, none, .call 68 [(.t 58)]⟩,
    ⟨some 60, none, .tostr (.t 59)⟩,
    ⟨some 61, none, .bin .add (.t 57) (.t 60)⟩,
    ⟨some 62, none, .load (some 9) (.t 5)⟩,
    ⟨some 63, none, .call 69 [(.t 62)]⟩,
    ⟨some 64, none, .tostr (.t 63)⟩,
    ⟨some 65, none, .bin .add (.t 61) (.t 64)⟩,
    ⟨some 66, none, .bin .neq (.t 54) (.t 65)⟩] (some [0, 1, 0, 4, 12, 0, 44, 108, 252, 0, 620, 1644, 4092, 8191]) [3, 4, 5, 9, 66]
def r_erasurelaw26CodecRequests_7 : ACode := .reg [
    ⟨some 6, none, .mov (.k (.bool false))⟩] none [6]
def r_erasurelaw26CodecRequests_8 : ACode := .reg [
    ⟨some 68, none, .mov (.t 9)⟩,
    ⟨some 69, none, .call 70 [(.t 68)]⟩,
    ⟨some 67, none, .mov (.t 69)⟩,
    ⟨some 70, none, .ext 0 (.t 67)⟩,
    ⟨some 71, none, .ext 1 (.t 67)⟩,
    ⟨some 72, none, .ext 2 (.t 67)⟩,
    ⟨some 10, none, .alloc 105 [.int .i64 0, .string ⟨#[]⟩, .int .i64 0, .int .i64 0, .string ⟨#[]⟩, .int .i64 0, .int .i64 0, .int .i64 0]⟩,
    ⟨none, none, .store 8 (.t 10) (.t 70)⟩,
    ⟨some 11, none, .mov (.t 71)⟩,
    ⟨some 12, none, .mov (.t 72)⟩] none [3, 4, 5, 10, 11, 12]
def r_erasurelaw26CodecRequests_9 : ACode := .reg [
    ⟨some 74, none, .mov (.t 11)⟩,
    ⟨some 75, none, .call 71 [(.t 74)]⟩,
    ⟨some 73, none, .mov (.t 75)⟩,
    ⟨some 76, none, .ext 0 (.t 73)⟩,
    ⟨some 77, none, .ext 1 (.t 73)⟩,
    ⟨some 78, none, .ext 2 (.t 73)⟩,
    ⟨some 13, none, .alloc 107 [.string ⟨#[]⟩, .int .i64 0, .int .i64 0, .string ⟨#[]⟩, .string ⟨#[]⟩, .int .i64 0, .int .i64 0, .string ⟨#[]⟩, .int .i64 0, .bool false]⟩,
    ⟨none, none, .store 10 (.t 13) (.t 76)⟩,
    ⟨some 14, none, .mov (.t 77)⟩,
    ⟨some 15, none, .mov (.t 78)⟩] none [3, 4, 5, 10, 12, 13, 14, 15]
def r_erasurelaw26CodecRequests_10 : ACode := .reg [
    ⟨some 80, none, .mov (.t 14)⟩,
    ⟨some 81, none, .call 72 [(.t 80)]⟩,
    ⟨some 79, none, .mov (.t 81)⟩,
    ⟨some 82, none, .ext 0 (.t 79)⟩,
    ⟨some 83, none, .ext 1 (.t 79)⟩,
    ⟨some 84, none, .ext 2 (.t 79)⟩,
    ⟨some 16, none, .alloc 109 [.int .i64 0, .int .i64 0, .string ⟨#[]⟩, .int .i64 0, .int .i64 0, .string ⟨#[]⟩, .int .i64 0, .int .i64 0, .int .i64 0]⟩,
    ⟨none, none, .store 9 (.t 16) (.t 82)⟩,
    ⟨some 17, none, .mov (.t 83)⟩,
    ⟨some 18, none, .mov (.t 84)⟩] none [3, 4, 5, 10, 12, 13, 15, 16, 17, 18]
def r_erasurelaw26CodecRequests_11 : ACode := .reg [
    ⟨some 86, none, .fld 1 (.t 3)⟩,
    ⟨some 87, none, .load (some 4) (.t 86)⟩,
    ⟨some 88, none, .call 74 [(.k (.slice none 0 0)), (.t 87)]⟩,
    ⟨some 89, none, .lit 5 1 1 [.int .u8 0] [(0, (.k (.int .u8 (9))))] false⟩,
    ⟨some 90, none, .call 21 [(.t 88), (.t 89)]⟩,
    ⟨some 91, none, .call 73 [(.t 90)]⟩,
    ⟨some 85, none, .mov (.t 91)⟩,
    ⟨some 92, none, .ext 0 (.t 85)⟩,
    ⟨some 93, none, .ext 1 (.t 85)⟩,
    ⟨some 94, none, .ext 2 (.t 85)⟩,
    ⟨some 19, none, .alloc 103 [.string ⟨#[]⟩, .int .i64 0, .int .i64 0, .string ⟨#[]⟩]⟩,
    ⟨none, none, .store 4 (.t 19) (.t 92)⟩,
    ⟨some 20, none, .mov (.t 93)⟩,
    ⟨some 21, none, .mov (.t 94)⟩] none [3, 4, 5, 10, 12, 13, 15, 16, 17, 18, 19, 20, 21]
def r_erasurelaw26CodecRequests_12 : ACode := .reg [
    ⟨some 95, none, .fld 1 (.t 3)⟩,
    ⟨some 96, none, .load (some 4) (.t 95)⟩,
    ⟨some 97, none, .call 75 [(.t 96)]⟩,
    ⟨some 98, none, .fld 0 (.t 4)⟩,
    ⟨some 99, none, .load (some 4) (.t 98)⟩,
    ⟨some 100, none, .call 75 [(.t 99)]⟩,
    ⟨some 101, none, .fld 4 (.t 4)⟩,
    ⟨some 102, none, .load (some 4) (.t 101)⟩,
    ⟨some 103, none, .call 75 [(.t 102)]⟩,
    ⟨some 104, none, .fld 2 (.t 5)⟩,
    ⟨some 105, none, .load (some 4) (.t 104)⟩,
    ⟨some 106, none, .call 75 [(.t 105)]⟩,
    ⟨some 107, none, .fld 1 (.t 3)⟩,
    ⟨none, none, .store 4 (.t 107) (.t 97)⟩,
    ⟨some 108, none, .fld 0 (.t 4)⟩,
    ⟨none, none, .store 4 (.t 108) (.t 100)⟩,
    ⟨some 109, none, .fld 4 (.t 4)⟩,
    ⟨none, none, .store 4 (.t 109) (.t 103)⟩,
    ⟨some 110, none, .fld 2 (.t 5)⟩,
    ⟨none, none, .store 4 (.t 110) (.t 106)⟩] (some [0, 1, 3, 0, 8, 31, 0, 64, 255, 0, 512, 2047, 199, 8191, 16383, 32767, 65535, 131071, 262143, 524287]) [3, 4, 5, 10, 12, 13, 15, 16, 17, 18, 19, 20, 21]
def r_erasurelaw26CodecRequests_13 : ACode := .reg [
    ⟨some 111, none, .mov (.t 12)⟩,
    ⟨some 112, none, .bin .eql (.t 111) (.k (.int .i64 (0)))⟩,
    ⟨some 113, none, .mov (.t 112)⟩,
    ⟨some 114, (some (113, true)), .mov (.t 15)⟩,
    ⟨some 115, (some (113, true)), .bin .eql (.t 114) (.k (.int .i64 (0)))⟩,
    ⟨some 116, none, .pick (.t 113) (.t 115) (.k (.bool false))⟩,
    ⟨some 117, none, .mov (.t 116)⟩,
    ⟨some 118, (some (117, true)), .mov (.t 18)⟩,
    ⟨some 119, (some (117, true)), .bin .eql (.t 118) (.k (.int .i64 (0)))⟩,
    ⟨some 120, none, .pick (.t 117) (.t 119) (.k (.bool false))⟩,
    ⟨some 121, none, .mov (.t 120)⟩,
    ⟨some 122, (some (121, true)), .mov (.t 21)⟩,
    ⟨some 123, (some (121, true)), .bin .eql (.t 122) (.k (.int .i64 (0)))⟩,
    ⟨some 124, none, .pick (.t 121) (.t 123) (.k (.bool false))⟩,
    ⟨some 125, none, .mov (.t 124)⟩,
    ⟨some 126, (some (125, true)), .load (some 8) (.t 10)⟩,
    ⟨some 127, (some (125, true)), .load (some 8) (.t 3)⟩,
    ⟨some 128, (some (125, true)), .eqa false [(1, .ti .i64), (1, .ts), (2, .ti .i64), (1, .ts), (3, .ti .i64)] (.t 126) (.t 127)⟩,
    ⟨some 129, none, .pick (.t 125) (.t 128) (.k (.bool false))⟩,
    ⟨some 130, none, .mov (.t 129)⟩,
    ⟨some 131, (some (130, true)), .load (some 10) (.t 13)⟩,
    ⟨some 132, (some (130, true)), .load (some 10) (.t 4)⟩,
    ⟨some 133, (some (130, true)), .eqa false [(1, .ts), (2, .ti .i64), (2, .ts), (2, .ti .i64), (1, .ts), (1, .ti .i64), (1, .tb)] (.t 131) (.t 132)⟩,
    ⟨some 134, none, .pick (.t 130) (.t 133) (.k (.bool false))⟩,
    ⟨some 135, none, .mov (.t 134)⟩,
    ⟨some 136, (some (135, true)), .load (some 9) (.t 16)⟩,
    ⟨some 137, (some (135, true)), .load (some 9) (.t 5)⟩,
    ⟨some 138, (some (135, true)), .eqa false [(2, .ti .i64), (1, .ts), (2, .ti .i64), (1, .ts), (3, .ti .i64)] (.t 136) (.t 137)⟩,
    ⟨some 139, none, .pick (.t 135) (.t 138) (.k (.bool false))⟩,
    ⟨some 140, none, .mov (.t 139)⟩,
    ⟨some 141, (some (140, true)), .load (some 4) (.t 19)⟩,
    ⟨some 142, (some (140, true)), .fld 1 (.t 3)⟩,
    ⟨some 143, (some (140, true)), .load (some 4) (.t 142)⟩,
    ⟨some 144, (some (140, true)), .eqa false [(1, .ts), (2, .ti .i64), (1, .ts)] (.t 141) (.t 143)⟩,
    ⟨some 145, none, .pick (.t 140) (.t 144) (.k (.bool false))⟩,
    ⟨some 146, none, .mov (.t 145)⟩,
    ⟨some 147, (some (146, true)), .mov (.t 17)⟩,
    ⟨some 148, (some (146, true)), .len (.t 147)⟩,
    ⟨some 149, (some (146, true)), .bin .eql (.t 148) (.k (.int .i64 (0)))⟩,
    ⟨some 150, none, .pick (.t 146) (.t 149) (.k (.bool false))⟩,
    ⟨some 151, none, .mov (.t 150)⟩,
    ⟨some 152, (some (151, true)), .mov (.t 20)⟩,
    ⟨some 153, (some (151, true)), .tostr (.t 152)⟩,
    ⟨some 154, (some (151, true)), .bin .eql (.t 153) (.k (.string { data := #[9] }))⟩,
    ⟨some 155, none, .pick (.t 151) (.t 154) (.k (.bool false))⟩,
    ⟨some 156, none, .mov (.t 155)⟩,
    ⟨some 157, (some (156, true)), .call 18 []⟩,
    ⟨some 158, none, .pick (.t 156) (.t 157) (.k (.bool false))⟩,
    ⟨some 6, none, .mov (.t 158)⟩] none [6]
def c_erasurelaw26CodecRequests : ACode :=
  (.seq r_erasurelaw26CodecRequests_0
  (.seq (.seq r_erasurelaw26CodecRequests_1
    (.cond (.t 43)
     (.seq r_erasurelaw26CodecRequests_2
      .ret)
     .skip))
   (.seq r_erasurelaw26CodecRequests_3
    (.seq r_erasurelaw26CodecRequests_4
     (.seq r_erasurelaw26CodecRequests_5
      (.seq (.seq r_erasurelaw26CodecRequests_6
        (.cond (.t 66)
         (.seq r_erasurelaw26CodecRequests_7
          .ret)
         .skip))
       (.seq r_erasurelaw26CodecRequests_8
        (.seq r_erasurelaw26CodecRequests_9
         (.seq r_erasurelaw26CodecRequests_10
          (.seq r_erasurelaw26CodecRequests_11
           (.seq r_erasurelaw26CodecRequests_12
            (.seq r_erasurelaw26CodecRequests_13
             .ret))))))))))))
theorem fits_erasurelaw26CodecRequests : Fits Try.prog 14 159 c_erasurelaw26CodecRequests [.t 6] := ⟨⟨Try.f14, _, _, Try.func14, rfl, rfl, rfl, by decide, by kernel_rfl, by kernel_rfl⟩, Try.checked.mixed⟩
def r_erasurelaw26awake_0 : ACode := .reg [
    ⟨some 0, none, .mov (.k (.bool false))⟩] none []
def r_erasurelaw26awake_1 : ACode := .reg [
    ⟨some 11, none, .lit 5 1 2 [.int .u8 0] [(0, (.k (.int .u8 (128)))), (1, (.k (.int .u8 (0))))] false⟩,
    ⟨some 12, none, .call 20 [(.t 11)]⟩,
    ⟨some 10, none, .mov (.t 12)⟩,
    ⟨some 13, none, .ext 0 (.t 10)⟩,
    ⟨some 14, none, .ext 1 (.t 10)⟩,
    ⟨some 15, none, .ext 2 (.t 10)⟩,
    ⟨some 1, none, .mov (.t 13)⟩,
    ⟨some 2, none, .mov (.t 14)⟩,
    ⟨some 3, none, .mov (.t 15)⟩] none [3]
def r_erasurelaw26awake_2 : ACode := .reg [
    ⟨some 17, none, .lit 5 1 1 [.int .u8 0] [(0, (.k (.int .u8 (128))))] false⟩,
    ⟨some 18, none, .call 20 [(.t 17)]⟩,
    ⟨some 16, none, .mov (.t 18)⟩,
    ⟨some 19, none, .ext 0 (.t 16)⟩,
    ⟨some 20, none, .ext 1 (.t 16)⟩,
    ⟨some 21, none, .ext 2 (.t 16)⟩,
    ⟨some 4, none, .mov (.t 19)⟩,
    ⟨some 5, none, .mov (.t 20)⟩,
    ⟨some 6, none, .mov (.t 21)⟩] none [3, 6]
def r_erasurelaw26awake_3 : ACode := .reg [
    ⟨some 23, none, .lit 5 1 3 [.int .u8 0] [(0, (.k (.int .u8 (128)))), (1, (.k (.int .u8 (1)))), (2, (.k (.int .u8 (7))))] false⟩,
    ⟨some 24, none, .call 20 [(.t 23)]⟩,
    ⟨some 22, none, .mov (.t 24)⟩,
    ⟨some 25, none, .ext 0 (.t 22)⟩,
    ⟨some 26, none, .ext 1 (.t 22)⟩,
    ⟨some 27, none, .ext 2 (.t 22)⟩,
    ⟨some 7, none, .mov (.t 25)⟩,
    ⟨some 8, none, .mov (.t 26)⟩,
    ⟨some 9, none, .mov (.t 27)⟩] none [3, 6, 7, 8, 9]
def r_erasurelaw26awake_4 : ACode := .reg [
    ⟨some 28, none, .call 19 [(.k (.slice none 0 0)), (.k (.int .i64 (-1)))]⟩,
    ⟨some 29, none, .tostr (.t 28)⟩,
    ⟨some 30, none, .bin .eql (.t 29) (.k (.string { data := #[1] }))⟩,
    ⟨some 31, none, .mov (.t 30)⟩,
    ⟨some 32, (some (31, true)), .mov (.t 3)⟩,
    ⟨some 33, (some (31, true)), .bin .eql (.t 32) (.k (.int .i64 (1)))⟩,
    ⟨some 34, none, .pick (.t 31) (.t 33) (.k (.bool false))⟩,
    ⟨some 35, none, .mov (.t 34)⟩,
    ⟨some 36, (some (35, true)), .mov (.t 6)⟩,
    ⟨some 37, (some (35, true)), .bin .eql (.t 36) (.k (.int .i64 (100)))⟩,
    ⟨some 38, none, .pick (.t 35) (.t 37) (.k (.bool false))⟩,
    ⟨some 39, none, .mov (.t 38)⟩,
    ⟨some 40, (some (39, true)), .mov (.t 9)⟩,
    ⟨some 41, (some (39, true)), .bin .eql (.t 40) (.k (.int .i64 (0)))⟩,
    ⟨some 42, none, .pick (.t 39) (.t 41) (.k (.bool false))⟩,
    ⟨some 43, none, .mov (.t 42)⟩,
    ⟨some 44, (some (43, true)), .mov (.t 7)⟩,
    ⟨some 45, (some (43, true)), .bin .eql (.t 44) (.k (.int .i64 (64)))⟩,
    ⟨some 46, none, .pick (.t 43) (.t 45) (.k (.bool false))⟩,
    ⟨some 47, none, .mov (.t 46)⟩,
    ⟨some 48, (some (47, true)), .mov (.t 8)⟩,
    ⟨some 49, (some (47, true)), .len (.t 48)⟩,
    ⟨some 50, (some (47, true)), .bin .eql (.t 49) (.k (.int .i64 (1)))⟩,
    ⟨some 51, none, .pick (.t 47) (.t 50) (.k (.bool false))⟩,
    ⟨some 0, none, .mov (.t 51)⟩] none [0]
def c_erasurelaw26awake : ACode :=
  (.seq r_erasurelaw26awake_0
  (.seq r_erasurelaw26awake_1
   (.seq r_erasurelaw26awake_2
    (.seq r_erasurelaw26awake_3
     (.seq r_erasurelaw26awake_4
      .ret)))))
theorem fits_erasurelaw26awake : Fits Try.prog 18 52 c_erasurelaw26awake [.t 0] := ⟨⟨Try.f18, _, _, Try.func18, rfl, rfl, rfl, by decide, by kernel_rfl, by kernel_rfl⟩, Try.checked.mixed⟩
def r_erasurelaw26join_0 : ACode := .reg [
    ⟨some 4, none, .mov (.k (.slice none 0 0))⟩] none [0, 1]
def r_erasurelaw26join_1 : ACode := .reg [
    ⟨some 5, none, .lit 5 1 0 [.int .u8 0] [] true⟩,
    ⟨some 6, none, .mov (.t 0)⟩,
    ⟨some 7, none, .app 5 1 1 (.t 5) (.t 6)⟩,
    ⟨some 8, none, .mov (.t 1)⟩,
    ⟨some 9, none, .app 5 1 1 (.t 7) (.t 8)⟩,
    ⟨some 4, none, .mov (.t 9)⟩] none [4]
def c_erasurelaw26join : ACode :=
  (.seq r_erasurelaw26join_0
  (.seq r_erasurelaw26join_1
   .ret))
theorem fits_erasurelaw26join : Fits Try.prog 21 10 c_erasurelaw26join [.t 4] := ⟨⟨Try.f21, _, _, Try.func21, rfl, rfl, rfl, by decide, by kernel_rfl, by kernel_rfl⟩, Try.checked.mixed⟩
def r_erasurelaw26named_0 : ACode := .reg [
    ⟨some 1, none, .box 103 (.t 0)⟩,
    ⟨some 2, none, .mov (.k (.bool false))⟩] none [1]
def r_erasurelaw26named_1 : ACode := .reg [
    ⟨some 3, none, .fld 0 (.t 1)⟩,
    ⟨some 4, none, .load none (.t 3)⟩,
    ⟨some 5, none, .lens (.t 4)⟩,
    ⟨some 6, none, .bin .leq (.t 5) (.k (.int .i64 (16)))⟩,
    ⟨some 2, none, .mov (.t 6)⟩] none [2]
def c_erasurelaw26named : ACode :=
  (.seq r_erasurelaw26named_0
  (.seq r_erasurelaw26named_1
   .ret))
theorem fits_erasurelaw26named : Fits Try.prog 63 7 c_erasurelaw26named [.t 2] := ⟨⟨Try.f63, _, _, Try.func63, rfl, rfl, rfl, by decide, by kernel_rfl, by kernel_rfl⟩, Try.checked.mixed⟩
def r_erasurelaw26clean_0 : ACode := .reg [
    ⟨some 1, none, .box 103 (.t 0)⟩,
    ⟨some 2, none, .alloc 103 [.string ⟨#[]⟩, .int .i64 0, .int .i64 0, .string ⟨#[]⟩]⟩] none [1, 2]
def r_erasurelaw26clean_1 : ACode := .reg [
    ⟨some 3, none, .fld 0 (.t 1)⟩,
    ⟨some 4, none, .load none (.t 3)⟩,
    ⟨some 5, none, .fld 1 (.t 1)⟩,
    ⟨some 6, none, .load (some 3) (.t 5)⟩,
    ⟨some 7, none, .call 43 [(.t 6)]⟩,
    ⟨some 8, none, .build [.string ⟨#[]⟩, .int .i64 0, .int .i64 0, .string ⟨#[]⟩] [(0, 1, (.t 4)), (1, 3, (.t 7))]⟩,
    ⟨none, none, .store 4 (.t 2) (.t 8)⟩] (some [0, 1, 0, 4, 12, 31, 63]) [2]
def c_erasurelaw26clean : ACode :=
  (.seq r_erasurelaw26clean_0
  (.seq r_erasurelaw26clean_1
   .ret))
theorem fits_erasurelaw26clean : Fits Try.prog 75 9 c_erasurelaw26clean [.c 2 (some 4)] := ⟨⟨Try.f75, _, _, Try.func75, rfl, rfl, rfl, by decide, by kernel_rfl, by kernel_rfl⟩, Try.checked.mixed⟩
end Go.Proofs.Ytjieenfbfckafaa.Am
namespace Go.Proofs.Ytjieenfbfckafaa.Am
open Go
set_option linter.unusedVariables false
set_option linter.unusedSimpArgs false
set_option maxRecDepth 100000
set_option maxHeartbeats 1000000
/-- codec.source.rest -/
theorem rest_meets (s : Sr) (hs : s.b.length ≤ 70368744177664) : Meets Try.prog F_codec_source_rest ⟨[.c (.ptr 0 0)], [(0, sob s)], 1, .c (bs s.b), [(0, sob s)], 1⟩ := by
  refine fits_codec_source_rest.meets rfl (by simp) fun Q hQ => ?_
  (conv => whnf); repeat' (first | (refine And.intro ?_ ?_; (focus (first | omega | (dsimp only; omega) | (simp only [List.length_append]; omega) | (simp [pb]; done) | (simp [pb]; omega) | (simp [zeros_u8, pb]; done) | (simp [zeros_u8, pb]; omega) | (simp [ByteArray.size]; omega) | exact Nat.le_of_ble_eq_true rfl | exact u64_nonneg _ | (show chkDraw _ _ = true; kernel_rfl) | (decide; done))); (conv => whnf)) | (refine onB_intro (fun hb => ?_) (fun hb => ?_) <;> (try simp only [decide_eq_true_eq, decide_eq_false_iff_not, Bool.not_eq_true', Bool.not_eq_false', Bool.and_eq_true, Bool.and_eq_false_iff, Int.not_le, Int.not_lt, bsz, ByteArray.toList_eq, beq_iff_eq, beq_eq_false_iff_ne, ne_eq] at hb) <;> (try (exfalso; omega)) <;> (try (exfalso; first | contradiction | (simp [ByteArray.toList_eq] at hb; done))) <;> (conv => whnf)) | (refine (hQ _ _ _ ?_).1; (conv => whnf)) | (refine ⟨_, rfl, ?_⟩; (conv => whnf)) | (refine ⟨_, mp_cut _ _ _, ?_⟩; (conv => whnf)) | (refine ⟨_, dbs_cut _ _ _, ?_⟩; (conv => whnf)) | (refine ⟨[_], rfl, ?_⟩; (conv => whnf)) | (refine ⟨[_, _], rfl, ?_⟩; (conv => whnf)) | (refine ⟨[_, _, _], rfl, ?_⟩; (conv => whnf)) | (refine ⟨[_, _, _, _], rfl, ?_⟩; (conv => whnf)) | fail)
  refine RetOk.freeze 1 T_u8 (pb s.b) rfl ?_
  exact ret_obj rfl (sub_val rfl (by rw [List.drop_zero, List.take_of_length_le (by simp [pb])])) rfl rfl (fun F => rfl) (fun F => rfl)
def readInt (b : List UInt8) : Int × List UInt8 × Int := if (Sr.int ⟨b, 0⟩).2.e = 0 then ((Sr.int ⟨b, 0⟩).1, (Sr.int ⟨b, 0⟩).2.b, 0) else (0, [], (Sr.int ⟨b, 0⟩).2.e)
theorem decU_len : ∀ (b : List UInt8) (i u : Nat) {v : Nat} {r : List UInt8}, decU i u b = .ok (v, r) → r.length ≤ b.length
  | [], i, u, v, r, h => by simp [decU] at h
  | c :: l, i, u, v, r, h => by
    rw [decU] at h
    split at h
    · cases h
    · split at h
      · cases h; simp
      · have := decU_len l _ _ h; simp; omega
theorem Sr.int_len (s : Sr) : s.int.2.b.length ≤ s.b.length := by
  unfold Sr.int
  split
  · split
    · exact Nat.le_refl _
    · rename_i h; exact decU_len _ _ _ h
  · exact Nat.le_refl _
/-- codec.ReadInt -/
theorem readInt_meets (b : List UInt8) (hb : b.length ≤ 70368744177664) : Meets Try.prog F_codec_ReadInt ⟨[.c (bs b)], [], 0, .tup [vi (readInt b).1, .c (bs (readInt b).2.1), vi (readInt b).2.2], [], 0⟩ := by
  have hl := Sr.int_len ⟨b, 0⟩
  have m := integer_meets ⟨b, 0⟩ (by show b.length ≤ _; omega)
  unfold readInt
  generalize Sr.int ⟨b, 0⟩ = x at m hl ⊢
  obtain ⟨n, s⟩ := x
  simp only at hl m ⊢
  refine fits_codec_ReadInt.meets rfl (by simp) fun Q hQ => ?_
  (conv => whnf); repeat' (first | (refine And.intro ?_ ?_; (focus (first | omega | (dsimp only; omega) | (simp only [List.length_append]; omega) | (simp [pb]; done) | (simp [pb]; omega) | (simp [zeros_u8, pb]; done) | (simp [zeros_u8, pb]; omega) | (simp [ByteArray.size]; omega) | exact Nat.le_of_ble_eq_true rfl | exact u64_nonneg _ | (show chkDraw _ _ = true; kernel_rfl) | (decide; done))); (conv => whnf)) | (refine onB_intro (fun hb => ?_) (fun hb => ?_) <;> (try simp only [decide_eq_true_eq, decide_eq_false_iff_not, Bool.not_eq_true', Bool.not_eq_false', Bool.and_eq_true, Bool.and_eq_false_iff, Int.not_le, Int.not_lt, bsz, ByteArray.toList_eq, beq_iff_eq, beq_eq_false_iff_ne, ne_eq] at hb) <;> (try (exfalso; omega)) <;> (try (exfalso; first | contradiction | (simp [ByteArray.toList_eq] at hb; done))) <;> (conv => whnf)) | (refine (hQ _ _ _ ?_).1; (conv => whnf)) | (refine ⟨_, rfl, ?_⟩; (conv => whnf)) | (refine ⟨_, mp_cut _ _ _, ?_⟩; (conv => whnf)) | (refine ⟨_, dbs_cut _ _ _, ?_⟩; (conv => whnf)) | (refine ⟨[_], rfl, ?_⟩; (conv => whnf)) | (refine ⟨[_, _], rfl, ?_⟩; (conv => whnf)) | (refine ⟨[_, _, _], rfl, ?_⟩; (conv => whnf)) | (refine ⟨[_, _, _, _], rfl, ?_⟩; (conv => whnf)) | (apply call_obj (m) (fun F => by first | exact rfl | exact bob_ren F _ | exact ob_ren F _ _) (fun F => by first | exact rfl | exact bob_ren F _ | exact ob_ren F _ _); (focus ((repeat' (first | exact trivial | exact Sub.refl _ | exact sub_nil | exact Or.inl rfl | exact Or.inr ⟨rfl, rfl⟩ | (refine sub_ref ?_; (first | omega | (simp; done) | (simp; omega))) | (refine sub_int ?_; (first | omega | rfl | (simp [bsz]; done))) | refine sub_tup ?_ | exact sub_agg_dbs_r | exact sub_agg_take_r rfl (by first | assumption | omega) | (refine sub_agg_take rfl ?_; (first | ((try rw [dbs_length]); assumption) | ((try rw [dbs_length]); omega))) | refine sub_agg ?_ | (refine sub_val ?_ ?_ <;> (first | omega | (simp [pb, List.map_take, List.map_drop, List.take_take]; done) | (simp [pb, List.map_take, List.map_drop]; omega) | (simp [pb, List.take_of_length_le]; done))) | (refine or_val ?_ ?_ <;> (first | omega | (simp [pb, List.map_take, List.map_drop, List.take_take]; done) | (simp [pb, List.map_take, List.map_drop]; omega) | (simp [pb, List.take_of_length_le]; done))) | refine And.intro ?_ ?_)); done)); (focus (first | exact rfl | exact hp_eq rfl (dbs_app _ _ _ rfl) | exact hp_eq rfl (dbs_appo _ _ _ _ rfl rfl) | (refine hp_eq rfl ?_; (simp only [bob, ← List.length_append, dbs_appo', dbs_app', bsz]; done)) | (refine hp_eq rfl ?_; (simp [dbs, pb]; done)))); (conv => whnf)) | (apply call_obj (rest_meets s (by omega)) (fun F => by first | exact rfl | exact bob_ren F _ | exact ob_ren F _ _) (fun F => by first | exact rfl | exact bob_ren F _ | exact ob_ren F _ _); (focus ((repeat' (first | exact trivial | exact Sub.refl _ | exact sub_nil | exact Or.inl rfl | exact Or.inr ⟨rfl, rfl⟩ | (refine sub_ref ?_; (first | omega | (simp; done) | (simp; omega))) | (refine sub_int ?_; (first | omega | rfl | (simp [bsz]; done))) | refine sub_tup ?_ | exact sub_agg_dbs_r | exact sub_agg_take_r rfl (by first | assumption | omega) | (refine sub_agg_take rfl ?_; (first | ((try rw [dbs_length]); assumption) | ((try rw [dbs_length]); omega))) | refine sub_agg ?_ | (refine sub_val ?_ ?_ <;> (first | omega | (simp [pb, List.map_take, List.map_drop, List.take_take]; done) | (simp [pb, List.map_take, List.map_drop]; omega) | (simp [pb, List.take_of_length_le]; done))) | (refine or_val ?_ ?_ <;> (first | omega | (simp [pb, List.map_take, List.map_drop, List.take_take]; done) | (simp [pb, List.map_take, List.map_drop]; omega) | (simp [pb, List.take_of_length_le]; done))) | refine And.intro ?_ ?_)); done)); (focus (first | exact rfl | exact hp_eq rfl (dbs_app _ _ _ rfl) | exact hp_eq rfl (dbs_appo _ _ _ _ rfl rfl) | (refine hp_eq rfl ?_; (simp only [bob, ← List.length_append, dbs_appo', dbs_app', bsz]; done)) | (refine hp_eq rfl ?_; (simp [dbs, pb]; done)))); (conv => whnf)) | fail)
  all_goals
    refine RetOk.pure' (fun f => rfl) ?_
    first
      | (rw [if_pos hb]; ((repeat' (first | exact trivial | exact Sub.refl _ | exact sub_nil | exact Or.inl rfl | exact Or.inr ⟨rfl, rfl⟩ | (refine sub_ref ?_; (first | omega | (simp; done) | (simp; omega))) | (refine sub_int ?_; (first | omega | rfl | (simp [bsz]; done))) | refine sub_tup ?_ | exact sub_agg_dbs_r | exact sub_agg_take_r rfl (by first | assumption | omega) | (refine sub_agg_take rfl ?_; (first | ((try rw [dbs_length]); assumption) | ((try rw [dbs_length]); omega))) | refine sub_agg ?_ | (refine sub_val ?_ ?_ <;> (first | omega | (simp [pb, List.map_take, List.map_drop, List.take_take]; done) | (simp [pb, List.map_take, List.map_drop]; omega) | (simp [pb, List.take_of_length_le]; done))) | (refine or_val ?_ ?_ <;> (first | omega | (simp [pb, List.map_take, List.map_drop, List.take_take]; done) | (simp [pb, List.map_take, List.map_drop]; omega) | (simp [pb, List.take_of_length_le]; done))) | refine And.intro ?_ ?_)); done))
      | (rw [if_neg hb]; ((repeat' (first | exact trivial | exact Sub.refl _ | exact sub_nil | exact Or.inl rfl | exact Or.inr ⟨rfl, rfl⟩ | (refine sub_ref ?_; (first | omega | (simp; done) | (simp; omega))) | (refine sub_int ?_; (first | omega | rfl | (simp [bsz]; done))) | refine sub_tup ?_ | exact sub_agg_dbs_r | exact sub_agg_take_r rfl (by first | assumption | omega) | (refine sub_agg_take rfl ?_; (first | ((try rw [dbs_length]); assumption) | ((try rw [dbs_length]); omega))) | refine sub_agg ?_ | (refine sub_val ?_ ?_ <;> (first | omega | (simp [pb, List.map_take, List.map_drop, List.take_take]; done) | (simp [pb, List.map_take, List.map_drop]; omega) | (simp [pb, List.take_of_length_le]; done))) | (refine or_val ?_ ?_ <;> (first | omega | (simp [pb, List.map_take, List.map_drop, List.take_take]; done) | (simp [pb, List.map_take, List.map_drop]; omega) | (simp [pb, List.take_of_length_le]; done))) | refine And.intro ?_ ?_)); done))
/-- erasurelaw26.join -/
theorem join_meets (a b : List UInt8) (ha : a.length ≤ 35184372088832) (hb : b.length ≤ 35184372088832) : Meets Try.prog F_erasurelaw26join ⟨[.c (bs a), .c (bs b)], [], 0, .c (bs (a ++ b)), [], 0⟩ := by
  refine Meets.frozenB ?_
  refine fits_erasurelaw26join.meets rfl (by simp) fun Q hQ => ?_
  (conv => whnf); repeat' (first | (refine And.intro ?_ ?_; (focus (first | omega | (dsimp only; omega) | (simp only [List.length_append]; omega) | (simp [pb]; done) | (simp [pb]; omega) | (simp [zeros_u8, pb]; done) | (simp [zeros_u8, pb]; omega) | (simp [ByteArray.size]; omega) | exact Nat.le_of_ble_eq_true rfl | exact u64_nonneg _ | (show chkDraw _ _ = true; kernel_rfl) | (decide; done))); (conv => whnf)) | (refine onB_intro (fun hb => ?_) (fun hb => ?_) <;> (try simp only [decide_eq_true_eq, decide_eq_false_iff_not, Bool.not_eq_true', Bool.not_eq_false', Bool.and_eq_true, Bool.and_eq_false_iff, Int.not_le, Int.not_lt, bsz, ByteArray.toList_eq, beq_iff_eq, beq_eq_false_iff_ne, ne_eq] at hb) <;> (try (exfalso; omega)) <;> (try (exfalso; first | contradiction | (simp [ByteArray.toList_eq] at hb; done))) <;> (conv => whnf)) | (refine (hQ _ _ _ ?_).1; (conv => whnf)) | (refine ⟨_, rfl, ?_⟩; (conv => whnf)) | (refine ⟨_, mp_cut _ _ _, ?_⟩; (conv => whnf)) | (refine ⟨_, dbs_cut _ _ _, ?_⟩; (conv => whnf)) | (refine ⟨[_], rfl, ?_⟩; (conv => whnf)) | (refine ⟨[_, _], rfl, ?_⟩; (conv => whnf)) | (refine ⟨[_, _, _], rfl, ?_⟩; (conv => whnf)) | (refine ⟨[_, _, _, _], rfl, ?_⟩; (conv => whnf)) | fail)
  exact ret_new rfl rfl (by simp) (by simp only [Nat.zero_mul, Nat.zero_add, List.take_zero, List.nil_append]; exact dbs_app' _ _)
theorem encInt_m1 : encInt (-1) = [1] := by rw [encInt, show zz (-1) = 1 by decide, encU_lt (by decide)]; rfl
theorem rd1 : readInt [128, 0] = (0, [], 1) := by simp [readInt, Sr.int, decU]
theorem rd2 : readInt [128] = (0, [], 100) := by simp [readInt, Sr.int, decU]
theorem rd3 : readInt [128, 1, 7] = (64, [7], 0) := by simp [readInt, Sr.int, decU, unzz]
end Go.Proofs.Ytjieenfbfckafaa.Am
namespace Go.Proofs.Ytjieenfbfckafaa.Am
open Go
set_option linter.unusedVariables false
set_option linter.unusedSimpArgs false
def Sr.count (most : Int) (s : Sr) : Int × Sr :=
  let x := s.int
  let t := if x.1 < 0 ∨ most < x.1 then x.2.fail 1 else x.2
  if t.e = 0 then (x.1, t) else (0, t)
def Sr.take (n : Nat) (s : Sr) : List UInt8 × Sr :=
  if s.e = 0 then (if s.b.length < n then ([], ⟨s.b, 100⟩) else (s.b.take n, ⟨s.b.drop n, 0⟩)) else ([], s)
def Sr.text (most : Int) (s : Sr) : List UInt8 × Sr :=
  let x := s.count most
  x.2.take x.1.toNat
def Sr.value (s : Sr) : Val × Sr :=
  let x := s.count 2
  if x.1 = 1 then
    (let y := x.2.int
     (⟨1, y.1, []⟩, if y.1 < -4294967296 ∨ 4294967296 < y.1 then y.2.fail 1 else y.2))
  else if x.1 = 2 then
    (let y := x.2.text 32
     (⟨2, 0, y.1⟩, y.2))
  else (Val.null, x.2)
def many {α : Type} (f : Sr → α × Sr) : Nat → Sr → List α × Sr
  | 0, s => ([], s)
  | n + 1, s => if s.e = 0 then
      (let x := f s
       let y := many f n x.2
       (x.1 :: y.1, y.2)) else ([], s)
def Sr.list {α : Type} (f : Sr → α × Sr) (most : Int) (s : Sr) : List α × Sr :=
  let x := s.count most
  many f x.1.toNat x.2
def Sr.row (s : Sr) : List Val × Sr := s.list Sr.value 16
def Sr.ident (s : Sr) : Ident × Sr :=
  let x := s.text 16
  let y := x.2.value
  (⟨x.1, y.1⟩, y.2)
def Sr.ver (s : Sr) : Ver × Sr :=
  let x := s.int
  let y := x.2.int
  let z := y.2.int
  (⟨x.1, z.1, y.1⟩, z.2)
def Sr.sou (s : Sr) : Sou × Sr :=
  let x := s.int
  let y := x.2.int
  (⟨x.1, y.1⟩, y.2)
def Sr.vers (s : Sr) : List Ver × Sr := s.list Sr.ver 512
def Sr.sous (s : Sr) : List Sou × Sr := s.list Sr.sou 512
def Sr.link (s : Sr) : Link × Sr :=
  let a := s.ident
  let b := a.2.ident
  let x := b.2.int
  let y := x.2.count 1
  (⟨a.1, b.1, x.1, decide (y.1 = 1)⟩, y.2)
def Sr.hold (s : Sr) : Hold × Sr :=
  let a := s.int
  let b := a.2.int
  let c := b.2.ident
  let d := c.2.int
  let e := d.2.int
  let f := e.2.int
  (⟨a.1, b.1, c.1, d.1, e.1, f.1⟩, f.2)
def Sr.req (s : Sr) : Req × Sr :=
  let a := s.int
  let c := a.2.ident
  let d := c.2.int
  let e := d.2.int
  let f := e.2.int
  (⟨a.1, c.1, d.1, e.1, f.1⟩, f.2)
theorem Sr.fail_b (s : Sr) (x : Int) : (s.fail x).b = s.b := by unfold Sr.fail; split <;> rfl
theorem Sr.count_len (m : Int) (s : Sr) : (s.count m).2.b.length ≤ s.b.length := by
  have h := s.int_len
  unfold Sr.count
  dsimp only
  by_cases hc : s.int.1 < 0 ∨ m < s.int.1
  · rw [if_pos hc]
    have h2 := s.int.2.fail_b 1
    split
    · show (s.int.2.fail 1).b.length ≤ _; rw [h2]; exact h
    · show (s.int.2.fail 1).b.length ≤ _; rw [h2]; exact h
  · rw [if_neg hc]
    split
    · exact h
    · exact h
theorem Sr.count_nonneg (m : Int) (s : Sr) : 0 ≤ (s.count m).1 := by
  unfold Sr.count
  dsimp only
  by_cases hc : s.int.1 < 0 ∨ m < s.int.1
  · rw [if_pos hc]
    by_cases he : (s.int.2.fail 1).e = 0
    · exfalso
      unfold Sr.fail at he
      split at he
      · simp at he
      · rename_i h; exact h he
    · rw [if_neg he]; exact Int.le_refl _
  · rw [if_neg hc]
    split
    · dsimp only; omega
    · exact Int.le_refl _
theorem Sr.take_len (n : Nat) (s : Sr) : (s.take n).2.b.length ≤ s.b.length := by
  unfold Sr.take
  split
  · split
    · exact Nat.le_refl _
    · simp
  · exact Nat.le_refl _
theorem Sr.text_len (m : Int) (s : Sr) : (s.text m).2.b.length ≤ s.b.length := Nat.le_trans (Sr.take_len _ _) (s.count_len m)
theorem Sr.value_len (s : Sr) : s.value.2.b.length ≤ s.b.length := by
  have h := s.count_len 2
  unfold Sr.value
  simp only
  split
  · have h2 := (s.count 2).2.int_len
    simp only
    split
    · rw [Sr.fail_b]; omega
    · omega
  · split
    · have h2 := (s.count 2).2.text_len 32
      simp only; omega
    · exact h
theorem Sr.ident_len (s : Sr) : s.ident.2.b.length ≤ s.b.length := Nat.le_trans (Sr.value_len _) (s.text_len 16)
theorem Sr.link_len (s : Sr) : s.link.2.b.length ≤ s.b.length := Nat.le_trans (Sr.count_len _ _) (Nat.le_trans (Sr.int_len _) (Nat.le_trans (Sr.ident_len _) (Sr.ident_len _)))
theorem Sr.hold_len (s : Sr) : s.hold.2.b.length ≤ s.b.length := Nat.le_trans (Sr.int_len _) (Nat.le_trans (Sr.int_len _) (Nat.le_trans (Sr.int_len _) (Nat.le_trans (Sr.ident_len _) (Nat.le_trans (Sr.int_len _) (Sr.int_len _)))))
theorem Sr.req_len (s : Sr) : s.req.2.b.length ≤ s.b.length := Nat.le_trans (Sr.int_len _) (Nat.le_trans (Sr.int_len _) (Nat.le_trans (Sr.int_len _) (Nat.le_trans (Sr.ident_len _) (Sr.int_len _))))
end Go.Proofs.Ytjieenfbfckafaa.Am
namespace Go.Proofs.Ytjieenfbfckafaa.Am
open Go
set_option linter.unusedVariables false
set_option linter.unusedSimpArgs false
set_option maxRecDepth 100000
set_option maxHeartbeats 1000000
/-- codec.source.number -/
theorem number_meets (s : Sr) (hs : s.ok) : Meets Try.prog F_codec_source_number ⟨[.c (.ptr 0 0)], [(0, sob s)], 1, vi s.int.1, [(0, sob s.int.2)], 1⟩ := by
  have m := integer_meets s hs
  generalize s.int = x at m ⊢
  obtain ⟨n, t⟩ := x
  refine fits_codec_source_number.meets rfl (by simp) fun Q hQ => ?_
  (conv => whnf); repeat' (first | (refine And.intro ?_ ?_; (focus (first | omega | (dsimp only; omega) | (simp only [List.length_append]; omega) | (simp [pb]; done) | (simp [pb]; omega) | (simp [zeros_u8, pb]; done) | (simp [zeros_u8, pb]; omega) | (simp [ByteArray.size]; omega) | exact Nat.le_of_ble_eq_true rfl | exact u64_nonneg _ | (show chkDraw _ _ = true; kernel_rfl) | (decide; done))); (conv => whnf)) | (refine onB_intro (fun hb => ?_) (fun hb => ?_) <;> (try simp only [decide_eq_true_eq, decide_eq_false_iff_not, Bool.not_eq_true', Bool.not_eq_false', Bool.and_eq_true, Bool.and_eq_false_iff, Int.not_le, Int.not_lt, bsz, ByteArray.toList_eq, beq_iff_eq, beq_eq_false_iff_ne, ne_eq] at hb) <;> (try (exfalso; omega)) <;> (try (exfalso; first | contradiction | (simp [ByteArray.toList_eq] at hb; done))) <;> (conv => whnf)) | (refine (hQ _ _ _ ?_).1; (conv => whnf)) | (refine ⟨_, rfl, ?_⟩; (conv => whnf)) | (refine ⟨_, mp_cut _ _ _, ?_⟩; (conv => whnf)) | (refine ⟨_, dbs_cut _ _ _, ?_⟩; (conv => whnf)) | (refine ⟨[_], rfl, ?_⟩; (conv => whnf)) | (refine ⟨[_, _], rfl, ?_⟩; (conv => whnf)) | (refine ⟨[_, _, _], rfl, ?_⟩; (conv => whnf)) | (refine ⟨[_, _, _, _], rfl, ?_⟩; (conv => whnf)) | (apply call_obj (m) (fun F => by first | exact rfl | exact bob_ren F _ | exact ob_ren F _ _) (fun F => by first | exact rfl | exact bob_ren F _ | exact ob_ren F _ _); (focus ((repeat' (first | exact trivial | exact Sub.refl _ | exact sub_nil | exact Or.inl rfl | exact Or.inr ⟨rfl, rfl⟩ | (refine sub_ref ?_; (first | omega | (simp; done) | (simp; omega))) | (refine sub_int ?_; (first | omega | rfl | (simp [bsz]; done))) | refine sub_tup ?_ | exact sub_agg_dbs_r | exact sub_agg_take_r rfl (by first | assumption | omega) | (refine sub_agg_take rfl ?_; (first | ((try rw [dbs_length]); assumption) | ((try rw [dbs_length]); omega))) | refine sub_agg ?_ | (refine sub_val ?_ ?_ <;> (first | omega | (simp [pb, List.map_take, List.map_drop, List.take_take]; done) | (simp [pb, List.map_take, List.map_drop]; omega) | (simp [pb, List.take_of_length_le]; done))) | (refine or_val ?_ ?_ <;> (first | omega | (simp [pb, List.map_take, List.map_drop, List.take_take]; done) | (simp [pb, List.map_take, List.map_drop]; omega) | (simp [pb, List.take_of_length_le]; done))) | refine And.intro ?_ ?_)); done)); (focus (first | exact rfl | exact hp_eq rfl (dbs_app _ _ _ rfl) | exact hp_eq rfl (dbs_appo _ _ _ _ rfl rfl) | (refine hp_eq rfl ?_; (simp only [bob, ← List.length_append, dbs_appo', dbs_app', bsz]; done)) | (refine hp_eq rfl ?_; (simp [dbs, pb]; done)))); (conv => whnf)) | fail)
  all_goals (refine ret_obj rfl ?_ rfl ?_ (fun F => by first | exact rfl | (simp only [TV.rens, TV.ren, dbs_ren]; rfl) | (simp [TV.rens, TV.ren, dbs_ren, map_ren_p]; done)) (fun F => by first | exact rfl | exact bob_ren F _ | exact ob_ren F _ _); (focus ((repeat' (first | exact trivial | exact Sub.refl _ | exact sub_nil | exact Or.inl rfl | exact Or.inr ⟨rfl, rfl⟩ | (refine sub_ref ?_; (first | omega | (simp; done) | (simp; omega))) | (refine sub_int ?_; (first | omega | rfl | (simp [bsz]; done))) | refine sub_tup ?_ | exact sub_agg_dbs_r | exact sub_agg_take_r rfl (by first | assumption | omega) | (refine sub_agg_take rfl ?_; (first | ((try rw [dbs_length]); assumption) | ((try rw [dbs_length]); omega))) | refine sub_agg ?_ | (refine sub_val ?_ ?_ <;> (first | omega | (simp [pb, List.map_take, List.map_drop, List.take_take]; done) | (simp [pb, List.map_take, List.map_drop]; omega) | (simp [pb, List.take_of_length_le]; done))) | (refine or_val ?_ ?_ <;> (first | omega | (simp [pb, List.map_take, List.map_drop, List.take_take]; done) | (simp [pb, List.map_take, List.map_drop]; omega) | (simp [pb, List.take_of_length_le]; done))) | refine And.intro ?_ ?_)); done)); (first | rfl | (refine ob2_eq ?_ ?_ <;> (first | rfl | assumption | (simp only [*]; done) | (refine dv_val ?_ ?_ <;> (first | rfl | omega | (simp [pb, List.map_take, List.map_drop, List.take_of_length_le]; done) | (simp [pb, List.map_take, List.map_drop]; omega)))))))
/-- codec.source.count -/
theorem count_meets (m : Int) (s : Sr) (hs : s.ok) : Meets Try.prog F_codec_source_count ⟨[.c (.ptr 0 0), vi m], [(0, sob s)], 1, vi (s.count m).1, [(0, sob (s.count m).2)], 1⟩ := by
  have m1 := integer_meets s hs
  unfold Sr.count
  dsimp only
  generalize s.int = x at m1 ⊢
  obtain ⟨n, t⟩ := x
  dsimp only at m1 ⊢
  by_cases hc : n < 0 ∨ m < n
  · rw [if_pos hc]
    have m2 := fail_meets' t 1
    generalize t.fail 1 = t2 at m2 ⊢
    by_cases he : t2.e = 0
    · rw [if_pos he]
      refine fits_codec_source_count.meets rfl (by simp) fun Q hQ => ?_
      (conv => whnf); repeat' (first | (refine And.intro ?_ ?_; (focus (first | omega | (dsimp only; omega) | (simp only [List.length_append]; omega) | (simp [pb]; done) | (simp [pb]; omega) | (simp [zeros_u8, pb]; done) | (simp [zeros_u8, pb]; omega) | (simp [ByteArray.size]; omega) | exact Nat.le_of_ble_eq_true rfl | exact u64_nonneg _ | (show chkDraw _ _ = true; kernel_rfl) | (decide; done))); (conv => whnf)) | (refine onB_intro (fun hb => ?_) (fun hb => ?_) <;> (try simp only [decide_eq_true_eq, decide_eq_false_iff_not, Bool.not_eq_true', Bool.not_eq_false', Bool.and_eq_true, Bool.and_eq_false_iff, Int.not_le, Int.not_lt, bsz, ByteArray.toList_eq, beq_iff_eq, beq_eq_false_iff_ne, ne_eq] at hb) <;> (try (exfalso; omega)) <;> (try (exfalso; first | contradiction | (simp [ByteArray.toList_eq] at hb; done))) <;> (conv => whnf)) | (refine (hQ _ _ _ ?_).1; (conv => whnf)) | (refine ⟨_, rfl, ?_⟩; (conv => whnf)) | (refine ⟨_, mp_cut _ _ _, ?_⟩; (conv => whnf)) | (refine ⟨_, dbs_cut _ _ _, ?_⟩; (conv => whnf)) | (refine ⟨[_], rfl, ?_⟩; (conv => whnf)) | (refine ⟨[_, _], rfl, ?_⟩; (conv => whnf)) | (refine ⟨[_, _, _], rfl, ?_⟩; (conv => whnf)) | (refine ⟨[_, _, _, _], rfl, ?_⟩; (conv => whnf)) | (apply call_obj (m1) (fun F => by first | exact rfl | exact bob_ren F _ | exact ob_ren F _ _) (fun F => by first | exact rfl | exact bob_ren F _ | exact ob_ren F _ _); (focus ((repeat' (first | exact trivial | exact Sub.refl _ | exact sub_nil | exact Or.inl rfl | exact Or.inr ⟨rfl, rfl⟩ | (refine sub_ref ?_; (first | omega | (simp; done) | (simp; omega))) | (refine sub_int ?_; (first | omega | rfl | (simp [bsz]; done))) | refine sub_tup ?_ | exact sub_agg_dbs_r | exact sub_agg_take_r rfl (by first | assumption | omega) | (refine sub_agg_take rfl ?_; (first | ((try rw [dbs_length]); assumption) | ((try rw [dbs_length]); omega))) | refine sub_agg ?_ | (refine sub_val ?_ ?_ <;> (first | omega | (simp [pb, List.map_take, List.map_drop, List.take_take]; done) | (simp [pb, List.map_take, List.map_drop]; omega) | (simp [pb, List.take_of_length_le]; done))) | (refine or_val ?_ ?_ <;> (first | omega | (simp [pb, List.map_take, List.map_drop, List.take_take]; done) | (simp [pb, List.map_take, List.map_drop]; omega) | (simp [pb, List.take_of_length_le]; done))) | refine And.intro ?_ ?_)); done)); (focus (first | exact rfl | exact hp_eq rfl (dbs_app _ _ _ rfl) | exact hp_eq rfl (dbs_appo _ _ _ _ rfl rfl) | (refine hp_eq rfl ?_; (simp only [bob, ← List.length_append, dbs_appo', dbs_app', bsz]; done)) | (refine hp_eq rfl ?_; (simp [dbs, pb]; done)))); (conv => whnf)) | (apply call_obj (m2) (fun F => by first | exact rfl | exact bob_ren F _ | exact ob_ren F _ _) (fun F => by first | exact rfl | exact bob_ren F _ | exact ob_ren F _ _); (focus ((repeat' (first | exact trivial | exact Sub.refl _ | exact sub_nil | exact Or.inl rfl | exact Or.inr ⟨rfl, rfl⟩ | (refine sub_ref ?_; (first | omega | (simp; done) | (simp; omega))) | (refine sub_int ?_; (first | omega | rfl | (simp [bsz]; done))) | refine sub_tup ?_ | exact sub_agg_dbs_r | exact sub_agg_take_r rfl (by first | assumption | omega) | (refine sub_agg_take rfl ?_; (first | ((try rw [dbs_length]); assumption) | ((try rw [dbs_length]); omega))) | refine sub_agg ?_ | (refine sub_val ?_ ?_ <;> (first | omega | (simp [pb, List.map_take, List.map_drop, List.take_take]; done) | (simp [pb, List.map_take, List.map_drop]; omega) | (simp [pb, List.take_of_length_le]; done))) | (refine or_val ?_ ?_ <;> (first | omega | (simp [pb, List.map_take, List.map_drop, List.take_take]; done) | (simp [pb, List.map_take, List.map_drop]; omega) | (simp [pb, List.take_of_length_le]; done))) | refine And.intro ?_ ?_)); done)); (focus (first | exact rfl | exact hp_eq rfl (dbs_app _ _ _ rfl) | exact hp_eq rfl (dbs_appo _ _ _ _ rfl rfl) | (refine hp_eq rfl ?_; (simp only [bob, ← List.length_append, dbs_appo', dbs_app', bsz]; done)) | (refine hp_eq rfl ?_; (simp [dbs, pb]; done)))); (conv => whnf)) | fail)
      all_goals (refine ret_obj rfl ?_ rfl ?_ (fun F => by first | exact rfl | (simp only [TV.rens, TV.ren, dbs_ren]; rfl) | (simp [TV.rens, TV.ren, dbs_ren, map_ren_p]; done)) (fun F => by first | exact rfl | exact bob_ren F _ | exact ob_ren F _ _); (focus ((repeat' (first | exact trivial | exact Sub.refl _ | exact sub_nil | exact Or.inl rfl | exact Or.inr ⟨rfl, rfl⟩ | (refine sub_ref ?_; (first | omega | (simp; done) | (simp; omega))) | (refine sub_int ?_; (first | omega | rfl | (simp [bsz]; done))) | refine sub_tup ?_ | exact sub_agg_dbs_r | exact sub_agg_take_r rfl (by first | assumption | omega) | (refine sub_agg_take rfl ?_; (first | ((try rw [dbs_length]); assumption) | ((try rw [dbs_length]); omega))) | refine sub_agg ?_ | (refine sub_val ?_ ?_ <;> (first | omega | (simp [pb, List.map_take, List.map_drop, List.take_take]; done) | (simp [pb, List.map_take, List.map_drop]; omega) | (simp [pb, List.take_of_length_le]; done))) | (refine or_val ?_ ?_ <;> (first | omega | (simp [pb, List.map_take, List.map_drop, List.take_take]; done) | (simp [pb, List.map_take, List.map_drop]; omega) | (simp [pb, List.take_of_length_le]; done))) | refine And.intro ?_ ?_)); done)); (first | rfl | (refine ob2_eq ?_ ?_ <;> (first | rfl | assumption | (simp only [*]; done) | (refine dv_val ?_ ?_ <;> (first | rfl | omega | (simp [pb, List.map_take, List.map_drop, List.take_of_length_le]; done) | (simp [pb, List.map_take, List.map_drop]; omega)))))))
    · rw [if_neg he]
      refine fits_codec_source_count.meets rfl (by simp) fun Q hQ => ?_
      (conv => whnf); repeat' (first | (refine And.intro ?_ ?_; (focus (first | omega | (dsimp only; omega) | (simp only [List.length_append]; omega) | (simp [pb]; done) | (simp [pb]; omega) | (simp [zeros_u8, pb]; done) | (simp [zeros_u8, pb]; omega) | (simp [ByteArray.size]; omega) | exact Nat.le_of_ble_eq_true rfl | exact u64_nonneg _ | (show chkDraw _ _ = true; kernel_rfl) | (decide; done))); (conv => whnf)) | (refine onB_intro (fun hb => ?_) (fun hb => ?_) <;> (try simp only [decide_eq_true_eq, decide_eq_false_iff_not, Bool.not_eq_true', Bool.not_eq_false', Bool.and_eq_true, Bool.and_eq_false_iff, Int.not_le, Int.not_lt, bsz, ByteArray.toList_eq, beq_iff_eq, beq_eq_false_iff_ne, ne_eq] at hb) <;> (try (exfalso; omega)) <;> (try (exfalso; first | contradiction | (simp [ByteArray.toList_eq] at hb; done))) <;> (conv => whnf)) | (refine (hQ _ _ _ ?_).1; (conv => whnf)) | (refine ⟨_, rfl, ?_⟩; (conv => whnf)) | (refine ⟨_, mp_cut _ _ _, ?_⟩; (conv => whnf)) | (refine ⟨_, dbs_cut _ _ _, ?_⟩; (conv => whnf)) | (refine ⟨[_], rfl, ?_⟩; (conv => whnf)) | (refine ⟨[_, _], rfl, ?_⟩; (conv => whnf)) | (refine ⟨[_, _, _], rfl, ?_⟩; (conv => whnf)) | (refine ⟨[_, _, _, _], rfl, ?_⟩; (conv => whnf)) | (apply call_obj (m1) (fun F => by first | exact rfl | exact bob_ren F _ | exact ob_ren F _ _) (fun F => by first | exact rfl | exact bob_ren F _ | exact ob_ren F _ _); (focus ((repeat' (first | exact trivial | exact Sub.refl _ | exact sub_nil | exact Or.inl rfl | exact Or.inr ⟨rfl, rfl⟩ | (refine sub_ref ?_; (first | omega | (simp; done) | (simp; omega))) | (refine sub_int ?_; (first | omega | rfl | (simp [bsz]; done))) | refine sub_tup ?_ | exact sub_agg_dbs_r | exact sub_agg_take_r rfl (by first | assumption | omega) | (refine sub_agg_take rfl ?_; (first | ((try rw [dbs_length]); assumption) | ((try rw [dbs_length]); omega))) | refine sub_agg ?_ | (refine sub_val ?_ ?_ <;> (first | omega | (simp [pb, List.map_take, List.map_drop, List.take_take]; done) | (simp [pb, List.map_take, List.map_drop]; omega) | (simp [pb, List.take_of_length_le]; done))) | (refine or_val ?_ ?_ <;> (first | omega | (simp [pb, List.map_take, List.map_drop, List.take_take]; done) | (simp [pb, List.map_take, List.map_drop]; omega) | (simp [pb, List.take_of_length_le]; done))) | refine And.intro ?_ ?_)); done)); (focus (first | exact rfl | exact hp_eq rfl (dbs_app _ _ _ rfl) | exact hp_eq rfl (dbs_appo _ _ _ _ rfl rfl) | (refine hp_eq rfl ?_; (simp only [bob, ← List.length_append, dbs_appo', dbs_app', bsz]; done)) | (refine hp_eq rfl ?_; (simp [dbs, pb]; done)))); (conv => whnf)) | (apply call_obj (m2) (fun F => by first | exact rfl | exact bob_ren F _ | exact ob_ren F _ _) (fun F => by first | exact rfl | exact bob_ren F _ | exact ob_ren F _ _); (focus ((repeat' (first | exact trivial | exact Sub.refl _ | exact sub_nil | exact Or.inl rfl | exact Or.inr ⟨rfl, rfl⟩ | (refine sub_ref ?_; (first | omega | (simp; done) | (simp; omega))) | (refine sub_int ?_; (first | omega | rfl | (simp [bsz]; done))) | refine sub_tup ?_ | exact sub_agg_dbs_r | exact sub_agg_take_r rfl (by first | assumption | omega) | (refine sub_agg_take rfl ?_; (first | ((try rw [dbs_length]); assumption) | ((try rw [dbs_length]); omega))) | refine sub_agg ?_ | (refine sub_val ?_ ?_ <;> (first | omega | (simp [pb, List.map_take, List.map_drop, List.take_take]; done) | (simp [pb, List.map_take, List.map_drop]; omega) | (simp [pb, List.take_of_length_le]; done))) | (refine or_val ?_ ?_ <;> (first | omega | (simp [pb, List.map_take, List.map_drop, List.take_take]; done) | (simp [pb, List.map_take, List.map_drop]; omega) | (simp [pb, List.take_of_length_le]; done))) | refine And.intro ?_ ?_)); done)); (focus (first | exact rfl | exact hp_eq rfl (dbs_app _ _ _ rfl) | exact hp_eq rfl (dbs_appo _ _ _ _ rfl rfl) | (refine hp_eq rfl ?_; (simp only [bob, ← List.length_append, dbs_appo', dbs_app', bsz]; done)) | (refine hp_eq rfl ?_; (simp [dbs, pb]; done)))); (conv => whnf)) | fail)
      all_goals (refine ret_obj rfl ?_ rfl ?_ (fun F => by first | exact rfl | (simp only [TV.rens, TV.ren, dbs_ren]; rfl) | (simp [TV.rens, TV.ren, dbs_ren, map_ren_p]; done)) (fun F => by first | exact rfl | exact bob_ren F _ | exact ob_ren F _ _); (focus ((repeat' (first | exact trivial | exact Sub.refl _ | exact sub_nil | exact Or.inl rfl | exact Or.inr ⟨rfl, rfl⟩ | (refine sub_ref ?_; (first | omega | (simp; done) | (simp; omega))) | (refine sub_int ?_; (first | omega | rfl | (simp [bsz]; done))) | refine sub_tup ?_ | exact sub_agg_dbs_r | exact sub_agg_take_r rfl (by first | assumption | omega) | (refine sub_agg_take rfl ?_; (first | ((try rw [dbs_length]); assumption) | ((try rw [dbs_length]); omega))) | refine sub_agg ?_ | (refine sub_val ?_ ?_ <;> (first | omega | (simp [pb, List.map_take, List.map_drop, List.take_take]; done) | (simp [pb, List.map_take, List.map_drop]; omega) | (simp [pb, List.take_of_length_le]; done))) | (refine or_val ?_ ?_ <;> (first | omega | (simp [pb, List.map_take, List.map_drop, List.take_take]; done) | (simp [pb, List.map_take, List.map_drop]; omega) | (simp [pb, List.take_of_length_le]; done))) | refine And.intro ?_ ?_)); done)); (first | rfl | (refine ob2_eq ?_ ?_ <;> (first | rfl | assumption | (simp only [*]; done) | (refine dv_val ?_ ?_ <;> (first | rfl | omega | (simp [pb, List.map_take, List.map_drop, List.take_of_length_le]; done) | (simp [pb, List.map_take, List.map_drop]; omega)))))))
  · rw [if_neg hc]
    by_cases he : t.e = 0
    · rw [if_pos he]
      refine fits_codec_source_count.meets rfl (by simp) fun Q hQ => ?_
      (conv => whnf); repeat' (first | (refine And.intro ?_ ?_; (focus (first | omega | (dsimp only; omega) | (simp only [List.length_append]; omega) | (simp [pb]; done) | (simp [pb]; omega) | (simp [zeros_u8, pb]; done) | (simp [zeros_u8, pb]; omega) | (simp [ByteArray.size]; omega) | exact Nat.le_of_ble_eq_true rfl | exact u64_nonneg _ | (show chkDraw _ _ = true; kernel_rfl) | (decide; done))); (conv => whnf)) | (refine onB_intro (fun hb => ?_) (fun hb => ?_) <;> (try simp only [decide_eq_true_eq, decide_eq_false_iff_not, Bool.not_eq_true', Bool.not_eq_false', Bool.and_eq_true, Bool.and_eq_false_iff, Int.not_le, Int.not_lt, bsz, ByteArray.toList_eq, beq_iff_eq, beq_eq_false_iff_ne, ne_eq] at hb) <;> (try (exfalso; omega)) <;> (try (exfalso; first | contradiction | (simp [ByteArray.toList_eq] at hb; done))) <;> (conv => whnf)) | (refine (hQ _ _ _ ?_).1; (conv => whnf)) | (refine ⟨_, rfl, ?_⟩; (conv => whnf)) | (refine ⟨_, mp_cut _ _ _, ?_⟩; (conv => whnf)) | (refine ⟨_, dbs_cut _ _ _, ?_⟩; (conv => whnf)) | (refine ⟨[_], rfl, ?_⟩; (conv => whnf)) | (refine ⟨[_, _], rfl, ?_⟩; (conv => whnf)) | (refine ⟨[_, _, _], rfl, ?_⟩; (conv => whnf)) | (refine ⟨[_, _, _, _], rfl, ?_⟩; (conv => whnf)) | (apply call_obj (m1) (fun F => by first | exact rfl | exact bob_ren F _ | exact ob_ren F _ _) (fun F => by first | exact rfl | exact bob_ren F _ | exact ob_ren F _ _); (focus ((repeat' (first | exact trivial | exact Sub.refl _ | exact sub_nil | exact Or.inl rfl | exact Or.inr ⟨rfl, rfl⟩ | (refine sub_ref ?_; (first | omega | (simp; done) | (simp; omega))) | (refine sub_int ?_; (first | omega | rfl | (simp [bsz]; done))) | refine sub_tup ?_ | exact sub_agg_dbs_r | exact sub_agg_take_r rfl (by first | assumption | omega) | (refine sub_agg_take rfl ?_; (first | ((try rw [dbs_length]); assumption) | ((try rw [dbs_length]); omega))) | refine sub_agg ?_ | (refine sub_val ?_ ?_ <;> (first | omega | (simp [pb, List.map_take, List.map_drop, List.take_take]; done) | (simp [pb, List.map_take, List.map_drop]; omega) | (simp [pb, List.take_of_length_le]; done))) | (refine or_val ?_ ?_ <;> (first | omega | (simp [pb, List.map_take, List.map_drop, List.take_take]; done) | (simp [pb, List.map_take, List.map_drop]; omega) | (simp [pb, List.take_of_length_le]; done))) | refine And.intro ?_ ?_)); done)); (focus (first | exact rfl | exact hp_eq rfl (dbs_app _ _ _ rfl) | exact hp_eq rfl (dbs_appo _ _ _ _ rfl rfl) | (refine hp_eq rfl ?_; (simp only [bob, ← List.length_append, dbs_appo', dbs_app', bsz]; done)) | (refine hp_eq rfl ?_; (simp [dbs, pb]; done)))); (conv => whnf)) | fail)
      all_goals (refine ret_obj rfl ?_ rfl ?_ (fun F => by first | exact rfl | (simp only [TV.rens, TV.ren, dbs_ren]; rfl) | (simp [TV.rens, TV.ren, dbs_ren, map_ren_p]; done)) (fun F => by first | exact rfl | exact bob_ren F _ | exact ob_ren F _ _); (focus ((repeat' (first | exact trivial | exact Sub.refl _ | exact sub_nil | exact Or.inl rfl | exact Or.inr ⟨rfl, rfl⟩ | (refine sub_ref ?_; (first | omega | (simp; done) | (simp; omega))) | (refine sub_int ?_; (first | omega | rfl | (simp [bsz]; done))) | refine sub_tup ?_ | exact sub_agg_dbs_r | exact sub_agg_take_r rfl (by first | assumption | omega) | (refine sub_agg_take rfl ?_; (first | ((try rw [dbs_length]); assumption) | ((try rw [dbs_length]); omega))) | refine sub_agg ?_ | (refine sub_val ?_ ?_ <;> (first | omega | (simp [pb, List.map_take, List.map_drop, List.take_take]; done) | (simp [pb, List.map_take, List.map_drop]; omega) | (simp [pb, List.take_of_length_le]; done))) | (refine or_val ?_ ?_ <;> (first | omega | (simp [pb, List.map_take, List.map_drop, List.take_take]; done) | (simp [pb, List.map_take, List.map_drop]; omega) | (simp [pb, List.take_of_length_le]; done))) | refine And.intro ?_ ?_)); done)); (first | rfl | (refine ob2_eq ?_ ?_ <;> (first | rfl | assumption | (simp only [*]; done) | (refine dv_val ?_ ?_ <;> (first | rfl | omega | (simp [pb, List.map_take, List.map_drop, List.take_of_length_le]; done) | (simp [pb, List.map_take, List.map_drop]; omega)))))))
    · rw [if_neg he]
      refine fits_codec_source_count.meets rfl (by simp) fun Q hQ => ?_
      (conv => whnf); repeat' (first | (refine And.intro ?_ ?_; (focus (first | omega | (dsimp only; omega) | (simp only [List.length_append]; omega) | (simp [pb]; done) | (simp [pb]; omega) | (simp [zeros_u8, pb]; done) | (simp [zeros_u8, pb]; omega) | (simp [ByteArray.size]; omega) | exact Nat.le_of_ble_eq_true rfl | exact u64_nonneg _ | (show chkDraw _ _ = true; kernel_rfl) | (decide; done))); (conv => whnf)) | (refine onB_intro (fun hb => ?_) (fun hb => ?_) <;> (try simp only [decide_eq_true_eq, decide_eq_false_iff_not, Bool.not_eq_true', Bool.not_eq_false', Bool.and_eq_true, Bool.and_eq_false_iff, Int.not_le, Int.not_lt, bsz, ByteArray.toList_eq, beq_iff_eq, beq_eq_false_iff_ne, ne_eq] at hb) <;> (try (exfalso; omega)) <;> (try (exfalso; first | contradiction | (simp [ByteArray.toList_eq] at hb; done))) <;> (conv => whnf)) | (refine (hQ _ _ _ ?_).1; (conv => whnf)) | (refine ⟨_, rfl, ?_⟩; (conv => whnf)) | (refine ⟨_, mp_cut _ _ _, ?_⟩; (conv => whnf)) | (refine ⟨_, dbs_cut _ _ _, ?_⟩; (conv => whnf)) | (refine ⟨[_], rfl, ?_⟩; (conv => whnf)) | (refine ⟨[_, _], rfl, ?_⟩; (conv => whnf)) | (refine ⟨[_, _, _], rfl, ?_⟩; (conv => whnf)) | (refine ⟨[_, _, _, _], rfl, ?_⟩; (conv => whnf)) | (apply call_obj (m1) (fun F => by first | exact rfl | exact bob_ren F _ | exact ob_ren F _ _) (fun F => by first | exact rfl | exact bob_ren F _ | exact ob_ren F _ _); (focus ((repeat' (first | exact trivial | exact Sub.refl _ | exact sub_nil | exact Or.inl rfl | exact Or.inr ⟨rfl, rfl⟩ | (refine sub_ref ?_; (first | omega | (simp; done) | (simp; omega))) | (refine sub_int ?_; (first | omega | rfl | (simp [bsz]; done))) | refine sub_tup ?_ | exact sub_agg_dbs_r | exact sub_agg_take_r rfl (by first | assumption | omega) | (refine sub_agg_take rfl ?_; (first | ((try rw [dbs_length]); assumption) | ((try rw [dbs_length]); omega))) | refine sub_agg ?_ | (refine sub_val ?_ ?_ <;> (first | omega | (simp [pb, List.map_take, List.map_drop, List.take_take]; done) | (simp [pb, List.map_take, List.map_drop]; omega) | (simp [pb, List.take_of_length_le]; done))) | (refine or_val ?_ ?_ <;> (first | omega | (simp [pb, List.map_take, List.map_drop, List.take_take]; done) | (simp [pb, List.map_take, List.map_drop]; omega) | (simp [pb, List.take_of_length_le]; done))) | refine And.intro ?_ ?_)); done)); (focus (first | exact rfl | exact hp_eq rfl (dbs_app _ _ _ rfl) | exact hp_eq rfl (dbs_appo _ _ _ _ rfl rfl) | (refine hp_eq rfl ?_; (simp only [bob, ← List.length_append, dbs_appo', dbs_app', bsz]; done)) | (refine hp_eq rfl ?_; (simp [dbs, pb]; done)))); (conv => whnf)) | fail)
      all_goals (refine ret_obj rfl ?_ rfl ?_ (fun F => by first | exact rfl | (simp only [TV.rens, TV.ren, dbs_ren]; rfl) | (simp [TV.rens, TV.ren, dbs_ren, map_ren_p]; done)) (fun F => by first | exact rfl | exact bob_ren F _ | exact ob_ren F _ _); (focus ((repeat' (first | exact trivial | exact Sub.refl _ | exact sub_nil | exact Or.inl rfl | exact Or.inr ⟨rfl, rfl⟩ | (refine sub_ref ?_; (first | omega | (simp; done) | (simp; omega))) | (refine sub_int ?_; (first | omega | rfl | (simp [bsz]; done))) | refine sub_tup ?_ | exact sub_agg_dbs_r | exact sub_agg_take_r rfl (by first | assumption | omega) | (refine sub_agg_take rfl ?_; (first | ((try rw [dbs_length]); assumption) | ((try rw [dbs_length]); omega))) | refine sub_agg ?_ | (refine sub_val ?_ ?_ <;> (first | omega | (simp [pb, List.map_take, List.map_drop, List.take_take]; done) | (simp [pb, List.map_take, List.map_drop]; omega) | (simp [pb, List.take_of_length_le]; done))) | (refine or_val ?_ ?_ <;> (first | omega | (simp [pb, List.map_take, List.map_drop, List.take_take]; done) | (simp [pb, List.map_take, List.map_drop]; omega) | (simp [pb, List.take_of_length_le]; done))) | refine And.intro ?_ ?_)); done)); (first | rfl | (refine ob2_eq ?_ ?_ <;> (first | rfl | assumption | (simp only [*]; done) | (refine dv_val ?_ ?_ <;> (first | rfl | omega | (simp [pb, List.map_take, List.map_drop, List.take_of_length_le]; done) | (simp [pb, List.map_take, List.map_drop]; omega)))))))
/-- codec.source.take -/
theorem take_meets (n : Nat) (s : Sr) (hs : s.ok) : Meets Try.prog F_codec_source_take ⟨[.c (.ptr 0 0), vi n], [(0, sob s)], 1, .c (bs (s.take n).1), [(0, sob (s.take n).2)], 1⟩ := by
  have hs : s.b.length ≤ 4611686018427387904 := hs
  unfold Sr.take
  by_cases he : s.e = 0
  · rw [if_pos he]
    by_cases hn : s.b.length < n
    · rw [if_pos hn]
      have m2 := fail_meets' s 100
      have : s.fail 100 = ⟨s.b, 100⟩ := by unfold Sr.fail; rw [if_pos he]
      rw [this] at m2
      refine fits_codec_source_take.meets rfl (by simp) fun Q hQ => ?_
      (conv => whnf); repeat' (first | (refine And.intro ?_ ?_; (focus (first | omega | (dsimp only; omega) | (simp only [List.length_append]; omega) | (simp [pb]; done) | (simp [pb]; omega) | (simp [zeros_u8, pb]; done) | (simp [zeros_u8, pb]; omega) | (simp [ByteArray.size]; omega) | exact Nat.le_of_ble_eq_true rfl | exact u64_nonneg _ | (show chkDraw _ _ = true; kernel_rfl) | (decide; done))); (conv => whnf)) | (refine onB_intro (fun hb => ?_) (fun hb => ?_) <;> (try simp only [decide_eq_true_eq, decide_eq_false_iff_not, Bool.not_eq_true', Bool.not_eq_false', Bool.and_eq_true, Bool.and_eq_false_iff, Int.not_le, Int.not_lt, bsz, ByteArray.toList_eq, beq_iff_eq, beq_eq_false_iff_ne, ne_eq] at hb) <;> (try (exfalso; omega)) <;> (try (exfalso; first | contradiction | (simp [ByteArray.toList_eq] at hb; done))) <;> (conv => whnf)) | (refine (hQ _ _ _ ?_).1; (conv => whnf)) | (refine ⟨_, rfl, ?_⟩; (conv => whnf)) | (refine ⟨_, mp_cut _ _ _, ?_⟩; (conv => whnf)) | (refine ⟨_, dbs_cut _ _ _, ?_⟩; (conv => whnf)) | (refine ⟨[_], rfl, ?_⟩; (conv => whnf)) | (refine ⟨[_, _], rfl, ?_⟩; (conv => whnf)) | (refine ⟨[_, _, _], rfl, ?_⟩; (conv => whnf)) | (refine ⟨[_, _, _, _], rfl, ?_⟩; (conv => whnf)) | (apply call_obj (m2) (fun F => by first | exact rfl | exact bob_ren F _ | exact ob_ren F _ _) (fun F => by first | exact rfl | exact bob_ren F _ | exact ob_ren F _ _); (focus ((repeat' (first | exact trivial | exact Sub.refl _ | exact sub_nil | exact Or.inl rfl | exact Or.inr ⟨rfl, rfl⟩ | (refine sub_ref ?_; (first | omega | (simp; done) | (simp; omega))) | (refine sub_int ?_; (first | omega | rfl | (simp [bsz]; done))) | refine sub_tup ?_ | exact sub_agg_dbs_r | exact sub_agg_take_r rfl (by first | assumption | omega) | (refine sub_agg_take rfl ?_; (first | ((try rw [dbs_length]); assumption) | ((try rw [dbs_length]); omega))) | refine sub_agg ?_ | (refine sub_val ?_ ?_ <;> (first | omega | (simp [pb, List.map_take, List.map_drop, List.take_take]; done) | (simp [pb, List.map_take, List.map_drop]; omega) | (simp [pb, List.take_of_length_le]; done))) | (refine or_val ?_ ?_ <;> (first | omega | (simp [pb, List.map_take, List.map_drop, List.take_take]; done) | (simp [pb, List.map_take, List.map_drop]; omega) | (simp [pb, List.take_of_length_le]; done))) | refine And.intro ?_ ?_)); done)); (focus (first | exact rfl | exact hp_eq rfl (dbs_app _ _ _ rfl) | exact hp_eq rfl (dbs_appo _ _ _ _ rfl rfl) | (refine hp_eq rfl ?_; (simp only [bob, ← List.length_append, dbs_appo', dbs_app', bsz]; done)) | (refine hp_eq rfl ?_; (simp [dbs, pb]; done)))); (conv => whnf)) | fail)
      all_goals (refine ret_obj rfl ?_ rfl ?_ (fun F => by first | exact rfl | (simp only [TV.rens, TV.ren, dbs_ren]; rfl) | (simp [TV.rens, TV.ren, dbs_ren, map_ren_p]; done)) (fun F => by first | exact rfl | exact bob_ren F _ | exact ob_ren F _ _); (focus ((repeat' (first | exact trivial | exact Sub.refl _ | exact sub_nil | exact Or.inl rfl | exact Or.inr ⟨rfl, rfl⟩ | (refine sub_ref ?_; (first | omega | (simp; done) | (simp; omega))) | (refine sub_int ?_; (first | omega | rfl | (simp [bsz]; done))) | refine sub_tup ?_ | exact sub_agg_dbs_r | exact sub_agg_take_r rfl (by first | assumption | omega) | (refine sub_agg_take rfl ?_; (first | ((try rw [dbs_length]); assumption) | ((try rw [dbs_length]); omega))) | refine sub_agg ?_ | (refine sub_val ?_ ?_ <;> (first | omega | (simp [pb, List.map_take, List.map_drop, List.take_take]; done) | (simp [pb, List.map_take, List.map_drop]; omega) | (simp [pb, List.take_of_length_le]; done))) | (refine or_val ?_ ?_ <;> (first | omega | (simp [pb, List.map_take, List.map_drop, List.take_take]; done) | (simp [pb, List.map_take, List.map_drop]; omega) | (simp [pb, List.take_of_length_le]; done))) | refine And.intro ?_ ?_)); done)); (first | rfl | (refine ob2_eq ?_ ?_ <;> (first | rfl | assumption | (simp only [*]; done) | (refine dv_val ?_ ?_ <;> (first | rfl | omega | (simp [pb, List.map_take, List.map_drop, List.take_of_length_le]; done) | (simp [pb, List.map_take, List.map_drop]; omega)))))))
    · rw [if_neg hn]
      refine fits_codec_source_take.meets rfl (by simp) fun Q hQ => ?_
      (conv => whnf); repeat' (first | (refine And.intro ?_ ?_; (focus (first | omega | (dsimp only; omega) | (simp only [List.length_append]; omega) | (simp [pb]; done) | (simp [pb]; omega) | (simp [zeros_u8, pb]; done) | (simp [zeros_u8, pb]; omega) | (simp [ByteArray.size]; omega) | exact Nat.le_of_ble_eq_true rfl | exact u64_nonneg _ | (show chkDraw _ _ = true; kernel_rfl) | (decide; done))); (conv => whnf)) | (refine onB_intro (fun hb => ?_) (fun hb => ?_) <;> (try simp only [decide_eq_true_eq, decide_eq_false_iff_not, Bool.not_eq_true', Bool.not_eq_false', Bool.and_eq_true, Bool.and_eq_false_iff, Int.not_le, Int.not_lt, bsz, ByteArray.toList_eq, beq_iff_eq, beq_eq_false_iff_ne, ne_eq] at hb) <;> (try (exfalso; omega)) <;> (try (exfalso; first | contradiction | (simp [ByteArray.toList_eq] at hb; done))) <;> (conv => whnf)) | (refine (hQ _ _ _ ?_).1; (conv => whnf)) | (refine ⟨_, rfl, ?_⟩; (conv => whnf)) | (refine ⟨_, mp_cut _ _ _, ?_⟩; (conv => whnf)) | (refine ⟨_, dbs_cut _ _ _, ?_⟩; (conv => whnf)) | (refine ⟨[_], rfl, ?_⟩; (conv => whnf)) | (refine ⟨[_, _], rfl, ?_⟩; (conv => whnf)) | (refine ⟨[_, _, _], rfl, ?_⟩; (conv => whnf)) | (refine ⟨[_, _, _, _], rfl, ?_⟩; (conv => whnf)) | fail)
      all_goals (refine ret_obj rfl ?_ rfl ?_ (fun F => by first | exact rfl | (simp only [TV.rens, TV.ren, dbs_ren]; rfl) | (simp [TV.rens, TV.ren, dbs_ren, map_ren_p]; done)) (fun F => by first | exact rfl | exact bob_ren F _ | exact ob_ren F _ _); (focus ((repeat' (first | exact trivial | exact Sub.refl _ | exact sub_nil | exact Or.inl rfl | exact Or.inr ⟨rfl, rfl⟩ | (refine sub_ref ?_; (first | omega | (simp; done) | (simp; omega))) | (refine sub_int ?_; (first | omega | rfl | (simp [bsz]; done))) | refine sub_tup ?_ | exact sub_agg_dbs_r | exact sub_agg_take_r rfl (by first | assumption | omega) | (refine sub_agg_take rfl ?_; (first | ((try rw [dbs_length]); assumption) | ((try rw [dbs_length]); omega))) | refine sub_agg ?_ | (refine sub_val ?_ ?_ <;> (first | omega | (simp [pb, List.map_take, List.map_drop, List.take_take]; done) | (simp [pb, List.map_take, List.map_drop]; omega) | (simp [pb, List.take_of_length_le]; done))) | (refine or_val ?_ ?_ <;> (first | omega | (simp [pb, List.map_take, List.map_drop, List.take_take]; done) | (simp [pb, List.map_take, List.map_drop]; omega) | (simp [pb, List.take_of_length_le]; done))) | refine And.intro ?_ ?_)); done)); (first | rfl | (refine ob2_eq ?_ ?_ <;> (first | rfl | assumption | (simp only [*]; done) | (refine dv_val ?_ ?_ <;> (first | rfl | omega | (simp [pb, List.map_take, List.map_drop, List.take_of_length_le]; done) | (simp [pb, List.map_take, List.map_drop]; omega)))))))
  · rw [if_neg he]
    refine fits_codec_source_take.meets rfl (by simp) fun Q hQ => ?_
    (conv => whnf); repeat' (first | (refine And.intro ?_ ?_; (focus (first | omega | (dsimp only; omega) | (simp only [List.length_append]; omega) | (simp [pb]; done) | (simp [pb]; omega) | (simp [zeros_u8, pb]; done) | (simp [zeros_u8, pb]; omega) | (simp [ByteArray.size]; omega) | exact Nat.le_of_ble_eq_true rfl | exact u64_nonneg _ | (show chkDraw _ _ = true; kernel_rfl) | (decide; done))); (conv => whnf)) | (refine onB_intro (fun hb => ?_) (fun hb => ?_) <;> (try simp only [decide_eq_true_eq, decide_eq_false_iff_not, Bool.not_eq_true', Bool.not_eq_false', Bool.and_eq_true, Bool.and_eq_false_iff, Int.not_le, Int.not_lt, bsz, ByteArray.toList_eq, beq_iff_eq, beq_eq_false_iff_ne, ne_eq] at hb) <;> (try (exfalso; omega)) <;> (try (exfalso; first | contradiction | (simp [ByteArray.toList_eq] at hb; done))) <;> (conv => whnf)) | (refine (hQ _ _ _ ?_).1; (conv => whnf)) | (refine ⟨_, rfl, ?_⟩; (conv => whnf)) | (refine ⟨_, mp_cut _ _ _, ?_⟩; (conv => whnf)) | (refine ⟨_, dbs_cut _ _ _, ?_⟩; (conv => whnf)) | (refine ⟨[_], rfl, ?_⟩; (conv => whnf)) | (refine ⟨[_, _], rfl, ?_⟩; (conv => whnf)) | (refine ⟨[_, _, _], rfl, ?_⟩; (conv => whnf)) | (refine ⟨[_, _, _, _], rfl, ?_⟩; (conv => whnf)) | fail)
    all_goals (refine ret_obj rfl ?_ rfl ?_ (fun F => by first | exact rfl | (simp only [TV.rens, TV.ren, dbs_ren]; rfl) | (simp [TV.rens, TV.ren, dbs_ren, map_ren_p]; done)) (fun F => by first | exact rfl | exact bob_ren F _ | exact ob_ren F _ _); (focus ((repeat' (first | exact trivial | exact Sub.refl _ | exact sub_nil | exact Or.inl rfl | exact Or.inr ⟨rfl, rfl⟩ | (refine sub_ref ?_; (first | omega | (simp; done) | (simp; omega))) | (refine sub_int ?_; (first | omega | rfl | (simp [bsz]; done))) | refine sub_tup ?_ | exact sub_agg_dbs_r | exact sub_agg_take_r rfl (by first | assumption | omega) | (refine sub_agg_take rfl ?_; (first | ((try rw [dbs_length]); assumption) | ((try rw [dbs_length]); omega))) | refine sub_agg ?_ | (refine sub_val ?_ ?_ <;> (first | omega | (simp [pb, List.map_take, List.map_drop, List.take_take]; done) | (simp [pb, List.map_take, List.map_drop]; omega) | (simp [pb, List.take_of_length_le]; done))) | (refine or_val ?_ ?_ <;> (first | omega | (simp [pb, List.map_take, List.map_drop, List.take_take]; done) | (simp [pb, List.map_take, List.map_drop]; omega) | (simp [pb, List.take_of_length_le]; done))) | refine And.intro ?_ ?_)); done)); (first | rfl | (refine ob2_eq ?_ ?_ <;> (first | rfl | assumption | (simp only [*]; done) | (refine dv_val ?_ ?_ <;> (first | rfl | omega | (simp [pb, List.map_take, List.map_drop, List.take_of_length_le]; done) | (simp [pb, List.map_take, List.map_drop]; omega)))))))
/-- codec.source.text -/
theorem text_meets (m : Int) (s : Sr) (hs : s.ok) : Meets Try.prog F_codec_source_text ⟨[.c (.ptr 0 0), vi m], [(0, sob s)], 1, tst (s.text m).1, [(0, sob (s.text m).2)], 1⟩ := by
  have h1 := s.count_len m
  have h2 := s.count_nonneg m
  have hs' : s.b.length ≤ 4611686018427387904 := hs
  unfold Sr.text
  dsimp only
  have m1 := count_meets m s hs
  generalize s.count m = x at m1 h1 h2 ⊢
  obtain ⟨n, t⟩ := x
  dsimp only at m1 h1 h2 ⊢
  obtain ⟨k, rfl⟩ := Int.eq_ofNat_of_zero_le h2
  have m2 := take_meets k t (by show t.b.length ≤ _; omega)
  rw [Int.toNat_natCast]
  generalize t.take k = y at m2 ⊢
  obtain ⟨l, u⟩ := y
  dsimp only at m2 ⊢
  refine fits_codec_source_text.meets rfl (by simp) fun Q hQ => ?_
  (conv => whnf); repeat' (first | (refine And.intro ?_ ?_; (focus (first | omega | (dsimp only; omega) | (simp only [List.length_append]; omega) | (simp [pb]; done) | (simp [pb]; omega) | (simp [zeros_u8, pb]; done) | (simp [zeros_u8, pb]; omega) | (simp [ByteArray.size]; omega) | exact Nat.le_of_ble_eq_true rfl | exact u64_nonneg _ | (show chkDraw _ _ = true; kernel_rfl) | (decide; done))); (conv => whnf)) | (refine onB_intro (fun hb => ?_) (fun hb => ?_) <;> (try simp only [decide_eq_true_eq, decide_eq_false_iff_not, Bool.not_eq_true', Bool.not_eq_false', Bool.and_eq_true, Bool.and_eq_false_iff, Int.not_le, Int.not_lt, bsz, ByteArray.toList_eq, beq_iff_eq, beq_eq_false_iff_ne, ne_eq] at hb) <;> (try (exfalso; omega)) <;> (try (exfalso; first | contradiction | (simp [ByteArray.toList_eq] at hb; done))) <;> (conv => whnf)) | (refine (hQ _ _ _ ?_).1; (conv => whnf)) | (refine ⟨_, rfl, ?_⟩; (conv => whnf)) | (refine ⟨_, mp_cut _ _ _, ?_⟩; (conv => whnf)) | (refine ⟨_, dbs_cut _ _ _, ?_⟩; (conv => whnf)) | (refine ⟨[_], rfl, ?_⟩; (conv => whnf)) | (refine ⟨[_, _], rfl, ?_⟩; (conv => whnf)) | (refine ⟨[_, _, _], rfl, ?_⟩; (conv => whnf)) | (refine ⟨[_, _, _, _], rfl, ?_⟩; (conv => whnf)) | (apply call_obj (m1) (fun F => by first | exact rfl | exact bob_ren F _ | exact ob_ren F _ _) (fun F => by first | exact rfl | exact bob_ren F _ | exact ob_ren F _ _); (focus ((repeat' (first | exact trivial | exact Sub.refl _ | exact sub_nil | exact Or.inl rfl | exact Or.inr ⟨rfl, rfl⟩ | (refine sub_ref ?_; (first | omega | (simp; done) | (simp; omega))) | (refine sub_int ?_; (first | omega | rfl | (simp [bsz]; done))) | refine sub_tup ?_ | exact sub_agg_dbs_r | exact sub_agg_take_r rfl (by first | assumption | omega) | (refine sub_agg_take rfl ?_; (first | ((try rw [dbs_length]); assumption) | ((try rw [dbs_length]); omega))) | refine sub_agg ?_ | (refine sub_val ?_ ?_ <;> (first | omega | (simp [pb, List.map_take, List.map_drop, List.take_take]; done) | (simp [pb, List.map_take, List.map_drop]; omega) | (simp [pb, List.take_of_length_le]; done))) | (refine or_val ?_ ?_ <;> (first | omega | (simp [pb, List.map_take, List.map_drop, List.take_take]; done) | (simp [pb, List.map_take, List.map_drop]; omega) | (simp [pb, List.take_of_length_le]; done))) | refine And.intro ?_ ?_)); done)); (focus (first | exact rfl | exact hp_eq rfl (dbs_app _ _ _ rfl) | exact hp_eq rfl (dbs_appo _ _ _ _ rfl rfl) | (refine hp_eq rfl ?_; (simp only [bob, ← List.length_append, dbs_appo', dbs_app', bsz]; done)) | (refine hp_eq rfl ?_; (simp [dbs, pb]; done)))); (conv => whnf)) | (apply call_obj (m2) (fun F => by first | exact rfl | exact bob_ren F _ | exact ob_ren F _ _) (fun F => by first | exact rfl | exact bob_ren F _ | exact ob_ren F _ _); (focus ((repeat' (first | exact trivial | exact Sub.refl _ | exact sub_nil | exact Or.inl rfl | exact Or.inr ⟨rfl, rfl⟩ | (refine sub_ref ?_; (first | omega | (simp; done) | (simp; omega))) | (refine sub_int ?_; (first | omega | rfl | (simp [bsz]; done))) | refine sub_tup ?_ | exact sub_agg_dbs_r | exact sub_agg_take_r rfl (by first | assumption | omega) | (refine sub_agg_take rfl ?_; (first | ((try rw [dbs_length]); assumption) | ((try rw [dbs_length]); omega))) | refine sub_agg ?_ | (refine sub_val ?_ ?_ <;> (first | omega | (simp [pb, List.map_take, List.map_drop, List.take_take]; done) | (simp [pb, List.map_take, List.map_drop]; omega) | (simp [pb, List.take_of_length_le]; done))) | (refine or_val ?_ ?_ <;> (first | omega | (simp [pb, List.map_take, List.map_drop, List.take_take]; done) | (simp [pb, List.map_take, List.map_drop]; omega) | (simp [pb, List.take_of_length_le]; done))) | refine And.intro ?_ ?_)); done)); (focus (first | exact rfl | exact hp_eq rfl (dbs_app _ _ _ rfl) | exact hp_eq rfl (dbs_appo _ _ _ _ rfl rfl) | (refine hp_eq rfl ?_; (simp only [bob, ← List.length_append, dbs_appo', dbs_app', bsz]; done)) | (refine hp_eq rfl ?_; (simp [dbs, pb]; done)))); (conv => whnf)) | fail)
  all_goals (refine ret_obj rfl ?_ rfl ?_ (fun F => by first | exact rfl | (simp only [TV.rens, TV.ren, dbs_ren]; rfl) | (simp [TV.rens, TV.ren, dbs_ren, map_ren_p]; done)) (fun F => by first | exact rfl | exact bob_ren F _ | exact ob_ren F _ _); (focus ((repeat' (first | exact trivial | exact Sub.refl _ | exact sub_nil | exact Or.inl rfl | exact Or.inr ⟨rfl, rfl⟩ | (refine sub_ref ?_; (first | omega | (simp; done) | (simp; omega))) | (refine sub_int ?_; (first | omega | rfl | (simp [bsz]; done))) | refine sub_tup ?_ | exact sub_agg_dbs_r | exact sub_agg_take_r rfl (by first | assumption | omega) | (refine sub_agg_take rfl ?_; (first | ((try rw [dbs_length]); assumption) | ((try rw [dbs_length]); omega))) | refine sub_agg ?_ | (refine sub_val ?_ ?_ <;> (first | omega | (simp [pb, List.map_take, List.map_drop, List.take_take]; done) | (simp [pb, List.map_take, List.map_drop]; omega) | (simp [pb, List.take_of_length_le]; done))) | (refine or_val ?_ ?_ <;> (first | omega | (simp [pb, List.map_take, List.map_drop, List.take_take]; done) | (simp [pb, List.map_take, List.map_drop]; omega) | (simp [pb, List.take_of_length_le]; done))) | refine And.intro ?_ ?_)); done)); (first | rfl | (refine ob2_eq ?_ ?_ <;> (first | rfl | assumption | (simp only [*]; done) | (refine dv_val ?_ ?_ <;> (first | rfl | omega | (simp [pb, List.map_take, List.map_drop, List.take_of_length_le]; done) | (simp [pb, List.map_take, List.map_drop]; omega)))))))
/-- codec.source.value -/
theorem value_meets (s : Sr) (hs : s.ok) : Meets Try.prog F_codec_source_value ⟨[.c (.ptr 0 0)], [(0, sob s)], 1, .agg s.value.1.enc, [(0, sob s.value.2)], 1⟩ := by
  have hs' : s.b.length ≤ 4611686018427387904 := hs
  unfold Sr.value
  dsimp only
  have m1 := count_meets 2 s hs
  have l1 := s.count_len 2
  generalize s.count 2 = x at m1 l1 ⊢
  obtain ⟨n, t⟩ := x
  dsimp only at m1 l1 ⊢
  have ht : t.ok := by show t.b.length ≤ _; omega
  by_cases h1 : n = 1
  · subst h1
    rw [if_pos rfl]
    have m2 := integer_meets t ht
    have l2 := t.int_len
    generalize t.int = x at m2 l2 ⊢
    obtain ⟨v, u⟩ := x
    dsimp only at m2 l2 ⊢
    by_cases hv : v < -4294967296 ∨ 4294967296 < v
    · rw [if_pos hv]
      have m3 := fail_meets' u 1
      generalize u.fail 1 = w at m3 ⊢
      refine fits_codec_source_value.meets rfl (by simp) fun Q hQ => ?_
      (conv => whnf); repeat' (first | (refine And.intro ?_ ?_; (focus (first | omega | (dsimp only; omega) | (simp only [List.length_append]; omega) | (simp [pb]; done) | (simp [pb]; omega) | (simp [zeros_u8, pb]; done) | (simp [zeros_u8, pb]; omega) | (simp [ByteArray.size]; omega) | exact Nat.le_of_ble_eq_true rfl | exact u64_nonneg _ | (show chkDraw _ _ = true; kernel_rfl) | (decide; done))); (conv => whnf)) | (refine onB_intro (fun hb => ?_) (fun hb => ?_) <;> (try simp only [decide_eq_true_eq, decide_eq_false_iff_not, Bool.not_eq_true', Bool.not_eq_false', Bool.and_eq_true, Bool.and_eq_false_iff, Int.not_le, Int.not_lt, bsz, ByteArray.toList_eq, beq_iff_eq, beq_eq_false_iff_ne, ne_eq] at hb) <;> (try (exfalso; omega)) <;> (try (exfalso; first | contradiction | (simp [ByteArray.toList_eq] at hb; done))) <;> (conv => whnf)) | (refine (hQ _ _ _ ?_).1; (conv => whnf)) | (refine ⟨_, rfl, ?_⟩; (conv => whnf)) | (refine ⟨_, mp_cut _ _ _, ?_⟩; (conv => whnf)) | (refine ⟨_, dbs_cut _ _ _, ?_⟩; (conv => whnf)) | (refine ⟨[_], rfl, ?_⟩; (conv => whnf)) | (refine ⟨[_, _], rfl, ?_⟩; (conv => whnf)) | (refine ⟨[_, _, _], rfl, ?_⟩; (conv => whnf)) | (refine ⟨[_, _, _, _], rfl, ?_⟩; (conv => whnf)) | (apply call_obj (m1) (fun F => by first | exact rfl | exact bob_ren F _ | exact ob_ren F _ _) (fun F => by first | exact rfl | exact bob_ren F _ | exact ob_ren F _ _); (focus ((repeat' (first | exact trivial | exact Sub.refl _ | exact sub_nil | exact Or.inl rfl | exact Or.inr ⟨rfl, rfl⟩ | (refine sub_ref ?_; (first | omega | (simp; done) | (simp; omega))) | (refine sub_int ?_; (first | omega | rfl | (simp [bsz]; done))) | refine sub_tup ?_ | exact sub_agg_dbs_r | exact sub_agg_take_r rfl (by first | assumption | omega) | (refine sub_agg_take rfl ?_; (first | ((try rw [dbs_length]); assumption) | ((try rw [dbs_length]); omega))) | refine sub_agg ?_ | (refine sub_val ?_ ?_ <;> (first | omega | (simp [pb, List.map_take, List.map_drop, List.take_take]; done) | (simp [pb, List.map_take, List.map_drop]; omega) | (simp [pb, List.take_of_length_le]; done))) | (refine or_val ?_ ?_ <;> (first | omega | (simp [pb, List.map_take, List.map_drop, List.take_take]; done) | (simp [pb, List.map_take, List.map_drop]; omega) | (simp [pb, List.take_of_length_le]; done))) | refine And.intro ?_ ?_)); done)); (focus (first | exact rfl | exact hp_eq rfl (dbs_app _ _ _ rfl) | exact hp_eq rfl (dbs_appo _ _ _ _ rfl rfl) | (refine hp_eq rfl ?_; (simp only [bob, ← List.length_append, dbs_appo', dbs_app', bsz]; done)) | (refine hp_eq rfl ?_; (simp [dbs, pb]; done)))); (conv => whnf)) | (apply call_obj (m2) (fun F => by first | exact rfl | exact bob_ren F _ | exact ob_ren F _ _) (fun F => by first | exact rfl | exact bob_ren F _ | exact ob_ren F _ _); (focus ((repeat' (first | exact trivial | exact Sub.refl _ | exact sub_nil | exact Or.inl rfl | exact Or.inr ⟨rfl, rfl⟩ | (refine sub_ref ?_; (first | omega | (simp; done) | (simp; omega))) | (refine sub_int ?_; (first | omega | rfl | (simp [bsz]; done))) | refine sub_tup ?_ | exact sub_agg_dbs_r | exact sub_agg_take_r rfl (by first | assumption | omega) | (refine sub_agg_take rfl ?_; (first | ((try rw [dbs_length]); assumption) | ((try rw [dbs_length]); omega))) | refine sub_agg ?_ | (refine sub_val ?_ ?_ <;> (first | omega | (simp [pb, List.map_take, List.map_drop, List.take_take]; done) | (simp [pb, List.map_take, List.map_drop]; omega) | (simp [pb, List.take_of_length_le]; done))) | (refine or_val ?_ ?_ <;> (first | omega | (simp [pb, List.map_take, List.map_drop, List.take_take]; done) | (simp [pb, List.map_take, List.map_drop]; omega) | (simp [pb, List.take_of_length_le]; done))) | refine And.intro ?_ ?_)); done)); (focus (first | exact rfl | exact hp_eq rfl (dbs_app _ _ _ rfl) | exact hp_eq rfl (dbs_appo _ _ _ _ rfl rfl) | (refine hp_eq rfl ?_; (simp only [bob, ← List.length_append, dbs_appo', dbs_app', bsz]; done)) | (refine hp_eq rfl ?_; (simp [dbs, pb]; done)))); (conv => whnf)) | (apply call_obj (m3) (fun F => by first | exact rfl | exact bob_ren F _ | exact ob_ren F _ _) (fun F => by first | exact rfl | exact bob_ren F _ | exact ob_ren F _ _); (focus ((repeat' (first | exact trivial | exact Sub.refl _ | exact sub_nil | exact Or.inl rfl | exact Or.inr ⟨rfl, rfl⟩ | (refine sub_ref ?_; (first | omega | (simp; done) | (simp; omega))) | (refine sub_int ?_; (first | omega | rfl | (simp [bsz]; done))) | refine sub_tup ?_ | exact sub_agg_dbs_r | exact sub_agg_take_r rfl (by first | assumption | omega) | (refine sub_agg_take rfl ?_; (first | ((try rw [dbs_length]); assumption) | ((try rw [dbs_length]); omega))) | refine sub_agg ?_ | (refine sub_val ?_ ?_ <;> (first | omega | (simp [pb, List.map_take, List.map_drop, List.take_take]; done) | (simp [pb, List.map_take, List.map_drop]; omega) | (simp [pb, List.take_of_length_le]; done))) | (refine or_val ?_ ?_ <;> (first | omega | (simp [pb, List.map_take, List.map_drop, List.take_take]; done) | (simp [pb, List.map_take, List.map_drop]; omega) | (simp [pb, List.take_of_length_le]; done))) | refine And.intro ?_ ?_)); done)); (focus (first | exact rfl | exact hp_eq rfl (dbs_app _ _ _ rfl) | exact hp_eq rfl (dbs_appo _ _ _ _ rfl rfl) | (refine hp_eq rfl ?_; (simp only [bob, ← List.length_append, dbs_appo', dbs_app', bsz]; done)) | (refine hp_eq rfl ?_; (simp [dbs, pb]; done)))); (conv => whnf)) | fail)
      all_goals (refine ret_obj rfl ?_ rfl ?_ (fun F => by first | exact rfl | (simp only [TV.rens, TV.ren, dbs_ren]; rfl) | (simp [TV.rens, TV.ren, dbs_ren, map_ren_p]; done)) (fun F => by first | exact rfl | exact bob_ren F _ | exact ob_ren F _ _); (focus ((repeat' (first | exact trivial | exact Sub.refl _ | exact sub_nil | exact Or.inl rfl | exact Or.inr ⟨rfl, rfl⟩ | (refine sub_ref ?_; (first | omega | (simp; done) | (simp; omega))) | (refine sub_int ?_; (first | omega | rfl | (simp [bsz]; done))) | refine sub_tup ?_ | exact sub_agg_dbs_r | exact sub_agg_take_r rfl (by first | assumption | omega) | (refine sub_agg_take rfl ?_; (first | ((try rw [dbs_length]); assumption) | ((try rw [dbs_length]); omega))) | refine sub_agg ?_ | (refine sub_val ?_ ?_ <;> (first | omega | (simp [pb, List.map_take, List.map_drop, List.take_take]; done) | (simp [pb, List.map_take, List.map_drop]; omega) | (simp [pb, List.take_of_length_le]; done))) | (refine or_val ?_ ?_ <;> (first | omega | (simp [pb, List.map_take, List.map_drop, List.take_take]; done) | (simp [pb, List.map_take, List.map_drop]; omega) | (simp [pb, List.take_of_length_le]; done))) | refine And.intro ?_ ?_)); done)); (first | rfl | (refine ob2_eq ?_ ?_ <;> (first | rfl | assumption | (simp only [*]; done) | (refine dv_val ?_ ?_ <;> (first | rfl | omega | (simp [pb, List.map_take, List.map_drop, List.take_of_length_le]; done) | (simp [pb, List.map_take, List.map_drop]; omega)))))))
    · rw [if_neg hv]
      refine fits_codec_source_value.meets rfl (by simp) fun Q hQ => ?_
      (conv => whnf); repeat' (first | (refine And.intro ?_ ?_; (focus (first | omega | (dsimp only; omega) | (simp only [List.length_append]; omega) | (simp [pb]; done) | (simp [pb]; omega) | (simp [zeros_u8, pb]; done) | (simp [zeros_u8, pb]; omega) | (simp [ByteArray.size]; omega) | exact Nat.le_of_ble_eq_true rfl | exact u64_nonneg _ | (show chkDraw _ _ = true; kernel_rfl) | (decide; done))); (conv => whnf)) | (refine onB_intro (fun hb => ?_) (fun hb => ?_) <;> (try simp only [decide_eq_true_eq, decide_eq_false_iff_not, Bool.not_eq_true', Bool.not_eq_false', Bool.and_eq_true, Bool.and_eq_false_iff, Int.not_le, Int.not_lt, bsz, ByteArray.toList_eq, beq_iff_eq, beq_eq_false_iff_ne, ne_eq] at hb) <;> (try (exfalso; omega)) <;> (try (exfalso; first | contradiction | (simp [ByteArray.toList_eq] at hb; done))) <;> (conv => whnf)) | (refine (hQ _ _ _ ?_).1; (conv => whnf)) | (refine ⟨_, rfl, ?_⟩; (conv => whnf)) | (refine ⟨_, mp_cut _ _ _, ?_⟩; (conv => whnf)) | (refine ⟨_, dbs_cut _ _ _, ?_⟩; (conv => whnf)) | (refine ⟨[_], rfl, ?_⟩; (conv => whnf)) | (refine ⟨[_, _], rfl, ?_⟩; (conv => whnf)) | (refine ⟨[_, _, _], rfl, ?_⟩; (conv => whnf)) | (refine ⟨[_, _, _, _], rfl, ?_⟩; (conv => whnf)) | (apply call_obj (m1) (fun F => by first | exact rfl | exact bob_ren F _ | exact ob_ren F _ _) (fun F => by first | exact rfl | exact bob_ren F _ | exact ob_ren F _ _); (focus ((repeat' (first | exact trivial | exact Sub.refl _ | exact sub_nil | exact Or.inl rfl | exact Or.inr ⟨rfl, rfl⟩ | (refine sub_ref ?_; (first | omega | (simp; done) | (simp; omega))) | (refine sub_int ?_; (first | omega | rfl | (simp [bsz]; done))) | refine sub_tup ?_ | exact sub_agg_dbs_r | exact sub_agg_take_r rfl (by first | assumption | omega) | (refine sub_agg_take rfl ?_; (first | ((try rw [dbs_length]); assumption) | ((try rw [dbs_length]); omega))) | refine sub_agg ?_ | (refine sub_val ?_ ?_ <;> (first | omega | (simp [pb, List.map_take, List.map_drop, List.take_take]; done) | (simp [pb, List.map_take, List.map_drop]; omega) | (simp [pb, List.take_of_length_le]; done))) | (refine or_val ?_ ?_ <;> (first | omega | (simp [pb, List.map_take, List.map_drop, List.take_take]; done) | (simp [pb, List.map_take, List.map_drop]; omega) | (simp [pb, List.take_of_length_le]; done))) | refine And.intro ?_ ?_)); done)); (focus (first | exact rfl | exact hp_eq rfl (dbs_app _ _ _ rfl) | exact hp_eq rfl (dbs_appo _ _ _ _ rfl rfl) | (refine hp_eq rfl ?_; (simp only [bob, ← List.length_append, dbs_appo', dbs_app', bsz]; done)) | (refine hp_eq rfl ?_; (simp [dbs, pb]; done)))); (conv => whnf)) | (apply call_obj (m2) (fun F => by first | exact rfl | exact bob_ren F _ | exact ob_ren F _ _) (fun F => by first | exact rfl | exact bob_ren F _ | exact ob_ren F _ _); (focus ((repeat' (first | exact trivial | exact Sub.refl _ | exact sub_nil | exact Or.inl rfl | exact Or.inr ⟨rfl, rfl⟩ | (refine sub_ref ?_; (first | omega | (simp; done) | (simp; omega))) | (refine sub_int ?_; (first | omega | rfl | (simp [bsz]; done))) | refine sub_tup ?_ | exact sub_agg_dbs_r | exact sub_agg_take_r rfl (by first | assumption | omega) | (refine sub_agg_take rfl ?_; (first | ((try rw [dbs_length]); assumption) | ((try rw [dbs_length]); omega))) | refine sub_agg ?_ | (refine sub_val ?_ ?_ <;> (first | omega | (simp [pb, List.map_take, List.map_drop, List.take_take]; done) | (simp [pb, List.map_take, List.map_drop]; omega) | (simp [pb, List.take_of_length_le]; done))) | (refine or_val ?_ ?_ <;> (first | omega | (simp [pb, List.map_take, List.map_drop, List.take_take]; done) | (simp [pb, List.map_take, List.map_drop]; omega) | (simp [pb, List.take_of_length_le]; done))) | refine And.intro ?_ ?_)); done)); (focus (first | exact rfl | exact hp_eq rfl (dbs_app _ _ _ rfl) | exact hp_eq rfl (dbs_appo _ _ _ _ rfl rfl) | (refine hp_eq rfl ?_; (simp only [bob, ← List.length_append, dbs_appo', dbs_app', bsz]; done)) | (refine hp_eq rfl ?_; (simp [dbs, pb]; done)))); (conv => whnf)) | fail)
      all_goals (refine ret_obj rfl ?_ rfl ?_ (fun F => by first | exact rfl | (simp only [TV.rens, TV.ren, dbs_ren]; rfl) | (simp [TV.rens, TV.ren, dbs_ren, map_ren_p]; done)) (fun F => by first | exact rfl | exact bob_ren F _ | exact ob_ren F _ _); (focus ((repeat' (first | exact trivial | exact Sub.refl _ | exact sub_nil | exact Or.inl rfl | exact Or.inr ⟨rfl, rfl⟩ | (refine sub_ref ?_; (first | omega | (simp; done) | (simp; omega))) | (refine sub_int ?_; (first | omega | rfl | (simp [bsz]; done))) | refine sub_tup ?_ | exact sub_agg_dbs_r | exact sub_agg_take_r rfl (by first | assumption | omega) | (refine sub_agg_take rfl ?_; (first | ((try rw [dbs_length]); assumption) | ((try rw [dbs_length]); omega))) | refine sub_agg ?_ | (refine sub_val ?_ ?_ <;> (first | omega | (simp [pb, List.map_take, List.map_drop, List.take_take]; done) | (simp [pb, List.map_take, List.map_drop]; omega) | (simp [pb, List.take_of_length_le]; done))) | (refine or_val ?_ ?_ <;> (first | omega | (simp [pb, List.map_take, List.map_drop, List.take_take]; done) | (simp [pb, List.map_take, List.map_drop]; omega) | (simp [pb, List.take_of_length_le]; done))) | refine And.intro ?_ ?_)); done)); (first | rfl | (refine ob2_eq ?_ ?_ <;> (first | rfl | assumption | (simp only [*]; done) | (refine dv_val ?_ ?_ <;> (first | rfl | omega | (simp [pb, List.map_take, List.map_drop, List.take_of_length_le]; done) | (simp [pb, List.map_take, List.map_drop]; omega)))))))
  · rw [if_neg h1]
    by_cases h2 : n = 2
    · subst h2
      rw [if_pos rfl]
      have m2 := text_meets 32 t ht
      have l2 := t.text_len 32
      generalize t.text 32 = x at m2 l2 ⊢
      obtain ⟨v, u⟩ := x
      dsimp only at m2 l2 ⊢
      refine fits_codec_source_value.meets rfl (by simp) fun Q hQ => ?_
      (conv => whnf); repeat' (first | (refine And.intro ?_ ?_; (focus (first | omega | (dsimp only; omega) | (simp only [List.length_append]; omega) | (simp [pb]; done) | (simp [pb]; omega) | (simp [zeros_u8, pb]; done) | (simp [zeros_u8, pb]; omega) | (simp [ByteArray.size]; omega) | exact Nat.le_of_ble_eq_true rfl | exact u64_nonneg _ | (show chkDraw _ _ = true; kernel_rfl) | (decide; done))); (conv => whnf)) | (refine onB_intro (fun hb => ?_) (fun hb => ?_) <;> (try simp only [decide_eq_true_eq, decide_eq_false_iff_not, Bool.not_eq_true', Bool.not_eq_false', Bool.and_eq_true, Bool.and_eq_false_iff, Int.not_le, Int.not_lt, bsz, ByteArray.toList_eq, beq_iff_eq, beq_eq_false_iff_ne, ne_eq] at hb) <;> (try (exfalso; omega)) <;> (try (exfalso; first | contradiction | (simp [ByteArray.toList_eq] at hb; done))) <;> (conv => whnf)) | (refine (hQ _ _ _ ?_).1; (conv => whnf)) | (refine ⟨_, rfl, ?_⟩; (conv => whnf)) | (refine ⟨_, mp_cut _ _ _, ?_⟩; (conv => whnf)) | (refine ⟨_, dbs_cut _ _ _, ?_⟩; (conv => whnf)) | (refine ⟨[_], rfl, ?_⟩; (conv => whnf)) | (refine ⟨[_, _], rfl, ?_⟩; (conv => whnf)) | (refine ⟨[_, _, _], rfl, ?_⟩; (conv => whnf)) | (refine ⟨[_, _, _, _], rfl, ?_⟩; (conv => whnf)) | (apply call_obj (m1) (fun F => by first | exact rfl | exact bob_ren F _ | exact ob_ren F _ _) (fun F => by first | exact rfl | exact bob_ren F _ | exact ob_ren F _ _); (focus ((repeat' (first | exact trivial | exact Sub.refl _ | exact sub_nil | exact Or.inl rfl | exact Or.inr ⟨rfl, rfl⟩ | (refine sub_ref ?_; (first | omega | (simp; done) | (simp; omega))) | (refine sub_int ?_; (first | omega | rfl | (simp [bsz]; done))) | refine sub_tup ?_ | exact sub_agg_dbs_r | exact sub_agg_take_r rfl (by first | assumption | omega) | (refine sub_agg_take rfl ?_; (first | ((try rw [dbs_length]); assumption) | ((try rw [dbs_length]); omega))) | refine sub_agg ?_ | (refine sub_val ?_ ?_ <;> (first | omega | (simp [pb, List.map_take, List.map_drop, List.take_take]; done) | (simp [pb, List.map_take, List.map_drop]; omega) | (simp [pb, List.take_of_length_le]; done))) | (refine or_val ?_ ?_ <;> (first | omega | (simp [pb, List.map_take, List.map_drop, List.take_take]; done) | (simp [pb, List.map_take, List.map_drop]; omega) | (simp [pb, List.take_of_length_le]; done))) | refine And.intro ?_ ?_)); done)); (focus (first | exact rfl | exact hp_eq rfl (dbs_app _ _ _ rfl) | exact hp_eq rfl (dbs_appo _ _ _ _ rfl rfl) | (refine hp_eq rfl ?_; (simp only [bob, ← List.length_append, dbs_appo', dbs_app', bsz]; done)) | (refine hp_eq rfl ?_; (simp [dbs, pb]; done)))); (conv => whnf)) | (apply call_obj (m2) (fun F => by first | exact rfl | exact bob_ren F _ | exact ob_ren F _ _) (fun F => by first | exact rfl | exact bob_ren F _ | exact ob_ren F _ _); (focus ((repeat' (first | exact trivial | exact Sub.refl _ | exact sub_nil | exact Or.inl rfl | exact Or.inr ⟨rfl, rfl⟩ | (refine sub_ref ?_; (first | omega | (simp; done) | (simp; omega))) | (refine sub_int ?_; (first | omega | rfl | (simp [bsz]; done))) | refine sub_tup ?_ | exact sub_agg_dbs_r | exact sub_agg_take_r rfl (by first | assumption | omega) | (refine sub_agg_take rfl ?_; (first | ((try rw [dbs_length]); assumption) | ((try rw [dbs_length]); omega))) | refine sub_agg ?_ | (refine sub_val ?_ ?_ <;> (first | omega | (simp [pb, List.map_take, List.map_drop, List.take_take]; done) | (simp [pb, List.map_take, List.map_drop]; omega) | (simp [pb, List.take_of_length_le]; done))) | (refine or_val ?_ ?_ <;> (first | omega | (simp [pb, List.map_take, List.map_drop, List.take_take]; done) | (simp [pb, List.map_take, List.map_drop]; omega) | (simp [pb, List.take_of_length_le]; done))) | refine And.intro ?_ ?_)); done)); (focus (first | exact rfl | exact hp_eq rfl (dbs_app _ _ _ rfl) | exact hp_eq rfl (dbs_appo _ _ _ _ rfl rfl) | (refine hp_eq rfl ?_; (simp only [bob, ← List.length_append, dbs_appo', dbs_app', bsz]; done)) | (refine hp_eq rfl ?_; (simp [dbs, pb]; done)))); (conv => whnf)) | fail)
      all_goals (refine ret_obj rfl ?_ rfl ?_ (fun F => by first | exact rfl | (simp only [TV.rens, TV.ren, dbs_ren]; rfl) | (simp [TV.rens, TV.ren, dbs_ren, map_ren_p]; done)) (fun F => by first | exact rfl | exact bob_ren F _ | exact ob_ren F _ _); (focus ((repeat' (first | exact trivial | exact Sub.refl _ | exact sub_nil | exact Or.inl rfl | exact Or.inr ⟨rfl, rfl⟩ | (refine sub_ref ?_; (first | omega | (simp; done) | (simp; omega))) | (refine sub_int ?_; (first | omega | rfl | (simp [bsz]; done))) | refine sub_tup ?_ | exact sub_agg_dbs_r | exact sub_agg_take_r rfl (by first | assumption | omega) | (refine sub_agg_take rfl ?_; (first | ((try rw [dbs_length]); assumption) | ((try rw [dbs_length]); omega))) | refine sub_agg ?_ | (refine sub_val ?_ ?_ <;> (first | omega | (simp [pb, List.map_take, List.map_drop, List.take_take]; done) | (simp [pb, List.map_take, List.map_drop]; omega) | (simp [pb, List.take_of_length_le]; done))) | (refine or_val ?_ ?_ <;> (first | omega | (simp [pb, List.map_take, List.map_drop, List.take_take]; done) | (simp [pb, List.map_take, List.map_drop]; omega) | (simp [pb, List.take_of_length_le]; done))) | refine And.intro ?_ ?_)); done)); (first | rfl | (refine ob2_eq ?_ ?_ <;> (first | rfl | assumption | (simp only [*]; done) | (refine dv_val ?_ ?_ <;> (first | rfl | omega | (simp [pb, List.map_take, List.map_drop, List.take_of_length_le]; done) | (simp [pb, List.map_take, List.map_drop]; omega)))))))
    · rw [if_neg h2]
      refine fits_codec_source_value.meets rfl (by simp) fun Q hQ => ?_
      (conv => whnf); repeat' (first | (refine And.intro ?_ ?_; (focus (first | omega | (dsimp only; omega) | (simp only [List.length_append]; omega) | (simp [pb]; done) | (simp [pb]; omega) | (simp [zeros_u8, pb]; done) | (simp [zeros_u8, pb]; omega) | (simp [ByteArray.size]; omega) | exact Nat.le_of_ble_eq_true rfl | exact u64_nonneg _ | (show chkDraw _ _ = true; kernel_rfl) | (decide; done))); (conv => whnf)) | (refine onB_intro (fun hb => ?_) (fun hb => ?_) <;> (try simp only [decide_eq_true_eq, decide_eq_false_iff_not, Bool.not_eq_true', Bool.not_eq_false', Bool.and_eq_true, Bool.and_eq_false_iff, Int.not_le, Int.not_lt, bsz, ByteArray.toList_eq, beq_iff_eq, beq_eq_false_iff_ne, ne_eq] at hb) <;> (try (exfalso; omega)) <;> (try (exfalso; first | contradiction | (simp [ByteArray.toList_eq] at hb; done))) <;> (conv => whnf)) | (refine (hQ _ _ _ ?_).1; (conv => whnf)) | (refine ⟨_, rfl, ?_⟩; (conv => whnf)) | (refine ⟨_, mp_cut _ _ _, ?_⟩; (conv => whnf)) | (refine ⟨_, dbs_cut _ _ _, ?_⟩; (conv => whnf)) | (refine ⟨[_], rfl, ?_⟩; (conv => whnf)) | (refine ⟨[_, _], rfl, ?_⟩; (conv => whnf)) | (refine ⟨[_, _, _], rfl, ?_⟩; (conv => whnf)) | (refine ⟨[_, _, _, _], rfl, ?_⟩; (conv => whnf)) | (apply call_obj (m1) (fun F => by first | exact rfl | exact bob_ren F _ | exact ob_ren F _ _) (fun F => by first | exact rfl | exact bob_ren F _ | exact ob_ren F _ _); (focus ((repeat' (first | exact trivial | exact Sub.refl _ | exact sub_nil | exact Or.inl rfl | exact Or.inr ⟨rfl, rfl⟩ | (refine sub_ref ?_; (first | omega | (simp; done) | (simp; omega))) | (refine sub_int ?_; (first | omega | rfl | (simp [bsz]; done))) | refine sub_tup ?_ | exact sub_agg_dbs_r | exact sub_agg_take_r rfl (by first | assumption | omega) | (refine sub_agg_take rfl ?_; (first | ((try rw [dbs_length]); assumption) | ((try rw [dbs_length]); omega))) | refine sub_agg ?_ | (refine sub_val ?_ ?_ <;> (first | omega | (simp [pb, List.map_take, List.map_drop, List.take_take]; done) | (simp [pb, List.map_take, List.map_drop]; omega) | (simp [pb, List.take_of_length_le]; done))) | (refine or_val ?_ ?_ <;> (first | omega | (simp [pb, List.map_take, List.map_drop, List.take_take]; done) | (simp [pb, List.map_take, List.map_drop]; omega) | (simp [pb, List.take_of_length_le]; done))) | refine And.intro ?_ ?_)); done)); (focus (first | exact rfl | exact hp_eq rfl (dbs_app _ _ _ rfl) | exact hp_eq rfl (dbs_appo _ _ _ _ rfl rfl) | (refine hp_eq rfl ?_; (simp only [bob, ← List.length_append, dbs_appo', dbs_app', bsz]; done)) | (refine hp_eq rfl ?_; (simp [dbs, pb]; done)))); (conv => whnf)) | fail)
      all_goals (refine ret_obj rfl ?_ rfl ?_ (fun F => by first | exact rfl | (simp only [TV.rens, TV.ren, dbs_ren]; rfl) | (simp [TV.rens, TV.ren, dbs_ren, map_ren_p]; done)) (fun F => by first | exact rfl | exact bob_ren F _ | exact ob_ren F _ _); (focus ((repeat' (first | exact trivial | exact Sub.refl _ | exact sub_nil | exact Or.inl rfl | exact Or.inr ⟨rfl, rfl⟩ | (refine sub_ref ?_; (first | omega | (simp; done) | (simp; omega))) | (refine sub_int ?_; (first | omega | rfl | (simp [bsz]; done))) | refine sub_tup ?_ | exact sub_agg_dbs_r | exact sub_agg_take_r rfl (by first | assumption | omega) | (refine sub_agg_take rfl ?_; (first | ((try rw [dbs_length]); assumption) | ((try rw [dbs_length]); omega))) | refine sub_agg ?_ | (refine sub_val ?_ ?_ <;> (first | omega | (simp [pb, List.map_take, List.map_drop, List.take_take]; done) | (simp [pb, List.map_take, List.map_drop]; omega) | (simp [pb, List.take_of_length_le]; done))) | (refine or_val ?_ ?_ <;> (first | omega | (simp [pb, List.map_take, List.map_drop, List.take_take]; done) | (simp [pb, List.map_take, List.map_drop]; omega) | (simp [pb, List.take_of_length_le]; done))) | refine And.intro ?_ ?_)); done)); (first | rfl | (refine ob2_eq ?_ ?_ <;> (first | rfl | assumption | (simp only [*]; done) | (refine dv_val ?_ ?_ <;> (first | rfl | omega | (simp [pb, List.map_take, List.map_drop, List.take_of_length_le]; done) | (simp [pb, List.map_take, List.map_drop]; omega)))))))
end Go.Proofs.Ytjieenfbfckafaa.Am
namespace Go.Proofs.Ytjieenfbfckafaa.Am
open Go
set_option linter.unusedVariables false
set_option linter.unusedSimpArgs false
set_option maxRecDepth 100000
set_option maxHeartbeats 1000000
/-- F_codec_source_identifier -/
theorem identifier_meets (s : Sr) (hs : s.b.length ≤ 70368744177664) : Meets Try.prog F_codec_source_identifier ⟨[.c (.ptr 0 0)], [(0, sob s)], 1, .agg (s.ident.1).enc, [(0, sob s.ident.2)], 1⟩ := by
  unfold Sr.ident
  dsimp only
  have m0 := text_meets 16 s (by first | omega | (show s.b.length ≤ _; omega))
  have l0 := s.text_len 16
  generalize s.text 16 = x at m0 l0 ⊢
  obtain ⟨v0, u0⟩ := x
  dsimp only at m0 l0 ⊢
  have m1 := value_meets u0 (by first | omega | (show u0.b.length ≤ _; omega))
  have l1 := u0.value_len
  generalize u0.value = x at m1 l1 ⊢
  obtain ⟨v1, u1⟩ := x
  dsimp only at m1 l1 ⊢
  refine fits_codec_source_identifier.meets rfl (by simp) fun Q hQ => ?_
  (conv => whnf); repeat' (first | (refine And.intro ?_ ?_; (focus (first | omega | (dsimp only; omega) | (simp only [List.length_append]; omega) | (simp [pb]; done) | (simp [pb]; omega) | (simp [zeros_u8, pb]; done) | (simp [zeros_u8, pb]; omega) | (simp [ByteArray.size]; omega) | exact Nat.le_of_ble_eq_true rfl | exact u64_nonneg _ | (show chkDraw _ _ = true; kernel_rfl) | (decide; done))); (conv => whnf)) | (refine onB_intro (fun hb => ?_) (fun hb => ?_) <;> (try simp only [decide_eq_true_eq, decide_eq_false_iff_not, Bool.not_eq_true', Bool.not_eq_false', Bool.and_eq_true, Bool.and_eq_false_iff, Int.not_le, Int.not_lt, bsz, ByteArray.toList_eq, beq_iff_eq, beq_eq_false_iff_ne, ne_eq] at hb) <;> (try (exfalso; omega)) <;> (try (exfalso; first | contradiction | (simp [ByteArray.toList_eq] at hb; done))) <;> (conv => whnf)) | (refine (hQ _ _ _ ?_).1; (conv => whnf)) | (refine ⟨_, rfl, ?_⟩; (conv => whnf)) | (refine ⟨_, mp_cut _ _ _, ?_⟩; (conv => whnf)) | (refine ⟨_, dbs_cut _ _ _, ?_⟩; (conv => whnf)) | (refine ⟨[_], rfl, ?_⟩; (conv => whnf)) | (refine ⟨[_, _], rfl, ?_⟩; (conv => whnf)) | (refine ⟨[_, _, _], rfl, ?_⟩; (conv => whnf)) | (refine ⟨[_, _, _, _], rfl, ?_⟩; (conv => whnf)) | (apply call_obj (m0) (fun F => by first | exact rfl | exact bob_ren F _ | exact ob_ren F _ _) (fun F => by first | exact rfl | exact bob_ren F _ | exact ob_ren F _ _); (focus ((repeat' (first | exact trivial | exact Sub.refl _ | exact sub_nil | exact Or.inl rfl | exact Or.inr ⟨rfl, rfl⟩ | (refine sub_ref ?_; (first | omega | (simp; done) | (simp; omega))) | (refine sub_int ?_; (first | omega | rfl | (simp [bsz]; done))) | refine sub_tup ?_ | exact sub_agg_dbs_r | exact sub_agg_take_r rfl (by first | assumption | omega) | (refine sub_agg_take rfl ?_; (first | ((try rw [dbs_length]); assumption) | ((try rw [dbs_length]); omega))) | refine sub_agg ?_ | (refine sub_val ?_ ?_ <;> (first | omega | (simp [pb, List.map_take, List.map_drop, List.take_take]; done) | (simp [pb, List.map_take, List.map_drop]; omega) | (simp [pb, List.take_of_length_le]; done))) | (refine or_val ?_ ?_ <;> (first | omega | (simp [pb, List.map_take, List.map_drop, List.take_take]; done) | (simp [pb, List.map_take, List.map_drop]; omega) | (simp [pb, List.take_of_length_le]; done))) | refine And.intro ?_ ?_)); done)); (focus (first | exact rfl | exact hp_eq rfl (dbs_app _ _ _ rfl) | exact hp_eq rfl (dbs_appo _ _ _ _ rfl rfl) | (refine hp_eq rfl ?_; (simp only [bob, ← List.length_append, dbs_appo', dbs_app', bsz]; done)) | (refine hp_eq rfl ?_; (simp [dbs, pb]; done)))); (conv => whnf)) | (apply call_obj (m1) (fun F => by first | exact rfl | exact bob_ren F _ | exact ob_ren F _ _) (fun F => by first | exact rfl | exact bob_ren F _ | exact ob_ren F _ _); (focus ((repeat' (first | exact trivial | exact Sub.refl _ | exact sub_nil | exact Or.inl rfl | exact Or.inr ⟨rfl, rfl⟩ | (refine sub_ref ?_; (first | omega | (simp; done) | (simp; omega))) | (refine sub_int ?_; (first | omega | rfl | (simp [bsz]; done))) | refine sub_tup ?_ | exact sub_agg_dbs_r | exact sub_agg_take_r rfl (by first | assumption | omega) | (refine sub_agg_take rfl ?_; (first | ((try rw [dbs_length]); assumption) | ((try rw [dbs_length]); omega))) | refine sub_agg ?_ | (refine sub_val ?_ ?_ <;> (first | omega | (simp [pb, List.map_take, List.map_drop, List.take_take]; done) | (simp [pb, List.map_take, List.map_drop]; omega) | (simp [pb, List.take_of_length_le]; done))) | (refine or_val ?_ ?_ <;> (first | omega | (simp [pb, List.map_take, List.map_drop, List.take_take]; done) | (simp [pb, List.map_take, List.map_drop]; omega) | (simp [pb, List.take_of_length_le]; done))) | refine And.intro ?_ ?_)); done)); (focus (first | exact rfl | exact hp_eq rfl (dbs_app _ _ _ rfl) | exact hp_eq rfl (dbs_appo _ _ _ _ rfl rfl) | (refine hp_eq rfl ?_; (simp only [bob, ← List.length_append, dbs_appo', dbs_app', bsz]; done)) | (refine hp_eq rfl ?_; (simp [dbs, pb]; done)))); (conv => whnf)) | fail)
  all_goals (refine ret_obj rfl ?_ rfl ?_ (fun F => by first | exact rfl | (simp only [TV.rens, TV.ren, dbs_ren]; rfl) | (simp [TV.rens, TV.ren, dbs_ren, map_ren_p]; done)) (fun F => by first | exact rfl | exact bob_ren F _ | exact ob_ren F _ _); (focus ((repeat' (first | exact trivial | exact Sub.refl _ | exact sub_nil | exact Or.inl rfl | exact Or.inr ⟨rfl, rfl⟩ | (refine sub_ref ?_; (first | omega | (simp; done) | (simp; omega))) | (refine sub_int ?_; (first | omega | rfl | (simp [bsz]; done))) | refine sub_tup ?_ | exact sub_agg_dbs_r | exact sub_agg_take_r rfl (by first | assumption | omega) | (refine sub_agg_take rfl ?_; (first | ((try rw [dbs_length]); assumption) | ((try rw [dbs_length]); omega))) | refine sub_agg ?_ | (refine sub_val ?_ ?_ <;> (first | omega | (simp [pb, List.map_take, List.map_drop, List.take_take]; done) | (simp [pb, List.map_take, List.map_drop]; omega) | (simp [pb, List.take_of_length_le]; done))) | (refine or_val ?_ ?_ <;> (first | omega | (simp [pb, List.map_take, List.map_drop, List.take_take]; done) | (simp [pb, List.map_take, List.map_drop]; omega) | (simp [pb, List.take_of_length_le]; done))) | refine And.intro ?_ ?_)); done)); (first | rfl | (refine ob2_eq ?_ ?_ <;> (first | rfl | assumption | (simp only [*]; done) | (refine dv_val ?_ ?_ <;> (first | rfl | omega | (simp [pb, List.map_take, List.map_drop, List.take_of_length_le]; done) | (simp [pb, List.map_take, List.map_drop]; omega)))))))
/-- F_codec_source_link -/
theorem link_meets (s : Sr) (hs : s.b.length ≤ 70368744177664) : Meets Try.prog F_codec_source_link ⟨[.c (.ptr 0 0)], [(0, sob s)], 1, .agg (s.link.1).enc, [(0, sob s.link.2)], 1⟩ := by
  unfold Sr.link
  dsimp only
  have m0 := identifier_meets s (by first | omega | (show s.b.length ≤ _; omega))
  have l0 := s.ident_len
  generalize s.ident = x at m0 l0 ⊢
  obtain ⟨v0, u0⟩ := x
  dsimp only at m0 l0 ⊢
  have m1 := identifier_meets u0 (by first | omega | (show u0.b.length ≤ _; omega))
  have l1 := u0.ident_len
  generalize u0.ident = x at m1 l1 ⊢
  obtain ⟨v1, u1⟩ := x
  dsimp only at m1 l1 ⊢
  have m2 := number_meets u1 (by first | omega | (show u1.b.length ≤ _; omega))
  have l2 := u1.int_len
  generalize u1.int = x at m2 l2 ⊢
  obtain ⟨v2, u2⟩ := x
  dsimp only at m2 l2 ⊢
  have m3 := count_meets 1 u2 (by first | omega | (show u2.b.length ≤ _; omega))
  have l3 := u2.count_len 1
  generalize u2.count 1 = x at m3 l3 ⊢
  obtain ⟨v3, u3⟩ := x
  dsimp only at m3 l3 ⊢
  refine fits_codec_source_link.meets rfl (by simp) fun Q hQ => ?_
  (conv => whnf); repeat' (first | (refine And.intro ?_ ?_; (focus (first | omega | (dsimp only; omega) | (simp only [List.length_append]; omega) | (simp [pb]; done) | (simp [pb]; omega) | (simp [zeros_u8, pb]; done) | (simp [zeros_u8, pb]; omega) | (simp [ByteArray.size]; omega) | exact Nat.le_of_ble_eq_true rfl | exact u64_nonneg _ | (show chkDraw _ _ = true; kernel_rfl) | (decide; done))); (conv => whnf)) | (refine onB_intro (fun hb => ?_) (fun hb => ?_) <;> (try simp only [decide_eq_true_eq, decide_eq_false_iff_not, Bool.not_eq_true', Bool.not_eq_false', Bool.and_eq_true, Bool.and_eq_false_iff, Int.not_le, Int.not_lt, bsz, ByteArray.toList_eq, beq_iff_eq, beq_eq_false_iff_ne, ne_eq] at hb) <;> (try (exfalso; omega)) <;> (try (exfalso; first | contradiction | (simp [ByteArray.toList_eq] at hb; done))) <;> (conv => whnf)) | (refine (hQ _ _ _ ?_).1; (conv => whnf)) | (refine ⟨_, rfl, ?_⟩; (conv => whnf)) | (refine ⟨_, mp_cut _ _ _, ?_⟩; (conv => whnf)) | (refine ⟨_, dbs_cut _ _ _, ?_⟩; (conv => whnf)) | (refine ⟨[_], rfl, ?_⟩; (conv => whnf)) | (refine ⟨[_, _], rfl, ?_⟩; (conv => whnf)) | (refine ⟨[_, _, _], rfl, ?_⟩; (conv => whnf)) | (refine ⟨[_, _, _, _], rfl, ?_⟩; (conv => whnf)) | (apply call_obj (m0) (fun F => by first | exact rfl | exact bob_ren F _ | exact ob_ren F _ _) (fun F => by first | exact rfl | exact bob_ren F _ | exact ob_ren F _ _); (focus ((repeat' (first | exact trivial | exact Sub.refl _ | exact sub_nil | exact Or.inl rfl | exact Or.inr ⟨rfl, rfl⟩ | (refine sub_ref ?_; (first | omega | (simp; done) | (simp; omega))) | (refine sub_int ?_; (first | omega | rfl | (simp [bsz]; done))) | refine sub_tup ?_ | exact sub_agg_dbs_r | exact sub_agg_take_r rfl (by first | assumption | omega) | (refine sub_agg_take rfl ?_; (first | ((try rw [dbs_length]); assumption) | ((try rw [dbs_length]); omega))) | refine sub_agg ?_ | (refine sub_val ?_ ?_ <;> (first | omega | (simp [pb, List.map_take, List.map_drop, List.take_take]; done) | (simp [pb, List.map_take, List.map_drop]; omega) | (simp [pb, List.take_of_length_le]; done))) | (refine or_val ?_ ?_ <;> (first | omega | (simp [pb, List.map_take, List.map_drop, List.take_take]; done) | (simp [pb, List.map_take, List.map_drop]; omega) | (simp [pb, List.take_of_length_le]; done))) | refine And.intro ?_ ?_)); done)); (focus (first | exact rfl | exact hp_eq rfl (dbs_app _ _ _ rfl) | exact hp_eq rfl (dbs_appo _ _ _ _ rfl rfl) | (refine hp_eq rfl ?_; (simp only [bob, ← List.length_append, dbs_appo', dbs_app', bsz]; done)) | (refine hp_eq rfl ?_; (simp [dbs, pb]; done)))); (conv => whnf)) | (apply call_obj (m1) (fun F => by first | exact rfl | exact bob_ren F _ | exact ob_ren F _ _) (fun F => by first | exact rfl | exact bob_ren F _ | exact ob_ren F _ _); (focus ((repeat' (first | exact trivial | exact Sub.refl _ | exact sub_nil | exact Or.inl rfl | exact Or.inr ⟨rfl, rfl⟩ | (refine sub_ref ?_; (first | omega | (simp; done) | (simp; omega))) | (refine sub_int ?_; (first | omega | rfl | (simp [bsz]; done))) | refine sub_tup ?_ | exact sub_agg_dbs_r | exact sub_agg_take_r rfl (by first | assumption | omega) | (refine sub_agg_take rfl ?_; (first | ((try rw [dbs_length]); assumption) | ((try rw [dbs_length]); omega))) | refine sub_agg ?_ | (refine sub_val ?_ ?_ <;> (first | omega | (simp [pb, List.map_take, List.map_drop, List.take_take]; done) | (simp [pb, List.map_take, List.map_drop]; omega) | (simp [pb, List.take_of_length_le]; done))) | (refine or_val ?_ ?_ <;> (first | omega | (simp [pb, List.map_take, List.map_drop, List.take_take]; done) | (simp [pb, List.map_take, List.map_drop]; omega) | (simp [pb, List.take_of_length_le]; done))) | refine And.intro ?_ ?_)); done)); (focus (first | exact rfl | exact hp_eq rfl (dbs_app _ _ _ rfl) | exact hp_eq rfl (dbs_appo _ _ _ _ rfl rfl) | (refine hp_eq rfl ?_; (simp only [bob, ← List.length_append, dbs_appo', dbs_app', bsz]; done)) | (refine hp_eq rfl ?_; (simp [dbs, pb]; done)))); (conv => whnf)) | (apply call_obj (m2) (fun F => by first | exact rfl | exact bob_ren F _ | exact ob_ren F _ _) (fun F => by first | exact rfl | exact bob_ren F _ | exact ob_ren F _ _); (focus ((repeat' (first | exact trivial | exact Sub.refl _ | exact sub_nil | exact Or.inl rfl | exact Or.inr ⟨rfl, rfl⟩ | (refine sub_ref ?_; (first | omega | (simp; done) | (simp; omega))) | (refine sub_int ?_; (first | omega | rfl | (simp [bsz]; done))) | refine sub_tup ?_ | exact sub_agg_dbs_r | exact sub_agg_take_r rfl (by first | assumption | omega) | (refine sub_agg_take rfl ?_; (first | ((try rw [dbs_length]); assumption) | ((try rw [dbs_length]); omega))) | refine sub_agg ?_ | (refine sub_val ?_ ?_ <;> (first | omega | (simp [pb, List.map_take, List.map_drop, List.take_take]; done) | (simp [pb, List.map_take, List.map_drop]; omega) | (simp [pb, List.take_of_length_le]; done))) | (refine or_val ?_ ?_ <;> (first | omega | (simp [pb, List.map_take, List.map_drop, List.take_take]; done) | (simp [pb, List.map_take, List.map_drop]; omega) | (simp [pb, List.take_of_length_le]; done))) | refine And.intro ?_ ?_)); done)); (focus (first | exact rfl | exact hp_eq rfl (dbs_app _ _ _ rfl) | exact hp_eq rfl (dbs_appo _ _ _ _ rfl rfl) | (refine hp_eq rfl ?_; (simp only [bob, ← List.length_append, dbs_appo', dbs_app', bsz]; done)) | (refine hp_eq rfl ?_; (simp [dbs, pb]; done)))); (conv => whnf)) | (apply call_obj (m3) (fun F => by first | exact rfl | exact bob_ren F _ | exact ob_ren F _ _) (fun F => by first | exact rfl | exact bob_ren F _ | exact ob_ren F _ _); (focus ((repeat' (first | exact trivial | exact Sub.refl _ | exact sub_nil | exact Or.inl rfl | exact Or.inr ⟨rfl, rfl⟩ | (refine sub_ref ?_; (first | omega | (simp; done) | (simp; omega))) | (refine sub_int ?_; (first | omega | rfl | (simp [bsz]; done))) | refine sub_tup ?_ | exact sub_agg_dbs_r | exact sub_agg_take_r rfl (by first | assumption | omega) | (refine sub_agg_take rfl ?_; (first | ((try rw [dbs_length]); assumption) | ((try rw [dbs_length]); omega))) | refine sub_agg ?_ | (refine sub_val ?_ ?_ <;> (first | omega | (simp [pb, List.map_take, List.map_drop, List.take_take]; done) | (simp [pb, List.map_take, List.map_drop]; omega) | (simp [pb, List.take_of_length_le]; done))) | (refine or_val ?_ ?_ <;> (first | omega | (simp [pb, List.map_take, List.map_drop, List.take_take]; done) | (simp [pb, List.map_take, List.map_drop]; omega) | (simp [pb, List.take_of_length_le]; done))) | refine And.intro ?_ ?_)); done)); (focus (first | exact rfl | exact hp_eq rfl (dbs_app _ _ _ rfl) | exact hp_eq rfl (dbs_appo _ _ _ _ rfl rfl) | (refine hp_eq rfl ?_; (simp only [bob, ← List.length_append, dbs_appo', dbs_app', bsz]; done)) | (refine hp_eq rfl ?_; (simp [dbs, pb]; done)))); (conv => whnf)) | fail)
  all_goals (refine ret_obj rfl ?_ rfl ?_ (fun F => by first | exact rfl | (simp only [TV.rens, TV.ren, dbs_ren]; rfl) | (simp [TV.rens, TV.ren, dbs_ren, map_ren_p]; done)) (fun F => by first | exact rfl | exact bob_ren F _ | exact ob_ren F _ _); (focus ((repeat' (first | exact trivial | exact Sub.refl _ | exact sub_nil | exact Or.inl rfl | exact Or.inr ⟨rfl, rfl⟩ | (refine sub_ref ?_; (first | omega | (simp; done) | (simp; omega))) | (refine sub_int ?_; (first | omega | rfl | (simp [bsz]; done))) | refine sub_tup ?_ | exact sub_agg_dbs_r | exact sub_agg_take_r rfl (by first | assumption | omega) | (refine sub_agg_take rfl ?_; (first | ((try rw [dbs_length]); assumption) | ((try rw [dbs_length]); omega))) | refine sub_agg ?_ | (refine sub_val ?_ ?_ <;> (first | omega | (simp [pb, List.map_take, List.map_drop, List.take_take]; done) | (simp [pb, List.map_take, List.map_drop]; omega) | (simp [pb, List.take_of_length_le]; done))) | (refine or_val ?_ ?_ <;> (first | omega | (simp [pb, List.map_take, List.map_drop, List.take_take]; done) | (simp [pb, List.map_take, List.map_drop]; omega) | (simp [pb, List.take_of_length_le]; done))) | refine And.intro ?_ ?_)); done)); (first | rfl | (refine ob2_eq ?_ ?_ <;> (first | rfl | assumption | (simp only [*]; done) | (refine dv_val ?_ ?_ <;> (first | rfl | omega | (simp [pb, List.map_take, List.map_drop, List.take_of_length_le]; done) | (simp [pb, List.map_take, List.map_drop]; omega)))))))
/-- F_codec_source_hold -/
theorem hold_meets (s : Sr) (hs : s.b.length ≤ 70368744177664) : Meets Try.prog F_codec_source_hold ⟨[.c (.ptr 0 0)], [(0, sob s)], 1, .agg (s.hold.1).enc, [(0, sob s.hold.2)], 1⟩ := by
  unfold Sr.hold
  dsimp only
  have m0 := number_meets s (by first | omega | (show s.b.length ≤ _; omega))
  have l0 := s.int_len
  generalize s.int = x at m0 l0 ⊢
  obtain ⟨v0, u0⟩ := x
  dsimp only at m0 l0 ⊢
  have m1 := number_meets u0 (by first | omega | (show u0.b.length ≤ _; omega))
  have l1 := u0.int_len
  generalize u0.int = x at m1 l1 ⊢
  obtain ⟨v1, u1⟩ := x
  dsimp only at m1 l1 ⊢
  have m2 := identifier_meets u1 (by first | omega | (show u1.b.length ≤ _; omega))
  have l2 := u1.ident_len
  generalize u1.ident = x at m2 l2 ⊢
  obtain ⟨v2, u2⟩ := x
  dsimp only at m2 l2 ⊢
  have m3 := number_meets u2 (by first | omega | (show u2.b.length ≤ _; omega))
  have l3 := u2.int_len
  generalize u2.int = x at m3 l3 ⊢
  obtain ⟨v3, u3⟩ := x
  dsimp only at m3 l3 ⊢
  have m4 := number_meets u3 (by first | omega | (show u3.b.length ≤ _; omega))
  have l4 := u3.int_len
  generalize u3.int = x at m4 l4 ⊢
  obtain ⟨v4, u4⟩ := x
  dsimp only at m4 l4 ⊢
  have m5 := number_meets u4 (by first | omega | (show u4.b.length ≤ _; omega))
  have l5 := u4.int_len
  generalize u4.int = x at m5 l5 ⊢
  obtain ⟨v5, u5⟩ := x
  dsimp only at m5 l5 ⊢
  refine fits_codec_source_hold.meets rfl (by simp) fun Q hQ => ?_
  (conv => whnf); repeat' (first | (refine And.intro ?_ ?_; (focus (first | omega | (dsimp only; omega) | (simp only [List.length_append]; omega) | (simp [pb]; done) | (simp [pb]; omega) | (simp [zeros_u8, pb]; done) | (simp [zeros_u8, pb]; omega) | (simp [ByteArray.size]; omega) | exact Nat.le_of_ble_eq_true rfl | exact u64_nonneg _ | (show chkDraw _ _ = true; kernel_rfl) | (decide; done))); (conv => whnf)) | (refine onB_intro (fun hb => ?_) (fun hb => ?_) <;> (try simp only [decide_eq_true_eq, decide_eq_false_iff_not, Bool.not_eq_true', Bool.not_eq_false', Bool.and_eq_true, Bool.and_eq_false_iff, Int.not_le, Int.not_lt, bsz, ByteArray.toList_eq, beq_iff_eq, beq_eq_false_iff_ne, ne_eq] at hb) <;> (try (exfalso; omega)) <;> (try (exfalso; first | contradiction | (simp [ByteArray.toList_eq] at hb; done))) <;> (conv => whnf)) | (refine (hQ _ _ _ ?_).1; (conv => whnf)) | (refine ⟨_, rfl, ?_⟩; (conv => whnf)) | (refine ⟨_, mp_cut _ _ _, ?_⟩; (conv => whnf)) | (refine ⟨_, dbs_cut _ _ _, ?_⟩; (conv => whnf)) | (refine ⟨[_], rfl, ?_⟩; (conv => whnf)) | (refine ⟨[_, _], rfl, ?_⟩; (conv => whnf)) | (refine ⟨[_, _, _], rfl, ?_⟩; (conv => whnf)) | (refine ⟨[_, _, _, _], rfl, ?_⟩; (conv => whnf)) | (apply call_obj (m0) (fun F => by first | exact rfl | exact bob_ren F _ | exact ob_ren F _ _) (fun F => by first | exact rfl | exact bob_ren F _ | exact ob_ren F _ _); (focus ((repeat' (first | exact trivial | exact Sub.refl _ | exact sub_nil | exact Or.inl rfl | exact Or.inr ⟨rfl, rfl⟩ | (refine sub_ref ?_; (first | omega | (simp; done) | (simp; omega))) | (refine sub_int ?_; (first | omega | rfl | (simp [bsz]; done))) | refine sub_tup ?_ | exact sub_agg_dbs_r | exact sub_agg_take_r rfl (by first | assumption | omega) | (refine sub_agg_take rfl ?_; (first | ((try rw [dbs_length]); assumption) | ((try rw [dbs_length]); omega))) | refine sub_agg ?_ | (refine sub_val ?_ ?_ <;> (first | omega | (simp [pb, List.map_take, List.map_drop, List.take_take]; done) | (simp [pb, List.map_take, List.map_drop]; omega) | (simp [pb, List.take_of_length_le]; done))) | (refine or_val ?_ ?_ <;> (first | omega | (simp [pb, List.map_take, List.map_drop, List.take_take]; done) | (simp [pb, List.map_take, List.map_drop]; omega) | (simp [pb, List.take_of_length_le]; done))) | refine And.intro ?_ ?_)); done)); (focus (first | exact rfl | exact hp_eq rfl (dbs_app _ _ _ rfl) | exact hp_eq rfl (dbs_appo _ _ _ _ rfl rfl) | (refine hp_eq rfl ?_; (simp only [bob, ← List.length_append, dbs_appo', dbs_app', bsz]; done)) | (refine hp_eq rfl ?_; (simp [dbs, pb]; done)))); (conv => whnf)) | (apply call_obj (m1) (fun F => by first | exact rfl | exact bob_ren F _ | exact ob_ren F _ _) (fun F => by first | exact rfl | exact bob_ren F _ | exact ob_ren F _ _); (focus ((repeat' (first | exact trivial | exact Sub.refl _ | exact sub_nil | exact Or.inl rfl | exact Or.inr ⟨rfl, rfl⟩ | (refine sub_ref ?_; (first | omega | (simp; done) | (simp; omega))) | (refine sub_int ?_; (first | omega | rfl | (simp [bsz]; done))) | refine sub_tup ?_ | exact sub_agg_dbs_r | exact sub_agg_take_r rfl (by first | assumption | omega) | (refine sub_agg_take rfl ?_; (first | ((try rw [dbs_length]); assumption) | ((try rw [dbs_length]); omega))) | refine sub_agg ?_ | (refine sub_val ?_ ?_ <;> (first | omega | (simp [pb, List.map_take, List.map_drop, List.take_take]; done) | (simp [pb, List.map_take, List.map_drop]; omega) | (simp [pb, List.take_of_length_le]; done))) | (refine or_val ?_ ?_ <;> (first | omega | (simp [pb, List.map_take, List.map_drop, List.take_take]; done) | (simp [pb, List.map_take, List.map_drop]; omega) | (simp [pb, List.take_of_length_le]; done))) | refine And.intro ?_ ?_)); done)); (focus (first | exact rfl | exact hp_eq rfl (dbs_app _ _ _ rfl) | exact hp_eq rfl (dbs_appo _ _ _ _ rfl rfl) | (refine hp_eq rfl ?_; (simp only [bob, ← List.length_append, dbs_appo', dbs_app', bsz]; done)) | (refine hp_eq rfl ?_; (simp [dbs, pb]; done)))); (conv => whnf)) | (apply call_obj (m2) (fun F => by first | exact rfl | exact bob_ren F _ | exact ob_ren F _ _) (fun F => by first | exact rfl | exact bob_ren F _ | exact ob_ren F _ _); (focus ((repeat' (first | exact trivial | exact Sub.refl _ | exact sub_nil | exact Or.inl rfl | exact Or.inr ⟨rfl, rfl⟩ | (refine sub_ref ?_; (first | omega | (simp; done) | (simp; omega))) | (refine sub_int ?_; (first | omega | rfl | (simp [bsz]; done))) | refine sub_tup ?_ | exact sub_agg_dbs_r | exact sub_agg_take_r rfl (by first | assumption | omega) | (refine sub_agg_take rfl ?_; (first | ((try rw [dbs_length]); assumption) | ((try rw [dbs_length]); omega))) | refine sub_agg ?_ | (refine sub_val ?_ ?_ <;> (first | omega | (simp [pb, List.map_take, List.map_drop, List.take_take]; done) | (simp [pb, List.map_take, List.map_drop]; omega) | (simp [pb, List.take_of_length_le]; done))) | (refine or_val ?_ ?_ <;> (first | omega | (simp [pb, List.map_take, List.map_drop, List.take_take]; done) | (simp [pb, List.map_take, List.map_drop]; omega) | (simp [pb, List.take_of_length_le]; done))) | refine And.intro ?_ ?_)); done)); (focus (first | exact rfl | exact hp_eq rfl (dbs_app _ _ _ rfl) | exact hp_eq rfl (dbs_appo _ _ _ _ rfl rfl) | (refine hp_eq rfl ?_; (simp only [bob, ← List.length_append, dbs_appo', dbs_app', bsz]; done)) | (refine hp_eq rfl ?_; (simp [dbs, pb]; done)))); (conv => whnf)) | (apply call_obj (m3) (fun F => by first | exact rfl | exact bob_ren F _ | exact ob_ren F _ _) (fun F => by first | exact rfl | exact bob_ren F _ | exact ob_ren F _ _); (focus ((repeat' (first | exact trivial | exact Sub.refl _ | exact sub_nil | exact Or.inl rfl | exact Or.inr ⟨rfl, rfl⟩ | (refine sub_ref ?_; (first | omega | (simp; done) | (simp; omega))) | (refine sub_int ?_; (first | omega | rfl | (simp [bsz]; done))) | refine sub_tup ?_ | exact sub_agg_dbs_r | exact sub_agg_take_r rfl (by first | assumption | omega) | (refine sub_agg_take rfl ?_; (first | ((try rw [dbs_length]); assumption) | ((try rw [dbs_length]); omega))) | refine sub_agg ?_ | (refine sub_val ?_ ?_ <;> (first | omega | (simp [pb, List.map_take, List.map_drop, List.take_take]; done) | (simp [pb, List.map_take, List.map_drop]; omega) | (simp [pb, List.take_of_length_le]; done))) | (refine or_val ?_ ?_ <;> (first | omega | (simp [pb, List.map_take, List.map_drop, List.take_take]; done) | (simp [pb, List.map_take, List.map_drop]; omega) | (simp [pb, List.take_of_length_le]; done))) | refine And.intro ?_ ?_)); done)); (focus (first | exact rfl | exact hp_eq rfl (dbs_app _ _ _ rfl) | exact hp_eq rfl (dbs_appo _ _ _ _ rfl rfl) | (refine hp_eq rfl ?_; (simp only [bob, ← List.length_append, dbs_appo', dbs_app', bsz]; done)) | (refine hp_eq rfl ?_; (simp [dbs, pb]; done)))); (conv => whnf)) | (apply call_obj (m4) (fun F => by first | exact rfl | exact bob_ren F _ | exact ob_ren F _ _) (fun F => by first | exact rfl | exact bob_ren F _ | exact ob_ren F _ _); (focus ((repeat' (first | exact trivial | exact Sub.refl _ | exact sub_nil | exact Or.inl rfl | exact Or.inr ⟨rfl, rfl⟩ | (refine sub_ref ?_; (first | omega | (simp; done) | (simp; omega))) | (refine sub_int ?_; (first | omega | rfl | (simp [bsz]; done))) | refine sub_tup ?_ | exact sub_agg_dbs_r | exact sub_agg_take_r rfl (by first | assumption | omega) | (refine sub_agg_take rfl ?_; (first | ((try rw [dbs_length]); assumption) | ((try rw [dbs_length]); omega))) | refine sub_agg ?_ | (refine sub_val ?_ ?_ <;> (first | omega | (simp [pb, List.map_take, List.map_drop, List.take_take]; done) | (simp [pb, List.map_take, List.map_drop]; omega) | (simp [pb, List.take_of_length_le]; done))) | (refine or_val ?_ ?_ <;> (first | omega | (simp [pb, List.map_take, List.map_drop, List.take_take]; done) | (simp [pb, List.map_take, List.map_drop]; omega) | (simp [pb, List.take_of_length_le]; done))) | refine And.intro ?_ ?_)); done)); (focus (first | exact rfl | exact hp_eq rfl (dbs_app _ _ _ rfl) | exact hp_eq rfl (dbs_appo _ _ _ _ rfl rfl) | (refine hp_eq rfl ?_; (simp only [bob, ← List.length_append, dbs_appo', dbs_app', bsz]; done)) | (refine hp_eq rfl ?_; (simp [dbs, pb]; done)))); (conv => whnf)) | (apply call_obj (m5) (fun F => by first | exact rfl | exact bob_ren F _ | exact ob_ren F _ _) (fun F => by first | exact rfl | exact bob_ren F _ | exact ob_ren F _ _); (focus ((repeat' (first | exact trivial | exact Sub.refl _ | exact sub_nil | exact Or.inl rfl | exact Or.inr ⟨rfl, rfl⟩ | (refine sub_ref ?_; (first | omega | (simp; done) | (simp; omega))) | (refine sub_int ?_; (first | omega | rfl | (simp [bsz]; done))) | refine sub_tup ?_ | exact sub_agg_dbs_r | exact sub_agg_take_r rfl (by first | assumption | omega) | (refine sub_agg_take rfl ?_; (first | ((try rw [dbs_length]); assumption) | ((try rw [dbs_length]); omega))) | refine sub_agg ?_ | (refine sub_val ?_ ?_ <;> (first | omega | (simp [pb, List.map_take, List.map_drop, List.take_take]; done) | (simp [pb, List.map_take, List.map_drop]; omega) | (simp [pb, List.take_of_length_le]; done))) | (refine or_val ?_ ?_ <;> (first | omega | (simp [pb, List.map_take, List.map_drop, List.take_take]; done) | (simp [pb, List.map_take, List.map_drop]; omega) | (simp [pb, List.take_of_length_le]; done))) | refine And.intro ?_ ?_)); done)); (focus (first | exact rfl | exact hp_eq rfl (dbs_app _ _ _ rfl) | exact hp_eq rfl (dbs_appo _ _ _ _ rfl rfl) | (refine hp_eq rfl ?_; (simp only [bob, ← List.length_append, dbs_appo', dbs_app', bsz]; done)) | (refine hp_eq rfl ?_; (simp [dbs, pb]; done)))); (conv => whnf)) | fail)
  all_goals (refine ret_obj rfl ?_ rfl ?_ (fun F => by first | exact rfl | (simp only [TV.rens, TV.ren, dbs_ren]; rfl) | (simp [TV.rens, TV.ren, dbs_ren, map_ren_p]; done)) (fun F => by first | exact rfl | exact bob_ren F _ | exact ob_ren F _ _); (focus ((repeat' (first | exact trivial | exact Sub.refl _ | exact sub_nil | exact Or.inl rfl | exact Or.inr ⟨rfl, rfl⟩ | (refine sub_ref ?_; (first | omega | (simp; done) | (simp; omega))) | (refine sub_int ?_; (first | omega | rfl | (simp [bsz]; done))) | refine sub_tup ?_ | exact sub_agg_dbs_r | exact sub_agg_take_r rfl (by first | assumption | omega) | (refine sub_agg_take rfl ?_; (first | ((try rw [dbs_length]); assumption) | ((try rw [dbs_length]); omega))) | refine sub_agg ?_ | (refine sub_val ?_ ?_ <;> (first | omega | (simp [pb, List.map_take, List.map_drop, List.take_take]; done) | (simp [pb, List.map_take, List.map_drop]; omega) | (simp [pb, List.take_of_length_le]; done))) | (refine or_val ?_ ?_ <;> (first | omega | (simp [pb, List.map_take, List.map_drop, List.take_take]; done) | (simp [pb, List.map_take, List.map_drop]; omega) | (simp [pb, List.take_of_length_le]; done))) | refine And.intro ?_ ?_)); done)); (first | rfl | (refine ob2_eq ?_ ?_ <;> (first | rfl | assumption | (simp only [*]; done) | (refine dv_val ?_ ?_ <;> (first | rfl | omega | (simp [pb, List.map_take, List.map_drop, List.take_of_length_le]; done) | (simp [pb, List.map_take, List.map_drop]; omega)))))))
end Go.Proofs.Ytjieenfbfckafaa.Am
