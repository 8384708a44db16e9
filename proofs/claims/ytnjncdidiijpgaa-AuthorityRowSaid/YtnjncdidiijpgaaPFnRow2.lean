/- Walks of Go functions in the logic of values: what the law reaches. -/
import Derived.Test.YtnjncdidiijpgaaPFnRow1
set_option linter.unusedVariables false
set_option linter.unusedSimpArgs false
set_option maxRecDepth 10000
set_option maxHeartbeats 16000000
namespace Go.Lo
open Go.Proofs
theorem ixI (l : List Int) (v : Int) (hl : l.length ≤ 4294967296) : Fn Try.prog 72 [.ro l.length (enc eI l), .v (.int .i64 v)] (.v (.int .i64 (idxB (fun x => decide (v = x)) l))) := by
 refine fnE_of_body (N := 19) Try.func72 rfl rfl (resOf1 rfl) (by simp) (fun w0 X hL_ => ?_)
 refine seqR ?_
 refine mG (.i 0) ?_
 refine op0 ?_
 refine awp_seq ?_
 refine seqR ?_
 refine mG (.q eI l) ?_
 refine opG rfl (aop_len rfl rfl rfl rfl ut48 (len_ro rfl) ?_)
 refine mG (.i 0) ?_
 refine op0 ?_
 refine rs_ (upd (upd (upd (upd (upd none_ 0 (.q eI l)) 1 (.i v)) 4 (.i 0)) 7 (.i (l.length : Int))) 8 (.i 0)) noOb (lu rfl (lu rfl (lu rfl (lu rfl (lu rfl ln))))) rfl ?_
 refine awp_block ?_
 refine awp_countI (fun k => ⟨(upd (upd (upd (upd (upd none_ 0 (.q eI l)) 1 (.i v)) 4 (.i 0)) 7 (.i (l.length : Int))) 8 (.i (k : Int))), noOb⟩) (fun k => (l.take k).any (fun x => decide (v = x)) = false) (l.length) ?_ (by simp) (fun k hk_k hinv => ?_)
 ·skip
  exact imp_ler [] (ler0 (sS rfl (sS rfl (sS rfl (sS rfl (sS rfl sr_none)))))) (keep_of rfl)
 refine seqR ?_
 refine bG ((.bool (decide ((k : Int) < (l.length : Int))))) ?_
 refine op0 ?_
 refine awp_seq ?_
 refine awp_cond (decide ((k : Int) < (l.length : Int))) rfl rfl (fun hc0 => ?_) (fun hc0 => ?_)
 ·skip
  have hf1 := of_decide_eq_true hc0
  refine awp_skip ?_
  refine awp_seq ?_
  refine awp_block ?_
  refine seqR ?_
  refine mG (.i (k : Int)) ?_
  refine mG (.i (k : Int)) ?_
  refine op0 ?_
  refine seqR ?_
  refine mG (.i v) ?_
  refine mG (.q eI l) ?_
  refine mG (.i (k : Int)) ?_
  refine opG rfl (aop_ixE 0 rfl rfl rfl ut48 sz3 rfl rfl (fun _ => rfl) rfl (by first | omega | (simp; done) | decide | (simp at *; omega)) ?_)
  refine opG rfl (aop_ld (av := .i (l.getD k 0)) rfl rfl rfl ag3 rfl rfl ?_)
  refine bG ((.bool (v == (l.getD k 0)))) ?_
  refine op0 ?_
  refine rs_ (upd (upd (upd (upd (upd (upd (upd none_ 0 (.q eI l)) 1 (.i v)) 4 (.i 0)) 5 (.i (k : Int))) 7 (.i (l.length : Int))) 8 (.i (k : Int))) 16 (.b (v == (l.getD k 0)))) noOb (lu rfl (lu rfl (lu rfl (lu rfl (lu rfl (lu rfl (lu rfl ln))))))) rfl ?_
  refine awp_cond (v == (l.getD k 0)) rfl rfl (fun hc1 => ?_) (fun hc1 => ?_)
  ·skip
   have hf2 := (beq_iff_eq).1 hc1
   refine seqR ?_
   refine mG (.i (k : Int)) ?_
   refine mG (.i (k : Int)) ?_
   refine op0 ?_
   refine awp_ret ?_
   exact fret (av := .v (.int .i64 (k : Int))) rfl rfl (by rw [idxB_stop (f := fun x => decide (v = x)) 0 (by omega) hinv (by simpa using hc1)] <;> rfl)
  ·skip
   have hf3 := (beq_eq_false_iff_ne).1 hc1
   refine awp_skip ?_
   refine regR ?_
   refine opG rfl (aop_binI (u := (.int .i64 ((k + 1 : Nat) : Int))) rfl rfl rfl rfl rfl trivial (addN (by omega)) ?_)
   refine mG (.i ((k + 1 : Nat) : Int)) ?_
   refine op0 ?_
   show _ ∧ _
   refine ⟨by omega, (any_step 0 (by omega) hinv (by simpa using hc1)), ?_⟩
   exact imp_ler [] (ler0 (sS rfl (sS rfl (sS rfl (sS rfl (sS rfl sr_none)))))) (keep_of rfl)
 ·skip
  have hf4 := of_decide_eq_false hc0
  refine awp_exit ?_
  refine seqR ?_
  refine mG (.i (-1)) ?_
  refine op0 ?_
  refine awp_ret ?_
  exact fret (av := .v (.int .i64 (-1))) rfl rfl (by rw [idxB_end (f := fun x => decide (v = x)) (by omega) hinv] <;> rfl)
theorem coI (l : List Int) (v : Int) (hl : l.length ≤ 4294967296) : Fn Try.prog 67 [.ro l.length (enc eI l), .v (.int .i64 v)] (.v (.bool (decide (v ∈ l)))) := by
 refine fnE_of_body (N := 9) Try.func67 rfl rfl (resOf1 rfl) (by simp) (fun w0 X hL_ => ?_)
 refine seqR ?_
 refine mG (.b false) ?_
 refine op0 ?_
 refine seqR ?_
 refine mG (.q eI l) ?_
 refine mG (.i v) ?_
 refine opG rfl (call_ (ixI l v (by first | omega | (simp; done) | decide | (simp at *; omega))) rfl rfl rfl rfl rfl bd72 rfl ?_)
 refine bG ((.bool (decide ((idxB (fun x => decide (v = x)) l) ≥ 0)))) ?_
 refine mG (.b (decide ((idxB (fun x => decide (v = x)) l) ≥ 0))) ?_
 refine op0 ?_
 refine rs_ (upd none_ 4 (.b (decide ((idxB (fun x => decide (v = x)) l) ≥ 0)))) noOb (lu rfl ln) rfl ?_
 refine awp_ret ?_
 exact fret (av := .v (.bool (decide ((idxB (fun x => decide (v = x)) l) ≥ 0)))) rfl rfl (by rw [idxB_mem2])
theorem ag140 : aggT Try.prog 140 = some true := by kernel_rfl
theorem ag28 : aggT Try.prog 28 = some false := by kernel_rfl
theorem ag63 : aggT Try.prog 63 = some true := by kernel_rfl
theorem bd53 : bodied Try.prog 53 = true := by kernel_rfl
theorem bd54 : bodied Try.prog 54 = true := by kernel_rfl
theorem bd65 : bodied Try.prog 65 = true := by kernel_rfl
theorem bd66 : bodied Try.prog 66 = true := by kernel_rfl
theorem bd67 : bodied Try.prog 67 = true := by kernel_rfl
theorem bd71 : bodied Try.prog 71 = true := by kernel_rfl
theorem bd74 : bodied Try.prog 74 = true := by kernel_rfl
theorem bd75 : bodied Try.prog 75 = true := by kernel_rfl
theorem bd76 : bodied Try.prog 76 = true := by kernel_rfl
theorem bd77 : bodied Try.prog 77 = true := by kernel_rfl
theorem bd78 : bodied Try.prog 78 = true := by kernel_rfl
theorem bd83 : bodied Try.prog 83 = true := by kernel_rfl
theorem bd84 : bodied Try.prog 84 = true := by kernel_rfl
theorem ft140_0 : fieldT Try.prog 140 0 = some (3, 0) := by kernel_rfl
theorem ft140_1 : fieldT Try.prog 140 1 = some (4, 1) := by kernel_rfl
theorem ft63_0 : fieldT Try.prog 63 0 = some (3, 0) := by kernel_rfl
theorem pl63 : placesOf Try.prog 63 = some ((.agg #[(.int .i64 0), (.bool false), (.slice none 0 0)]), fun i => ([(0, 1), (1, 1), (2, 1)] : List (Nat × Nat)).toArray[i]?) := by kernel_rfl
theorem sz140 : (Try.prog.info? 140).map (·.size) = some 2 := by kernel_rfl
theorem sz63 : (Try.prog.info? 63).map (·.size) = some 3 := by kernel_rfl
theorem ut131 : Try.prog.underlying 131 = some (.slice 140) := by kernel_rfl
theorem ut4 : Try.prog.underlying 4 = some (.bool) := by kernel_rfl
theorem ut43 : Try.prog.underlying 43 = some (.slice 63) := by kernel_rfl
theorem ze63 : (Try.prog.info? 63).bind (·.zero) = some (.agg #[(.int .i64 0), (.bool false), (.slice none 0 0)]) := by kernel_rfl
theorem g_Part1 (l : List Int) (s : Int) (hl : l.length ≤ 4294967296) : Fn Try.prog 78 [.ro l.length (enc eI l), .rp [.v (.int .i64 s)]] (.v (.bool (decide (s ∈ l)))) := by
 refine fnE_of_body (N := 7) Try.func78 rfl rfl (resOf1 rfl) (by simp) (fun w0 X hL_ => ?_)
 refine seqR ?_
 refine mG (.b false) ?_
 refine op0 ?_
 refine seqR ?_
 refine mG (.q eI l) ?_
 refine opG rfl (aop_ld (av := .i s) rfl rfl rfl ag3 rfl rfl ?_)
 refine opG rfl (call_ (coI l s (by first | omega | (simp; done) | decide | (simp at *; omega))) rfl rfl rfl rfl rfl bd67 rfl ?_)
 refine mG (.b (decide (s ∈ l))) ?_
 refine op0 ?_
 refine rs_ (upd none_ 3 (.b (decide (s ∈ l)))) noOb (lu rfl ln) rfl ?_
 refine awp_ret ?_
 exact fret (av := .v (.bool (decide (s ∈ l)))) rfl rfl rfl
theorem ixIL (parts : List (List Int)) (s : Int) (hp : parts.length ≤ 65536) (hpl : ∀ x, x ∈ parts → x.length ≤ 65536) : Fn Try.prog 77 [.ro parts.length (enc eIL parts), .fn 78 [.rp [.v (.int .i64 s)]]] (.v (.int .i64 (partI parts s))) := by
 refine fnE_of_body (N := 19) Try.func77 rfl rfl (resOf1 rfl) (by simp) (fun w0 X hL_ => ?_)
 refine seqR ?_
 refine mG (.i 0) ?_
 refine op0 ?_
 refine awp_seq ?_
 refine seqR ?_
 refine mG (.q eIL parts) ?_
 refine opG rfl (aop_len rfl rfl rfl rfl ut36 (len_ro rfl) ?_)
 refine mG (.i 0) ?_
 refine op0 ?_
 refine rs_ (upd (upd (upd (upd (upd none_ 0 (.q eIL parts)) 1 (.fn 78 [.rp [.i s]])) 4 (.i 0)) 7 (.i (parts.length : Int))) 8 (.i 0)) noOb (lu rfl (lu rfl (lu rfl (lu rfl (lu rfl ln))))) rfl ?_
 refine awp_block ?_
 refine awp_countI (fun k => ⟨(upd (upd (upd (upd (upd none_ 0 (.q eIL parts)) 1 (.fn 78 [.rp [.i s]])) 4 (.i 0)) 7 (.i (parts.length : Int))) 8 (.i (k : Int))), noOb⟩) (fun k => (parts.take k).any (fun l => decide (s ∈ l)) = false) (parts.length) ?_ (by simp) (fun k hk_k hinv => ?_)
 ·skip
  exact imp_ler [] (ler0 (sS rfl (sS rfl (sS rfl (sS rfl (sS rfl sr_none)))))) (keep_of rfl)
 refine seqR ?_
 refine bG ((.bool (decide ((k : Int) < (parts.length : Int))))) ?_
 refine op0 ?_
 refine awp_seq ?_
 refine awp_cond (decide ((k : Int) < (parts.length : Int))) rfl rfl (fun hc0 => ?_) (fun hc0 => ?_)
 ·skip
  have hf1 := of_decide_eq_true hc0
  have hpk := hpl _ (getD_mem (l := parts) (k := k) [] (by omega))
  refine awp_skip ?_
  refine awp_seq ?_
  refine awp_block ?_
  refine seqR ?_
  refine mG (.i (k : Int)) ?_
  refine mG (.i (k : Int)) ?_
  refine op0 ?_
  refine seqR ?_
  refine mG (.fn 78 [.rp [.i s]]) ?_
  refine mG (.q eIL parts) ?_
  refine mG (.i (k : Int)) ?_
  refine opG rfl (aop_ixE [] rfl rfl rfl ut36 sz48 rfl rfl (fun _ => rfl) rfl (by first | omega | (simp; done) | decide | (simp at *; omega)) ?_)
  refine opG rfl (aop_ld (av := .q eI (parts.getD k [])) rfl rfl rfl ag48 rfl rfl ?_)
  refine opG rfl (call_ (g_Part1 (parts.getD k []) s (by first | omega | (simp; done) | decide | (simp at *; omega))) rfl rfl rfl rfl rfl bd78 rfl ?_)
  refine op0 ?_
  refine rs_ (upd (upd (upd (upd (upd (upd (upd none_ 0 (.q eIL parts)) 1 (.fn 78 [.rp [.i s]])) 4 (.i 0)) 5 (.i (k : Int))) 7 (.i (parts.length : Int))) 8 (.i (k : Int))) 16 (.b (decide (s ∈ (parts.getD k []))))) noOb (lu rfl (lu rfl (lu rfl (lu rfl (lu rfl (lu rfl (lu rfl ln))))))) rfl ?_
  refine awp_cond (decide (s ∈ (parts.getD k []))) rfl rfl (fun hc1 => ?_) (fun hc1 => ?_)
  ·skip
   refine seqR ?_
   refine mG (.i (k : Int)) ?_
   refine mG (.i (k : Int)) ?_
   refine op0 ?_
   refine awp_ret ?_
   exact fret (av := .v (.int .i64 (k : Int))) rfl rfl (by unfold partI; rw [idxB_stop [] (by omega) hinv hc1] <;> rfl)
  ·skip
   refine awp_skip ?_
   refine regR ?_
   refine opG rfl (aop_binI (u := (.int .i64 ((k + 1 : Nat) : Int))) rfl rfl rfl rfl rfl trivial (addN (by omega)) ?_)
   refine mG (.i ((k + 1 : Nat) : Int)) ?_
   refine op0 ?_
   show _ ∧ _
   refine ⟨by omega, (any_step [] (by omega) hinv hc1), ?_⟩
   exact imp_ler [] (ler0 (sS rfl (sS rfl (sS rfl (sS rfl (sS rfl sr_none)))))) (keep_of rfl)
 ·skip
  have hf2 := of_decide_eq_false hc0
  refine awp_exit ?_
  refine seqR ?_
  refine mG (.i (-1)) ?_
  refine op0 ?_
  refine awp_ret ?_
  exact fret (av := .v (.int .i64 (-1))) rfl rfl (by unfold partI; rw [idxB_end (by omega) hinv] <;> rfl)
theorem g_Part (parts : List (List Int)) (s : Int) (hp : parts.length ≤ 65536) (hpl : ∀ x, x ∈ parts → x.length ≤ 65536) : Fn Try.prog 70 [.rp [.one, .one, .ro parts.length (enc eIL parts), .one, .one, .one, .one, .one, .one, .one], .v (.int .i64 s)] (.v (.int .i64 (partI parts s))) := by
 refine fnE_of_body (N := 14) Try.func70 rfl rfl (resOf1 rfl) (by simp) (fun w0 X hL_ => ?_)
 refine seqR ?_
 refine opG rfl (aop_box 51 rfl rfl rfl rfl rfl rfl rfl ?_)
 refine mG (.i 0) ?_
 refine op0 ?_
 refine awp_seq ?_
 refine seqR ?_
 refine mG (.rp [.one, .one, .q eIL parts, .one, .one, .one, .one, .one, .one, .one]) ?_
 refine opG rfl (aop_ptNil rfl rfl rfl ut78 rfl rfl rfl (.inl ⟨rfl, rfl⟩) ?_)
 refine op0 ?_
 refine rs_ (upd (upd (upd (upd none_ 0 (.rp [.one, .one, .q eIL parts, .one, .one, .one, .one, .one, .one, .one])) 3 (.pt 51 0)) 4 (.i 0)) 6 (.b false)) (updO noOb 51 (.live ⟨[.i s], 3, 1⟩)) (lu rfl (lu rfl (lu rfl (lu rfl ln)))) rfl ?_
 refine awp_cond false rfl rfl (fun h => by cases h) (fun _ => ?_)
 refine awp_skip ?_
 refine seqR ?_
 refine mG (.rp [.one, .one, .q eIL parts, .one, .one, .one, .one, .one, .one, .one]) ?_
 refine opG rfl (aop_nilCheck rfl rfl rfl rfl rfl ?_)
 refine opG rfl (aop_fieldAddr (av := .rp [.one, .one, .q eIL parts, .one, .one, .one, .one, .one, .one, .one]) (av' := .rp [.one, .one, .q eIL parts, .one, .one, .one, .one, .one, .one, .one]) rfl rfl rfl ft121_0 sz39 rfl rfl rfl ?_)
 refine opG rfl (aop_fieldAddr (av := .rp [.one, .one, .q eIL parts, .one, .one, .one, .one, .one, .one, .one]) (av' := .rp [.q eIL parts, .one, .one, .one, .one, .one, .one, .one]) rfl rfl rfl ft39_2 sz36 rfl rfl rfl ?_)
 refine opG rfl (aop_ld (av := .q eIL parts) rfl rfl rfl ag36 rfl rfl ?_)
 refine opG rfl (aop_makeFunc (caps := [.tmp 3]) rfl rfl rfl rfl ?_)
 refine opG rfl (callL_ (ixIL parts s hp hpl) rfl rfl rfl rfl rfl bd77 (lends_cons (lend_n (av := .q eIL parts)) (lends_cons (lend_fn (lends_cons (lend_pt rfl (lends_cons (lend_n (av := .i s)) lends_nil)) lends_nil)) lends_nil)) ?_)
 refine mG (.i (partI parts s)) ?_
 refine op0 ?_
 refine rs_ (upd none_ 4 (.i (partI parts s))) (updO noOb 51 (.live ⟨[.i s], 3, 1⟩)) (lu rfl ln) rfl ?_
 refine awp_ret ?_
 exact fret (av := .v (.int .i64 (partI parts s))) rfl rfl rfl
theorem o_Find1 (id x : Int)  : Fn Try.prog 54 [.agg [.v (.int .i64 x), .one, .one], .rp [.v (.int .i64 id)]] (.v (.bool (decide (x = id)))) := by
 refine fnE_of_body (N := 8) Try.func54 rfl rfl (resOf1 rfl) (by simp) (fun w0 X hL_ => ?_)
 refine seqR ?_
 refine opG rfl (aop_box 51 rfl rfl rfl rfl rfl rfl rfl ?_)
 refine mG (.b false) ?_
 refine op0 ?_
 refine seqR ?_
 refine fG (.pt 51 0) ft63_0 sz3 ?_
 refine opG rfl (aop_ld (av := .i x) rfl rfl rfl ag3 rfl rfl ?_)
 refine opG rfl (aop_ld (av := .i id) rfl rfl rfl ag3 rfl rfl ?_)
 refine bG ((.bool (x == id))) ?_
 refine mG (.b (x == id)) ?_
 refine op0 ?_
 refine rs_ (upd none_ 3 (.b (x == id))) (updO noOb 51 (.live ⟨[.i x, .one, .one], 63, 1⟩)) (lu rfl ln) rfl ?_
 refine awp_ret ?_
 exact fret (av := .v (.bool (x == id))) rfl rfl (by rw [eq_dec])
theorem ixVf (views : List View) (id : Int) (hn : views.length ≤ 4294967296)  : Fn Try.prog 53 [.ro views.length (enc eV views), .fn 54 [.rp [.v (.int .i64 id)]]] (.v (.int .i64 (findI views id))) := by
 refine fnE_of_body (N := 19) Try.func53 rfl rfl (resOf1 rfl) (by simp) (fun w0 X hL_ => ?_)
 refine seqR ?_
 refine mG (.i 0) ?_
 refine op0 ?_
 refine awp_seq ?_
 refine seqR ?_
 refine mG (.q eV views) ?_
 refine opG rfl (aop_len rfl rfl rfl rfl ut43 (len_ro rfl) ?_)
 refine mG (.i 0) ?_
 refine op0 ?_
 refine rs_ (upd (upd (upd (upd (upd none_ 0 (.q eV views)) 1 (.fn 54 [.rp [.i id]])) 4 (.i 0)) 7 (.i (views.length : Int))) 8 (.i 0)) noOb (lu rfl (lu rfl (lu rfl (lu rfl (lu rfl ln))))) rfl ?_
 refine awp_block ?_
 refine awp_countI (fun k => ⟨(upd (upd (upd (upd (upd none_ 0 (.q eV views)) 1 (.fn 54 [.rp [.i id]])) 4 (.i 0)) 7 (.i (views.length : Int))) 8 (.i (k : Int))), noOb⟩) (fun k => (views.take k).any (fun v : View => decide (v.id = id)) = false) (views.length) ?_ (by simp) (fun k hk_k hinv => ?_)
 ·skip
  exact imp_ler [] (ler0 (sS rfl (sS rfl (sS rfl (sS rfl (sS rfl sr_none)))))) (keep_of rfl)
 refine seqR ?_
 refine bG ((.bool (decide ((k : Int) < (views.length : Int))))) ?_
 refine op0 ?_
 refine awp_seq ?_
 refine awp_cond (decide ((k : Int) < (views.length : Int))) rfl rfl (fun hc0 => ?_) (fun hc0 => ?_)
 ·skip
  have hf1 := of_decide_eq_true hc0
  refine awp_skip ?_
  refine awp_seq ?_
  refine awp_block ?_
  refine seqR ?_
  refine mG (.i (k : Int)) ?_
  refine mG (.i (k : Int)) ?_
  refine op0 ?_
  refine seqR ?_
  refine mG (.fn 54 [.rp [.i id]]) ?_
  refine mG (.q eV views) ?_
  refine mG (.i (k : Int)) ?_
  refine opG rfl (aop_ixE dV rfl rfl rfl ut43 sz63 rfl rfl (fun _ => rfl) rfl (by first | omega | (simp; done) | decide | (simp at *; omega)) ?_)
  refine opG rfl (aop_ldB (cells' := [.i ((views.getD k dV).id), .b ((views.getD k dV).sure), .ro ((views.getD k dV).span.length) (enc eI ((views.getD k dV).span))]) rfl rfl rfl ag63 sz63 rfl rfl rfl rfl ?_)
  refine opG rfl (callW_ (o_Find1 id ((views.getD k dV).id)) rfl rfl rfl rfl rfl bd54 (lends_cons (lend_agg (lends_cons (lend_n (av := .i ((views.getD k dV).id))) (lends_cons (.one _ rfl) (lends_cons (.one _ rfl) lends_nil)))) (lends_cons (lend_n (av := .rp [.i id])) lends_nil)) ?_)
  refine op0 ?_
  refine rs_ (upd (upd (upd (upd (upd (upd (upd none_ 0 (.q eV views)) 1 (.fn 54 [.rp [.i id]])) 4 (.i 0)) 5 (.i (k : Int))) 7 (.i (views.length : Int))) 8 (.i (k : Int))) 16 (.b (decide (((views.getD k dV).id) = id)))) noOb (lu rfl (lu rfl (lu rfl (lu rfl (lu rfl (lu rfl (lu rfl ln))))))) rfl ?_
  refine awp_cond (decide (((views.getD k dV).id) = id)) rfl rfl (fun hc1 => ?_) (fun hc1 => ?_)
  ·skip
   refine seqR ?_
   refine mG (.i (k : Int)) ?_
   refine mG (.i (k : Int)) ?_
   refine op0 ?_
   refine awp_ret ?_
   exact fret (av := .v (.int .i64 (k : Int))) rfl rfl (by unfold findI; rw [idxB_stop (f := fun v : View => decide (v.id = id)) dV (by omega) hinv hc1] <;> rfl)
  ·skip
   refine awp_skip ?_
   refine regR ?_
   refine opG rfl (aop_binI (u := (.int .i64 ((k + 1 : Nat) : Int))) rfl rfl rfl rfl rfl trivial (addN (by omega)) ?_)
   refine mG (.i ((k + 1 : Nat) : Int)) ?_
   refine op0 ?_
   show _ ∧ _
   refine ⟨by omega, (any_step dV (by omega) hinv hc1), ?_⟩
   exact imp_ler [] (ler0 (sS rfl (sS rfl (sS rfl (sS rfl (sS rfl sr_none)))))) (keep_of rfl)
 ·skip
  have hf2 := of_decide_eq_false hc0
  refine awp_exit ?_
  refine seqR ?_
  refine mG (.i (-1)) ?_
  refine op0 ?_
  refine awp_ret ?_
  exact fret (av := .v (.int .i64 (-1))) rfl rfl (by unfold findI; rw [idxB_end (f := fun v : View => decide (v.id = id)) (by omega) hinv] <;> rfl)
theorem o_Find (views : List View) (id : Int) (hn : views.length ≤ 4294967296) : Fn Try.prog 30 [.ro views.length (enc eV views), .v (.int .i64 id)] (.tup [.agg [.v (.int .i64 ((findV views id).id)), .v (.bool ((findV views id).sure)), .ro ((findV views id).span.length) (enc eI ((findV views id).span))], .v (.bool (!decide (findI views id < 0)))]) := by
 refine fnC_of_body (N := 17) Try.func30 rfl rfl (by simp) (fun w0 X hL_ => ?_)
 refine seqR ?_
 refine opG rfl (aop_box 51 rfl rfl rfl rfl rfl rfl rfl ?_)
 refine opG rfl (aop_alloc 52 rfl rfl rfl rfl ze63 rfl ?_)
 refine mG (.b false) ?_
 refine op0 ?_
 refine seqR ?_
 refine mG (.q eV views) ?_
 refine opG rfl (aop_makeFunc (caps := [.tmp 3]) rfl rfl rfl rfl ?_)
 refine opG rfl (callL_ (ixVf views id (by first | omega | (simp; done) | decide | (simp at *; omega))) rfl rfl rfl rfl rfl bd53 (lends_cons (lend_n (av := .q eV views)) (lends_cons (lend_fn (lends_cons (lend_pt rfl (lends_cons (lend_n (av := .i id)) lends_nil)) lends_nil)) lends_nil)) ?_)
 refine mG (.i (findI views id)) ?_
 refine op0 ?_
 refine rs_ (upd (upd (upd (upd none_ 0 (.q eV views)) 4 (.pt 52 0)) 5 (.b false)) 6 (.i (findI views id))) (updO (updO noOb 51 (.live ⟨[.i id], 3, 1⟩)) 52 (.live ⟨[.i 0, .b false, .v (.slice none 0 0)], 63, 1⟩)) (lu rfl (lu rfl (lu rfl (lu rfl ln)))) rfl ?_
 refine awp_seq ?_
 refine seqR ?_
 refine mG (.i (findI views id)) ?_
 refine bG ((.bool (decide ((findI views id) < 0)))) ?_
 refine op0 ?_
 refine awp_cond (decide ((findI views id) < 0)) rfl rfl (fun hc0 => ?_) (fun hc0 => ?_)
 ·skip
  have hf1 := of_decide_eq_true hc0
  have hf : findI views id < 0 := of_decide_eq_true hc0
  refine seqR ?_
  refine opG rfl (aop_build rfl rfl rfl pl63 rfl ?_)
  refine opG rfl (aop_store rfl rfl rfl sz63 rfl rfl rfl rfl rfl (Nat.le_of_ble_eq_true rfl) rfl rfl ?_)
  refine mG (.b false) ?_
  refine op0 ?_
  refine rs_ (upd (upd (upd (upd none_ 0 (.q eV views)) 4 (.pt 52 0)) 5 (.b false)) 6 (.i (findI views id))) (updO (updO (updO noOb 51 (.live ⟨[.i id], 3, 1⟩)) 52 (.live ⟨[.i 0, .b false, .v (.slice none 0 0)], 63, 1⟩)) 52 (.live ⟨[.i 0, .b false, .v (.slice none 0 0)], 63, 1⟩)) (lu rfl (lu rfl (lu rfl (lu rfl ln)))) rfl ?_
  refine awp_imp _ ((frz_ [52] [(52, ⟨[.i 0, .b false, .ro 0 []], 63, 1⟩)] rfl (fun _ h => h) ⟨keep_cells (cs := [.i 0, .b false, .v (.slice none 0 0)]) (by simp) rfl rfl (frzs_cons (.inl rfl) (frzs_cons (.inl rfl) (frzs_cons (.inr .nil) frzs_nil))), trivial⟩ (fz_same 5 (.b false) rfl (fz_same 4 (.pt 52 0) rfl fz_none)))) ?_
  refine awp_ret ?_
  exact fretC2 (p := 4) (q := 5) rfl rfl ag63 sz63 rfl rfl (Nat.le_of_ble_eq_true rfl) rfl rfl rfl (by rw [findV_no hf, decide_eq_true hf]; rfl)
 ·skip
  have hf2 := of_decide_eq_false hc0
  have hf : ¬ findI views id < 0 := of_decide_eq_false hc0
  have hfr := findI_range views id
  refine awp_skip ?_
  refine seqR ?_
  refine mG (.q eV views) ?_
  refine mG (.i (findI views id)) ?_
  refine opG rfl (aop_ixI dV rfl rfl rfl ut43 sz63 rfl rfl (fun _ => rfl) rfl (by omega) (by first | omega | (simp; done) | decide | (simp at *; omega)) ?_)
  refine opG rfl (aop_ldB (cells' := [.i ((views.getD (findI views id).toNat dV).id), .b ((views.getD (findI views id).toNat dV).sure), .ro ((views.getD (findI views id).toNat dV).span.length) (enc eI ((views.getD (findI views id).toNat dV).span))]) rfl rfl rfl ag63 sz63 rfl rfl rfl rfl ?_)
  refine opG rfl (aop_store rfl rfl rfl sz63 rfl rfl rfl rfl rfl (Nat.le_of_ble_eq_true rfl) rfl rfl ?_)
  refine mG (.b true) ?_
  refine op0 ?_
  refine rs_ (upd (upd none_ 4 (.pt 52 0)) 5 (.b true)) (updO (updO (updO noOb 51 (.live ⟨[.i id], 3, 1⟩)) 52 (.live ⟨[.i 0, .b false, .v (.slice none 0 0)], 63, 1⟩)) 52 (.live ⟨[.i ((views.getD (findI views id).toNat dV).id), .b ((views.getD (findI views id).toNat dV).sure), .ro ((views.getD (findI views id).toNat dV).span.length) (enc eI ((views.getD (findI views id).toNat dV).span))], 63, 1⟩)) (lu rfl (lu rfl ln)) rfl ?_
  refine awp_imp _ ((frz_ [52] [(52, ⟨[.i ((views.getD (findI views id).toNat dV).id), .b ((views.getD (findI views id).toNat dV).sure), .ro ((views.getD (findI views id).toNat dV).span.length) (enc eI ((views.getD (findI views id).toNat dV).span))], 63, 1⟩)] rfl (fun _ h => h) ⟨keep_cells (cs := [.i ((views.getD (findI views id).toNat dV).id), .b ((views.getD (findI views id).toNat dV).sure), .ro ((views.getD (findI views id).toNat dV).span.length) (enc eI ((views.getD (findI views id).toNat dV).span))]) (by simp) rfl rfl (frzs_cons (.inl rfl) (frzs_cons (.inl rfl) (frzs_cons (.inl rfl) frzs_nil))), trivial⟩ (fz_same 5 (.b true) rfl (fz_same 4 (.pt 52 0) rfl fz_none)))) ?_
  refine awp_ret ?_
  exact fretC2 (p := 4) (q := 5) rfl rfl ag63 sz63 rfl rfl (Nat.le_of_ble_eq_true rfl) rfl rfl rfl (by rw [findV_at hf, decide_eq_false hf]; rfl)
theorem p_wrong (p : Int) (r : Bool) (right : List Bool) (hl : right.length ≤ 4294967296) : Fn Try.prog 76 [.agg [.v (.int .i64 p), .v (.bool r)], .ro right.length (enc eB right)] (.v (.bool (hasB right p != r))) := by
 refine fnE_of_body (N := 12) Try.func76 rfl rfl (resOf1 rfl) (by simp) (fun w0 X hL_ => ?_)
 refine seqR ?_
 refine opG rfl (aop_box 51 rfl rfl rfl rfl rfl rfl rfl ?_)
 refine mG (.b false) ?_
 refine op0 ?_
 refine awp_seq ?_
 refine awp_draw (m := 7) [(11, .b ((hasB right p) != r)), (10, .b r), (9, .pt 51 1), (8, .b (hasB right p)), (7, .i p), (6, .pt 51 0), (5, .q eB right)] mixed (by kernel_rfl) ?_ ?_
 ·refine ⟨?_, ?_, ?_, ?_, ?_, ?_, ?_, trivial⟩
  ·exact ⟨5, rfl, blt_lt rfl, fun st hob hE => aop_move (av := .q eB right) (.inl rfl) rfl rfl (hE 1 rfl) (by rw [hob]; rfl)⟩
  ·exact ⟨6, rfl, blt_lt rfl, fun st hob hE => aop_fieldAddr (av := .pt 51 0) (av' := .pt 51 0) rfl rfl rfl ft140_0 sz3 (hE 2 rfl) rfl rfl (by rw [hob]; rfl)⟩
  ·exact ⟨7, rfl, blt_lt rfl, fun st hob hE => aop_ld (av := .i p) rfl rfl rfl ag3 (hE 6 rfl) (by rw [hob]; rfl) (by rw [hob]; rfl)⟩
  ·exact ⟨8, rfl, blt_lt rfl, fun st hob hE => call_ (p_has right p (by first | omega | (simp; done) | decide | (simp at *; omega))) rfl rfl rfl rfl rfl bd84 (by show [st.env 5, st.env 7] ++ _ = _; rw [hE 5 rfl, hE 7 rfl]; rfl) (by rw [hob]; rfl)⟩
  ·exact ⟨9, rfl, blt_lt rfl, fun st hob hE => aop_fieldAddr (av := .pt 51 0) (av' := .pt 51 1) rfl rfl rfl ft140_1 sz4 (hE 2 rfl) rfl rfl (by rw [hob]; rfl)⟩
  ·exact ⟨10, rfl, blt_lt rfl, fun st hob hE => aop_ld (av := .b r) rfl rfl rfl ag4 (hE 9 rfl) (by rw [hob]; rfl) (by rw [hob]; rfl)⟩
  ·exact ⟨11, rfl, blt_lt rfl, fun st hob hE => aop_neB rfl rfl rfl (hE 8 rfl) (hE 10 rfl) ut4 (by rw [hob]; rfl)⟩
 refine mG (.b ((hasB right p) != r)) ?_
 refine op0 ?_
 refine awp_ret ?_
 exact fret (av := .v (.bool ((hasB right p) != r))) rfl rfl rfl
theorem p_Stands1 (p : Int) (r : Bool) (right : List Bool) (hl : right.length ≤ 4294967296) : Fn Try.prog 75 [.agg [.v (.int .i64 p), .v (.bool r)], .rp [.ro right.length (enc eB right)]] (.v (.bool (hasB right p != r))) := by
 refine fnE_of_body (N := 7) Try.func75 rfl rfl (resOf1 rfl) (by simp) (fun w0 X hL_ => ?_)
 refine seqR ?_
 refine opG rfl (aop_box 51 rfl rfl rfl rfl rfl rfl rfl ?_)
 refine mG (.b false) ?_
 refine op0 ?_
 refine seqR ?_
 refine opG rfl (aop_ldB (cells' := [.i p, .b r]) rfl rfl rfl ag140 sz140 rfl rfl rfl rfl ?_)
 refine opG rfl (aop_ld (av := .q eB right) rfl rfl rfl ag28 rfl rfl ?_)
 refine opG rfl (call_ (p_wrong p r right (by first | omega | (simp; done) | decide | (simp at *; omega))) rfl rfl rfl rfl rfl bd76 rfl ?_)
 refine mG (.b (hasB right p != r)) ?_
 refine op0 ?_
 refine rs_ (upd none_ 3 (.b (hasB right p != r))) (updO noOb 51 (.live ⟨[.i p, .b r], 140, 1⟩)) (lu rfl ln) rfl ?_
 refine awp_ret ?_
 exact fret (av := .v (.bool (hasB right p != r))) rfl rfl rfl
theorem ixN_wr (l : List Need) (right : List Bool) (hl : l.length ≤ 4294967296) (hr : right.length ≤ 4294967296) : Fn Try.prog 83 [.ro l.length (enc eN l), .fn 75 [.rp [.ro right.length (enc eB right)]]] (.v (.int .i64 (idxB (wrB right) l))) := by
 refine fnE_of_body (N := 19) Try.func83 rfl rfl (resOf1 rfl) (by simp) (fun w0 X hL_ => ?_)
 refine seqR ?_
 refine mG (.i 0) ?_
 refine op0 ?_
 refine awp_seq ?_
 refine seqR ?_
 refine mG (.q eN l) ?_
 refine opG rfl (aop_len rfl rfl rfl rfl ut131 (len_ro rfl) ?_)
 refine mG (.i 0) ?_
 refine op0 ?_
 refine rs_ (upd (upd (upd (upd (upd none_ 0 (.q eN l)) 1 (.fn 75 [.rp [.q eB right]])) 4 (.i 0)) 7 (.i (l.length : Int))) 8 (.i 0)) noOb (lu rfl (lu rfl (lu rfl (lu rfl (lu rfl ln))))) rfl ?_
 refine awp_block ?_
 refine awp_countI (fun k => ⟨(upd (upd (upd (upd (upd none_ 0 (.q eN l)) 1 (.fn 75 [.rp [.q eB right]])) 4 (.i 0)) 7 (.i (l.length : Int))) 8 (.i (k : Int))), noOb⟩) (fun k => (l.take k).any (wrB right) = false) (l.length) ?_ (by simp) (fun k hk_k hinv => ?_)
 ·skip
  exact imp_ler [] (ler0 (sS rfl (sS rfl (sS rfl (sS rfl (sS rfl sr_none)))))) (keep_of rfl)
 refine seqR ?_
 refine bG ((.bool (decide ((k : Int) < (l.length : Int))))) ?_
 refine op0 ?_
 refine awp_seq ?_
 refine awp_cond (decide ((k : Int) < (l.length : Int))) rfl rfl (fun hc0 => ?_) (fun hc0 => ?_)
 ·skip
  have hf1 := of_decide_eq_true hc0
  refine awp_skip ?_
  refine awp_seq ?_
  refine awp_block ?_
  refine seqR ?_
  refine mG (.i (k : Int)) ?_
  refine mG (.i (k : Int)) ?_
  refine op0 ?_
  refine seqR ?_
  refine mG (.fn 75 [.rp [.q eB right]]) ?_
  refine mG (.q eN l) ?_
  refine mG (.i (k : Int)) ?_
  refine opG rfl (aop_ixE dN rfl rfl rfl ut131 sz140 rfl rfl (fun _ => rfl) rfl (by first | omega | (simp; done) | decide | (simp at *; omega)) ?_)
  refine opG rfl (aop_ldB (cells' := [.i ((l.getD k dN).point), .b ((l.getD k dN).right)]) rfl rfl rfl ag140 sz140 rfl rfl rfl rfl ?_)
  refine opG rfl (call_ (p_Stands1 ((l.getD k dN).point) ((l.getD k dN).right) right (by first | omega | (simp; done) | decide | (simp at *; omega))) rfl rfl rfl rfl rfl bd75 rfl ?_)
  refine op0 ?_
  refine rs_ (upd (upd (upd (upd (upd (upd (upd none_ 0 (.q eN l)) 1 (.fn 75 [.rp [.q eB right]])) 4 (.i 0)) 5 (.i (k : Int))) 7 (.i (l.length : Int))) 8 (.i (k : Int))) 16 (.b (hasB right ((l.getD k dN).point) != ((l.getD k dN).right)))) noOb (lu rfl (lu rfl (lu rfl (lu rfl (lu rfl (lu rfl (lu rfl ln))))))) rfl ?_
  refine awp_cond (hasB right ((l.getD k dN).point) != ((l.getD k dN).right)) rfl rfl (fun hc1 => ?_) (fun hc1 => ?_)
  ·skip
   refine seqR ?_
   refine mG (.i (k : Int)) ?_
   refine mG (.i (k : Int)) ?_
   refine op0 ?_
   refine awp_ret ?_
   exact fret (av := .v (.int .i64 (k : Int))) rfl rfl (by rw [idxB_stop (f := wrB right) dN (by omega) hinv hc1] <;> rfl)
  ·skip
   refine awp_skip ?_
   refine regR ?_
   refine opG rfl (aop_binI (u := (.int .i64 ((k + 1 : Nat) : Int))) rfl rfl rfl rfl rfl trivial (addN (by omega)) ?_)
   refine mG (.i ((k + 1 : Nat) : Int)) ?_
   refine op0 ?_
   show _ ∧ _
   refine ⟨by omega, (any_step dN (by omega) hinv hc1), ?_⟩
   exact imp_ler [] (ler0 (sS rfl (sS rfl (sS rfl (sS rfl (sS rfl sr_none)))))) (keep_of rfl)
 ·skip
  have hf2 := of_decide_eq_false hc0
  refine awp_exit ?_
  refine seqR ?_
  refine mG (.i (-1)) ?_
  refine op0 ?_
  refine awp_ret ?_
  exact fret (av := .v (.int .i64 (-1))) rfl rfl (by rw [idxB_end (f := wrB right) (by omega) hinv] <;> rfl)
theorem coN_wr (l : List Need) (right : List Bool) (hl : l.length ≤ 4294967296) (hr : right.length ≤ 4294967296) : Fn Try.prog 74 [.ro l.length (enc eN l), .fn 75 [.rp [.ro right.length (enc eB right)]]] (.v (.bool (l.any (wrB right)))) := by
 refine fnE_of_body (N := 9) Try.func74 rfl rfl (resOf1 rfl) (by simp) (fun w0 X hL_ => ?_)
 refine seqR ?_
 refine mG (.b false) ?_
 refine op0 ?_
 refine seqR ?_
 refine mG (.q eN l) ?_
 refine mG (.fn 75 [.rp [.q eB right]]) ?_
 refine opG rfl (call_ (ixN_wr l right (by first | omega | (simp; done) | decide | (simp at *; omega)) (by first | omega | (simp; done) | decide | (simp at *; omega))) rfl rfl rfl rfl rfl bd83 rfl ?_)
 refine bG ((.bool (decide ((idxB (wrB right) l) ≥ 0)))) ?_
 refine mG (.b (decide ((idxB (wrB right) l) ≥ 0))) ?_
 refine op0 ?_
 refine rs_ (upd none_ 4 (.b (decide ((idxB (wrB right) l) ≥ 0)))) noOb (lu rfl ln) rfl ?_
 refine awp_ret ?_
 exact fret (av := .v (.bool (decide ((idxB (wrB right) l) ≥ 0)))) rfl rfl (by rw [idxB_any dN] <;> rfl)
theorem p_Stands (needs : List Need) (right : List Bool) (hl : needs.length ≤ 4294967296) (hr : right.length ≤ 4294967296) : Fn Try.prog 69 [.ro needs.length (enc eN needs), .ro right.length (enc eB right)] (.v (.bool (!(needs.any (wrB right))))) := by
 refine fnE_of_body (N := 9) Try.func69 rfl rfl (resOf1 rfl) (by simp) (fun w0 X hL_ => ?_)
 refine seqR ?_
 refine opG rfl (aop_box 51 rfl rfl rfl rfl rfl rfl rfl ?_)
 refine mG (.b false) ?_
 refine op0 ?_
 refine seqR ?_
 refine mG (.q eN needs) ?_
 refine opG rfl (aop_makeFunc (caps := [.tmp 3]) rfl rfl rfl rfl ?_)
 refine opG rfl (callL_ (coN_wr needs right (by first | omega | (simp; done) | decide | (simp at *; omega)) (by first | omega | (simp; done) | decide | (simp at *; omega))) rfl rfl rfl rfl rfl bd74 (lends_cons (lend_n (av := .q eN needs)) (lends_cons (lend_fn (lends_cons (lend_pt rfl (lends_cons (lend_n (av := .q eB right)) lends_nil)) lends_nil)) lends_nil)) ?_)
 refine opG rfl (aop_not rfl rfl rfl rfl ?_)
 refine mG (.b (!(needs.any (wrB right)))) ?_
 refine op0 ?_
 refine rs_ (upd none_ 4 (.b (!(needs.any (wrB right))))) (updO noOb 51 (.live ⟨[.q eB right], 28, 1⟩)) (lu rfl ln) rfl ?_
 refine awp_ret ?_
 exact fret (av := .v (.bool (!(needs.any (wrB right))))) rfl rfl rfl
theorem c_Meets1 (b : List Int) (s : Int) (hb : b.length ≤ 4294967296) : Fn Try.prog 66 [.v (.int .i64 s), .rp [.ro b.length (enc eI b)]] (.v (.bool (decide (s ∈ b)))) := by
 refine fnE_of_body (N := 7) Try.func66 rfl rfl (resOf1 rfl) (by simp) (fun w0 X hL_ => ?_)
 refine seqR ?_
 refine mG (.b false) ?_
 refine op0 ?_
 refine seqR ?_
 refine opG rfl (aop_ld (av := .q eI b) rfl rfl rfl ag48 rfl rfl ?_)
 refine mG (.i s) ?_
 refine opG rfl (call_ (coI b s (by first | omega | (simp; done) | decide | (simp at *; omega))) rfl rfl rfl rfl rfl bd67 rfl ?_)
 refine mG (.b (decide (s ∈ b))) ?_
 refine op0 ?_
 refine rs_ (upd none_ 3 (.b (decide (s ∈ b)))) noOb (lu rfl ln) rfl ?_
 refine awp_ret ?_
 exact fret (av := .v (.bool (decide (s ∈ b)))) rfl rfl rfl
theorem ixI_m (l : List Int) (b : List Int) (hl : l.length ≤ 4294967296) (hb : b.length ≤ 4294967296) : Fn Try.prog 71 [.ro l.length (enc eI l), .fn 66 [.rp [.ro b.length (enc eI b)]]] (.v (.int .i64 (idxB (fun s => decide (s ∈ b)) l))) := by
 refine fnE_of_body (N := 19) Try.func71 rfl rfl (resOf1 rfl) (by simp) (fun w0 X hL_ => ?_)
 refine seqR ?_
 refine mG (.i 0) ?_
 refine op0 ?_
 refine awp_seq ?_
 refine seqR ?_
 refine mG (.q eI l) ?_
 refine opG rfl (aop_len rfl rfl rfl rfl ut48 (len_ro rfl) ?_)
 refine mG (.i 0) ?_
 refine op0 ?_
 refine rs_ (upd (upd (upd (upd (upd none_ 0 (.q eI l)) 1 (.fn 66 [.rp [.q eI b]])) 4 (.i 0)) 7 (.i (l.length : Int))) 8 (.i 0)) noOb (lu rfl (lu rfl (lu rfl (lu rfl (lu rfl ln))))) rfl ?_
 refine awp_block ?_
 refine awp_countI (fun k => ⟨(upd (upd (upd (upd (upd none_ 0 (.q eI l)) 1 (.fn 66 [.rp [.q eI b]])) 4 (.i 0)) 7 (.i (l.length : Int))) 8 (.i (k : Int))), noOb⟩) (fun k => (l.take k).any (fun s => decide (s ∈ b)) = false) (l.length) ?_ (by simp) (fun k hk_k hinv => ?_)
 ·skip
  exact imp_ler [] (ler0 (sS rfl (sS rfl (sS rfl (sS rfl (sS rfl sr_none)))))) (keep_of rfl)
 refine seqR ?_
 refine bG ((.bool (decide ((k : Int) < (l.length : Int))))) ?_
 refine op0 ?_
 refine awp_seq ?_
 refine awp_cond (decide ((k : Int) < (l.length : Int))) rfl rfl (fun hc0 => ?_) (fun hc0 => ?_)
 ·skip
  have hf1 := of_decide_eq_true hc0
  refine awp_skip ?_
  refine awp_seq ?_
  refine awp_block ?_
  refine seqR ?_
  refine mG (.i (k : Int)) ?_
  refine mG (.i (k : Int)) ?_
  refine op0 ?_
  refine seqR ?_
  refine mG (.fn 66 [.rp [.q eI b]]) ?_
  refine mG (.q eI l) ?_
  refine mG (.i (k : Int)) ?_
  refine opG rfl (aop_ixE 0 rfl rfl rfl ut48 sz3 rfl rfl (fun _ => rfl) rfl (by first | omega | (simp; done) | decide | (simp at *; omega)) ?_)
  refine opG rfl (aop_ld (av := .i (l.getD k 0)) rfl rfl rfl ag3 rfl rfl ?_)
  refine opG rfl (call_ (c_Meets1 b (l.getD k 0) (by first | omega | (simp; done) | decide | (simp at *; omega))) rfl rfl rfl rfl rfl bd66 rfl ?_)
  refine op0 ?_
  refine rs_ (upd (upd (upd (upd (upd (upd (upd none_ 0 (.q eI l)) 1 (.fn 66 [.rp [.q eI b]])) 4 (.i 0)) 5 (.i (k : Int))) 7 (.i (l.length : Int))) 8 (.i (k : Int))) 16 (.b (decide ((l.getD k 0) ∈ b)))) noOb (lu rfl (lu rfl (lu rfl (lu rfl (lu rfl (lu rfl (lu rfl ln))))))) rfl ?_
  refine awp_cond (decide ((l.getD k 0) ∈ b)) rfl rfl (fun hc1 => ?_) (fun hc1 => ?_)
  ·skip
   refine seqR ?_
   refine mG (.i (k : Int)) ?_
   refine mG (.i (k : Int)) ?_
   refine op0 ?_
   refine awp_ret ?_
   exact fret (av := .v (.int .i64 (k : Int))) rfl rfl (by rw [idxB_stop (f := fun s => decide (s ∈ b)) 0 (by omega) hinv hc1] <;> rfl)
  ·skip
   refine awp_skip ?_
   refine regR ?_
   refine opG rfl (aop_binI (u := (.int .i64 ((k + 1 : Nat) : Int))) rfl rfl rfl rfl rfl trivial (addN (by omega)) ?_)
   refine mG (.i ((k + 1 : Nat) : Int)) ?_
   refine op0 ?_
   show _ ∧ _
   refine ⟨by omega, (any_step 0 (by omega) hinv hc1), ?_⟩
   exact imp_ler [] (ler0 (sS rfl (sS rfl (sS rfl (sS rfl (sS rfl sr_none)))))) (keep_of rfl)
 ·skip
  have hf2 := of_decide_eq_false hc0
  refine awp_exit ?_
  refine seqR ?_
  refine mG (.i (-1)) ?_
  refine op0 ?_
  refine awp_ret ?_
  exact fret (av := .v (.int .i64 (-1))) rfl rfl (by rw [idxB_end (f := fun s => decide (s ∈ b)) (by omega) hinv] <;> rfl)
theorem coI_m (l : List Int) (b : List Int) (hl : l.length ≤ 4294967296) (hb : b.length ≤ 4294967296) : Fn Try.prog 65 [.ro l.length (enc eI l), .fn 66 [.rp [.ro b.length (enc eI b)]]] (.v (.bool (l.any (fun s => decide (s ∈ b))))) := by
 refine fnE_of_body (N := 9) Try.func65 rfl rfl (resOf1 rfl) (by simp) (fun w0 X hL_ => ?_)
 refine seqR ?_
 refine mG (.b false) ?_
 refine op0 ?_
 refine seqR ?_
 refine mG (.q eI l) ?_
 refine mG (.fn 66 [.rp [.q eI b]]) ?_
 refine opG rfl (call_ (ixI_m l b (by first | omega | (simp; done) | decide | (simp at *; omega)) (by first | omega | (simp; done) | decide | (simp at *; omega))) rfl rfl rfl rfl rfl bd71 rfl ?_)
 refine bG ((.bool (decide ((idxB (fun s => decide (s ∈ b)) l) ≥ 0)))) ?_
 refine mG (.b (decide ((idxB (fun s => decide (s ∈ b)) l) ≥ 0))) ?_
 refine op0 ?_
 refine rs_ (upd none_ 4 (.b (decide ((idxB (fun s => decide (s ∈ b)) l) ≥ 0)))) noOb (lu rfl ln) rfl ?_
 refine awp_ret ?_
 exact fret (av := .v (.bool (decide ((idxB (fun s => decide (s ∈ b)) l) ≥ 0)))) rfl rfl (by rw [idxB_any 0] <;> rfl)
theorem c_Meets (a b : List Int) (ha : a.length ≤ 4294967296) (hb : b.length ≤ 4294967296) : Fn Try.prog 56 [.ro a.length (enc eI a), .ro b.length (enc eI b)] (.v (.bool (a.any (fun s => decide (s ∈ b))))) := by
 refine fnE_of_body (N := 8) Try.func56 rfl rfl (resOf1 rfl) (by simp) (fun w0 X hL_ => ?_)
 refine seqR ?_
 refine opG rfl (aop_box 51 rfl rfl rfl rfl rfl rfl rfl ?_)
 refine mG (.b false) ?_
 refine op0 ?_
 refine seqR ?_
 refine mG (.q eI a) ?_
 refine opG rfl (aop_makeFunc (caps := [.tmp 3]) rfl rfl rfl rfl ?_)
 refine opG rfl (callL_ (coI_m a b (by first | omega | (simp; done) | decide | (simp at *; omega)) (by first | omega | (simp; done) | decide | (simp at *; omega))) rfl rfl rfl rfl rfl bd65 (lends_cons (lend_n (av := .q eI a)) (lends_cons (lend_fn (lends_cons (lend_pt rfl (lends_cons (lend_n (av := .q eI b)) lends_nil)) lends_nil)) lends_nil)) ?_)
 refine mG (.b (a.any (fun s => decide (s ∈ b)))) ?_
 refine op0 ?_
 refine rs_ (upd none_ 4 (.b (a.any (fun s => decide (s ∈ b))))) (updO noOb 51 (.live ⟨[.q eI b], 48, 1⟩)) (lu rfl ln) rfl ?_
 refine awp_ret ?_
 exact fret (av := .v (.bool (a.any (fun s => decide (s ∈ b))))) rfl rfl rfl
theorem bd73 : bodied Try.prog 73 = true := by kernel_rfl
theorem bd79 : bodied Try.prog 79 = true := by kernel_rfl
theorem bd81 : bodied Try.prog 81 = true := by kernel_rfl
theorem bd82 : bodied Try.prog 82 = true := by kernel_rfl
theorem in140 : (Try.prog.info? 140).map (fun i => (i.zero, i.size, i.bytes)) = some (some (.agg #[(.int .i64 0), (.bool false)]), 2, 16) := by kernel_rfl
theorem iz140 : (Try.prog.info? 140).map (fun i => (i.zero, i.size)) = some (some (.agg #[(.int .i64 0), (.bool false)]), 2) := by kernel_rfl
theorem pl140 : placesOf Try.prog 140 = some ((.agg #[(.int .i64 0), (.bool false)]), fun i => ([(0, 1), (1, 1)] : List (Nat × Nat)).toArray[i]?) := by kernel_rfl
theorem ze3 : (Try.prog.info? 3).bind (·.zero) = some (.int .i64 0) := by kernel_rfl
theorem g_need (secs : List Sec) (pts : List Pnt) (s e p : Int) (hs : secs.length ≤ 65536) (hp : pts.length ≤ 65536) : Fn Try.prog 82 [.rp [.one, .ro secs.length (enc eSec secs), .one, .ro pts.length (enc ePnt pts), .one, .one, .one, .one, .one, .one], .agg [.v (.int .i64 s), .v (.int .i64 e)], .agg [.v (.int .i64 p), .one]] (.ro ((needL secs pts s e p).length) (enc eN (needL secs pts s e p))) := by
 refine fnE_of_body (N := 51) Try.func82 rfl rfl (resOf1 rfl) (by simp) (fun w0 X hL_ => ?_)
 refine seqR ?_
 refine opG rfl (aop_box 51 rfl rfl rfl rfl rfl rfl rfl ?_)
 refine opG rfl (aop_box 52 rfl rfl rfl rfl rfl rfl rfl ?_)
 refine mG (.v (.slice none 0 0)) ?_
 refine op0 ?_
 refine seqR ?_
 refine mG (.rp [.one, .q eSec secs, .one, .q ePnt pts, .one, .one, .one, .one, .one, .one]) ?_
 refine opG rfl (aop_ldB (cells' := [.i s, .i e]) rfl rfl rfl ag114 sz114 rfl rfl rfl rfl ?_)
 refine opG rfl (callW_ (g_node secs s e (by first | omega | (simp; done) | decide | (simp at *; omega))) rfl rfl rfl rfl rfl bd85 (lends_cons (lend_rpw (lends_cons (lend_n (av := .one)) (lends_cons (lend_n (av := .q eSec secs)) (lends_cons (lend_n (av := .one)) (lends_cons (.one _ rfl) (lends_cons (lend_n (av := .one)) (lends_cons (lend_n (av := .one)) (lends_cons (lend_n (av := .one)) (lends_cons (lend_n (av := .one)) (lends_cons (lend_n (av := .one)) (lends_cons (lend_n (av := .one)) lends_nil))))))))))) (lends_cons (lend_n (av := .agg [.i s, .i e])) lends_nil)) ?_)
 refine mG (.tup [.i (nodeA secs s e), .b (!noNode secs s e)]) ?_
 refine opG rfl (aop_extract rfl rfl rfl rfl rfl ?_)
 refine opG rfl (aop_extract rfl rfl rfl rfl rfl ?_)
 refine mG (.i (nodeA secs s e)) ?_
 refine mG (.b (!noNode secs s e)) ?_
 refine op0 ?_
 refine rs_ (upd (upd (upd (upd (upd none_ 0 (.rp [.one, .q eSec secs, .one, .q ePnt pts, .one, .one, .one, .one, .one, .one])) 4 (.pt 51 0)) 5 (.pt 52 0)) 6 (.v (.slice none 0 0))) 7 (.i (nodeA secs s e))) (updO (updO noOb 51 (.live ⟨[.i s, .i e], 114, 1⟩)) 52 (.live ⟨[.i p, .one], 114, 1⟩)) (lu rfl (lu rfl (lu rfl (lu rfl (lu rfl ln))))) rfl ?_
 refine seqR ?_
 refine mG (.rp [.one, .q eSec secs, .one, .q ePnt pts, .one, .one, .one, .one, .one, .one]) ?_
 refine mG (.i (nodeA secs s e)) ?_
 refine opG rfl (callW_ (g_Point pts (nodeA secs s e) (by first | omega | (simp; done) | decide | (simp at *; omega))) rfl rfl rfl rfl rfl bd86 (lends_cons (lend_rpw (lends_cons (lend_n (av := .one)) (lends_cons (.one _ rfl) (lends_cons (lend_n (av := .one)) (lends_cons (lend_n (av := .q ePnt pts)) (lends_cons (lend_n (av := .one)) (lends_cons (lend_n (av := .one)) (lends_cons (lend_n (av := .one)) (lends_cons (lend_n (av := .one)) (lends_cons (lend_n (av := .one)) (lends_cons (lend_n (av := .one)) lends_nil))))))))))) (lends_cons (lend_n (av := .i (nodeA secs s e))) lends_nil)) ?_)
 refine mG (.i (pointI pts (nodeA secs s e))) ?_
 refine op0 ?_
 refine rs_ (upd (upd (upd (upd (upd none_ 0 (.rp [.one, .q eSec secs, .one, .q ePnt pts, .one, .one, .one, .one, .one, .one])) 4 (.pt 51 0)) 5 (.pt 52 0)) 6 (.v (.slice none 0 0))) 9 (.i (pointI pts (nodeA secs s e)))) (updO (updO noOb 51 (.live ⟨[.i s, .i e], 114, 1⟩)) 52 (.live ⟨[.i p, .one], 114, 1⟩)) (lu rfl (lu rfl (lu rfl (lu rfl (lu rfl ln))))) rfl ?_
 refine awp_seq ?_
 refine seqR ?_
 refine mG (.i (pointI pts (nodeA secs s e))) ?_
 refine bG ((.bool (decide ((pointI pts (nodeA secs s e)) < 0)))) ?_
 refine op0 ?_
 refine awp_cond (decide ((pointI pts (nodeA secs s e)) < 0)) rfl rfl (fun hc0 => ?_) (fun hc0 => ?_)
 ·skip
  have hf1 := of_decide_eq_true hc0
  have hi : pointI pts (nodeA secs s e) < 0 := by omega
  refine seqR ?_
  refine mG (.v (.slice none 0 0)) ?_
  refine op0 ?_
  refine awp_imp _ (imp_frozen rfl (fun _ h => h) (lee_lend 6 (.ro 0 []) .nil lee_lend0)) ?_
  refine awp_ret ?_
  exact fret (av := .ro 0 []) rfl rfl (by rw [need_no hi]; rfl)
 ·skip
  have hf2 := of_decide_eq_false hc0
  have hi : ¬ pointI pts (nodeA secs s e) < 0 := by omega
  have hr_ := pointI_range pts (nodeA secs s e)
  refine awp_skip ?_
  refine seqR ?_
  refine fG (.pt 52 0) ft114_0 sz3 ?_
  refine opG rfl (aop_ld (av := .i p) rfl rfl rfl ag3 rfl rfl ?_)
  refine mG (.i p) ?_
  refine op0 ?_
  refine rs_ (upd (upd (upd (upd (upd none_ 0 (.rp [.one, .q eSec secs, .one, .q ePnt pts, .one, .one, .one, .one, .one, .one])) 4 (.pt 51 0)) 6 (.v (.slice none 0 0))) 9 (.i (pointI pts (nodeA secs s e)))) 10 (.i p)) (updO (updO noOb 51 (.live ⟨[.i s, .i e], 114, 1⟩)) 52 (.live ⟨[.i p, .one], 114, 1⟩)) (lu rfl (lu rfl (lu rfl (lu rfl (lu rfl ln))))) rfl ?_
  refine awp_seq ?_
  refine seqR ?_
  refine mG (.rp [.one, .q eSec secs, .one, .q ePnt pts, .one, .one, .one, .one, .one, .one]) ?_
  refine opG rfl (aop_nilCheck rfl rfl rfl rfl rfl ?_)
  refine opG rfl (aop_fieldAddr (av := .rp [.one, .q eSec secs, .one, .q ePnt pts, .one, .one, .one, .one, .one, .one]) (av' := .rp [.one, .q eSec secs, .one, .q ePnt pts, .one, .one, .one, .one, .one, .one]) rfl rfl rfl ft121_0 sz39 rfl rfl rfl ?_)
  refine opG rfl (aop_fieldAddr (av := .rp [.one, .q eSec secs, .one, .q ePnt pts, .one, .one, .one, .one, .one, .one]) (av' := .rp [.q ePnt pts, .one, .one, .one, .one, .one, .one]) rfl rfl rfl ft39_3 sz37 rfl rfl rfl ?_)
  refine opG rfl (aop_ld (av := .q ePnt pts) rfl rfl rfl ag37 rfl rfl ?_)
  refine mG (.i (pointI pts (nodeA secs s e))) ?_
  refine opG rfl (aop_ixI dP rfl rfl rfl ut37 sz100 rfl rfl (fun _ => rfl) rfl (by omega) (by first | omega | (simp; done) | decide | (simp at *; omega)) ?_)
  refine opG rfl (aop_fieldAddr (av := .rp (([.i ((pts.getD (pointI pts (nodeA secs s e)).toNat dP).node), .i ((pts.getD (pointI pts (nodeA secs s e)).toNat dP).stem), .i ((pts.getD (pointI pts (nodeA secs s e)).toNat dP).left), .i ((pts.getD (pointI pts (nodeA secs s e)).toNat dP).right)] : List AV) ++ ((enc ePnt pts).drop (((pointI pts (nodeA secs s e)).toNat + 1) * 4)))) (av' := .rp (([.i ((pts.getD (pointI pts (nodeA secs s e)).toNat dP).stem), .i ((pts.getD (pointI pts (nodeA secs s e)).toNat dP).left), .i ((pts.getD (pointI pts (nodeA secs s e)).toNat dP).right)] : List AV) ++ ((enc ePnt pts).drop (((pointI pts (nodeA secs s e)).toNat + 1) * 4)))) rfl rfl rfl ft100_1 sz3 rfl rfl rfl ?_)
  refine opG rfl (aop_ld (av := .i ((pts.getD (pointI pts (nodeA secs s e)).toNat dP).stem)) rfl rfl rfl ag3 rfl rfl ?_)
  refine mG (.i p) ?_
  refine bG ((.bool (((pts.getD (pointI pts (nodeA secs s e)).toNat dP).stem) == p))) ?_
  refine op0 ?_
  refine rs_ (upd (upd (upd (upd (upd (upd none_ 0 (.rp [.one, .q eSec secs, .one, .q ePnt pts, .one, .one, .one, .one, .one, .one])) 4 (.pt 51 0)) 6 (.v (.slice none 0 0))) 9 (.i (pointI pts (nodeA secs s e)))) 10 (.i p)) 34 (.b (((pts.getD (pointI pts (nodeA secs s e)).toNat dP).stem) == p))) (updO (updO noOb 51 (.live ⟨[.i s, .i e], 114, 1⟩)) 52 (.live ⟨[.i p, .one], 114, 1⟩)) (lu rfl (lu rfl (lu rfl (lu rfl (lu rfl (lu rfl ln)))))) rfl ?_
  refine cutG ⟨(upd (upd (upd (upd none_ 0 (.rp [.one, .q eSec secs, .one, .q ePnt pts, .one, .one, .one, .one, .one, .one])) 6 (.v (.slice none 0 0))) 9 (.i (pointI pts (nodeA secs s e)))) 10 (.i (if (pts.getD (pointI pts (nodeA secs s e)).toNat dP).stem = p then s else p))), noOb⟩ (fun s h => h) ?_ ?_
  ·skip
   refine awp_cond (((pts.getD (pointI pts (nodeA secs s e)).toNat dP).stem) == p) rfl rfl (fun hc1 => ?_) (fun hc1 => ?_)
   ·skip
    have hf3 := (beq_iff_eq).1 hc1
    refine regR ?_
    refine fG (.pt 51 0) ft114_0 sz3 ?_
    refine opG rfl (aop_ld (av := .i s) rfl rfl rfl ag3 rfl rfl ?_)
    refine mG (.i s) ?_
    refine op0 ?_
    show Imp _ _ _
    exact imp_ler [] (ler0 (sS (by exact congrArg (fun n_ : Int => AV.v (.int .i64 n_)) (by first | exact (if_pos (by simpa using hc1)).symm | exact (if_neg (by simpa using hc1)).symm)) (sS rfl (sS rfl (sS rfl sr_none))))) (keep_of rfl)
   ·skip
    have hf4 := (beq_eq_false_iff_ne).1 hc1
    refine awp_skip ?_
    show Imp _ _ _
    exact imp_ler [] (ler0 (sS (by exact congrArg (fun n_ : Int => AV.v (.int .i64 n_)) (by first | exact (if_pos (by simpa using hc1)).symm | exact (if_neg (by simpa using hc1)).symm)) (sS rfl (sS rfl (sS rfl sr_none))))) (keep_of rfl)
  refine seqR ?_
  refine mG (.i (pointI pts (nodeA secs s e))) ?_
  refine mG (.rp [.one, .q eSec secs, .one, .q ePnt pts, .one, .one, .one, .one, .one, .one]) ?_
  refine opG rfl (aop_nilCheck rfl rfl rfl rfl rfl ?_)
  refine opG rfl (aop_fieldAddr (av := .rp [.one, .q eSec secs, .one, .q ePnt pts, .one, .one, .one, .one, .one, .one]) (av' := .rp [.one, .q eSec secs, .one, .q ePnt pts, .one, .one, .one, .one, .one, .one]) rfl rfl rfl ft121_0 sz39 rfl rfl rfl ?_)
  refine opG rfl (aop_fieldAddr (av := .rp [.one, .q eSec secs, .one, .q ePnt pts, .one, .one, .one, .one, .one, .one]) (av' := .rp [.q ePnt pts, .one, .one, .one, .one, .one, .one]) rfl rfl rfl ft39_3 sz37 rfl rfl rfl ?_)
  refine opG rfl (aop_ld (av := .q ePnt pts) rfl rfl rfl ag37 rfl rfl ?_)
  refine mG (.i (pointI pts (nodeA secs s e))) ?_
  refine opG rfl (aop_ixI dP rfl rfl rfl ut37 sz100 rfl rfl (fun _ => rfl) rfl (by omega) (by first | omega | (simp; done) | decide | (simp at *; omega)) ?_)
  refine opG rfl (aop_fieldAddr (av := .rp (([.i ((pts.getD (pointI pts (nodeA secs s e)).toNat dP).node), .i ((pts.getD (pointI pts (nodeA secs s e)).toNat dP).stem), .i ((pts.getD (pointI pts (nodeA secs s e)).toNat dP).left), .i ((pts.getD (pointI pts (nodeA secs s e)).toNat dP).right)] : List AV) ++ ((enc ePnt pts).drop (((pointI pts (nodeA secs s e)).toNat + 1) * 4)))) (av' := .rp (([.i ((pts.getD (pointI pts (nodeA secs s e)).toNat dP).right)] : List AV) ++ ((enc ePnt pts).drop (((pointI pts (nodeA secs s e)).toNat + 1) * 4)))) rfl rfl rfl ft100_3 sz3 rfl rfl rfl ?_)
  refine opG rfl (aop_ld (av := .i ((pts.getD (pointI pts (nodeA secs s e)).toNat dP).right)) rfl rfl rfl ag3 rfl rfl ?_)
  refine mG (.i (if (pts.getD (pointI pts (nodeA secs s e)).toNat dP).stem = p then s else p)) ?_
  refine bG ((.bool (((pts.getD (pointI pts (nodeA secs s e)).toNat dP).right) == (if (pts.getD (pointI pts (nodeA secs s e)).toNat dP).stem = p then s else p)))) ?_
  refine opG rfl (aop_build rfl rfl rfl pl140 rfl ?_)
  refine opG rfl (aop_lit rfl rfl rfl ut131 iz140 (by decide) (by decide) rfl rfl ?_)
  refine mG (.ro 1 [.i (pointI pts (nodeA secs s e)), .b (((pts.getD (pointI pts (nodeA secs s e)).toNat dP).right) == (if (pts.getD (pointI pts (nodeA secs s e)).toNat dP).stem = p then s else p))]) ?_
  refine op0 ?_
  refine rs_ (upd none_ 6 (.ro 1 [.i (pointI pts (nodeA secs s e)), .b (((pts.getD (pointI pts (nodeA secs s e)).toNat dP).right) == (if (pts.getD (pointI pts (nodeA secs s e)).toNat dP).stem = p then s else p))])) noOb (lu rfl ln) rfl ?_
  refine awp_ret ?_
  exact fret (av := .ro 1 [.v (.int .i64 (pointI pts (nodeA secs s e))), .v (.bool (((pts.getD (pointI pts (nodeA secs s e)).toNat dP).right) == (if (pts.getD (pointI pts (nodeA secs s e)).toNat dP).stem = p then s else p)))]) rfl rfl (by rw [need_yes hi rfl rfl]; rfl)
theorem g_way1 (x g : Int)  : Fn Try.prog 81 [.agg [.v (.int .i64 x), .one], .rp [.v (.int .i64 g)]] (.v (.bool (decide (x = g)))) := by
 refine fnE_of_body (N := 8) Try.func81 rfl rfl (resOf1 rfl) (by simp) (fun w0 X hL_ => ?_)
 refine seqR ?_
 refine opG rfl (aop_box 51 rfl rfl rfl rfl rfl rfl rfl ?_)
 refine mG (.b false) ?_
 refine op0 ?_
 refine seqR ?_
 refine fG (.pt 51 0) ft114_0 sz3 ?_
 refine opG rfl (aop_ld (av := .i x) rfl rfl rfl ag3 rfl rfl ?_)
 refine opG rfl (aop_ld (av := .i g) rfl rfl rfl ag3 rfl rfl ?_)
 refine bG ((.bool (x == g))) ?_
 refine mG (.b (x == g)) ?_
 refine op0 ?_
 refine rs_ (upd none_ 3 (.b (x == g))) (updO noOb 51 (.live ⟨[.i x, .one], 114, 1⟩)) (lu rfl ln) rfl ?_
 refine awp_ret ?_
 exact fret (av := .v (.bool (x == g))) rfl rfl (by rfl)
theorem ixE_w (l : List En) (s : Int) (hl : l.length ≤ 4294967296)  : Fn Try.prog 80 [.ro l.length (enc eEn l), .fn 81 [.rp [.v (.int .i64 s)]]] (.v (.int .i64 (idxB (fun x : En => decide (x.sec = s)) l))) := by
 refine fnE_of_body (N := 19) Try.func80 rfl rfl (resOf1 rfl) (by simp) (fun w0 X hL_ => ?_)
 refine seqR ?_
 refine mG (.i 0) ?_
 refine op0 ?_
 refine awp_seq ?_
 refine seqR ?_
 refine mG (.q eEn l) ?_
 refine opG rfl (aop_len rfl rfl rfl rfl ut115 (len_ro rfl) ?_)
 refine mG (.i 0) ?_
 refine op0 ?_
 refine rs_ (upd (upd (upd (upd (upd none_ 0 (.q eEn l)) 1 (.fn 81 [.rp [.i s]])) 4 (.i 0)) 7 (.i (l.length : Int))) 8 (.i 0)) noOb (lu rfl (lu rfl (lu rfl (lu rfl (lu rfl ln))))) rfl ?_
 refine awp_block ?_
 refine awp_countI (fun k => ⟨(upd (upd (upd (upd (upd none_ 0 (.q eEn l)) 1 (.fn 81 [.rp [.i s]])) 4 (.i 0)) 7 (.i (l.length : Int))) 8 (.i (k : Int))), noOb⟩) (fun k => (l.take k).any (fun x : En => decide (x.sec = s)) = false) (l.length) ?_ (by simp) (fun k hk_k hinv => ?_)
 ·skip
  exact imp_ler [] (ler0 (sS rfl (sS rfl (sS rfl (sS rfl (sS rfl sr_none)))))) (keep_of rfl)
 refine seqR ?_
 refine bG ((.bool (decide ((k : Int) < (l.length : Int))))) ?_
 refine op0 ?_
 refine awp_seq ?_
 refine awp_cond (decide ((k : Int) < (l.length : Int))) rfl rfl (fun hc0 => ?_) (fun hc0 => ?_)
 ·skip
  have hf1 := of_decide_eq_true hc0
  refine awp_skip ?_
  refine awp_seq ?_
  refine awp_block ?_
  refine seqR ?_
  refine mG (.i (k : Int)) ?_
  refine mG (.i (k : Int)) ?_
  refine op0 ?_
  refine seqR ?_
  refine mG (.fn 81 [.rp [.i s]]) ?_
  refine mG (.q eEn l) ?_
  refine mG (.i (k : Int)) ?_
  refine opG rfl (aop_ixE dE rfl rfl rfl ut115 sz114 rfl rfl (fun _ => rfl) rfl (by first | omega | (simp; done) | decide | (simp at *; omega)) ?_)
  refine opG rfl (aop_ldB (cells' := [.i ((l.getD k dE).sec), .i ((l.getD k dE).en)]) rfl rfl rfl ag114 sz114 rfl rfl rfl rfl ?_)
  refine opG rfl (callW_ (g_way1 ((l.getD k dE).sec) s) rfl rfl rfl rfl rfl bd81 (lends_cons (lend_agg (lends_cons (lend_n (av := .i ((l.getD k dE).sec))) (lends_cons (.one _ rfl) lends_nil))) (lends_cons (lend_n (av := .rp [.i s])) lends_nil)) ?_)
  refine op0 ?_
  refine rs_ (upd (upd (upd (upd (upd (upd (upd none_ 0 (.q eEn l)) 1 (.fn 81 [.rp [.i s]])) 4 (.i 0)) 5 (.i (k : Int))) 7 (.i (l.length : Int))) 8 (.i (k : Int))) 16 (.b (decide (((l.getD k dE).sec) = s)))) noOb (lu rfl (lu rfl (lu rfl (lu rfl (lu rfl (lu rfl (lu rfl ln))))))) rfl ?_
  refine awp_cond (decide (((l.getD k dE).sec) = s)) rfl rfl (fun hc1 => ?_) (fun hc1 => ?_)
  ·skip
   refine seqR ?_
   refine mG (.i (k : Int)) ?_
   refine mG (.i (k : Int)) ?_
   refine op0 ?_
   refine awp_ret ?_
   exact fret (av := .v (.int .i64 (k : Int))) rfl rfl (by rw [idxB_stop (f := fun x : En => decide (x.sec = s)) dE (by omega) hinv hc1] <;> rfl)
  ·skip
   refine awp_skip ?_
   refine regR ?_
   refine opG rfl (aop_binI (u := (.int .i64 ((k + 1 : Nat) : Int))) rfl rfl rfl rfl rfl trivial (addN (by omega)) ?_)
   refine mG (.i ((k + 1 : Nat) : Int)) ?_
   refine op0 ?_
   show _ ∧ _
   refine ⟨by omega, (any_step dE (by omega) hinv hc1), ?_⟩
   exact imp_ler [] (ler0 (sS rfl (sS rfl (sS rfl (sS rfl (sS rfl sr_none)))))) (keep_of rfl)
 ·skip
  have hf2 := of_decide_eq_false hc0
  refine awp_exit ?_
  refine seqR ?_
  refine mG (.i (-1)) ?_
  refine op0 ?_
  refine awp_ret ?_
  exact fret (av := .v (.int .i64 (-1))) rfl rfl (by rw [idxB_end (f := fun x : En => decide (x.sec = s)) (by omega) hinv] <;> rfl)
theorem g_way (secs : List Sec) (pts : List Pnt) (s e : Int) (path : List Int) (hs : secs.length ≤ 65536) (hp : pts.length ≤ 65536) (hpl : path.length ≤ 65536) : Fn Try.prog 73 [.rp [.one, .ro secs.length (enc eSec secs), .one, .ro pts.length (enc ePnt pts), .one, .one, .one, .one, .one, .one], .agg [.v (.int .i64 s), .v (.int .i64 e)], .ro path.length (enc eI path)] (.tup [.ro ((wyL secs pts s e path).length) (enc eN (wyL secs pts s e path)), .v (.bool (wyB secs pts s e path))]) := by
 refine fnE_of_body (N := 46) Try.func73 rfl rfl (resOf2 rfl) (by simp) (fun w0 X hL_ => ?_)
 refine seqR ?_
 refine opG rfl (aop_box 51 rfl rfl rfl rfl rfl rfl rfl ?_)
 refine mG (.v (.slice none 0 0)) ?_
 refine mG (.b false) ?_
 refine op0 ?_
 refine seqR ?_
 refine mG (.v (.slice none 0 0)) ?_
 refine op0 ?_
 refine rs_ (upd (upd (upd (upd (upd (upd none_ 0 (.rp [.one, .q eSec secs, .one, .q ePnt pts, .one, .one, .one, .one, .one, .one])) 2 (.q eI path)) 4 (.pt 51 0)) 6 (.v (.slice none 0 0))) 7 (.b false)) 8 (.v (.slice none 0 0))) (updO noOb 51 (.live ⟨[.i s, .i e], 114, 1⟩)) (lu rfl (lu rfl (lu rfl (lu rfl (lu rfl (lu rfl ln)))))) rfl ?_
 refine awp_seq ?_
 refine seqR ?_
 refine mG (.q eI path) ?_
 refine opG rfl (aop_len rfl rfl rfl rfl ut48 (len_ro rfl) ?_)
 refine mG (.i 0) ?_
 refine op0 ?_
 refine awp_block ?_
 refine awp_countI (fun k => ⟨(upd (upd (upd (upd (upd (upd (upd (upd none_ 0 (.rp [.one, .q eSec secs, .one, .q ePnt pts, .one, .one, .one, .one, .one, .one])) 4 (.pt 2 0)) 6 (.v (.slice none 0 0))) 7 (.b false)) 8 (.sl 1 0 ((wyK secs pts path ⟨s, e, []⟩ k).ns.length))) 13 (.q eI path)) 14 (.i (path.length : Int))) 15 (.i (k : Int))), (updO (updO noOb 1 (.live ⟨(enc eN ((wyK secs pts path ⟨s, e, []⟩ k).ns)), 140, 2⟩)) 2 (.live ⟨[.i ((wyK secs pts path ⟨s, e, []⟩ k).s), .i ((wyK secs pts path ⟨s, e, []⟩ k).e)], 114, 1⟩))⟩) (fun k => wyF secs pts (path.drop k) (wyK secs pts path ⟨s, e, []⟩ k) = wyO secs pts s e path) (path.length) ?_ rfl (fun k hk_k hinv => ?_)
 ·skip
  refine (imp_adopt 8 52 140 2 rfl rfl).trans ?_
  exact imp_ler [(52, 1), (51, 2)] (lerL [(52, 1), (51, 2)] [((52, 1), .live ⟨(enc eN ((wyK secs pts path ⟨s, e, []⟩ 0).ns)), 140, 2⟩), ((51, 2), .live ⟨[.i ((wyK secs pts path ⟨s, e, []⟩ 0).s), .i ((wyK secs pts path ⟨s, e, []⟩ 0).e)], 114, 1⟩)] rfl (by decide) (by decide) ⟨row_no (o := ⟨[], 140, 2⟩) rfl rfl, row_no (o := ⟨[.i s, .i e], 114, 1⟩) rfl rfl, trivial⟩ (sr_same 15 (.i (0 : Int)) rfl NoI.out (sr_same 14 (.i (path.length : Int)) rfl NoI.out (sr_same 13 (.q eI path) rfl NoI.out (sr_map 8 (.sl 1 0 ((wyK secs pts path ⟨s, e, []⟩ 0).ns.length)) (by first | exact Ok.sl _ _ _ (by first | decide | simp) | exact Ok.pt _ _ (by first | decide | simp)) rfl (sr_same 7 (.b false) rfl NoI.out (sr_same 6 (.v (.slice none 0 0)) rfl NoI.out (sr_map 4 (.pt 2 0) (by first | exact Ok.sl _ _ _ (by first | decide | simp) | exact Ok.pt _ _ (by first | decide | simp)) rfl (sr_same 0 (.rp [.one, .q eSec secs, .one, .q ePnt pts, .one, .one, .one, .one, .one, .one]) rfl NoI.out sr_none))))))))) (keep_of rfl)
 have hwl := wyK_len (secs := secs) (pts := pts) (path := path) ⟨s, e, []⟩ rfl k
 have hal := aroundL_len secs pts (wyK secs pts path ⟨s, e, []⟩ k).s (wyK secs pts path ⟨s, e, []⟩ k).e
 have hnl := need_len (secs := secs) (pts := pts) (s := (wyK secs pts path ⟨s, e, []⟩ k).s) (e := (wyK secs pts path ⟨s, e, []⟩ k).e) (p := ((aroundL secs pts (wyK secs pts path ⟨s, e, []⟩ k).s (wyK secs pts path ⟨s, e, []⟩ k).e).getD (wyI secs pts (wyK secs pts path ⟨s, e, []⟩ k).s (wyK secs pts path ⟨s, e, []⟩ k).e (path.getD k 0)).toNat dE).sec)
 refine seqR ?_
 refine bG ((.bool (decide ((k : Int) < (path.length : Int))))) ?_
 refine op0 ?_
 refine awp_seq ?_
 refine awp_cond (decide ((k : Int) < (path.length : Int))) rfl rfl (fun hc0 => ?_) (fun hc0 => ?_)
 ·skip
  have hf1 := of_decide_eq_true hc0
  refine awp_skip ?_
  refine awp_seq ?_
  refine awp_block ?_
  refine seqR ?_
  refine opG rfl (aop_ixE 0 rfl rfl rfl ut48 sz3 rfl rfl (fun _ => rfl) rfl (by first | omega | (simp; done) | decide | (simp at *; omega)) ?_)
  refine opG rfl (aop_ld (av := .i (path.getD k 0)) rfl rfl rfl ag3 rfl rfl ?_)
  refine opG rfl (aop_alloc 53 rfl rfl rfl rfl ze3 rfl ?_)
  refine opG rfl (aop_store rfl rfl rfl sz3 rfl rfl rfl rfl rfl (Nat.le_of_ble_eq_true rfl) rfl rfl ?_)
  refine op0 ?_
  refine rs_ (upd (upd (upd (upd (upd (upd (upd (upd (upd none_ 0 (.rp [.one, .q eSec secs, .one, .q ePnt pts, .one, .one, .one, .one, .one, .one])) 4 (.pt 2 0)) 6 (.v (.slice none 0 0))) 7 (.b false)) 8 (.sl 1 0 ((wyK secs pts path ⟨s, e, []⟩ k).ns.length))) 10 (.pt 53 0)) 13 (.q eI path)) 14 (.i (path.length : Int))) 15 (.i (k : Int))) (updO (updO (updO (updO noOb 1 (.live ⟨(enc eN ((wyK secs pts path ⟨s, e, []⟩ k).ns)), 140, 2⟩)) 2 (.live ⟨[.i ((wyK secs pts path ⟨s, e, []⟩ k).s), .i ((wyK secs pts path ⟨s, e, []⟩ k).e)], 114, 1⟩)) 53 (.live ⟨[.i 0], 3, 1⟩)) 53 (.live ⟨[.i (path.getD k 0)], 3, 1⟩)) (lu rfl (lu rfl (lu rfl (lu rfl (lu rfl (lu rfl (lu rfl (lu rfl (lu rfl ln))))))))) rfl ?_
  refine seqR ?_
  refine mG (.rp [.one, .q eSec secs, .one, .q ePnt pts, .one, .one, .one, .one, .one, .one]) ?_
  refine opG rfl (aop_ldB (cells' := [.i ((wyK secs pts path ⟨s, e, []⟩ k).s), .i ((wyK secs pts path ⟨s, e, []⟩ k).e)]) rfl rfl rfl ag114 sz114 rfl rfl rfl rfl ?_)
  refine opG rfl (call_ (g_Around secs pts ((wyK secs pts path ⟨s, e, []⟩ k).s) ((wyK secs pts path ⟨s, e, []⟩ k).e) (by first | omega | (simp; done) | decide | (simp at *; omega)) (by first | omega | (simp; done) | decide | (simp at *; omega))) rfl rfl rfl rfl rfl bd79 rfl ?_)
  refine mG (.q eEn (aroundL secs pts ((wyK secs pts path ⟨s, e, []⟩ k).s) ((wyK secs pts path ⟨s, e, []⟩ k).e))) ?_
  refine op0 ?_
  refine rs_ (upd (upd (upd (upd (upd (upd (upd (upd (upd (upd none_ 0 (.rp [.one, .q eSec secs, .one, .q ePnt pts, .one, .one, .one, .one, .one, .one])) 4 (.pt 2 0)) 6 (.v (.slice none 0 0))) 7 (.b false)) 8 (.sl 1 0 ((wyK secs pts path ⟨s, e, []⟩ k).ns.length))) 10 (.pt 53 0)) 11 (.q eEn (aroundL secs pts ((wyK secs pts path ⟨s, e, []⟩ k).s) ((wyK secs pts path ⟨s, e, []⟩ k).e)))) 13 (.q eI path)) 14 (.i (path.length : Int))) 15 (.i (k : Int))) (updO (updO (updO (updO noOb 1 (.live ⟨(enc eN ((wyK secs pts path ⟨s, e, []⟩ k).ns)), 140, 2⟩)) 2 (.live ⟨[.i ((wyK secs pts path ⟨s, e, []⟩ k).s), .i ((wyK secs pts path ⟨s, e, []⟩ k).e)], 114, 1⟩)) 53 (.live ⟨[.i 0], 3, 1⟩)) 53 (.live ⟨[.i (path.getD k 0)], 3, 1⟩)) (lu rfl (lu rfl (lu rfl (lu rfl (lu rfl (lu rfl (lu rfl (lu rfl (lu rfl (lu rfl ln)))))))))) rfl ?_
  refine seqR ?_
  refine mG (.q eEn (aroundL secs pts ((wyK secs pts path ⟨s, e, []⟩ k).s) ((wyK secs pts path ⟨s, e, []⟩ k).e))) ?_
  refine opG rfl (aop_makeFunc (caps := [.tmp 10]) rfl rfl rfl rfl ?_)
  refine opG rfl (callL_ (show Fn Try.prog 80 [.q eEn (aroundL secs pts ((wyK secs pts path ⟨s, e, []⟩ k).s) ((wyK secs pts path ⟨s, e, []⟩ k).e)), .fn 81 [.rp [.i (path.getD k 0)]]] (.i (wyI secs pts (wyK secs pts path ⟨s, e, []⟩ k).s (wyK secs pts path ⟨s, e, []⟩ k).e (path.getD k 0))) from (by have h_ := ixE_w (aroundL secs pts (wyK secs pts path ⟨s, e, []⟩ k).s (wyK secs pts path ⟨s, e, []⟩ k).e) (path.getD k 0) (by omega); exact h_)) rfl rfl rfl rfl rfl bd80 (lends_cons (lend_n (av := .q eEn (aroundL secs pts ((wyK secs pts path ⟨s, e, []⟩ k).s) ((wyK secs pts path ⟨s, e, []⟩ k).e)))) (lends_cons (lend_fn (lends_cons (lend_pt rfl (lends_cons (lend_n (av := .i (path.getD k 0))) lends_nil)) lends_nil)) lends_nil)) ?_)
  refine mG (.i (wyI secs pts (wyK secs pts path ⟨s, e, []⟩ k).s (wyK secs pts path ⟨s, e, []⟩ k).e (path.getD k 0))) ?_
  refine op0 ?_
  refine rs_ (upd (upd (upd (upd (upd (upd (upd (upd (upd (upd (upd none_ 0 (.rp [.one, .q eSec secs, .one, .q ePnt pts, .one, .one, .one, .one, .one, .one])) 4 (.pt 2 0)) 6 (.v (.slice none 0 0))) 7 (.b false)) 8 (.sl 1 0 ((wyK secs pts path ⟨s, e, []⟩ k).ns.length))) 10 (.pt 53 0)) 11 (.q eEn (aroundL secs pts ((wyK secs pts path ⟨s, e, []⟩ k).s) ((wyK secs pts path ⟨s, e, []⟩ k).e)))) 12 (.i (wyI secs pts (wyK secs pts path ⟨s, e, []⟩ k).s (wyK secs pts path ⟨s, e, []⟩ k).e (path.getD k 0)))) 13 (.q eI path)) 14 (.i (path.length : Int))) 15 (.i (k : Int))) (updO (updO (updO (updO noOb 1 (.live ⟨(enc eN ((wyK secs pts path ⟨s, e, []⟩ k).ns)), 140, 2⟩)) 2 (.live ⟨[.i ((wyK secs pts path ⟨s, e, []⟩ k).s), .i ((wyK secs pts path ⟨s, e, []⟩ k).e)], 114, 1⟩)) 53 (.live ⟨[.i 0], 3, 1⟩)) 53 (.live ⟨[.i (path.getD k 0)], 3, 1⟩)) (lu rfl (lu rfl (lu rfl (lu rfl (lu rfl (lu rfl (lu rfl (lu rfl (lu rfl (lu rfl (lu rfl ln))))))))))) rfl ?_
  refine awp_seq ?_
  refine seqR ?_
  refine mG (.i (wyI secs pts (wyK secs pts path ⟨s, e, []⟩ k).s (wyK secs pts path ⟨s, e, []⟩ k).e (path.getD k 0))) ?_
  refine bG ((.bool (decide ((wyI secs pts (wyK secs pts path ⟨s, e, []⟩ k).s (wyK secs pts path ⟨s, e, []⟩ k).e (path.getD k 0)) < 0)))) ?_
  refine op0 ?_
  refine awp_cond (decide ((wyI secs pts (wyK secs pts path ⟨s, e, []⟩ k).s (wyK secs pts path ⟨s, e, []⟩ k).e (path.getD k 0)) < 0)) rfl rfl (fun hc1 => ?_) (fun hc1 => ?_)
  ·skip
   have hf2 := of_decide_eq_true hc1
   have hO := wy_stop (by omega) hinv (show (wyI secs pts (wyK secs pts path ⟨s, e, []⟩ k).s (wyK secs pts path ⟨s, e, []⟩ k).e (path.getD k 0)) < 0 by omega)
   refine seqR ?_
   refine mG (.v (.slice none 0 0)) ?_
   refine mG (.b false) ?_
   refine op0 ?_
   refine rs_ (upd (upd (upd (upd (upd (upd (upd (upd (upd (upd (upd none_ 0 (.rp [.one, .q eSec secs, .one, .q ePnt pts, .one, .one, .one, .one, .one, .one])) 4 (.pt 2 0)) 6 (.v (.slice none 0 0))) 7 (.b false)) 8 (.sl 1 0 ((wyK secs pts path ⟨s, e, []⟩ k).ns.length))) 10 (.pt 53 0)) 11 (.q eEn (aroundL secs pts ((wyK secs pts path ⟨s, e, []⟩ k).s) ((wyK secs pts path ⟨s, e, []⟩ k).e)))) 12 (.i (wyI secs pts (wyK secs pts path ⟨s, e, []⟩ k).s (wyK secs pts path ⟨s, e, []⟩ k).e (path.getD k 0)))) 13 (.q eI path)) 14 (.i (path.length : Int))) 15 (.i (k : Int))) (updO (updO (updO (updO noOb 1 (.live ⟨(enc eN ((wyK secs pts path ⟨s, e, []⟩ k).ns)), 140, 2⟩)) 2 (.live ⟨[.i ((wyK secs pts path ⟨s, e, []⟩ k).s), .i ((wyK secs pts path ⟨s, e, []⟩ k).e)], 114, 1⟩)) 53 (.live ⟨[.i 0], 3, 1⟩)) 53 (.live ⟨[.i (path.getD k 0)], 3, 1⟩)) (lu rfl (lu rfl (lu rfl (lu rfl (lu rfl (lu rfl (lu rfl (lu rfl (lu rfl (lu rfl (lu rfl ln))))))))))) rfl ?_
   refine awp_imp _ (imp_frozen rfl (fun _ h => h) (lee_lend 7 (.b false) (lend_n (av := .b false)) (lee_lend 6 (.ro 0 []) .nil lee_lend0))) ?_
   refine awp_ret ?_
   exact fret (av := .tup [.ro 0 [], .v (.bool false)]) rfl rfl (by rw [(wyL_none hO).1, (wyL_none hO).2]; rfl)
  ·skip
   have hf3 := of_decide_eq_false hc1
   have hns : ¬ (wyI secs pts (wyK secs pts path ⟨s, e, []⟩ k).s (wyK secs pts path ⟨s, e, []⟩ k).e (path.getD k 0)) < 0 := by omega
   have hxo := wyX_ok (secs := secs) (pts := pts) (p := path.getD k 0) (w := (wyK secs pts path ⟨s, e, []⟩ k)) hns
   have hx1 : ((aroundL secs pts (wyK secs pts path ⟨s, e, []⟩ k).s (wyK secs pts path ⟨s, e, []⟩ k).e).getD (wyI secs pts (wyK secs pts path ⟨s, e, []⟩ k).s (wyK secs pts path ⟨s, e, []⟩ k).e (path.getD k 0)).toNat dE).en = 0 ∨ ((aroundL secs pts (wyK secs pts path ⟨s, e, []⟩ k).s (wyK secs pts path ⟨s, e, []⟩ k).e).getD (wyI secs pts (wyK secs pts path ⟨s, e, []⟩ k).s (wyK secs pts path ⟨s, e, []⟩ k).e (path.getD k 0)).toNat dE).en = 1 := hxo.1
   have hx3 := hxo.2.2
   refine awp_skip ?_
   refine awp_seq ?_
   refine awp_draw (m := 8) [(34, .q eN (needL secs pts ((wyK secs pts path ⟨s, e, []⟩ k).s) ((wyK secs pts path ⟨s, e, []⟩ k).e) (((aroundL secs pts ((wyK secs pts path ⟨s, e, []⟩ k).s) ((wyK secs pts path ⟨s, e, []⟩ k).e)).getD (wyI secs pts (wyK secs pts path ⟨s, e, []⟩ k).s (wyK secs pts path ⟨s, e, []⟩ k).e (path.getD k 0)).toNat dE).sec))), (33, .agg [.i (((aroundL secs pts ((wyK secs pts path ⟨s, e, []⟩ k).s) ((wyK secs pts path ⟨s, e, []⟩ k).e)).getD (wyI secs pts (wyK secs pts path ⟨s, e, []⟩ k).s (wyK secs pts path ⟨s, e, []⟩ k).e (path.getD k 0)).toNat dE).sec), .i (((aroundL secs pts ((wyK secs pts path ⟨s, e, []⟩ k).s) ((wyK secs pts path ⟨s, e, []⟩ k).e)).getD (wyI secs pts (wyK secs pts path ⟨s, e, []⟩ k).s (wyK secs pts path ⟨s, e, []⟩ k).e (path.getD k 0)).toNat dE).en)]), (32, .rp (([.i (((aroundL secs pts ((wyK secs pts path ⟨s, e, []⟩ k).s) ((wyK secs pts path ⟨s, e, []⟩ k).e)).getD (wyI secs pts (wyK secs pts path ⟨s, e, []⟩ k).s (wyK secs pts path ⟨s, e, []⟩ k).e (path.getD k 0)).toNat dE).sec), .i (((aroundL secs pts ((wyK secs pts path ⟨s, e, []⟩ k).s) ((wyK secs pts path ⟨s, e, []⟩ k).e)).getD (wyI secs pts (wyK secs pts path ⟨s, e, []⟩ k).s (wyK secs pts path ⟨s, e, []⟩ k).e (path.getD k 0)).toNat dE).en)] : List AV) ++ ((enc eEn (aroundL secs pts ((wyK secs pts path ⟨s, e, []⟩ k).s) ((wyK secs pts path ⟨s, e, []⟩ k).e))).drop (((wyI secs pts (wyK secs pts path ⟨s, e, []⟩ k).s (wyK secs pts path ⟨s, e, []⟩ k).e (path.getD k 0)).toNat + 1) * 2)))), (31, .i (wyI secs pts (wyK secs pts path ⟨s, e, []⟩ k).s (wyK secs pts path ⟨s, e, []⟩ k).e (path.getD k 0))), (30, .q eEn (aroundL secs pts ((wyK secs pts path ⟨s, e, []⟩ k).s) ((wyK secs pts path ⟨s, e, []⟩ k).e))), (29, .agg [.i ((wyK secs pts path ⟨s, e, []⟩ k).s), .i ((wyK secs pts path ⟨s, e, []⟩ k).e)]), (28, .rp [.one, .q eSec secs, .one, .q ePnt pts, .one, .one, .one, .one, .one, .one]), (27, .sl 1 0 ((wyK secs pts path ⟨s, e, []⟩ k).ns.length))] mixed (by kernel_rfl) ?_ ?_
   ·refine ⟨?_, ?_, ?_, ?_, ?_, ?_, ?_, ?_, trivial⟩
    ·exact ⟨27, rfl, blt_lt rfl, fun st hob hE => aop_move (av := .sl 1 0 ((wyK secs pts path ⟨s, e, []⟩ k).ns.length)) (.inl rfl) rfl rfl (hE 8 rfl) (by rw [hob]; rfl)⟩
    ·exact ⟨28, rfl, blt_lt rfl, fun st hob hE => aop_move (av := .rp [.one, .q eSec secs, .one, .q ePnt pts, .one, .one, .one, .one, .one, .one]) (.inl rfl) rfl rfl (hE 0 rfl) (by rw [hob]; rfl)⟩
    ·exact ⟨29, rfl, blt_lt rfl, fun st hob hE => aop_ldB (cells' := [.i ((wyK secs pts path ⟨s, e, []⟩ k).s), .i ((wyK secs pts path ⟨s, e, []⟩ k).e)]) rfl rfl rfl ag114 sz114 (hE 4 rfl) (by rw [hob]; rfl) rfl rfl (by rw [hob]; rfl)⟩
    ·exact ⟨30, rfl, blt_lt rfl, fun st hob hE => aop_move (av := .q eEn (aroundL secs pts ((wyK secs pts path ⟨s, e, []⟩ k).s) ((wyK secs pts path ⟨s, e, []⟩ k).e))) (.inl rfl) rfl rfl (hE 11 rfl) (by rw [hob]; rfl)⟩
    ·exact ⟨31, rfl, blt_lt rfl, fun st hob hE => aop_move (av := .i (wyI secs pts (wyK secs pts path ⟨s, e, []⟩ k).s (wyK secs pts path ⟨s, e, []⟩ k).e (path.getD k 0))) (.inl rfl) rfl rfl (hE 12 rfl) (by rw [hob]; rfl)⟩
    ·exact ⟨32, rfl, blt_lt rfl, fun st hob hE => aop_ixI dE rfl rfl rfl ut115 sz114 (hE 30 rfl) (hE 31 rfl) (fun _ => rfl) rfl (by omega) (by first | omega | (simp; done) | decide | (simp at *; omega)) (by rw [hob]; rfl)⟩
    ·exact ⟨33, rfl, blt_lt rfl, fun st hob hE => aop_ldB (cells' := [.i (((aroundL secs pts ((wyK secs pts path ⟨s, e, []⟩ k).s) ((wyK secs pts path ⟨s, e, []⟩ k).e)).getD (wyI secs pts (wyK secs pts path ⟨s, e, []⟩ k).s (wyK secs pts path ⟨s, e, []⟩ k).e (path.getD k 0)).toNat dE).sec), .i (((aroundL secs pts ((wyK secs pts path ⟨s, e, []⟩ k).s) ((wyK secs pts path ⟨s, e, []⟩ k).e)).getD (wyI secs pts (wyK secs pts path ⟨s, e, []⟩ k).s (wyK secs pts path ⟨s, e, []⟩ k).e (path.getD k 0)).toNat dE).en)]) rfl rfl rfl ag114 sz114 (hE 32 rfl) rfl rfl rfl (by rw [hob]; rfl)⟩
    ·exact ⟨34, rfl, blt_lt rfl, fun st hob hE => callW_ (g_need secs pts ((wyK secs pts path ⟨s, e, []⟩ k).s) ((wyK secs pts path ⟨s, e, []⟩ k).e) (((aroundL secs pts ((wyK secs pts path ⟨s, e, []⟩ k).s) ((wyK secs pts path ⟨s, e, []⟩ k).e)).getD (wyI secs pts (wyK secs pts path ⟨s, e, []⟩ k).s (wyK secs pts path ⟨s, e, []⟩ k).e (path.getD k 0)).toNat dE).sec) (by first | omega | (simp; done) | decide | (simp at *; omega)) (by first | omega | (simp; done) | decide | (simp at *; omega))) rfl rfl rfl rfl rfl bd82 (by show Lends _ ([st.env 28, st.env 29, st.env 33] ++ _) _; rw [hE 28 rfl, hE 29 rfl, hE 33 rfl]; exact (lends_cons (lend_n (av := .rp [.one, .q eSec secs, .one, .q ePnt pts, .one, .one, .one, .one, .one, .one])) (lends_cons (lend_n (av := .agg [.i ((wyK secs pts path ⟨s, e, []⟩ k).s), .i ((wyK secs pts path ⟨s, e, []⟩ k).e)])) (lends_cons (lend_agg (lends_cons (lend_n (av := .i (((aroundL secs pts ((wyK secs pts path ⟨s, e, []⟩ k).s) ((wyK secs pts path ⟨s, e, []⟩ k).e)).getD (wyI secs pts (wyK secs pts path ⟨s, e, []⟩ k).s (wyK secs pts path ⟨s, e, []⟩ k).e (path.getD k 0)).toNat dE).sec))) (lends_cons (.one _ rfl) lends_nil))) lends_nil)))) (by rw [hob]; rfl)⟩
   refine opG rfl (aop_appE (f := eN) (l := (wyK secs pts path ⟨s, e, []⟩ k).ns) (l2 := needL secs pts ((wyK secs pts path ⟨s, e, []⟩ k).s) ((wyK secs pts path ⟨s, e, []⟩ k).e) (((aroundL secs pts ((wyK secs pts path ⟨s, e, []⟩ k).s) ((wyK secs pts path ⟨s, e, []⟩ k).e)).getD (wyI secs pts (wyK secs pts path ⟨s, e, []⟩ k).s (wyK secs pts path ⟨s, e, []⟩ k).e (path.getD k 0)).toNat dE).sec)) 54 rfl rfl rfl rfl ut131 in140 rfl (by decide) rfl rfl rfl rfl rfl rfl (fun _ => rfl) rfl rfl rfl (by first | omega | (simp; done) | decide | (simp at *; omega)) (by first | omega | (simp; done) | decide | (simp at *; omega)) rfl ?_)
   refine mG (.sl 54 0 ((((wyK secs pts path ⟨s, e, []⟩ k).ns) ++ (needL secs pts ((wyK secs pts path ⟨s, e, []⟩ k).s) ((wyK secs pts path ⟨s, e, []⟩ k).e) (((aroundL secs pts ((wyK secs pts path ⟨s, e, []⟩ k).s) ((wyK secs pts path ⟨s, e, []⟩ k).e)).getD (wyI secs pts (wyK secs pts path ⟨s, e, []⟩ k).s (wyK secs pts path ⟨s, e, []⟩ k).e (path.getD k 0)).toNat dE).sec))).length)) ?_
   refine op0 ?_
   refine rs_ (upd (upd (upd (upd (upd (upd (upd (upd (upd (upd (upd none_ 0 (.rp [.one, .q eSec secs, .one, .q ePnt pts, .one, .one, .one, .one, .one, .one])) 4 (.pt 2 0)) 6 (.v (.slice none 0 0))) 7 (.b false)) 8 (.sl 54 0 ((((wyK secs pts path ⟨s, e, []⟩ k).ns) ++ (needL secs pts ((wyK secs pts path ⟨s, e, []⟩ k).s) ((wyK secs pts path ⟨s, e, []⟩ k).e) (((aroundL secs pts ((wyK secs pts path ⟨s, e, []⟩ k).s) ((wyK secs pts path ⟨s, e, []⟩ k).e)).getD (wyI secs pts (wyK secs pts path ⟨s, e, []⟩ k).s (wyK secs pts path ⟨s, e, []⟩ k).e (path.getD k 0)).toNat dE).sec))).length))) 10 (.pt 53 0)) 11 (.q eEn (aroundL secs pts ((wyK secs pts path ⟨s, e, []⟩ k).s) ((wyK secs pts path ⟨s, e, []⟩ k).e)))) 12 (.i (wyI secs pts (wyK secs pts path ⟨s, e, []⟩ k).s (wyK secs pts path ⟨s, e, []⟩ k).e (path.getD k 0)))) 13 (.q eI path)) 14 (.i (path.length : Int))) 15 (.i (k : Int))) (updO (updO (updO (updO (updO (updO noOb 1 (.live ⟨(enc eN ((wyK secs pts path ⟨s, e, []⟩ k).ns)), 140, 2⟩)) 2 (.live ⟨[.i ((wyK secs pts path ⟨s, e, []⟩ k).s), .i ((wyK secs pts path ⟨s, e, []⟩ k).e)], 114, 1⟩)) 53 (.live ⟨[.i 0], 3, 1⟩)) 53 (.live ⟨[.i (path.getD k 0)], 3, 1⟩)) 1 .dead) 54 (.live ⟨(enc eN (((wyK secs pts path ⟨s, e, []⟩ k).ns) ++ (needL secs pts ((wyK secs pts path ⟨s, e, []⟩ k).s) ((wyK secs pts path ⟨s, e, []⟩ k).e) (((aroundL secs pts ((wyK secs pts path ⟨s, e, []⟩ k).s) ((wyK secs pts path ⟨s, e, []⟩ k).e)).getD (wyI secs pts (wyK secs pts path ⟨s, e, []⟩ k).s (wyK secs pts path ⟨s, e, []⟩ k).e (path.getD k 0)).toNat dE).sec)))), 140, 2⟩)) (lu rfl (lu rfl (lu rfl (lu rfl (lu rfl (lu rfl (lu rfl (lu rfl (lu rfl (lu rfl (lu rfl ln))))))))))) rfl ?_
   refine awp_draw (m := 8) [(43, .agg [.i (path.getD k 0), .i (1 - (((aroundL secs pts ((wyK secs pts path ⟨s, e, []⟩ k).s) ((wyK secs pts path ⟨s, e, []⟩ k).e)).getD (wyI secs pts (wyK secs pts path ⟨s, e, []⟩ k).s (wyK secs pts path ⟨s, e, []⟩ k).e (path.getD k 0)).toNat dE).en))]), (42, .i (1 - (((aroundL secs pts ((wyK secs pts path ⟨s, e, []⟩ k).s) ((wyK secs pts path ⟨s, e, []⟩ k).e)).getD (wyI secs pts (wyK secs pts path ⟨s, e, []⟩ k).s (wyK secs pts path ⟨s, e, []⟩ k).e (path.getD k 0)).toNat dE).en))), (41, .i (((aroundL secs pts ((wyK secs pts path ⟨s, e, []⟩ k).s) ((wyK secs pts path ⟨s, e, []⟩ k).e)).getD (wyI secs pts (wyK secs pts path ⟨s, e, []⟩ k).s (wyK secs pts path ⟨s, e, []⟩ k).e (path.getD k 0)).toNat dE).en)), (40, .rp (([.i (((aroundL secs pts ((wyK secs pts path ⟨s, e, []⟩ k).s) ((wyK secs pts path ⟨s, e, []⟩ k).e)).getD (wyI secs pts (wyK secs pts path ⟨s, e, []⟩ k).s (wyK secs pts path ⟨s, e, []⟩ k).e (path.getD k 0)).toNat dE).en)] : List AV) ++ ((enc eEn (aroundL secs pts ((wyK secs pts path ⟨s, e, []⟩ k).s) ((wyK secs pts path ⟨s, e, []⟩ k).e))).drop (((wyI secs pts (wyK secs pts path ⟨s, e, []⟩ k).s (wyK secs pts path ⟨s, e, []⟩ k).e (path.getD k 0)).toNat + 1) * 2)))), (39, .rp (([.i (((aroundL secs pts ((wyK secs pts path ⟨s, e, []⟩ k).s) ((wyK secs pts path ⟨s, e, []⟩ k).e)).getD (wyI secs pts (wyK secs pts path ⟨s, e, []⟩ k).s (wyK secs pts path ⟨s, e, []⟩ k).e (path.getD k 0)).toNat dE).sec), .i (((aroundL secs pts ((wyK secs pts path ⟨s, e, []⟩ k).s) ((wyK secs pts path ⟨s, e, []⟩ k).e)).getD (wyI secs pts (wyK secs pts path ⟨s, e, []⟩ k).s (wyK secs pts path ⟨s, e, []⟩ k).e (path.getD k 0)).toNat dE).en)] : List AV) ++ ((enc eEn (aroundL secs pts ((wyK secs pts path ⟨s, e, []⟩ k).s) ((wyK secs pts path ⟨s, e, []⟩ k).e))).drop (((wyI secs pts (wyK secs pts path ⟨s, e, []⟩ k).s (wyK secs pts path ⟨s, e, []⟩ k).e (path.getD k 0)).toNat + 1) * 2)))), (38, .i (wyI secs pts (wyK secs pts path ⟨s, e, []⟩ k).s (wyK secs pts path ⟨s, e, []⟩ k).e (path.getD k 0))), (37, .q eEn (aroundL secs pts ((wyK secs pts path ⟨s, e, []⟩ k).s) ((wyK secs pts path ⟨s, e, []⟩ k).e))), (36, .i (path.getD k 0))] mixed (by kernel_rfl) ?_ ?_
   ·refine ⟨?_, ?_, ?_, ?_, ?_, ?_, ?_, ?_, trivial⟩
    ·exact ⟨36, rfl, blt_lt rfl, fun st hob hE => aop_ld (av := .i (path.getD k 0)) rfl rfl rfl ag3 (hE 10 rfl) (by rw [hob]; rfl) (by rw [hob]; rfl)⟩
    ·exact ⟨37, rfl, blt_lt rfl, fun st hob hE => aop_move (av := .q eEn (aroundL secs pts ((wyK secs pts path ⟨s, e, []⟩ k).s) ((wyK secs pts path ⟨s, e, []⟩ k).e))) (.inl rfl) rfl rfl (hE 11 rfl) (by rw [hob]; rfl)⟩
    ·exact ⟨38, rfl, blt_lt rfl, fun st hob hE => aop_move (av := .i (wyI secs pts (wyK secs pts path ⟨s, e, []⟩ k).s (wyK secs pts path ⟨s, e, []⟩ k).e (path.getD k 0))) (.inl rfl) rfl rfl (hE 12 rfl) (by rw [hob]; rfl)⟩
    ·exact ⟨39, rfl, blt_lt rfl, fun st hob hE => aop_ixI dE rfl rfl rfl ut115 sz114 (hE 37 rfl) (hE 38 rfl) (fun _ => rfl) rfl (by omega) (by first | omega | (simp; done) | decide | (simp at *; omega)) (by rw [hob]; rfl)⟩
    ·exact ⟨40, rfl, blt_lt rfl, fun st hob hE => aop_fieldAddr (av := .rp (([.i (((aroundL secs pts ((wyK secs pts path ⟨s, e, []⟩ k).s) ((wyK secs pts path ⟨s, e, []⟩ k).e)).getD (wyI secs pts (wyK secs pts path ⟨s, e, []⟩ k).s (wyK secs pts path ⟨s, e, []⟩ k).e (path.getD k 0)).toNat dE).sec), .i (((aroundL secs pts ((wyK secs pts path ⟨s, e, []⟩ k).s) ((wyK secs pts path ⟨s, e, []⟩ k).e)).getD (wyI secs pts (wyK secs pts path ⟨s, e, []⟩ k).s (wyK secs pts path ⟨s, e, []⟩ k).e (path.getD k 0)).toNat dE).en)] : List AV) ++ ((enc eEn (aroundL secs pts ((wyK secs pts path ⟨s, e, []⟩ k).s) ((wyK secs pts path ⟨s, e, []⟩ k).e))).drop (((wyI secs pts (wyK secs pts path ⟨s, e, []⟩ k).s (wyK secs pts path ⟨s, e, []⟩ k).e (path.getD k 0)).toNat + 1) * 2)))) (av' := .rp (([.i (((aroundL secs pts ((wyK secs pts path ⟨s, e, []⟩ k).s) ((wyK secs pts path ⟨s, e, []⟩ k).e)).getD (wyI secs pts (wyK secs pts path ⟨s, e, []⟩ k).s (wyK secs pts path ⟨s, e, []⟩ k).e (path.getD k 0)).toNat dE).en)] : List AV) ++ ((enc eEn (aroundL secs pts ((wyK secs pts path ⟨s, e, []⟩ k).s) ((wyK secs pts path ⟨s, e, []⟩ k).e))).drop (((wyI secs pts (wyK secs pts path ⟨s, e, []⟩ k).s (wyK secs pts path ⟨s, e, []⟩ k).e (path.getD k 0)).toNat + 1) * 2)))) rfl rfl rfl ft114_1 sz3 (hE 39 rfl) rfl rfl (by rw [hob]; rfl)⟩
    ·exact ⟨41, rfl, blt_lt rfl, fun st hob hE => aop_ld (av := .i (((aroundL secs pts ((wyK secs pts path ⟨s, e, []⟩ k).s) ((wyK secs pts path ⟨s, e, []⟩ k).e)).getD (wyI secs pts (wyK secs pts path ⟨s, e, []⟩ k).s (wyK secs pts path ⟨s, e, []⟩ k).e (path.getD k 0)).toNat dE).en)) rfl rfl rfl ag3 (hE 40 rfl) rfl (by rw [hob]; rfl)⟩
    ·exact ⟨42, rfl, blt_lt rfl, fun st hob hE => aop_binI (u := (.int .i64 (1 - (((aroundL secs pts ((wyK secs pts path ⟨s, e, []⟩ k).s) ((wyK secs pts path ⟨s, e, []⟩ k).e)).getD (wyI secs pts (wyK secs pts path ⟨s, e, []⟩ k).s (wyK secs pts path ⟨s, e, []⟩ k).e (path.getD k 0)).toNat dE).en)))) rfl rfl rfl rfl (hE 41 rfl) trivial (subI (by omega)) (by rw [hob]; rfl)⟩
    ·exact ⟨43, rfl, blt_lt rfl, fun st hob hE => aop_build rfl rfl rfl pl114 (by simp only [partsA, List.map, evA, hE 36 rfl, hE 42 rfl]; rfl) (by rw [hob]; rfl)⟩
   refine opG rfl (aop_store rfl rfl rfl sz114 rfl rfl rfl rfl rfl (Nat.le_of_ble_eq_true rfl) rfl rfl ?_)
   refine op0 ?_
   refine regR ?_
   refine opG rfl (aop_binI (u := (.int .i64 ((k + 1 : Nat) : Int))) rfl rfl rfl rfl rfl trivial (addN (by omega)) ?_)
   refine mG (.i ((k + 1 : Nat) : Int)) ?_
   refine op0 ?_
   show _ ∧ _
   refine ⟨by omega, (wy_step (by omega) hinv hns), ?_⟩
   exact imp_ler [(54, 1), (2, 2)] (lerL [(54, 1), (2, 2)] [((54, 1), .live ⟨(enc eN ((wyK secs pts path ⟨s, e, []⟩ (k + 1)).ns)), 140, 2⟩), ((2, 2), .live ⟨[.i ((wyK secs pts path ⟨s, e, []⟩ (k + 1)).s), .i ((wyK secs pts path ⟨s, e, []⟩ (k + 1)).e)], 114, 1⟩)] rfl (by decide) (by decide) ⟨row_no (o := ⟨(enc eN (((wyK secs pts path ⟨s, e, []⟩ k).ns) ++ (needL secs pts ((wyK secs pts path ⟨s, e, []⟩ k).s) ((wyK secs pts path ⟨s, e, []⟩ k).e) (((aroundL secs pts ((wyK secs pts path ⟨s, e, []⟩ k).s) ((wyK secs pts path ⟨s, e, []⟩ k).e)).getD (wyI secs pts (wyK secs pts path ⟨s, e, []⟩ k).s (wyK secs pts path ⟨s, e, []⟩ k).e (path.getD k 0)).toNat dE).sec)))), 140, 2⟩) rfl rfl, row_no (o := ⟨[.i (path.getD k 0), .i (1 - (((aroundL secs pts ((wyK secs pts path ⟨s, e, []⟩ k).s) ((wyK secs pts path ⟨s, e, []⟩ k).e)).getD (wyI secs pts (wyK secs pts path ⟨s, e, []⟩ k).s (wyK secs pts path ⟨s, e, []⟩ k).e (path.getD k 0)).toNat dE).en))], 114, 1⟩) rfl rfl, trivial⟩ (sr_same 15 (.i ((k + 1) : Int)) rfl NoI.out (sr_same 14 (.i (path.length : Int)) rfl NoI.out (sr_same 13 (.q eI path) rfl NoI.out (sr_map 8 (.sl 1 0 ((wyK secs pts path ⟨s, e, []⟩ (k + 1)).ns.length)) (by first | exact Ok.sl _ _ _ (by first | decide | simp) | exact Ok.pt _ _ (by first | decide | simp)) rfl (sr_same 7 (.b false) rfl NoI.out (sr_same 6 (.v (.slice none 0 0)) rfl NoI.out (sr_map 4 (.pt 2 0) (by first | exact Ok.sl _ _ _ (by first | decide | simp) | exact Ok.pt _ _ (by first | decide | simp)) rfl (sr_same 0 (.rp [.one, .q eSec secs, .one, .q ePnt pts, .one, .one, .one, .one, .one, .one]) rfl NoI.out sr_none))))))))) (keep_of rfl)
 ·skip
  have hf4 := of_decide_eq_false hc0
  have hO := wy_end (by omega) hinv
  refine awp_exit ?_
  refine seqR ?_
  refine mG (.sl 1 0 ((wyK secs pts path ⟨s, e, []⟩ k).ns.length)) ?_
  refine mG (.sl 1 0 ((wyK secs pts path ⟨s, e, []⟩ k).ns.length)) ?_
  refine mG (.b true) ?_
  refine op0 ?_
  refine rs_ (upd (upd none_ 6 (.sl 1 0 ((wyK secs pts path ⟨s, e, []⟩ k).ns.length))) 7 (.b true)) (updO (updO noOb 1 (.live ⟨(enc eN ((wyK secs pts path ⟨s, e, []⟩ k).ns)), 140, 2⟩)) 2 (.live ⟨[.i ((wyK secs pts path ⟨s, e, []⟩ k).s), .i ((wyK secs pts path ⟨s, e, []⟩ k).e)], 114, 1⟩)) (lu rfl (lu rfl ln)) rfl ?_
  refine awp_imp _ (imp_frozen rfl (fun _ h => h) (lee_lend 7 (.b true) (lend_n (av := .b true)) (lee_lend 6 (.ro ((wyK secs pts path ⟨s, e, []⟩ k).ns.length) (enc eN ((wyK secs pts path ⟨s, e, []⟩ k).ns))) (lend_s (id := 1) (n := (wyK secs pts path ⟨s, e, []⟩ k).ns.length) (o := ⟨(enc eN ((wyK secs pts path ⟨s, e, []⟩ k).ns)), 140, 2⟩) rfl (enc_len (fun _ => rfl) (by first | rfl | (simp; done)))) lee_lend0))) ?_
  refine awp_ret ?_
  exact fret (av := .tup [.ro ((wyK secs pts path ⟨s, e, []⟩ k).ns.length) (enc eN ((wyK secs pts path ⟨s, e, []⟩ k).ns)), .v (.bool true)]) rfl rfl (by rw [(wyL_some hO).1, (wyL_some hO).2])
theorem g_Path (secs : List Sec) (pts : List Pnt) (path : List Int) (hs : secs.length ≤ 65536) (hp : pts.length ≤ 65536) (hpl : path.length ≤ 65536) : Fn Try.prog 68 [.rp [.one, .ro secs.length (enc eSec secs), .one, .ro pts.length (enc ePnt pts), .one, .one, .one, .one, .one, .one], .ro path.length (enc eI path)] (.tup [.ro ((paL secs pts path).length) (enc eN (paL secs pts path)), .v (.bool (paB secs pts path))]) := by
 refine fnE_of_body (N := 45) Try.func68 rfl rfl (resOf2 rfl) (by simp) (fun w0 X hL_ => ?_)
 refine seqR ?_
 refine mG (.v (.slice none 0 0)) ?_
 refine mG (.b false) ?_
 refine op0 ?_
 refine awp_seq ?_
 refine seqR ?_
 refine mG (.q eI path) ?_
 refine opG rfl (aop_len rfl rfl rfl rfl ut48 (len_ro rfl) ?_)
 refine bG ((.bool (decide ((path.length : Int) < 2)))) ?_
 refine op0 ?_
 refine rs_ (upd (upd (upd (upd (upd none_ 0 (.rp [.one, .q eSec secs, .one, .q ePnt pts, .one, .one, .one, .one, .one, .one])) 1 (.q eI path)) 4 (.v (.slice none 0 0))) 5 (.b false)) 13 (.b (decide ((path.length : Int) < 2)))) noOb (lu rfl (lu rfl (lu rfl (lu rfl (lu rfl ln))))) rfl ?_
 refine awp_cond (decide ((path.length : Int) < 2)) rfl rfl (fun hc0 => ?_) (fun hc0 => ?_)
 ·skip
  have hf1 := of_decide_eq_true hc0
  have hp2 := pa_short (secs := secs) (pts := pts) (path := path) (by omega)
  refine seqR ?_
  refine mG (.v (.slice none 0 0)) ?_
  refine mG (.b false) ?_
  refine op0 ?_
  refine awp_imp _ (imp_frozen rfl (fun _ h => h) (lee_lend 5 (.b false) (lend_n (av := .b false)) (lee_lend 4 (.ro 0 []) .nil lee_lend0))) ?_
  refine awp_ret ?_
  exact fret (av := .tup [.ro 0 [], .v (.bool false)]) rfl rfl (by rw [hp2.1, hp2.2]; rfl)
 ·skip
  have hf2 := of_decide_eq_false hc0
  have hp2 : ¬ path.length < 2 := by omega
  refine awp_skip ?_
  refine awp_seq ?_
  refine seqR ?_
  refine mG (.q eI path) ?_
  refine opG rfl (aop_len rfl rfl rfl rfl ut48 (len_ro rfl) ?_)
  refine mG (.i 0) ?_
  refine op0 ?_
  refine awp_block ?_
  refine awp_countI (fun k => ⟨(upd (upd (upd (upd (upd (upd (upd none_ 0 (.rp [.one, .q eSec secs, .one, .q ePnt pts, .one, .one, .one, .one, .one, .one])) 1 (.q eI path)) 4 (.v (.slice none 0 0))) 5 (.b false)) 14 (.q eI path)) 15 (.i (path.length : Int))) 16 (.i (k : Int))), noOb⟩) (fun k => (path.take k).Nodup) (path.length) ?_ (by simp) (fun k hk_k hinv => ?_)
  ·skip
   exact imp_ler [] (ler0 (sS rfl (sS rfl (sS rfl (sS rfl (sS rfl (sS rfl (sS rfl sr_none)))))))) (keep_of rfl)
  refine seqR ?_
  refine bG ((.bool (decide ((k : Int) < (path.length : Int))))) ?_
  refine op0 ?_
  refine awp_seq ?_
  refine awp_cond (decide ((k : Int) < (path.length : Int))) rfl rfl (fun hc1 => ?_) (fun hc1 => ?_)
  ·skip
   have hf3 := of_decide_eq_true hc1
   refine awp_skip ?_
   refine awp_seq ?_
   refine awp_block ?_
   refine seqR ?_
   refine mG (.i (k : Int)) ?_
   refine opG rfl (aop_ixE 0 rfl rfl rfl ut48 sz3 rfl rfl (fun _ => rfl) rfl (by first | omega | (simp; done) | decide | (simp at *; omega)) ?_)
   refine opG rfl (aop_ld (av := .i (path.getD k 0)) rfl rfl rfl ag3 rfl rfl ?_)
   refine mG (.i (k : Int)) ?_
   refine mG (.i (path.getD k 0)) ?_
   refine op0 ?_
   refine rs_ (upd (upd (upd (upd (upd (upd (upd (upd (upd none_ 0 (.rp [.one, .q eSec secs, .one, .q ePnt pts, .one, .one, .one, .one, .one, .one])) 1 (.q eI path)) 4 (.v (.slice none 0 0))) 5 (.b false)) 6 (.i (k : Int))) 7 (.i (path.getD k 0))) 14 (.q eI path)) 15 (.i (path.length : Int))) 16 (.i (k : Int))) noOb (lu rfl (lu rfl (lu rfl (lu rfl (lu rfl (lu rfl (lu rfl (lu rfl (lu rfl ln))))))))) rfl ?_
   refine seqR ?_
   refine mG (.q eI path) ?_
   refine mG (.i (k : Int)) ?_
   refine opG rfl (aop_sliceRoN (l := 0) (hgh := k) (cells' := enc eI (path.take k)) ((path.take k)).length rfl rfl rfl ut48 sz3 rfl rfl ⟨_, rfl⟩ (by omega) (by first | omega | (simp; done) | decide | (simp at *; omega)) (sliceE (f := eI) (fun _ => rfl) _ 0 _) (by simp; omega) ?_)
   refine mG (.i (path.getD k 0)) ?_
   refine opG rfl (call_ (coI (path.take k) (path.getD k 0) (by first | omega | (simp; done) | decide | (simp at *; omega))) rfl rfl rfl rfl rfl bd67 rfl ?_)
   refine op0 ?_
   refine rs_ (upd (upd (upd (upd (upd (upd (upd (upd (upd (upd none_ 0 (.rp [.one, .q eSec secs, .one, .q ePnt pts, .one, .one, .one, .one, .one, .one])) 1 (.q eI path)) 4 (.v (.slice none 0 0))) 5 (.b false)) 6 (.i (k : Int))) 7 (.i (path.getD k 0))) 14 (.q eI path)) 15 (.i (path.length : Int))) 16 (.i (k : Int))) 25 (.b (decide ((path.getD k 0) ∈ (path.take k))))) noOb (lu rfl (lu rfl (lu rfl (lu rfl (lu rfl (lu rfl (lu rfl (lu rfl (lu rfl (lu rfl ln)))))))))) rfl ?_
   refine awp_cond (decide ((path.getD k 0) ∈ (path.take k))) rfl rfl (fun hc2 => ?_) (fun hc2 => ?_)
   ·skip
    have hdu := pa_dup (secs := secs) (pts := pts) (seen_dup (path := path) (k := k) (by omega) (of_decide_eq_true hc2))
    refine seqR ?_
    refine mG (.v (.slice none 0 0)) ?_
    refine mG (.b false) ?_
    refine op0 ?_
    refine awp_imp _ (imp_frozen rfl (fun _ h => h) (lee_lend 5 (.b false) (lend_n (av := .b false)) (lee_lend 4 (.ro 0 []) .nil lee_lend0))) ?_
    refine awp_ret ?_
    exact fret (av := .tup [.ro 0 [], .v (.bool false)]) rfl rfl (by rw [hdu.1, hdu.2]; rfl)
   ·skip
    have hnm : ¬ path.getD k 0 ∈ path.take k := of_decide_eq_false hc2
    refine awp_skip ?_
    refine regR ?_
    refine opG rfl (aop_binI (u := (.int .i64 ((k + 1 : Nat) : Int))) rfl rfl rfl rfl rfl trivial (addN (by omega)) ?_)
    refine mG (.i ((k + 1 : Nat) : Int)) ?_
    refine op0 ?_
    show _ ∧ _
    refine ⟨by omega, (seen_step (by omega) hinv hnm), ?_⟩
    exact imp_ler [] (ler0 (sS rfl (sS rfl (sS rfl (sS rfl (sS rfl (sS rfl (sS rfl sr_none)))))))) (keep_of rfl)
  ·skip
   have hf4 := of_decide_eq_false hc1
   have hnd : path.Nodup := by rw [List.take_of_length_le (by omega)] at hinv; exact hinv
   refine awp_exit ?_
   refine awp_seq ?_
   refine seqR ?_
   refine mG (.i 0) ?_
   refine op0 ?_
   refine awp_block ?_
   refine awp_countI (fun j => ⟨(upd (upd (upd (upd (upd none_ 0 (.rp [.one, .q eSec secs, .one, .q ePnt pts, .one, .one, .one, .one, .one, .one])) 1 (.q eI path)) 4 (.v (.slice none 0 0))) 5 (.b false)) 27 (.i (j : Int))), noOb⟩) (fun j => ∀ j_, j_ < j → wyB secs pts (path.getD 0 0) (j_ : Int) (path.drop 1) = false) (2) ?_ (fun _ h => by omega) (fun j hk_j hinv => ?_)
   ·skip
    exact imp_ler [] (ler0 (sS rfl (sS rfl (sS rfl (sS rfl (sS rfl sr_none)))))) (keep_of rfl)
   refine seqR ?_
   refine bG ((.bool (decide ((j : Int) < 2)))) ?_
   refine op0 ?_
   refine awp_seq ?_
   refine awp_cond (decide ((j : Int) < 2)) rfl rfl (fun hc3 => ?_) (fun hc3 => ?_)
   ·skip
    have hf5 := of_decide_eq_true hc3
    refine awp_skip ?_
    refine awp_seq ?_
    refine awp_block ?_
    refine seqR ?_
    refine mG (.i (j : Int)) ?_
    refine mG (.i (j : Int)) ?_
    refine op0 ?_
    refine awp_seq ?_
    refine awp_draw (m := 13) [(9, .q eN (wyL secs pts (path.getD 0 0) (j : Int) (path.drop 1))), (41, .b (wyB secs pts (path.getD 0 0) (j : Int) (path.drop 1))), (40, .q eN (wyL secs pts (path.getD 0 0) (j : Int) (path.drop 1))), (30, .tup [.q eN (wyL secs pts (path.getD 0 0) (j : Int) (path.drop 1)), .b (wyB secs pts (path.getD 0 0) (j : Int) (path.drop 1))]), (39, .tup [.q eN (wyL secs pts (path.getD 0 0) (j : Int) (path.drop 1)), .b (wyB secs pts (path.getD 0 0) (j : Int) (path.drop 1))]), (38, .q eI (path.drop 1)), (37, .q eI path), (36, .agg [.i (path.getD 0 0), .i (j : Int)]), (35, .i (j : Int)), (34, .i (path.getD 0 0)), (33, .rp (([.i (path.getD 0 0)] : List AV) ++ ((enc eI path).drop ((0 + 1) * 1)))), (32, .q eI path), (31, .rp [.one, .q eSec secs, .one, .q ePnt pts, .one, .one, .one, .one, .one, .one])] mixed (by kernel_rfl) ?_ ?_
    ·refine ⟨?_, ?_, ?_, ?_, ?_, ?_, ?_, ?_, ?_, ?_, ?_, ?_, ?_, trivial⟩
     ·exact ⟨31, rfl, blt_lt rfl, fun st hob hE => aop_move (av := .rp [.one, .q eSec secs, .one, .q ePnt pts, .one, .one, .one, .one, .one, .one]) (.inl rfl) rfl rfl (hE 0 rfl) (by rw [hob]; rfl)⟩
     ·exact ⟨32, rfl, blt_lt rfl, fun st hob hE => aop_move (av := .q eI path) (.inl rfl) rfl rfl (hE 1 rfl) (by rw [hob]; rfl)⟩
     ·exact ⟨33, rfl, blt_lt rfl, fun st hob hE => aop_ixE (k := 0) 0 rfl rfl rfl ut48 sz3 (hE 32 rfl) rfl (fun _ => rfl) rfl (by first | omega | (simp; done) | decide | (simp at *; omega)) (by rw [hob]; rfl)⟩
     ·exact ⟨34, rfl, blt_lt rfl, fun st hob hE => aop_ld (av := .i (path.getD 0 0)) rfl rfl rfl ag3 (hE 33 rfl) rfl (by rw [hob]; rfl)⟩
     ·exact ⟨35, rfl, blt_lt rfl, fun st hob hE => aop_move (av := .i (j : Int)) (.inl rfl) rfl rfl (hE 8 rfl) (by rw [hob]; rfl)⟩
     ·exact ⟨36, rfl, blt_lt rfl, fun st hob hE => aop_build rfl rfl rfl pl114 (by simp only [partsA, List.map, evA, hE 34 rfl, hE 35 rfl]; rfl) (by rw [hob]; rfl)⟩
     ·exact ⟨37, rfl, blt_lt rfl, fun st hob hE => aop_move (av := .q eI path) (.inl rfl) rfl rfl (hE 1 rfl) (by rw [hob]; rfl)⟩
     ·exact ⟨38, rfl, blt_lt rfl, fun st hob hE => aop_sliceRoN (l := 1) (hgh := path.length) (cells' := enc eI (path.drop 1)) ((path.drop 1)).length rfl rfl rfl ut48 sz3 (hE 37 rfl) ⟨_, rfl⟩ rfl (by first | omega | (simp; done) | decide | (simp at *; omega)) (by first | omega | (simp; done) | decide | (simp at *; omega)) (sliceE1 (f := eI) (fun _ => rfl) _ _ _ rfl) (by first | (simp; done) | (simp; omega)) (by rw [hob]; rfl)⟩
     ·exact ⟨39, rfl, blt_lt rfl, fun st hob hE => call_ (g_way secs pts (path.getD 0 0) (j : Int) (path.drop 1) (by first | omega | (simp; done) | decide | (simp at *; omega)) (by first | omega | (simp; done) | decide | (simp at *; omega)) (by first | omega | (simp; done) | decide | (simp at *; omega))) rfl rfl rfl rfl rfl bd73 (by show [st.env 31, st.env 36, st.env 38] ++ _ = _; rw [hE 31 rfl, hE 36 rfl, hE 38 rfl]; rfl) (by rw [hob]; rfl)⟩
     ·exact ⟨30, rfl, blt_lt rfl, fun st hob hE => aop_move (av := .tup [.q eN (wyL secs pts (path.getD 0 0) (j : Int) (path.drop 1)), .b (wyB secs pts (path.getD 0 0) (j : Int) (path.drop 1))]) (.inl rfl) rfl rfl (hE 39 rfl) (by rw [hob]; rfl)⟩
     ·exact ⟨40, rfl, blt_lt rfl, fun st hob hE => aop_extract rfl rfl rfl (hE 30 rfl) rfl (by rw [hob]; rfl)⟩
     ·exact ⟨41, rfl, blt_lt rfl, fun st hob hE => aop_extract rfl rfl rfl (hE 30 rfl) rfl (by rw [hob]; rfl)⟩
     ·exact ⟨9, rfl, blt_lt rfl, fun st hob hE => aop_move (av := .q eN (wyL secs pts (path.getD 0 0) (j : Int) (path.drop 1))) (.inr rfl) rfl rfl (hE 40 rfl) (by rw [hob]; rfl)⟩
    refine mG (.b (wyB secs pts (path.getD 0 0) (j : Int) (path.drop 1))) ?_
    refine op0 ?_
    refine rs_ (upd (upd (upd (upd (upd (upd (upd (upd none_ 0 (.rp [.one, .q eSec secs, .one, .q ePnt pts, .one, .one, .one, .one, .one, .one])) 1 (.q eI path)) 4 (.v (.slice none 0 0))) 5 (.b false)) 8 (.i (j : Int))) 9 (.q eN (wyL secs pts (path.getD 0 0) (j : Int) (path.drop 1)))) 10 (.b (wyB secs pts (path.getD 0 0) (j : Int) (path.drop 1)))) 27 (.i (j : Int))) noOb (lu rfl (lu rfl (lu rfl (lu rfl (lu rfl (lu rfl (lu rfl (lu rfl ln)))))))) rfl ?_
    refine seqR ?_
    refine mG (.b (wyB secs pts (path.getD 0 0) (j : Int) (path.drop 1))) ?_
    refine op0 ?_
    refine awp_cond (wyB secs pts (path.getD 0 0) (j : Int) (path.drop 1)) rfl rfl (fun hc4 => ?_) (fun hc4 => ?_)
    ·skip
     have hpa := pa_at hp2 hnd (by omega) hinv hc4
     refine seqR ?_
     refine mG (.q eN (wyL secs pts (path.getD 0 0) (j : Int) (path.drop 1))) ?_
     refine mG (.q eN (wyL secs pts (path.getD 0 0) (j : Int) (path.drop 1))) ?_
     refine mG (.b true) ?_
     refine op0 ?_
     refine rs_ (upd (upd (upd (upd (upd (upd (upd (upd none_ 0 (.rp [.one, .q eSec secs, .one, .q ePnt pts, .one, .one, .one, .one, .one, .one])) 1 (.q eI path)) 4 (.q eN (wyL secs pts (path.getD 0 0) (j : Int) (path.drop 1)))) 5 (.b true)) 8 (.i (j : Int))) 9 (.q eN (wyL secs pts (path.getD 0 0) (j : Int) (path.drop 1)))) 10 (.b (wyB secs pts (path.getD 0 0) (j : Int) (path.drop 1)))) 27 (.i (j : Int))) noOb (lu rfl (lu rfl (lu rfl (lu rfl (lu rfl (lu rfl (lu rfl (lu rfl ln)))))))) rfl ?_
     refine awp_ret ?_
     exact fret (av := .tup [.ro ((wyL secs pts (path.getD 0 0) (j : Int) (path.drop 1)).length) (enc eN (wyL secs pts (path.getD 0 0) (j : Int) (path.drop 1))), .v (.bool true)]) rfl rfl (by rw [hpa.1, hpa.2])
    ·skip
     refine awp_skip ?_
     refine regR ?_
     refine opG rfl (aop_binI (u := (.int .i64 ((j + 1 : Nat) : Int))) rfl rfl rfl rfl rfl trivial (addN (by omega)) ?_)
     refine mG (.i ((j + 1 : Nat) : Int)) ?_
     refine op0 ?_
     show _ ∧ _
     refine ⟨by omega, (fun j_ h => by rcases Nat.lt_or_ge j_ j with h2 | h2; exact hinv j_ h2; rw [show j_ = j by omega]; exact hc4), ?_⟩
     exact imp_ler [] (ler0 (sS rfl (sS rfl (sS rfl (sS rfl (sS rfl sr_none)))))) (keep_of rfl)
   ·skip
    have hf6 := of_decide_eq_false hc3
    have hpe := pa_end (secs := secs) (pts := pts) hp2 hnd (by omega) hinv
    refine awp_exit ?_
    refine seqR ?_
    refine mG (.v (.slice none 0 0)) ?_
    refine mG (.b false) ?_
    refine op0 ?_
    refine awp_imp _ (imp_frozen rfl (fun _ h => h) (lee_lend 5 (.b false) (lend_n (av := .b false)) (lee_lend 4 (.ro 0 []) .nil lee_lend0))) ?_
    refine awp_ret ?_
    exact fret (av := .tup [.ro 0 [], .v (.bool false)]) rfl rfl (by rw [hpe.1, hpe.2]; rfl)
theorem ag2 : aggT Try.prog 2 = some false := by kernel_rfl
theorem ag64 : aggT Try.prog 64 = some true := by kernel_rfl
theorem ag78 : aggT Try.prog 78 = some false := by kernel_rfl
theorem ag81 : aggT Try.prog 81 = some true := by kernel_rfl
theorem bd30 : bodied Try.prog 30 = true := by kernel_rfl
theorem bd31 : bodied Try.prog 31 = true := by kernel_rfl
theorem bd32 : bodied Try.prog 32 = true := by kernel_rfl
theorem bd33 : bodied Try.prog 33 = true := by kernel_rfl
theorem bd34 : bodied Try.prog 34 = true := by kernel_rfl
theorem bd35 : bodied Try.prog 35 = true := by kernel_rfl
theorem bd36 : bodied Try.prog 36 = true := by kernel_rfl
theorem bd55 : bodied Try.prog 55 = true := by kernel_rfl
theorem bd56 : bodied Try.prog 56 = true := by kernel_rfl
theorem bd57 : bodied Try.prog 57 = true := by kernel_rfl
theorem bd58 : bodied Try.prog 58 = true := by kernel_rfl
theorem bd68 : bodied Try.prog 68 = true := by kernel_rfl
theorem bd69 : bodied Try.prog 69 = true := by kernel_rfl
theorem bd70 : bodied Try.prog 70 = true := by kernel_rfl
theorem ft63_1 : fieldT Try.prog 63 1 = some (4, 1) := by kernel_rfl
theorem ft63_2 : fieldT Try.prog 63 2 = some (48, 2) := by kernel_rfl
theorem ft64_0 : fieldT Try.prog 64 0 = some (3, 0) := by kernel_rfl
theorem ft64_1 : fieldT Try.prog 64 1 = some (3, 1) := by kernel_rfl
theorem ft64_2 : fieldT Try.prog 64 2 = some (2, 2) := by kernel_rfl
theorem ft64_3 : fieldT Try.prog 64 3 = some (27, 3) := by kernel_rfl
theorem ft81_0 : fieldT Try.prog 81 0 = some (63, 0) := by kernel_rfl
theorem ft81_1 : fieldT Try.prog 81 1 = some (39, 3) := by kernel_rfl
theorem ft81_2 : fieldT Try.prog 81 2 = some (78, 13) := by kernel_rfl
theorem ft81_3 : fieldT Try.prog 81 3 = some (27, 14) := by kernel_rfl
theorem ft81_4 : fieldT Try.prog 81 4 = some (48, 15) := by kernel_rfl
theorem ft81_5 : fieldT Try.prog 81 5 = some (28, 16) := by kernel_rfl
theorem in64 : (Try.prog.info? 64).map (fun i => (i.zero, i.size, i.bytes)) = some (some (.agg #[(.int .i64 0), (.int .i64 0), (.int .i64 0), (.slice none 0 0)]), 4, 48) := by kernel_rfl
theorem iz64 : (Try.prog.info? 64).map (fun i => (i.zero, i.size)) = some (some (.agg #[(.int .i64 0), (.int .i64 0), (.int .i64 0), (.slice none 0 0)]), 4) := by kernel_rfl
theorem pl121 : placesOf Try.prog 121 = some ((.agg #[(.slice none 0 0), (.slice none 0 0), (.slice none 0 0), (.slice none 0 0), (.slice none 0 0), (.int .i64 0), (.int .i64 0), (.int .i64 0), (.int .i64 0), (.int .i64 0)]), fun i => ([(0, 10)] : List (Nat × Nat)).toArray[i]?) := by kernel_rfl
theorem pl81 : placesOf Try.prog 81 = some ((.agg #[(.int .i64 0), (.bool false), (.slice none 0 0), (.slice none 0 0), (.slice none 0 0), (.slice none 0 0), (.slice none 0 0), (.slice none 0 0), (.int .i64 0), (.int .i64 0), (.int .i64 0), (.int .i64 0), (.int .i64 0), (.pointer none), (.slice none 0 0), (.slice none 0 0), (.slice none 0 0)]), fun i => ([(0, 3), (3, 10), (13, 1), (14, 1), (15, 1), (16, 1)] : List (Nat × Nat)).toArray[i]?) := by kernel_rfl
theorem sz28 : (Try.prog.info? 28).map (·.size) = some 1 := by kernel_rfl
theorem sz64 : (Try.prog.info? 64).map (·.size) = some 4 := by kernel_rfl
theorem sz78 : (Try.prog.info? 78).map (·.size) = some 1 := by kernel_rfl
theorem sz81 : (Try.prog.info? 81).map (·.size) = some 17 := by kernel_rfl
theorem ut50 : Try.prog.underlying 50 = some (.slice 64) := by kernel_rfl
theorem ze64 : (Try.prog.info? 64).bind (·.zero) = some (.agg #[(.int .i64 0), (.int .i64 0), (.int .i64 0), (.slice none 0 0)]) := by kernel_rfl
theorem ze81 : (Try.prog.info? 81).bind (·.zero) = some (.agg #[(.int .i64 0), (.bool false), (.slice none 0 0), (.slice none 0 0), (.slice none 0 0), (.slice none 0 0), (.slice none 0 0), (.slice none 0 0), (.int .i64 0), (.int .i64 0), (.int .i64 0), (.int .i64 0), (.int .i64 0), (.pointer none), (.slice none 0 0), (.slice none 0 0), (.slice none 0 0)]) := by kernel_rfl
theorem a_open (f : Fld) (s : Int) (hf : FldOk f) (hs : 0 ≤ s ∧ s < (f.st.length : Int)) : Fn Try.prog 58 [.agg [.v (.int .i64 f.id), .one, .one, .one, .one, .one, .one, .one, .one, .one, .one, .one, .one, .rp [.one, .one, .ro f.parts.length (enc eIL f.parts), .one, .one, .one, .one, .one, .one, .one], .ro f.st.length (enc eU8 f.st), .ro f.ow.length (enc eI f.ow), .one], .v (.int .i64 s)] (.v (.bool (openB f s))) := by
 have hz1 := hf.hs
 have hz2 := hf.hp
 have hz3 := hf.hpa
 have hz4 := hf.hst
 have hz5 := hf.how
 have hz6 := hf.hr
 have hz7 := hf.hsp
 have hz8 := hf.hro
 have hpo := hf.hpo s hs.1 hs.2
 refine fnE_of_body (N := 26) Try.func58 rfl rfl (resOf1 rfl) (by simp) (fun w0 X hL_ => ?_)
 refine seqR ?_
 refine opG rfl (aop_box 51 rfl rfl rfl rfl rfl rfl rfl ?_)
 refine mG (.b false) ?_
 refine op0 ?_
 refine awp_seq ?_
 refine seqR ?_
 refine fG (.pt 51 14) ft81_3 sz27 ?_
 refine opG rfl (aop_ld (av := .q eU8 f.st) rfl rfl rfl ag27 rfl rfl ?_)
 refine mG (.i s) ?_
 refine opG rfl (aop_ixI 0 rfl rfl rfl ut27 sz5 rfl rfl (fun _ => rfl) rfl (by omega) (by first | omega | (simp; done) | decide | (simp at *; omega)) ?_)
 refine opG rfl (aop_ld (av := .v (.int .u8 (f.st.getD s.toNat 0))) rfl rfl rfl ag5 rfl rfl ?_)
 refine op0 ?_
 refine rs_ (upd (upd (upd (upd none_ 1 (.i s)) 2 (.pt 51 0)) 4 (.b false)) 9 (.v (.int .u8 (f.st.getD s.toNat 0)))) (updO noOb 51 (.live ⟨[.i f.id, .one, .one, .one, .one, .one, .one, .one, .one, .one, .one, .one, .one, .rp [.one, .one, .q eIL f.parts, .one, .one, .one, .one, .one, .one, .one], .q eU8 f.st, .q eI f.ow, .one], 81, 1⟩)) (lu rfl (lu rfl (lu rfl (lu rfl ln)))) rfl ?_
 refine awp_block ?_
 refine seqR ?_
 refine bG ((.bool ((f.st.getD s.toNat 0) == 0))) ?_
 refine mG (.b ((f.st.getD s.toNat 0) == 0)) ?_
 refine op0 ?_
 refine awp_cond ((f.st.getD s.toNat 0) == 0) rfl rfl (fun hc0 => ?_) (fun hc0 => ?_)
 ·skip
  have hf1 := (beq_iff_eq).1 hc0
  have h0_ := (beq_iff_eq).1 hc0
  refine seqR ?_
  refine mG (.b true) ?_
  refine op0 ?_
  refine awp_ret ?_
  exact fret (av := .v (.bool true)) rfl rfl (by rw [openB_0 h0_])
 ·skip
  have hf2 := (beq_eq_false_iff_ne).1 hc0
  have h0_ := (beq_eq_false_iff_ne).1 hc0
  refine seqR ?_
  refine bG ((.bool ((f.st.getD s.toNat 0) == 1))) ?_
  refine mG (.b ((f.st.getD s.toNat 0) == 1)) ?_
  refine op0 ?_
  refine rs_ (upd (upd (upd (upd none_ 1 (.i s)) 2 (.pt 51 0)) 4 (.b false)) 12 (.b ((f.st.getD s.toNat 0) == 1))) (updO noOb 51 (.live ⟨[.i f.id, .one, .one, .one, .one, .one, .one, .one, .one, .one, .one, .one, .one, .rp [.one, .one, .q eIL f.parts, .one, .one, .one, .one, .one, .one, .one], .q eU8 f.st, .q eI f.ow, .one], 81, 1⟩)) (lu rfl (lu rfl (lu rfl (lu rfl ln)))) rfl ?_
  refine awp_cond ((f.st.getD s.toNat 0) == 1) rfl rfl (fun hc1 => ?_) (fun hc1 => ?_)
  ·skip
   have hf3 := (beq_iff_eq).1 hc1
   have h1_ := (beq_iff_eq).1 hc1
   refine awp_seq ?_
   refine awp_draw (m := 12) [(25, .b ((f.ow.getD (partI f.parts s).toNat 0) == f.id)), (24, .i f.id), (23, .pt 51 0), (22, .pt 51 0), (21, .i (f.ow.getD (partI f.parts s).toNat 0)), (20, .rp (([.i (f.ow.getD (partI f.parts s).toNat 0)] : List AV) ++ ((enc eI f.ow).drop (((partI f.parts s).toNat + 1) * 1)))), (19, .i (partI f.parts s)), (18, .i s), (17, .rp [.one, .one, .q eIL f.parts, .one, .one, .one, .one, .one, .one, .one]), (16, .pt 51 13), (15, .q eI f.ow), (14, .pt 51 15)] mixed (by kernel_rfl) ?_ ?_
   ·refine ⟨?_, ?_, ?_, ?_, ?_, ?_, ?_, ?_, ?_, ?_, ?_, ?_, trivial⟩
    ·exact ⟨14, rfl, blt_lt rfl, fun st hob hE => aop_fieldAddr (av := .pt 51 0) (av' := .pt 51 15) rfl rfl rfl ft81_4 sz48 (hE 2 rfl) rfl rfl (by rw [hob]; rfl)⟩
    ·exact ⟨15, rfl, blt_lt rfl, fun st hob hE => aop_ld (av := .q eI f.ow) rfl rfl rfl ag48 (hE 14 rfl) (by rw [hob]; rfl) (by rw [hob]; rfl)⟩
    ·exact ⟨16, rfl, blt_lt rfl, fun st hob hE => aop_fieldAddr (av := .pt 51 0) (av' := .pt 51 13) rfl rfl rfl ft81_2 sz78 (hE 2 rfl) rfl rfl (by rw [hob]; rfl)⟩
    ·exact ⟨17, rfl, blt_lt rfl, fun st hob hE => aop_ld (av := .rp [.one, .one, .q eIL f.parts, .one, .one, .one, .one, .one, .one, .one]) rfl rfl rfl ag78 (hE 16 rfl) (by rw [hob]; rfl) (by rw [hob]; rfl)⟩
    ·exact ⟨18, rfl, blt_lt rfl, fun st hob hE => aop_move (av := .i s) (.inl rfl) rfl rfl (hE 1 rfl) (by rw [hob]; rfl)⟩
    ·exact ⟨19, rfl, blt_lt rfl, fun st hob hE => call_ (g_Part f.parts s hz3 hf.hpl) rfl rfl rfl rfl rfl bd70 (by show [st.env 17, st.env 18] ++ _ = _; rw [hE 17 rfl, hE 18 rfl]; rfl) (by rw [hob]; rfl)⟩
    ·exact ⟨20, rfl, blt_lt rfl, fun st hob hE => aop_ixI 0 rfl rfl rfl ut48 sz3 (hE 15 rfl) (hE 19 rfl) (fun _ => rfl) rfl (by omega) (by first | omega | (simp; done) | decide | (simp at *; omega)) (by rw [hob]; rfl)⟩
    ·exact ⟨21, rfl, blt_lt rfl, fun st hob hE => aop_ld (av := .i (f.ow.getD (partI f.parts s).toNat 0)) rfl rfl rfl ag3 (hE 20 rfl) rfl (by rw [hob]; rfl)⟩
    ·exact ⟨22, rfl, blt_lt rfl, fun st hob hE => aop_fieldAddr (av := .pt 51 0) (av' := .pt 51 0) rfl rfl rfl ft81_0 sz63 (hE 2 rfl) rfl rfl (by rw [hob]; rfl)⟩
    ·exact ⟨23, rfl, blt_lt rfl, fun st hob hE => aop_fieldAddr (av := .pt 51 0) (av' := .pt 51 0) rfl rfl rfl ft63_0 sz3 (hE 22 rfl) rfl rfl (by rw [hob]; rfl)⟩
    ·exact ⟨24, rfl, blt_lt rfl, fun st hob hE => aop_ld (av := .i f.id) rfl rfl rfl ag3 (hE 23 rfl) (by rw [hob]; rfl) (by rw [hob]; rfl)⟩
    ·exact ⟨25, rfl, blt_lt rfl, fun st hob hE => aop_binI (u := (.bool ((f.ow.getD (partI f.parts s).toNat 0) == f.id))) rfl rfl rfl (hE 21 rfl) (hE 24 rfl) trivial rfl (by rw [hob]; rfl)⟩
   refine mG (.b ((f.ow.getD (partI f.parts s).toNat 0) == f.id)) ?_
   refine op0 ?_
   refine awp_ret ?_
   exact fret (av := .v (.bool ((f.ow.getD (partI f.parts s).toNat 0) == f.id))) rfl rfl (by rw [openB_1 h0_ h1_]; rfl)
  ·skip
   have hf4 := (beq_eq_false_iff_ne).1 hc1
   have h1_ := (beq_eq_false_iff_ne).1 hc1
   refine awp_skip ?_
   refine seqR ?_
   refine mG (.b false) ?_
   refine op0 ?_
   refine awp_ret ?_
   exact fret (av := .v (.bool false)) rfl rfl (by rw [openB_2 h0_ h1_])
theorem a_step (f : Fld) (path : List Int) (i : Nat) (hf : FldOk f) (hpl : path.length ≤ 65536) (hi : i + 1 < path.length) : Fn Try.prog 57 [.agg [.one, .one, .one, .one, .one, .one, .one, .one, .one, .one, .one, .one, .one, .rp [.one, .ro f.secs.length (enc eSec f.secs), .one, .ro f.pts.length (enc ePnt f.pts), .one, .one, .one, .one, .one, .one], .one, .one, .ro f.right.length (enc eB f.right)], .ro path.length (enc eI path), .v (.int .i64 (i : Int))] (.v (.bool (stepB f path i))) := by
 have hz1 := hf.hs
 have hz2 := hf.hp
 have hz3 := hf.hpa
 have hz4 := hf.hst
 have hz5 := hf.how
 have hz6 := hf.hr
 have hz7 := hf.hsp
 have hz8 := hf.hro
 have ht2 : (path.take (i + 2)).length = i + 2 := by rw [List.length_take]; omega
 have ht1 : (path.take (i + 1)).length = i + 1 := by rw [List.length_take]; omega
 have hl2 := paL_len (secs := f.secs) (pts := f.pts) (path := (path.take (i + 2)))
 have hl1 := paL_len (secs := f.secs) (pts := f.pts) (path := (path.take (i + 1)))
 refine fnE_of_body (N := 41) Try.func57 rfl rfl (resOf1 rfl) (by simp) (fun w0 X hL_ => ?_)
 refine seqR ?_
 refine opG rfl (aop_box 51 rfl rfl rfl rfl rfl rfl rfl ?_)
 refine mG (.b false) ?_
 refine op0 ?_
 refine awp_seq ?_
 refine awp_draw (m := 11) [(7, .q eN (paL f.secs f.pts (path.take (i + 2)))), (20, .b (paB f.secs f.pts (path.take (i + 2)))), (19, .q eN (paL f.secs f.pts (path.take (i + 2)))), (11, .tup [.q eN (paL f.secs f.pts (path.take (i + 2))), .b (paB f.secs f.pts (path.take (i + 2)))]), (18, .tup [.q eN (paL f.secs f.pts (path.take (i + 2))), .b (paB f.secs f.pts (path.take (i + 2)))]), (17, .q eI (path.take (i + 2))), (16, .i ((i + 2 : Nat) : Int)), (15, .i (i : Int)), (14, .q eI path), (13, .rp [.one, .q eSec f.secs, .one, .q ePnt f.pts, .one, .one, .one, .one, .one, .one]), (12, .pt 51 13)] mixed (by kernel_rfl) ?_ ?_
 ·refine ⟨?_, ?_, ?_, ?_, ?_, ?_, ?_, ?_, ?_, ?_, ?_, trivial⟩
  ·exact ⟨12, rfl, blt_lt rfl, fun st hob hE => aop_fieldAddr (av := .pt 51 0) (av' := .pt 51 13) rfl rfl rfl ft81_2 sz78 (hE 3 rfl) rfl rfl (by rw [hob]; rfl)⟩
  ·exact ⟨13, rfl, blt_lt rfl, fun st hob hE => aop_ld (av := .rp [.one, .q eSec f.secs, .one, .q ePnt f.pts, .one, .one, .one, .one, .one, .one]) rfl rfl rfl ag78 (hE 12 rfl) (by rw [hob]; rfl) (by rw [hob]; rfl)⟩
  ·exact ⟨14, rfl, blt_lt rfl, fun st hob hE => aop_move (av := .q eI path) (.inl rfl) rfl rfl (hE 1 rfl) (by rw [hob]; rfl)⟩
  ·exact ⟨15, rfl, blt_lt rfl, fun st hob hE => aop_move (av := .i (i : Int)) (.inl rfl) rfl rfl (hE 2 rfl) (by rw [hob]; rfl)⟩
  ·exact ⟨16, rfl, blt_lt rfl, fun st hob hE => aop_binI (u := (.int .i64 ((i + 2 : Nat) : Int))) rfl rfl rfl (hE 15 rfl) rfl trivial (addN2 (by omega)) (by rw [hob]; rfl)⟩
  ·exact ⟨17, rfl, blt_lt rfl, fun st hob hE => aop_sliceRoN (l := 0) (hgh := i + 2) (cells' := enc eI (path.take (i + 2))) ((path.take (i + 2))).length rfl rfl rfl ut48 sz3 (hE 14 rfl) rfl ⟨_, (hE 16 rfl)⟩ (by omega) (by first | omega | (simp; done) | decide | (simp at *; omega)) (sliceE (f := eI) (fun _ => rfl) _ 0 _) (by simp; omega) (by rw [hob]; rfl)⟩
  ·exact ⟨18, rfl, blt_lt rfl, fun st hob hE => call_ (g_Path f.secs f.pts (path.take (i + 2)) hz1 hz2 (by omega)) rfl rfl rfl rfl rfl bd68 (by show [st.env 13, st.env 17] ++ _ = _; rw [hE 13 rfl, hE 17 rfl]; rfl) (by rw [hob]; rfl)⟩
  ·exact ⟨11, rfl, blt_lt rfl, fun st hob hE => aop_move (av := .tup [.q eN (paL f.secs f.pts (path.take (i + 2))), .b (paB f.secs f.pts (path.take (i + 2)))]) (.inl rfl) rfl rfl (hE 18 rfl) (by rw [hob]; rfl)⟩
  ·exact ⟨19, rfl, blt_lt rfl, fun st hob hE => aop_extract rfl rfl rfl (hE 11 rfl) rfl (by rw [hob]; rfl)⟩
  ·exact ⟨20, rfl, blt_lt rfl, fun st hob hE => aop_extract rfl rfl rfl (hE 11 rfl) rfl (by rw [hob]; rfl)⟩
  ·exact ⟨7, rfl, blt_lt rfl, fun st hob hE => aop_move (av := .q eN (paL f.secs f.pts (path.take (i + 2)))) (.inr rfl) rfl rfl (hE 19 rfl) (by rw [hob]; rfl)⟩
 refine mG (.b (paB f.secs f.pts (path.take (i + 2)))) ?_
 refine op0 ?_
 refine awp_seq ?_
 refine awp_draw (m := 11) [(9, .q eN (paL f.secs f.pts (path.take (i + 1)))), (30, .b (paB f.secs f.pts (path.take (i + 1)))), (29, .q eN (paL f.secs f.pts (path.take (i + 1)))), (21, .tup [.q eN (paL f.secs f.pts (path.take (i + 1))), .b (paB f.secs f.pts (path.take (i + 1)))]), (28, .tup [.q eN (paL f.secs f.pts (path.take (i + 1))), .b (paB f.secs f.pts (path.take (i + 1)))]), (27, .q eI (path.take (i + 1))), (26, .i ((i + 1 : Nat) : Int)), (25, .i (i : Int)), (24, .q eI path), (23, .rp [.one, .q eSec f.secs, .one, .q ePnt f.pts, .one, .one, .one, .one, .one, .one]), (22, .pt 51 13)] mixed (by kernel_rfl) ?_ ?_
 ·refine ⟨?_, ?_, ?_, ?_, ?_, ?_, ?_, ?_, ?_, ?_, ?_, trivial⟩
  ·exact ⟨22, rfl, blt_lt rfl, fun st hob hE => aop_fieldAddr (av := .pt 51 0) (av' := .pt 51 13) rfl rfl rfl ft81_2 sz78 (hE 3 rfl) rfl rfl (by rw [hob]; rfl)⟩
  ·exact ⟨23, rfl, blt_lt rfl, fun st hob hE => aop_ld (av := .rp [.one, .q eSec f.secs, .one, .q ePnt f.pts, .one, .one, .one, .one, .one, .one]) rfl rfl rfl ag78 (hE 22 rfl) (by rw [hob]; rfl) (by rw [hob]; rfl)⟩
  ·exact ⟨24, rfl, blt_lt rfl, fun st hob hE => aop_move (av := .q eI path) (.inl rfl) rfl rfl (hE 1 rfl) (by rw [hob]; rfl)⟩
  ·exact ⟨25, rfl, blt_lt rfl, fun st hob hE => aop_move (av := .i (i : Int)) (.inl rfl) rfl rfl (hE 2 rfl) (by rw [hob]; rfl)⟩
  ·exact ⟨26, rfl, blt_lt rfl, fun st hob hE => aop_binI (u := (.int .i64 ((i + 1 : Nat) : Int))) rfl rfl rfl (hE 25 rfl) rfl trivial (addN (by omega)) (by rw [hob]; rfl)⟩
  ·exact ⟨27, rfl, blt_lt rfl, fun st hob hE => aop_sliceRoN (l := 0) (hgh := i + 1) (cells' := enc eI (path.take (i + 1))) ((path.take (i + 1))).length rfl rfl rfl ut48 sz3 (hE 24 rfl) rfl ⟨_, (hE 26 rfl)⟩ (by omega) (by first | omega | (simp; done) | decide | (simp at *; omega)) (sliceE (f := eI) (fun _ => rfl) _ 0 _) (by simp; omega) (by rw [hob]; rfl)⟩
  ·exact ⟨28, rfl, blt_lt rfl, fun st hob hE => call_ (g_Path f.secs f.pts (path.take (i + 1)) hz1 hz2 (by omega)) rfl rfl rfl rfl rfl bd68 (by show [st.env 23, st.env 27] ++ _ = _; rw [hE 23 rfl, hE 27 rfl]; rfl) (by rw [hob]; rfl)⟩
  ·exact ⟨21, rfl, blt_lt rfl, fun st hob hE => aop_move (av := .tup [.q eN (paL f.secs f.pts (path.take (i + 1))), .b (paB f.secs f.pts (path.take (i + 1)))]) (.inl rfl) rfl rfl (hE 28 rfl) (by rw [hob]; rfl)⟩
  ·exact ⟨29, rfl, blt_lt rfl, fun st hob hE => aop_extract rfl rfl rfl (hE 21 rfl) rfl (by rw [hob]; rfl)⟩
  ·exact ⟨30, rfl, blt_lt rfl, fun st hob hE => aop_extract rfl rfl rfl (hE 21 rfl) rfl (by rw [hob]; rfl)⟩
  ·exact ⟨9, rfl, blt_lt rfl, fun st hob hE => aop_move (av := .q eN (paL f.secs f.pts (path.take (i + 1)))) (.inr rfl) rfl rfl (hE 29 rfl) (by rw [hob]; rfl)⟩
 refine mG (.b (paB f.secs f.pts (path.take (i + 1)))) ?_
 refine op0 ?_
 refine rs_ (upd (upd (upd (upd none_ 3 (.pt 51 0)) 6 (.b false)) 7 (.q eN (paL f.secs f.pts (path.take (i + 2))))) 9 (.q eN (paL f.secs f.pts (path.take (i + 1))))) (updO noOb 51 (.live ⟨[.one, .one, .one, .one, .one, .one, .one, .one, .one, .one, .one, .one, .one, .rp [.one, .q eSec f.secs, .one, .q ePnt f.pts, .one, .one, .one, .one, .one, .one], .one, .one, .q eB f.right], 81, 1⟩)) (lu rfl (lu rfl (lu rfl (lu rfl ln)))) rfl ?_
 refine awp_seq ?_
 refine awp_draw (m := 10) [(40, .b (!(((paL f.secs f.pts (path.take (i + 2))).drop (min (paL f.secs f.pts (path.take (i + 1))).length (paL f.secs f.pts (path.take (i + 2))).length)).any (wrB f.right)))), (39, .q eB f.right), (38, .pt 51 16), (37, .q eN ((paL f.secs f.pts (path.take (i + 2))).drop (min (paL f.secs f.pts (path.take (i + 1))).length (paL f.secs f.pts (path.take (i + 2))).length))), (36, .i ((min (paL f.secs f.pts (path.take (i + 1))).length (paL f.secs f.pts (path.take (i + 2))).length : Nat) : Int)), (35, .i ((paL f.secs f.pts (path.take (i + 2))).length : Int)), (34, .q eN (paL f.secs f.pts (path.take (i + 2)))), (33, .i ((paL f.secs f.pts (path.take (i + 1))).length : Int)), (32, .q eN (paL f.secs f.pts (path.take (i + 1)))), (31, .q eN (paL f.secs f.pts (path.take (i + 2))))] mixed (by kernel_rfl) ?_ ?_
 ·refine ⟨?_, ?_, ?_, ?_, ?_, ?_, ?_, ?_, ?_, ?_, trivial⟩
  ·exact ⟨31, rfl, blt_lt rfl, fun st hob hE => aop_move (av := .q eN (paL f.secs f.pts (path.take (i + 2)))) (.inl rfl) rfl rfl (hE 7 rfl) (by rw [hob]; rfl)⟩
  ·exact ⟨32, rfl, blt_lt rfl, fun st hob hE => aop_move (av := .q eN (paL f.secs f.pts (path.take (i + 1)))) (.inl rfl) rfl rfl (hE 9 rfl) (by rw [hob]; rfl)⟩
  ·exact ⟨33, rfl, blt_lt rfl, fun st hob hE => aop_len rfl rfl rfl rfl ut131 (len_ro (hE 32 rfl)) (by rw [hob]; rfl)⟩
  ·exact ⟨34, rfl, blt_lt rfl, fun st hob hE => aop_move (av := .q eN (paL f.secs f.pts (path.take (i + 2)))) (.inl rfl) rfl rfl (hE 7 rfl) (by rw [hob]; rfl)⟩
  ·exact ⟨35, rfl, blt_lt rfl, fun st hob hE => aop_len rfl rfl rfl rfl ut131 (len_ro (hE 34 rfl)) (by rw [hob]; rfl)⟩
  ·exact ⟨36, rfl, blt_lt rfl, fun st hob hE => aop_min (r := ((min (paL f.secs f.pts (path.take (i + 1))).length (paL f.secs f.pts (path.take (i + 2))).length : Nat) : Int)) rfl rfl rfl rfl (hE 33 rfl) (hE 35 rfl) (minI (by split <;> omega)) (by rw [hob]; rfl)⟩
  ·exact ⟨37, rfl, blt_lt rfl, fun st hob hE => aop_sliceRoN (l := min (paL f.secs f.pts (path.take (i + 1))).length (paL f.secs f.pts (path.take (i + 2))).length) (hgh := ((paL f.secs f.pts (path.take (i + 2))).length)) (cells' := enc eN ((paL f.secs f.pts (path.take (i + 2))).drop (min (paL f.secs f.pts (path.take (i + 1))).length (paL f.secs f.pts (path.take (i + 2))).length))) (((paL f.secs f.pts (path.take (i + 2))).drop (min (paL f.secs f.pts (path.take (i + 1))).length (paL f.secs f.pts (path.take (i + 2))).length))).length rfl rfl rfl ut131 sz140 (hE 31 rfl) ⟨_, (hE 36 rfl)⟩ rfl (by first | omega | (simp; done) | decide | (simp at *; omega)) (by first | omega | (simp; done) | decide | (simp at *; omega)) (sliceE1 (f := eN) (fun _ => rfl) _ _ _ rfl) (by first | (simp; done) | (simp; omega)) (by rw [hob]; rfl)⟩
  ·exact ⟨38, rfl, blt_lt rfl, fun st hob hE => aop_fieldAddr (av := .pt 51 0) (av' := .pt 51 16) rfl rfl rfl ft81_5 sz28 (hE 3 rfl) rfl rfl (by rw [hob]; rfl)⟩
  ·exact ⟨39, rfl, blt_lt rfl, fun st hob hE => aop_ld (av := .q eB f.right) rfl rfl rfl ag28 (hE 38 rfl) (by rw [hob]; rfl) (by rw [hob]; rfl)⟩
  ·exact ⟨40, rfl, blt_lt rfl, fun st hob hE => call_ (p_Stands (stepL f path i) f.right (by unfold stepL; rw [List.length_drop]; omega) (by omega)) rfl rfl rfl rfl rfl bd69 (by show [st.env 37, st.env 39] ++ _ = _; rw [hE 37 rfl, hE 39 rfl]; rfl) (by rw [hob]; rfl)⟩
 refine mG (.b (!(((paL f.secs f.pts (path.take (i + 2))).drop (min (paL f.secs f.pts (path.take (i + 1))).length (paL f.secs f.pts (path.take (i + 2))).length)).any (wrB f.right)))) ?_
 refine op0 ?_
 refine awp_ret ?_
 exact fret (av := .v (.bool (!(((paL f.secs f.pts (path.take (i + 2))).drop (min (paL f.secs f.pts (path.take (i + 1))).length (paL f.secs f.pts (path.take (i + 2))).length)).any (wrB f.right))))) rfl rfl rfl
theorem a_pieces (f : Fld) (r : Int) (path ps : List Int) (hf : FldOk f) (hr : 0 ≤ r ∧ r < (f.routes.length : Int)) (hpath : f.routes.getD r.toNat [] = path) (hps : ps.length + 1 ≤ path.length) : Fn Try.prog 36 [.agg [.v (.int .i64 f.id), .one, .one, .one, .one, .one, .one, .ro f.routes.length (enc eIL f.routes), .one, .one, .one, .one, .one, .rp [.one, .ro f.secs.length (enc eSec f.secs), .ro f.parts.length (enc eIL f.parts), .ro f.pts.length (enc ePnt f.pts), .one, .one, .one, .one, .one, .one], .ro f.st.length (enc eU8 f.st), .ro f.ow.length (enc eI f.ow), .ro f.right.length (enc eB f.right)], .agg [.v (.int .i64 r), .one, .one, .ro ps.length (enc eU8 ps)]] (.tup [.ro ((pcF f path ps).1.length) (enc eI ((pcF f path ps).1)), .v (.bool ((pcF f path ps).2))]) := by
 have hz1 := hf.hs
 have hz2 := hf.hp
 have hz3 := hf.hpa
 have hz4 := hf.hst
 have hz5 := hf.how
 have hz6 := hf.hr
 have hz7 := hf.hsp
 have hz8 := hf.hro
 have hmem : path ∈ f.routes := by rw [← hpath]; exact getD_mem [] (by omega)
 have hpl := hf.hrl path hmem
 refine fnE_of_body (N := 53) Try.func36 rfl rfl (resOf2 rfl) (by simp) (fun w0 X hL_ => ?_)
 refine seqR ?_
 refine opG rfl (aop_box 51 rfl rfl rfl rfl rfl rfl rfl ?_)
 refine opG rfl (aop_box 52 rfl rfl rfl rfl rfl rfl rfl ?_)
 refine mG (.v (.slice none 0 0)) ?_
 refine mG (.b false) ?_
 refine op0 ?_
 refine rs_ (upd (upd (upd (upd none_ 2 (.pt 51 0)) 3 (.pt 52 0)) 4 (.v (.slice none 0 0))) 5 (.b false)) (updO (updO noOb 51 (.live ⟨[.i f.id, .one, .one, .one, .one, .one, .one, .q eIL f.routes, .one, .one, .one, .one, .one, .rp [.one, .q eSec f.secs, .q eIL f.parts, .q ePnt f.pts, .one, .one, .one, .one, .one, .one], .q eU8 f.st, .q eI f.ow, .q eB f.right], 81, 1⟩)) 52 (.live ⟨[.i r, .one, .one, .q eU8 ps], 64, 1⟩)) (lu rfl (lu rfl (lu rfl (lu rfl ln)))) rfl ?_
 refine seqR ?_
 refine fG (.pt 51 3) ft81_1 sz39 ?_
 refine fG (.pt 51 7) ft39_4 sz36 ?_
 refine opG rfl (aop_ld (av := .q eIL f.routes) rfl rfl rfl ag36 rfl rfl ?_)
 refine fG (.pt 52 0) ft64_0 sz3 ?_
 refine opG rfl (aop_ld (av := .i r) rfl rfl rfl ag3 rfl rfl ?_)
 refine opG rfl (aop_ixI [] rfl rfl rfl ut36 sz48 rfl rfl (fun _ => rfl) rfl (by omega) (by first | omega | (simp; done) | decide | (simp at *; omega)) ?_)
 refine opG rfl (aop_eqv (d := 16) (a := .q eI (f.routes.getD r.toNat [])) (b := .q eI path) (aop_ld (av := .q eI (f.routes.getD r.toNat [])) rfl rfl rfl ag48 rfl rfl rfl) (by rw [hpath]) ?_)
 refine mG (.q eI path) ?_
 refine op0 ?_
 refine rs_ (upd (upd (upd (upd (upd none_ 2 (.pt 51 0)) 3 (.pt 52 0)) 4 (.v (.slice none 0 0))) 5 (.b false)) 6 (.q eI path)) (updO (updO noOb 51 (.live ⟨[.i f.id, .one, .one, .one, .one, .one, .one, .q eIL f.routes, .one, .one, .one, .one, .one, .rp [.one, .q eSec f.secs, .q eIL f.parts, .q ePnt f.pts, .one, .one, .one, .one, .one, .one], .q eU8 f.st, .q eI f.ow, .q eB f.right], 81, 1⟩)) 52 (.live ⟨[.i r, .one, .one, .q eU8 ps], 64, 1⟩)) (lu rfl (lu rfl (lu rfl (lu rfl (lu rfl ln))))) rfl ?_
 refine seqR ?_
 refine mG (.v (.slice none 0 0)) ?_
 refine op0 ?_
 refine awp_seq ?_
 refine seqR ?_
 refine fG (.pt 52 3) ft64_3 sz27 ?_
 refine opG rfl (aop_ld (av := .q eU8 ps) rfl rfl rfl ag27 rfl rfl ?_)
 refine opG rfl (aop_len rfl rfl rfl rfl ut27 (len_ro rfl) ?_)
 refine mG (.i 0) ?_
 refine op0 ?_
 refine rs_ (upd (upd (upd (upd (upd (upd (upd (upd none_ 2 (.pt 51 0)) 4 (.v (.slice none 0 0))) 5 (.b false)) 6 (.q eI path)) 7 (.v (.slice none 0 0))) 18 (.q eU8 ps)) 19 (.i (ps.length : Int))) 20 (.i 0)) (updO (updO noOb 51 (.live ⟨[.i f.id, .one, .one, .one, .one, .one, .one, .q eIL f.routes, .one, .one, .one, .one, .one, .rp [.one, .q eSec f.secs, .q eIL f.parts, .q ePnt f.pts, .one, .one, .one, .one, .one, .one], .q eU8 f.st, .q eI f.ow, .q eB f.right], 81, 1⟩)) 52 (.live ⟨[.i r, .one, .one, .q eU8 ps], 64, 1⟩)) (lu rfl (lu rfl (lu rfl (lu rfl (lu rfl (lu rfl (lu rfl (lu rfl ln)))))))) rfl ?_
 refine awp_block ?_
 refine awp_countI (fun k => ⟨(upd (upd (upd (upd (upd (upd (upd (upd none_ 2 (.pt 2 0)) 4 (.v (.slice none 0 0))) 5 (.b false)) 6 (.q eI path)) 7 (.sl 1 0 ((pcO path ps k).length))) 18 (.q eU8 ps)) 19 (.i (ps.length : Int))) 20 (.i (k : Int))), (updO (updO noOb 1 (.live ⟨(enc eI (pcO path ps k)), 3, 1⟩)) 2 (.live ⟨[.i f.id, .one, .one, .one, .one, .one, .one, .q eIL f.routes, .one, .one, .one, .one, .one, .rp [.one, .q eSec f.secs, .q eIL f.parts, .q ePnt f.pts, .one, .one, .one, .one, .one, .one], .q eU8 f.st, .q eI f.ow, .q eB f.right], 81, 1⟩))⟩) (fun k => pcR f path (ps.drop k) k (pcO path ps k) = (pcF f path ps)) (ps.length) ?_ rfl (fun k hk_k hinv => ?_)
 ·skip
  refine (imp_adopt 7 53 3 1 rfl rfl).trans ?_
  exact imp_ler [(53, 1), (51, 2)] (lerL [(53, 1), (51, 2)] [((53, 1), .live ⟨(enc eI (pcO path ps 0)), 3, 1⟩), ((51, 2), .live ⟨[.i f.id, .one, .one, .one, .one, .one, .one, .q eIL f.routes, .one, .one, .one, .one, .one, .rp [.one, .q eSec f.secs, .q eIL f.parts, .q ePnt f.pts, .one, .one, .one, .one, .one, .one], .q eU8 f.st, .q eI f.ow, .q eB f.right], 81, 1⟩)] rfl (by decide) (by decide) ⟨row_no (o := ⟨[], 3, 1⟩) rfl rfl, row_no (o := ⟨[.i f.id, .one, .one, .one, .one, .one, .one, .q eIL f.routes, .one, .one, .one, .one, .one, .rp [.one, .q eSec f.secs, .q eIL f.parts, .q ePnt f.pts, .one, .one, .one, .one, .one, .one], .q eU8 f.st, .q eI f.ow, .q eB f.right], 81, 1⟩) rfl rfl, trivial⟩ (sr_same 20 (.i (0 : Int)) rfl NoI.out (sr_same 19 (.i (ps.length : Int)) rfl NoI.out (sr_same 18 (.q eU8 ps) rfl NoI.out (sr_map 7 (.sl 1 0 ((pcO path ps 0).length)) (by first | exact Ok.sl _ _ _ (by first | decide | simp) | exact Ok.pt _ _ (by first | decide | simp)) rfl (sr_same 6 (.q eI path) rfl NoI.out (sr_same 5 (.b false) rfl NoI.out (sr_same 4 (.v (.slice none 0 0)) rfl NoI.out (sr_map 2 (.pt 2 0) (by first | exact Ok.sl _ _ _ (by first | decide | simp) | exact Ok.pt _ _ (by first | decide | simp)) rfl sr_none))))))))) (keep_of rfl)
 have hpol := pcO_len path ps k
 refine seqR ?_
 refine bG ((.bool (decide ((k : Int) < (ps.length : Int))))) ?_
 refine op0 ?_
 refine awp_seq ?_
 refine awp_cond (decide ((k : Int) < (ps.length : Int))) rfl rfl (fun hc0 => ?_) (fun hc0 => ?_)
 ·skip
  have hf1 := of_decide_eq_true hc0
  have hkp : k + 1 < path.length := by omega
  have hsr := hf.hrs path hmem _ (getD_mem (l := path) (k := k + 1) 0 hkp)
  refine awp_skip ?_
  refine awp_seq ?_
  refine awp_block ?_
  refine seqR ?_
  refine mG (.i (k : Int)) ?_
  refine opG rfl (aop_ixE 0 rfl rfl rfl ut27 sz5 rfl rfl (fun _ => rfl) rfl (by first | omega | (simp; done) | decide | (simp at *; omega)) ?_)
  refine opG rfl (aop_ld (av := .v (.int .u8 (ps.getD k 0))) rfl rfl rfl ag5 rfl rfl ?_)
  refine mG (.i (k : Int)) ?_
  refine mG (.v (.int .u8 (ps.getD k 0))) ?_
  refine op0 ?_
  refine rs_ (upd (upd (upd (upd (upd (upd (upd (upd (upd (upd none_ 2 (.pt 2 0)) 4 (.v (.slice none 0 0))) 5 (.b false)) 6 (.q eI path)) 7 (.sl 1 0 ((pcO path ps k).length))) 8 (.i (k : Int))) 9 (.v (.int .u8 (ps.getD k 0)))) 18 (.q eU8 ps)) 19 (.i (ps.length : Int))) 20 (.i (k : Int))) (updO (updO noOb 1 (.live ⟨(enc eI (pcO path ps k)), 3, 1⟩)) 2 (.live ⟨[.i f.id, .one, .one, .one, .one, .one, .one, .q eIL f.routes, .one, .one, .one, .one, .one, .rp [.one, .q eSec f.secs, .q eIL f.parts, .q ePnt f.pts, .one, .one, .one, .one, .one, .one], .q eU8 f.st, .q eI f.ow, .q eB f.right], 81, 1⟩)) (lu rfl (lu rfl (lu rfl (lu rfl (lu rfl (lu rfl (lu rfl (lu rfl (lu rfl (lu rfl ln)))))))))) rfl ?_
  refine awp_seq ?_
  refine seqR ?_
  refine mG (.v (.int .u8 (ps.getD k 0))) ?_
  refine bG ((.bool ((ps.getD k 0) == 0))) ?_
  refine op0 ?_
  refine awp_cond ((ps.getD k 0) == 0) rfl rfl (fun hc1 => ?_) (fun hc1 => ?_)
  ·skip
   have hf2 := (beq_iff_eq).1 hc1
   have hz_ : ps.getD k 0 = 0 := (beq_iff_eq).1 hc1
   refine awp_exit ?_
   refine regR ?_
   refine opG rfl (aop_binI (u := (.int .i64 ((k + 1 : Nat) : Int))) rfl rfl rfl rfl rfl trivial (addN (by omega)) ?_)
   refine mG (.i ((k + 1 : Nat) : Int)) ?_
   refine op0 ?_
   show _ ∧ _
   have hs_ := pcO_no (path := path) (ps := ps) (k := k) hz_
   refine ⟨by omega, (by first | exact pc_no (by omega) hinv hz_ | exact pc_on (by omega) hinv hz_ hok), ?_⟩
   exact imp_ler [(1, 1), (2, 2)] (lerL [(1, 1), (2, 2)] [((1, 1), .live ⟨(enc eI (pcO path ps (k + 1))), 3, 1⟩), ((2, 2), .live ⟨[.i f.id, .one, .one, .one, .one, .one, .one, .q eIL f.routes, .one, .one, .one, .one, .one, .rp [.one, .q eSec f.secs, .q eIL f.parts, .q ePnt f.pts, .one, .one, .one, .one, .one, .one], .q eU8 f.st, .q eI f.ow, .q eB f.right], 81, 1⟩)] rfl (by decide) (by decide) ⟨row_no (o := ⟨(enc eI (pcO path ps k)), 3, 1⟩) rfl (by exact congrArg (fun l_ => LObj.mk (enc eI l_) 3 1) hs_), row_no (o := ⟨[.i f.id, .one, .one, .one, .one, .one, .one, .q eIL f.routes, .one, .one, .one, .one, .one, .rp [.one, .q eSec f.secs, .q eIL f.parts, .q ePnt f.pts, .one, .one, .one, .one, .one, .one], .q eU8 f.st, .q eI f.ow, .q eB f.right], 81, 1⟩) rfl rfl, trivial⟩ (sr_same 20 (.i ((k + 1) : Int)) rfl NoI.out (sr_same 19 (.i (ps.length : Int)) rfl NoI.out (sr_same 18 (.q eU8 ps) rfl NoI.out (sr_map 7 (.sl 1 0 ((pcO path ps (k + 1)).length)) (by first | exact Ok.sl _ _ _ (by first | decide | simp) | exact Ok.pt _ _ (by first | decide | simp)) (by exact congrArg (AV.sl 1 0) (congrArg List.length hs_.symm)) (sr_same 6 (.q eI path) rfl NoI.out (sr_same 5 (.b false) rfl NoI.out (sr_same 4 (.v (.slice none 0 0)) rfl NoI.out (sr_map 2 (.pt 2 0) (by first | exact Ok.sl _ _ _ (by first | decide | simp) | exact Ok.pt _ _ (by first | decide | simp)) rfl sr_none))))))))) (keep_of rfl)
  ·skip
   have hf3 := (beq_eq_false_iff_ne).1 hc1
   have hz_ : ¬ ps.getD k 0 = 0 := (beq_eq_false_iff_ne).1 hc1
   refine awp_skip ?_
   refine awp_seq ?_
   refine awp_seq ?_
   refine (Bool.eq_false_or_eq_true (!(stepB f path k))).elim (fun hq0 => ?_) (fun hq0 => ?_)
   ·skip
    have hf5 := not_t hq0
    have hst_ : stepB f path k = false := by simpa using hq0
    have hok : okB f path k = false := by unfold okB; rw [hst_]; rfl
    have hO := pc_cut (by omega) hinv hz_ hok
    refine awp_draw (m := 15) [(41, .b true), (40, .v undef), (39, .v undef), (38, .v undef), (37, .v undef), (36, .v undef), (35, .v undef), (34, .v undef), (33, .v undef), (32, .b (!(stepB f path k))), (31, .b (!(stepB f path k))), (30, .b (stepB f path k)), (29, .i (k : Int)), (28, .q eI path), (27, .agg [.i f.id, .one, .one, .one, .one, .one, .one, .q eIL f.routes, .one, .one, .one, .one, .one, .rp [.one, .q eSec f.secs, .q eIL f.parts, .q ePnt f.pts, .one, .one, .one, .one, .one, .one], .q eU8 f.st, .q eI f.ow, .q eB f.right])] mixed (by kernel_rfl) ?_ ?_
    ·refine ⟨?_, ?_, ?_, ?_, ?_, ?_, ?_, ?_, ?_, ?_, ?_, ?_, ?_, ?_, ?_, trivial⟩
     ·exact ⟨27, rfl, blt_lt rfl, fun st hob hE => aop_ldB (cells' := [.i f.id, .one, .one, .one, .one, .one, .one, .q eIL f.routes, .one, .one, .one, .one, .one, .rp [.one, .q eSec f.secs, .q eIL f.parts, .q ePnt f.pts, .one, .one, .one, .one, .one, .one], .q eU8 f.st, .q eI f.ow, .q eB f.right]) rfl rfl rfl ag81 sz81 (hE 2 rfl) (by rw [hob]; rfl) rfl rfl (by rw [hob]; rfl)⟩
     ·exact ⟨28, rfl, blt_lt rfl, fun st hob hE => aop_move (av := .q eI path) (.inl rfl) rfl rfl (hE 6 rfl) (by rw [hob]; rfl)⟩
     ·exact ⟨29, rfl, blt_lt rfl, fun st hob hE => aop_move (av := .i (k : Int)) (.inl rfl) rfl rfl (hE 8 rfl) (by rw [hob]; rfl)⟩
     ·exact ⟨30, rfl, blt_lt rfl, fun st hob hE => callW_ (a_step f path k hf (by omega) hkp) rfl rfl rfl rfl rfl bd57 (by show Lends _ ([st.env 27, st.env 28, st.env 29] ++ _) _; rw [hE 27 rfl, hE 28 rfl, hE 29 rfl]; exact (lends_cons (lend_agg (lends_cons (.one _ rfl) (lends_cons (lend_n (av := .one)) (lends_cons (lend_n (av := .one)) (lends_cons (lend_n (av := .one)) (lends_cons (lend_n (av := .one)) (lends_cons (lend_n (av := .one)) (lends_cons (lend_n (av := .one)) (lends_cons (.one _ rfl) (lends_cons (lend_n (av := .one)) (lends_cons (lend_n (av := .one)) (lends_cons (lend_n (av := .one)) (lends_cons (lend_n (av := .one)) (lends_cons (lend_n (av := .one)) (lends_cons (lend_rpw (lends_cons (lend_n (av := .one)) (lends_cons (lend_n (av := .q eSec f.secs)) (lends_cons (.one _ rfl) (lends_cons (lend_n (av := .q ePnt f.pts)) (lends_cons (lend_n (av := .one)) (lends_cons (lend_n (av := .one)) (lends_cons (lend_n (av := .one)) (lends_cons (lend_n (av := .one)) (lends_cons (lend_n (av := .one)) (lends_cons (lend_n (av := .one)) lends_nil))))))))))) (lends_cons (.one _ rfl) (lends_cons (.one _ rfl) (lends_cons (lend_n (av := .q eB f.right)) lends_nil)))))))))))))))))) (lends_cons (lend_n (av := .q eI path)) (lends_cons (lend_n (av := .i (k : Int))) lends_nil)))) (by rw [hob]; rfl)⟩
     ·exact ⟨31, rfl, blt_lt rfl, fun st hob hE => aop_not rfl rfl rfl (hE 30 rfl) (by rw [hob]; rfl)⟩
     ·exact ⟨32, rfl, blt_lt rfl, fun st hob hE => aop_move (av := .b (!(stepB f path k))) (.inl rfl) rfl rfl (hE 31 rfl) (by rw [hob]; rfl)⟩
     ·exact gN0 hq0 rfl rfl (blt_lt rfl) rfl rfl (blt_lt rfl) rfl
     ·exact gN0 hq0 rfl rfl (blt_lt rfl) rfl rfl (blt_lt rfl) rfl
     ·exact gN0 hq0 rfl rfl (blt_lt rfl) rfl rfl (blt_lt rfl) rfl
     ·exact gN0 hq0 rfl rfl (blt_lt rfl) rfl rfl (blt_lt rfl) rfl
     ·exact gN0 hq0 rfl rfl (blt_lt rfl) rfl rfl (blt_lt rfl) rfl
     ·exact gN0 hq0 rfl rfl (blt_lt rfl) rfl rfl (blt_lt rfl) rfl
     ·exact gN0 hq0 rfl rfl (blt_lt rfl) rfl rfl (blt_lt rfl) rfl
     ·exact gN0 hq0 rfl rfl (blt_lt rfl) rfl rfl (blt_lt rfl) rfl
     ·exact ⟨41, rfl, blt_lt rfl, fun st hob hE => aop_pick (b := (!(stepB f path k))) (av := .b true) rfl rfl rfl (hE 32 rfl) (by rw [hq0]; rfl) (by rw [hob]; rfl)⟩
    refine op0 ?_
    refine awp_cond true rfl rfl (fun _ => ?_) (fun h => by cases h)
    refine seqR ?_
    refine mG (.sl 1 0 ((pcO path ps k).length)) ?_
    refine mG (.sl 1 0 ((pcO path ps k).length)) ?_
    refine mG (.b false) ?_
    refine op0 ?_
    refine rs_ (upd (upd (upd (upd (upd (upd (upd (upd (upd (upd none_ 2 (.pt 2 0)) 4 (.sl 1 0 ((pcO path ps k).length))) 5 (.b false)) 6 (.q eI path)) 7 (.sl 1 0 ((pcO path ps k).length))) 8 (.i (k : Int))) 9 (.v (.int .u8 (ps.getD k 0)))) 18 (.q eU8 ps)) 19 (.i (ps.length : Int))) 20 (.i (k : Int))) (updO (updO noOb 1 (.live ⟨(enc eI (pcO path ps k)), 3, 1⟩)) 2 (.live ⟨[.i f.id, .one, .one, .one, .one, .one, .one, .q eIL f.routes, .one, .one, .one, .one, .one, .rp [.one, .q eSec f.secs, .q eIL f.parts, .q ePnt f.pts, .one, .one, .one, .one, .one, .one], .q eU8 f.st, .q eI f.ow, .q eB f.right], 81, 1⟩)) (lu rfl (lu rfl (lu rfl (lu rfl (lu rfl (lu rfl (lu rfl (lu rfl (lu rfl (lu rfl ln)))))))))) rfl ?_
    refine awp_imp _ (imp_frozen rfl (fun _ h => h) (lee_lend 5 (.b false) (lend_n (av := .b false)) (lee_lend 4 (.q eI (pcO path ps k)) (lend_s (id := 1) (n := (pcO path ps k).length) (o := ⟨(enc eI (pcO path ps k)), 3, 1⟩) rfl (enc_len (fun _ => rfl) (by first | rfl | (simp; done)))) lee_lend0))) ?_
    refine awp_ret ?_
    exact fret (av := .tup [.ro ((pcO path ps k).length) (enc eI (pcO path ps k)), .v (.bool false)]) rfl rfl (by rw [hO])
   ·skip
    have hf6 := not_f hq0
    have hst_ : stepB f path k = true := by simpa using hq0
    refine awp_draw (m := 15) [(41, .b (!(openB f (path.getD (k + 1) 0)))), (40, .b (!(openB f (path.getD (k + 1) 0)))), (39, .b (openB f (path.getD (k + 1) 0))), (38, .i (path.getD (k + 1) 0)), (37, .rp (([.i (path.getD (k + 1) 0)] : List AV) ++ ((enc eI path).drop (((k + 1) + 1) * 1)))), (36, .i ((k + 1 : Nat) : Int)), (35, .i (k : Int)), (34, .q eI path), (33, .agg [.i f.id, .one, .one, .one, .one, .one, .one, .q eIL f.routes, .one, .one, .one, .one, .one, .rp [.one, .q eSec f.secs, .q eIL f.parts, .q ePnt f.pts, .one, .one, .one, .one, .one, .one], .q eU8 f.st, .q eI f.ow, .q eB f.right]), (32, .b (!(stepB f path k))), (31, .b (!(stepB f path k))), (30, .b (stepB f path k)), (29, .i (k : Int)), (28, .q eI path), (27, .agg [.i f.id, .one, .one, .one, .one, .one, .one, .q eIL f.routes, .one, .one, .one, .one, .one, .rp [.one, .q eSec f.secs, .q eIL f.parts, .q ePnt f.pts, .one, .one, .one, .one, .one, .one], .q eU8 f.st, .q eI f.ow, .q eB f.right])] mixed (by kernel_rfl) ?_ ?_
    ·refine ⟨?_, ?_, ?_, ?_, ?_, ?_, ?_, ?_, ?_, ?_, ?_, ?_, ?_, ?_, ?_, trivial⟩
     ·exact ⟨27, rfl, blt_lt rfl, fun st hob hE => aop_ldB (cells' := [.i f.id, .one, .one, .one, .one, .one, .one, .q eIL f.routes, .one, .one, .one, .one, .one, .rp [.one, .q eSec f.secs, .q eIL f.parts, .q ePnt f.pts, .one, .one, .one, .one, .one, .one], .q eU8 f.st, .q eI f.ow, .q eB f.right]) rfl rfl rfl ag81 sz81 (hE 2 rfl) (by rw [hob]; rfl) rfl rfl (by rw [hob]; rfl)⟩
     ·exact ⟨28, rfl, blt_lt rfl, fun st hob hE => aop_move (av := .q eI path) (.inl rfl) rfl rfl (hE 6 rfl) (by rw [hob]; rfl)⟩
     ·exact ⟨29, rfl, blt_lt rfl, fun st hob hE => aop_move (av := .i (k : Int)) (.inl rfl) rfl rfl (hE 8 rfl) (by rw [hob]; rfl)⟩
     ·exact ⟨30, rfl, blt_lt rfl, fun st hob hE => callW_ (a_step f path k hf (by omega) hkp) rfl rfl rfl rfl rfl bd57 (by show Lends _ ([st.env 27, st.env 28, st.env 29] ++ _) _; rw [hE 27 rfl, hE 28 rfl, hE 29 rfl]; exact (lends_cons (lend_agg (lends_cons (.one _ rfl) (lends_cons (lend_n (av := .one)) (lends_cons (lend_n (av := .one)) (lends_cons (lend_n (av := .one)) (lends_cons (lend_n (av := .one)) (lends_cons (lend_n (av := .one)) (lends_cons (lend_n (av := .one)) (lends_cons (.one _ rfl) (lends_cons (lend_n (av := .one)) (lends_cons (lend_n (av := .one)) (lends_cons (lend_n (av := .one)) (lends_cons (lend_n (av := .one)) (lends_cons (lend_n (av := .one)) (lends_cons (lend_rpw (lends_cons (lend_n (av := .one)) (lends_cons (lend_n (av := .q eSec f.secs)) (lends_cons (.one _ rfl) (lends_cons (lend_n (av := .q ePnt f.pts)) (lends_cons (lend_n (av := .one)) (lends_cons (lend_n (av := .one)) (lends_cons (lend_n (av := .one)) (lends_cons (lend_n (av := .one)) (lends_cons (lend_n (av := .one)) (lends_cons (lend_n (av := .one)) lends_nil))))))))))) (lends_cons (.one _ rfl) (lends_cons (.one _ rfl) (lends_cons (lend_n (av := .q eB f.right)) lends_nil)))))))))))))))))) (lends_cons (lend_n (av := .q eI path)) (lends_cons (lend_n (av := .i (k : Int))) lends_nil)))) (by rw [hob]; rfl)⟩
     ·exact ⟨31, rfl, blt_lt rfl, fun st hob hE => aop_not rfl rfl rfl (hE 30 rfl) (by rw [hob]; rfl)⟩
     ·exact ⟨32, rfl, blt_lt rfl, fun st hob hE => aop_move (av := .b (!(stepB f path k))) (.inl rfl) rfl rfl (hE 31 rfl) (by rw [hob]; rfl)⟩
     ·exact gY0 hq0 rfl rfl (blt_lt rfl) rfl ⟨33, rfl, blt_lt rfl, fun st hob hE => aop_ldB (cells' := [.i f.id, .one, .one, .one, .one, .one, .one, .q eIL f.routes, .one, .one, .one, .one, .one, .rp [.one, .q eSec f.secs, .q eIL f.parts, .q ePnt f.pts, .one, .one, .one, .one, .one, .one], .q eU8 f.st, .q eI f.ow, .q eB f.right]) rfl rfl rfl ag81 sz81 (hE 2 rfl) (by rw [hob]; rfl) rfl rfl (by rw [hob]; rfl)⟩
     ·exact gY0 hq0 rfl rfl (blt_lt rfl) rfl ⟨34, rfl, blt_lt rfl, fun st hob hE => aop_move (av := .q eI path) (.inl rfl) rfl rfl (hE 6 rfl) (by rw [hob]; rfl)⟩
     ·exact gY0 hq0 rfl rfl (blt_lt rfl) rfl ⟨35, rfl, blt_lt rfl, fun st hob hE => aop_move (av := .i (k : Int)) (.inl rfl) rfl rfl (hE 8 rfl) (by rw [hob]; rfl)⟩
     ·exact gY0 hq0 rfl rfl (blt_lt rfl) rfl ⟨36, rfl, blt_lt rfl, fun st hob hE => aop_binI (u := (.int .i64 ((k + 1 : Nat) : Int))) rfl rfl rfl (hE 35 rfl) rfl trivial (addN (by omega)) (by rw [hob]; rfl)⟩
     ·exact gY0 hq0 rfl rfl (blt_lt rfl) rfl ⟨37, rfl, blt_lt rfl, fun st hob hE => aop_ixE 0 rfl rfl rfl ut48 sz3 (hE 34 rfl) (hE 36 rfl) (fun _ => rfl) rfl (by first | omega | (simp; done) | decide | (simp at *; omega)) (by rw [hob]; rfl)⟩
     ·exact gY0 hq0 rfl rfl (blt_lt rfl) rfl ⟨38, rfl, blt_lt rfl, fun st hob hE => aop_ld (av := .i (path.getD (k + 1) 0)) rfl rfl rfl ag3 (hE 37 rfl) rfl (by rw [hob]; rfl)⟩
     ·exact gY0 hq0 rfl rfl (blt_lt rfl) rfl ⟨39, rfl, blt_lt rfl, fun st hob hE => callW_ (a_open f (path.getD (k + 1) 0) hf hsr) rfl rfl rfl rfl rfl bd58 (by show Lends _ ([st.env 33, st.env 38] ++ _) _; rw [hE 33 rfl, hE 38 rfl]; exact (lends_cons (lend_agg (lends_cons (lend_n (av := .i f.id)) (lends_cons (lend_n (av := .one)) (lends_cons (lend_n (av := .one)) (lends_cons (lend_n (av := .one)) (lends_cons (lend_n (av := .one)) (lends_cons (lend_n (av := .one)) (lends_cons (lend_n (av := .one)) (lends_cons (.one _ rfl) (lends_cons (lend_n (av := .one)) (lends_cons (lend_n (av := .one)) (lends_cons (lend_n (av := .one)) (lends_cons (lend_n (av := .one)) (lends_cons (lend_n (av := .one)) (lends_cons (lend_rpw (lends_cons (lend_n (av := .one)) (lends_cons (.one _ rfl) (lends_cons (lend_n (av := .q eIL f.parts)) (lends_cons (.one _ rfl) (lends_cons (lend_n (av := .one)) (lends_cons (lend_n (av := .one)) (lends_cons (lend_n (av := .one)) (lends_cons (lend_n (av := .one)) (lends_cons (lend_n (av := .one)) (lends_cons (lend_n (av := .one)) lends_nil))))))))))) (lends_cons (lend_n (av := .q eU8 f.st)) (lends_cons (lend_n (av := .q eI f.ow)) (lends_cons (.one _ rfl) lends_nil)))))))))))))))))) (lends_cons (lend_n (av := .i (path.getD (k + 1) 0))) lends_nil))) (by rw [hob]; rfl)⟩
     ·exact gY0 hq0 rfl rfl (blt_lt rfl) rfl ⟨40, rfl, blt_lt rfl, fun st hob hE => aop_not rfl rfl rfl (hE 39 rfl) (by rw [hob]; rfl)⟩
     ·exact ⟨41, rfl, blt_lt rfl, fun st hob hE => aop_pick (b := (!(stepB f path k))) (av := .b (!(openB f (path.getD (k + 1) 0)))) rfl rfl rfl (hE 32 rfl) (by rw [hq0]; exact hE 40 rfl) (by rw [hob]; rfl)⟩
    refine op0 ?_
    refine awp_cond (!(openB f (path.getD (k + 1) 0))) rfl rfl (fun hc2 => ?_) (fun hc2 => ?_)
    ·skip
     have hf7 := not_t hc2
     have hok : okB f path k = false := by unfold okB; rw [hst_, Bool.true_and]; simpa using hc2
     have hO := pc_cut (by omega) hinv hz_ hok
     refine seqR ?_
     refine mG (.sl 1 0 ((pcO path ps k).length)) ?_
     refine mG (.sl 1 0 ((pcO path ps k).length)) ?_
     refine mG (.b false) ?_
     refine op0 ?_
     refine rs_ (upd (upd (upd (upd (upd (upd (upd (upd (upd (upd none_ 2 (.pt 2 0)) 4 (.sl 1 0 ((pcO path ps k).length))) 5 (.b false)) 6 (.q eI path)) 7 (.sl 1 0 ((pcO path ps k).length))) 8 (.i (k : Int))) 9 (.v (.int .u8 (ps.getD k 0)))) 18 (.q eU8 ps)) 19 (.i (ps.length : Int))) 20 (.i (k : Int))) (updO (updO noOb 1 (.live ⟨(enc eI (pcO path ps k)), 3, 1⟩)) 2 (.live ⟨[.i f.id, .one, .one, .one, .one, .one, .one, .q eIL f.routes, .one, .one, .one, .one, .one, .rp [.one, .q eSec f.secs, .q eIL f.parts, .q ePnt f.pts, .one, .one, .one, .one, .one, .one], .q eU8 f.st, .q eI f.ow, .q eB f.right], 81, 1⟩)) (lu rfl (lu rfl (lu rfl (lu rfl (lu rfl (lu rfl (lu rfl (lu rfl (lu rfl (lu rfl ln)))))))))) rfl ?_
     refine awp_imp _ (imp_frozen rfl (fun _ h => h) (lee_lend 5 (.b false) (lend_n (av := .b false)) (lee_lend 4 (.q eI (pcO path ps k)) (lend_s (id := 1) (n := (pcO path ps k).length) (o := ⟨(enc eI (pcO path ps k)), 3, 1⟩) rfl (enc_len (fun _ => rfl) (by first | rfl | (simp; done)))) lee_lend0))) ?_
     refine awp_ret ?_
     exact fret (av := .tup [.ro ((pcO path ps k).length) (enc eI (pcO path ps k)), .v (.bool false)]) rfl rfl (by rw [hO])
    ·skip
     have hf8 := not_f hc2
     have hok : okB f path k = true := by unfold okB; rw [hst_, Bool.true_and]; simpa using hc2
     refine awp_skip ?_
     refine regR ?_
     refine mG (.sl 1 0 ((pcO path ps k).length)) ?_
     refine mG (.q eI path) ?_
     refine mG (.i (k : Int)) ?_
     refine opG rfl (aop_binI (u := (.int .i64 ((k + 1 : Nat) : Int))) rfl rfl rfl rfl rfl trivial (addN (by omega)) ?_)
     refine opG rfl (aop_ixE 0 rfl rfl rfl ut48 sz3 rfl rfl (fun _ => rfl) rfl (by first | omega | (simp; done) | decide | (simp at *; omega)) ?_)
     refine opG rfl (aop_ld (av := .i (path.getD (k + 1) 0)) rfl rfl rfl ag3 rfl rfl ?_)
     refine opG rfl (aop_lit rfl rfl rfl ut48 iz3 (by decide) (by decide) rfl rfl ?_)
     refine opG rfl (aop_app1 (f := eI) (l := pcO path ps k) 54 (path.getD (k + 1) 0 : Int) rfl rfl rfl rfl ut48 in3 rfl (by decide) rfl rfl rfl rfl rfl rfl (fun _ => rfl) rfl rfl (by first | omega | (simp; done) | decide | (simp at *; omega)) (by first | omega | (simp; done) | decide | (simp at *; omega)) rfl ?_)
     refine mG (.sl 54 0 (((pcO path ps k) ++ [(path.getD (k + 1) 0 : Int)]).length)) ?_
     refine op0 ?_
     refine rs_ (upd (upd (upd (upd (upd (upd (upd (upd (upd (upd none_ 2 (.pt 2 0)) 4 (.v (.slice none 0 0))) 5 (.b false)) 6 (.q eI path)) 7 (.sl 54 0 (((pcO path ps k) ++ [(path.getD (k + 1) 0 : Int)]).length))) 8 (.i (k : Int))) 9 (.v (.int .u8 (ps.getD k 0)))) 18 (.q eU8 ps)) 19 (.i (ps.length : Int))) 20 (.i (k : Int))) (updO (updO (updO (updO noOb 1 (.live ⟨(enc eI (pcO path ps k)), 3, 1⟩)) 2 (.live ⟨[.i f.id, .one, .one, .one, .one, .one, .one, .q eIL f.routes, .one, .one, .one, .one, .one, .rp [.one, .q eSec f.secs, .q eIL f.parts, .q ePnt f.pts, .one, .one, .one, .one, .one, .one], .q eU8 f.st, .q eI f.ow, .q eB f.right], 81, 1⟩)) 1 .dead) 54 (.live ⟨(enc eI ((pcO path ps k) ++ [(path.getD (k + 1) 0 : Int)])), 3, 1⟩)) (lu rfl (lu rfl (lu rfl (lu rfl (lu rfl (lu rfl (lu rfl (lu rfl (lu rfl (lu rfl ln)))))))))) rfl ?_
     refine regR ?_
     refine opG rfl (aop_binI (u := (.int .i64 ((k + 1 : Nat) : Int))) rfl rfl rfl rfl rfl trivial (addN (by omega)) ?_)
     refine mG (.i ((k + 1 : Nat) : Int)) ?_
     refine op0 ?_
     show _ ∧ _
     have hs_ := pcO_on (path := path) (ps := ps) (k := k) hz_
     refine ⟨by omega, (by first | exact pc_no (by omega) hinv hz_ | exact pc_on (by omega) hinv hz_ hok), ?_⟩
     exact imp_ler [(54, 1), (2, 2)] (lerL [(54, 1), (2, 2)] [((54, 1), .live ⟨(enc eI (pcO path ps (k + 1))), 3, 1⟩), ((2, 2), .live ⟨[.i f.id, .one, .one, .one, .one, .one, .one, .q eIL f.routes, .one, .one, .one, .one, .one, .rp [.one, .q eSec f.secs, .q eIL f.parts, .q ePnt f.pts, .one, .one, .one, .one, .one, .one], .q eU8 f.st, .q eI f.ow, .q eB f.right], 81, 1⟩)] rfl (by decide) (by decide) ⟨row_no (o := ⟨(enc eI ((pcO path ps k) ++ [(path.getD (k + 1) 0 : Int)])), 3, 1⟩) rfl (by exact congrArg (fun l_ => LObj.mk (enc eI l_) 3 1) hs_), row_no (o := ⟨[.i f.id, .one, .one, .one, .one, .one, .one, .q eIL f.routes, .one, .one, .one, .one, .one, .rp [.one, .q eSec f.secs, .q eIL f.parts, .q ePnt f.pts, .one, .one, .one, .one, .one, .one], .q eU8 f.st, .q eI f.ow, .q eB f.right], 81, 1⟩) rfl rfl, trivial⟩ (sr_same 20 (.i ((k + 1) : Int)) rfl NoI.out (sr_same 19 (.i (ps.length : Int)) rfl NoI.out (sr_same 18 (.q eU8 ps) rfl NoI.out (sr_map 7 (.sl 1 0 ((pcO path ps (k + 1)).length)) (by first | exact Ok.sl _ _ _ (by first | decide | simp) | exact Ok.pt _ _ (by first | decide | simp)) (by exact congrArg (AV.sl 1 0) (congrArg List.length hs_.symm)) (sr_same 6 (.q eI path) rfl NoI.out (sr_same 5 (.b false) rfl NoI.out (sr_same 4 (.v (.slice none 0 0)) rfl NoI.out (sr_map 2 (.pt 2 0) (by first | exact Ok.sl _ _ _ (by first | decide | simp) | exact Ok.pt _ _ (by first | decide | simp)) rfl sr_none))))))))) (keep_of rfl)
 ·skip
  have hf9 := of_decide_eq_false hc0
  have hO := pc_end (by omega) hinv
  refine awp_exit ?_
  refine seqR ?_
  refine mG (.sl 1 0 ((pcO path ps k).length)) ?_
  refine mG (.sl 1 0 ((pcO path ps k).length)) ?_
  refine mG (.b true) ?_
  refine op0 ?_
  refine rs_ (upd (upd none_ 4 (.sl 1 0 ((pcO path ps k).length))) 5 (.b true)) (updO (updO noOb 1 (.live ⟨(enc eI (pcO path ps k)), 3, 1⟩)) 2 (.live ⟨[.i f.id, .one, .one, .one, .one, .one, .one, .q eIL f.routes, .one, .one, .one, .one, .one, .rp [.one, .q eSec f.secs, .q eIL f.parts, .q ePnt f.pts, .one, .one, .one, .one, .one, .one], .q eU8 f.st, .q eI f.ow, .q eB f.right], 81, 1⟩)) (lu rfl (lu rfl ln)) rfl ?_
  refine awp_imp _ (imp_frozen rfl (fun _ h => h) (lee_lend 5 (.b true) (lend_n (av := .b true)) (lee_lend 4 (.q eI (pcO path ps k)) (lend_s (id := 1) (n := (pcO path ps k).length) (o := ⟨(enc eI (pcO path ps k)), 3, 1⟩) rfl (enc_len (fun _ => rfl) (by first | rfl | (simp; done)))) lee_lend0))) ?_
  refine awp_ret ?_
  exact fret (av := .tup [.ro ((pcO path ps k).length) (enc eI (pcO path ps k)), .v (.bool true)]) rfl rfl (by rw [hO])
theorem a_counts (f : Fld) (r : Int) (path last : List Int) (hf : FldOk f) (hr : 0 ≤ r ∧ r < (f.routes.length : Int)) (hpath : f.routes.getD r.toNat [] = path) (hla : last.length ≤ 65536) : Fn Try.prog 35 [.agg [.one, .one, .ro f.span.length (enc eI f.span), .one, .one, .one, .one, .ro f.routes.length (enc eIL f.routes), .one, .one, .one, .one, .one, .one, .one, .one, .one], .agg [.v (.int .i64 r), .one, .one, .one], .ro last.length (enc eI last)] (.v (.bool (cntB f path last))) := by
 have hz1 := hf.hs
 have hz2 := hf.hp
 have hz3 := hf.hpa
 have hz4 := hf.hst
 have hz5 := hf.how
 have hz6 := hf.hr
 have hz7 := hf.hsp
 have hz8 := hf.hro
 have hmem : path ∈ f.routes := by rw [← hpath]; exact getD_mem [] (by omega)
 have hpl := hf.hrl path hmem
 refine fnE_of_body (N := 33) Try.func35 rfl rfl (resOf1 rfl) (by simp) (fun w0 X hL_ => ?_)
 refine seqR ?_
 refine opG rfl (aop_box 51 rfl rfl rfl rfl rfl rfl rfl ?_)
 refine opG rfl (aop_box 52 rfl rfl rfl rfl rfl rfl rfl ?_)
 refine mG (.b false) ?_
 refine op0 ?_
 refine seqR ?_
 refine fG (.pt 51 3) ft81_1 sz39 ?_
 refine fG (.pt 51 7) ft39_4 sz36 ?_
 refine opG rfl (aop_ld (av := .q eIL f.routes) rfl rfl rfl ag36 rfl rfl ?_)
 refine fG (.pt 52 0) ft64_0 sz3 ?_
 refine opG rfl (aop_ld (av := .i r) rfl rfl rfl ag3 rfl rfl ?_)
 refine opG rfl (aop_ixI [] rfl rfl rfl ut36 sz48 rfl rfl (fun _ => rfl) rfl (by omega) (by first | omega | (simp; done) | decide | (simp at *; omega)) ?_)
 refine opG rfl (aop_eqv (d := 14) (a := .q eI (f.routes.getD r.toNat [])) (b := .q eI path) (aop_ld (av := .q eI (f.routes.getD r.toNat [])) rfl rfl rfl ag48 rfl rfl rfl) (by rw [hpath]) ?_)
 refine mG (.q eI path) ?_
 refine op0 ?_
 refine rs_ (upd (upd (upd (upd none_ 2 (.q eI last)) 3 (.pt 51 0)) 6 (.b false)) 7 (.q eI path)) (updO (updO noOb 51 (.live ⟨[.one, .one, .q eI f.span, .one, .one, .one, .one, .q eIL f.routes, .one, .one, .one, .one, .one, .one, .one, .one, .one], 81, 1⟩)) 52 (.live ⟨[.i r, .one, .one, .one], 64, 1⟩)) (lu rfl (lu rfl (lu rfl (lu rfl ln)))) rfl ?_
 refine awp_seq ?_
 refine seqR ?_
 refine mG (.q eI last) ?_
 refine opG rfl (aop_len rfl rfl rfl rfl ut48 (len_ro rfl) ?_)
 refine bG ((.bool ((last.length : Int) == 0))) ?_
 refine op0 ?_
 refine awp_cond ((last.length : Int) == 0) rfl rfl (fun hc0 => ?_) (fun hc0 => ?_)
 ·skip
  have hf1 := (beq_iff_eq).1 hc0
  have h0_ : last.length = 0 := by have := (beq_iff_eq).1 hc0; omega
  refine seqR ?_
  refine fG (.pt 51 0) ft81_0 sz63 ?_
  refine fG (.pt 51 2) ft63_2 sz48 ?_
  refine opG rfl (aop_ld (av := .q eI f.span) rfl rfl rfl ag48 rfl rfl ?_)
  refine mG (.q eI path) ?_
  refine opG rfl (call_ (c_Meets f.span path (by omega) (by omega)) rfl rfl rfl rfl rfl bd56 rfl ?_)
  refine mG (.b (f.span.any (fun s => decide (s ∈ path)))) ?_
  refine op0 ?_
  refine rs_ (upd (upd (upd none_ 2 (.q eI last)) 6 (.b (f.span.any (fun s => decide (s ∈ path))))) 7 (.q eI path)) (updO (updO noOb 51 (.live ⟨[.one, .one, .q eI f.span, .one, .one, .one, .one, .q eIL f.routes, .one, .one, .one, .one, .one, .one, .one, .one, .one], 81, 1⟩)) 52 (.live ⟨[.i r, .one, .one, .one], 64, 1⟩)) (lu rfl (lu rfl (lu rfl ln))) rfl ?_
  refine awp_ret ?_
  exact fret (av := .v (.bool (f.span.any (fun s => decide (s ∈ path))))) rfl rfl (by unfold cntB; rw [if_pos h0_])
 ·skip
  have hf2 := (beq_eq_false_iff_ne).1 hc0
  have h0_ : ¬ last.length = 0 := by have := (beq_eq_false_iff_ne).1 hc0; omega
  refine awp_skip ?_
  refine awp_seq ?_
  refine awp_draw (m := 10) [(32, .b ((path.getD 0 0) == (last.getD ((last.length : Int) - 1).toNat 0))), (31, .i (last.getD ((last.length : Int) - 1).toNat 0)), (30, .rp (([.i (last.getD ((last.length : Int) - 1).toNat 0)] : List AV) ++ ((enc eI last).drop ((((last.length : Int) - 1).toNat + 1) * 1)))), (29, .i ((last.length : Int) - 1)), (28, .i (last.length : Int)), (27, .q eI last), (26, .q eI last), (25, .i (path.getD 0 0)), (24, .rp (([.i (path.getD 0 0)] : List AV) ++ ((enc eI path).drop ((0 + 1) * 1)))), (23, .q eI path)] mixed (by kernel_rfl) ?_ ?_
  ·refine ⟨?_, ?_, ?_, ?_, ?_, ?_, ?_, ?_, ?_, ?_, trivial⟩
   ·exact ⟨23, rfl, blt_lt rfl, fun st hob hE => aop_move (av := .q eI path) (.inl rfl) rfl rfl (hE 7 rfl) (by rw [hob]; rfl)⟩
   ·exact ⟨24, rfl, blt_lt rfl, fun st hob hE => aop_ixE (k := 0) 0 rfl rfl rfl ut48 sz3 (hE 23 rfl) rfl (fun _ => rfl) rfl (by first | omega | (simp; done) | decide | (simp at *; omega)) (by rw [hob]; rfl)⟩
   ·exact ⟨25, rfl, blt_lt rfl, fun st hob hE => aop_ld (av := .i (path.getD 0 0)) rfl rfl rfl ag3 (hE 24 rfl) rfl (by rw [hob]; rfl)⟩
   ·exact ⟨26, rfl, blt_lt rfl, fun st hob hE => aop_move (av := .q eI last) (.inl rfl) rfl rfl (hE 2 rfl) (by rw [hob]; rfl)⟩
   ·exact ⟨27, rfl, blt_lt rfl, fun st hob hE => aop_move (av := .q eI last) (.inl rfl) rfl rfl (hE 2 rfl) (by rw [hob]; rfl)⟩
   ·exact ⟨28, rfl, blt_lt rfl, fun st hob hE => aop_len rfl rfl rfl rfl ut48 (len_ro (hE 27 rfl)) (by rw [hob]; rfl)⟩
   ·exact ⟨29, rfl, blt_lt rfl, fun st hob hE => aop_binI (u := (.int .i64 ((last.length : Int) - 1))) rfl rfl rfl (hE 28 rfl) rfl trivial (subI (by omega)) (by rw [hob]; rfl)⟩
   ·exact ⟨30, rfl, blt_lt rfl, fun st hob hE => aop_ixI 0 rfl rfl rfl ut48 sz3 (hE 26 rfl) (hE 29 rfl) (fun _ => rfl) rfl (by omega) (by first | omega | (simp; done) | decide | (simp at *; omega)) (by rw [hob]; rfl)⟩
   ·exact ⟨31, rfl, blt_lt rfl, fun st hob hE => aop_ld (av := .i (last.getD ((last.length : Int) - 1).toNat 0)) rfl rfl rfl ag3 (hE 30 rfl) rfl (by rw [hob]; rfl)⟩
   ·exact ⟨32, rfl, blt_lt rfl, fun st hob hE => aop_binI (u := (.bool ((path.getD 0 0) == (last.getD ((last.length : Int) - 1).toNat 0)))) rfl rfl rfl (hE 25 rfl) (hE 31 rfl) trivial rfl (by rw [hob]; rfl)⟩
  refine mG (.b ((path.getD 0 0) == (last.getD ((last.length : Int) - 1).toNat 0))) ?_
  refine op0 ?_
  refine rs_ (upd none_ 6 (.b ((path.getD 0 0) == (last.getD ((last.length : Int) - 1).toNat 0)))) (updO (updO noOb 51 (.live ⟨[.one, .one, .q eI f.span, .one, .one, .one, .one, .q eIL f.routes, .one, .one, .one, .one, .one, .one, .one, .one, .one], 81, 1⟩)) 52 (.live ⟨[.i r, .one, .one, .one], 64, 1⟩)) (lu rfl ln) rfl ?_
  refine awp_ret ?_
  exact fret (av := .v (.bool ((path.getD 0 0) == (last.getD ((last.length : Int) - 1).toNat 0)))) rfl rfl (by unfold cntB; rw [if_neg h0_, show last.length - 1 = ((last.length : Int) - 1).toNat by omega]; rfl)
theorem a_Of1 (t i : Int)  : Fn Try.prog 34 [.agg [.one, .v (.int .i64 t), .one, .one], .rp [.v (.int .i64 i)]] (.v (.bool (!decide (t = i)))) := by
 refine fnE_of_body (N := 8) Try.func34 rfl rfl (resOf1 rfl) (by simp) (fun w0 X hL_ => ?_)
 refine seqR ?_
 refine opG rfl (aop_box 51 rfl rfl rfl rfl rfl rfl rfl ?_)
 refine mG (.b false) ?_
 refine op0 ?_
 refine seqR ?_
 refine fG (.pt 51 1) ft64_1 sz3 ?_
 refine opG rfl (aop_ld (av := .i t) rfl rfl rfl ag3 rfl rfl ?_)
 refine opG rfl (aop_ld (av := .i i) rfl rfl rfl ag3 rfl rfl ?_)
 refine bG ((.bool (t != i))) ?_
 refine mG (.b (t != i)) ?_
 refine op0 ?_
 refine rs_ (upd none_ 3 (.b (t != i))) (updO noOb 51 (.live ⟨[.one, .i t, .one, .one], 64, 1⟩)) (lu rfl ln) rfl ?_
 refine awp_ret ?_
 exact fret (av := .v (.bool (t != i))) rfl rfl (by rw [bne_dec])
theorem cl_Lk (l : List Lk) (hl : l.length ≤ 4294967296) : FnO Try.prog 33 [.ro l.length (enc eLk l)] (.sl 0 0 l.length) [⟨(enc eLk l), 64, 4⟩] := by
 refine fnE_of_body (N := 8) Try.func33 rfl rfl (resOf1 rfl) (by simp) (fun w0 X hL_ => ?_)
 refine seqR ?_
 refine mG (.v (.slice none 0 0)) ?_
 refine op0 ?_
 refine awp_seq ?_
 refine seqR ?_
 refine mG (.q eLk l) ?_
 refine opG rfl (aop_slNil rfl rfl rfl ut50 rfl rfl (.inl rfl) (fun b4_ hb4_ => ?_))
 refine op0 ?_
 refine awp_cond b4_ rfl rfl (fun hc0 => ?_) (fun hc0 => ?_)
 ·skip
  have h0 : l.length = 0 := Decidable.byContradiction fun h => by have := hb4_ h; rw [hc0] at this; cases this
  refine seqR ?_
  refine mG (.v (.slice none 0 0)) ?_
  refine op0 ?_
  refine rs_ (upd (upd none_ 0 (.q eLk l)) 2 (.v (.slice none 0 0))) noOb (lu rfl (lu rfl ln)) rfl ?_
  refine awp_imp _ (imp_adopt 2 51 64 4 rfl rfl) ?_
  refine awp_ret ?_
  exact fretO 51 rfl rfl rfl h0.symm (by rw [List.length_eq_zero_iff.1 h0]; rfl)
 ·skip
  refine awp_skip ?_
  refine seqR ?_
  refine opG rfl (aop_litO 52 rfl rfl rfl ut50 iz64 (by decide) (by decide) rfl rfl rfl rfl ?_)
  refine mG (.q eLk l) ?_
  refine opG rfl (aop_appE (f := eLk) (l := ([] : List Lk)) (l2 := l) 53 rfl rfl rfl rfl ut50 in64 rfl (by decide) rfl rfl rfl rfl rfl rfl (fun _ => rfl) rfl rfl rfl (by first | omega | (simp; done) | decide | (simp at *; omega)) (by first | omega | (simp; done) | decide | (simp at *; omega)) rfl ?_)
  refine mG (.sl 53 0 ((([] : List Lk) ++ l).length)) ?_
  refine op0 ?_
  refine rs_ (upd none_ 2 (.sl 53 0 ((([] : List Lk) ++ l).length))) (updO (updO (updO noOb 52 (.live ⟨[], 64, 4⟩)) 52 .dead) 53 (.live ⟨(enc eLk (([] : List Lk) ++ l)), 64, 4⟩)) (lu rfl ln) rfl ?_
  refine awp_ret ?_
  exact fretO 53 rfl rfl rfl rfl rfl
theorem ixLk (l : List Lk) (i : Int) (hl : l.length ≤ 4294967296)  : Fn Try.prog 55 [.ro l.length (enc eLk l), .fn 34 [.rp [.v (.int .i64 i)]]] (.v (.int .i64 (idxB (fun x : Lk => !decide (x.train = i)) l))) := by
 refine fnE_of_body (N := 19) Try.func55 rfl rfl (resOf1 rfl) (by simp) (fun w0 X hL_ => ?_)
 refine seqR ?_
 refine mG (.i 0) ?_
 refine op0 ?_
 refine awp_seq ?_
 refine seqR ?_
 refine mG (.q eLk l) ?_
 refine opG rfl (aop_len rfl rfl rfl rfl ut50 (len_ro rfl) ?_)
 refine mG (.i 0) ?_
 refine op0 ?_
 refine rs_ (upd (upd (upd (upd (upd none_ 0 (.q eLk l)) 1 (.fn 34 [.rp [.i i]])) 4 (.i 0)) 7 (.i (l.length : Int))) 8 (.i 0)) noOb (lu rfl (lu rfl (lu rfl (lu rfl (lu rfl ln))))) rfl ?_
 refine awp_block ?_
 refine awp_countI (fun k => ⟨(upd (upd (upd (upd (upd none_ 0 (.q eLk l)) 1 (.fn 34 [.rp [.i i]])) 4 (.i 0)) 7 (.i (l.length : Int))) 8 (.i (k : Int))), noOb⟩) (fun k => (l.take k).any (fun x : Lk => !decide (x.train = i)) = false) (l.length) ?_ (by simp) (fun k hk_k hinv => ?_)
 ·skip
  exact imp_ler [] (ler0 (sS rfl (sS rfl (sS rfl (sS rfl (sS rfl sr_none)))))) (keep_of rfl)
 refine seqR ?_
 refine bG ((.bool (decide ((k : Int) < (l.length : Int))))) ?_
 refine op0 ?_
 refine awp_seq ?_
 refine awp_cond (decide ((k : Int) < (l.length : Int))) rfl rfl (fun hc0 => ?_) (fun hc0 => ?_)
 ·skip
  have hf1 := of_decide_eq_true hc0
  refine awp_skip ?_
  refine awp_seq ?_
  refine awp_block ?_
  refine seqR ?_
  refine mG (.i (k : Int)) ?_
  refine mG (.i (k : Int)) ?_
  refine op0 ?_
  refine seqR ?_
  refine mG (.fn 34 [.rp [.i i]]) ?_
  refine mG (.q eLk l) ?_
  refine mG (.i (k : Int)) ?_
  refine opG rfl (aop_ixE dLk rfl rfl rfl ut50 sz64 rfl rfl (fun _ => rfl) rfl (by first | omega | (simp; done) | decide | (simp at *; omega)) ?_)
  refine opG rfl (aop_ldB (cells' := [.i ((l.getD k dLk).route), .i ((l.getD k dLk).train), .i ((l.getD k dLk).ends), .ro ((l.getD k dLk).pieces.length) (enc eU8 ((l.getD k dLk).pieces))]) rfl rfl rfl ag64 sz64 rfl rfl rfl rfl ?_)
  refine opG rfl (callW_ (a_Of1 ((l.getD k dLk).train) i) rfl rfl rfl rfl rfl bd34 (lends_cons (lend_agg (lends_cons (.one _ rfl) (lends_cons (lend_n (av := .i ((l.getD k dLk).train))) (lends_cons (.one _ rfl) (lends_cons (.one _ rfl) lends_nil))))) (lends_cons (lend_n (av := .rp [.i i])) lends_nil)) ?_)
  refine op0 ?_
  refine rs_ (upd (upd (upd (upd (upd (upd (upd none_ 0 (.q eLk l)) 1 (.fn 34 [.rp [.i i]])) 4 (.i 0)) 5 (.i (k : Int))) 7 (.i (l.length : Int))) 8 (.i (k : Int))) 16 (.b (!decide (((l.getD k dLk).train) = i)))) noOb (lu rfl (lu rfl (lu rfl (lu rfl (lu rfl (lu rfl (lu rfl ln))))))) rfl ?_
  refine awp_cond (!decide (((l.getD k dLk).train) = i)) rfl rfl (fun hc1 => ?_) (fun hc1 => ?_)
  ·skip
   refine seqR ?_
   refine mG (.i (k : Int)) ?_
   refine mG (.i (k : Int)) ?_
   refine op0 ?_
   refine awp_ret ?_
   exact fret (av := .v (.int .i64 (k : Int))) rfl rfl (by rw [idxB_stop (f := fun x : Lk => !decide (x.train = i)) dLk (by omega) hinv hc1] <;> rfl)
  ·skip
   refine awp_skip ?_
   refine regR ?_
   refine opG rfl (aop_binI (u := (.int .i64 ((k + 1 : Nat) : Int))) rfl rfl rfl rfl rfl trivial (addN (by omega)) ?_)
   refine mG (.i ((k + 1 : Nat) : Int)) ?_
   refine op0 ?_
   show _ ∧ _
   refine ⟨by omega, (any_step dLk (by omega) hinv hc1), ?_⟩
   exact imp_ler [] (ler0 (sS rfl (sS rfl (sS rfl (sS rfl (sS rfl sr_none)))))) (keep_of rfl)
 ·skip
  have hf2 := of_decide_eq_false hc0
  refine awp_exit ?_
  refine seqR ?_
  refine mG (.i (-1)) ?_
  refine op0 ?_
  refine awp_ret ?_
  exact fret (av := .v (.int .i64 (-1))) rfl rfl (by rw [idxB_end (f := fun x : Lk => !decide (x.train = i)) (by omega) hinv] <;> rfl)
theorem delLk (l : List Lk) (i : Int) (hl : l.length ≤ 4294967296)  : FnGO Try.prog 32 [⟨(enc eLk l), 64, 4⟩] [.sl 0 0 l.length, .fn 34 [.rp [.v (.int .i64 i)]]] (.sl 0 0 ((restG (fun x : Lk => !decide (x.train = i)) l).length)) [.live ⟨(enc eLk (restG (fun x : Lk => !decide (x.train = i)) l ++ List.replicate (l.length - (restG (fun x : Lk => !decide (x.train = i)) l).length) dLk)), 64, 4⟩] := by
 refine fnG_of_body (N := 42) 1 rfl Try.func32 rfl rfl (resOf1 rfl) (by simp) (fun w0 G C hL_ hLG_ => ?_)
 refine seqR ?_
 refine mG (.v (.slice none 0 0)) ?_
 refine op0 ?_
 refine seqR ?_
 refine mG (.sl 0 0 l.length) ?_
 refine mG (.fn 34 [.rp [.i i]]) ?_
 refine opG rfl (callL_ (ixLk l i (by first | omega | (simp; done) | decide | (simp at *; omega))) rfl rfl rfl rfl rfl bd55 (lends_cons (lend_s (id := 0) (n := l.length) (o := ⟨(enc eLk l), 64, 4⟩) rfl (enc_len (fun _ => rfl) (by first | rfl | (simp; done)))) (lends_cons (lend_n (av := .fn 34 [.rp [.i i]])) lends_nil)) ?_)
 refine mG (.i (idxB (fun x : Lk => !decide (x.train = i)) l)) ?_
 refine op0 ?_
 refine rs_ (upd (upd (upd (upd none_ 0 (.sl 0 0 l.length)) 1 (.fn 34 [.rp [.i i]])) 4 (.v (.slice none 0 0))) 5 (.i (idxB (fun x : Lk => !decide (x.train = i)) l))) (updO noOb 0 (.live ⟨(enc eLk l), 64, 4⟩)) (lu rfl (lu rfl (lu rfl (lu rfl ln)))) rfl ?_
 refine awp_seq ?_
 refine seqR ?_
 refine mG (.i (idxB (fun x : Lk => !decide (x.train = i)) l)) ?_
 refine bG ((.bool ((idxB (fun x : Lk => !decide (x.train = i)) l) == (-1)))) ?_
 refine op0 ?_
 refine awp_cond ((idxB (fun x : Lk => !decide (x.train = i)) l) == (-1)) rfl rfl (fun hc0 => ?_) (fun hc0 => ?_)
 ·skip
  have hf1 := (beq_iff_eq).1 hc0
  have hm0 := restG_none (fun x : Lk => !decide (x.train = i)) (any_none (fun x : Lk => !decide (x.train = i)) dLk hf1)
  refine seqR ?_
  refine mG (.sl 0 0 l.length) ?_
  refine mG (.sl 0 0 l.length) ?_
  refine op0 ?_
  refine rs_ (upd (upd (upd (upd none_ 0 (.sl 0 0 l.length)) 1 (.fn 34 [.rp [.i i]])) 4 (.sl 0 0 l.length)) 5 (.i (idxB (fun x : Lk => !decide (x.train = i)) l))) (updO noOb 0 (.live ⟨(enc eLk l), 64, 4⟩)) (lu rfl (lu rfl (lu rfl (lu rfl ln)))) rfl ?_
  refine awp_imp ⟨(upd none_ 4 (.sl 0 0 ((restG (fun x : Lk => !decide (x.train = i)) l).length))), (updO noOb 0 (.live ⟨(enc eLk (restG (fun x : Lk => !decide (x.train = i)) l ++ List.replicate (l.length - (restG (fun x : Lk => !decide (x.train = i)) l).length) dLk)), 64, 4⟩))⟩ ?_ ?_
  ·skip
   exact imp_ler [(0, 0)] (lerL [(0, 0)] [((0, 0), .live ⟨(enc eLk (restG (fun x : Lk => !decide (x.train = i)) l ++ List.replicate (l.length - (restG (fun x : Lk => !decide (x.train = i)) l).length) dLk)), 64, 4⟩)] rfl (by decide) (by decide) ⟨row_no (o := ⟨(enc eLk l), 64, 4⟩) rfl (by exact congrArg (fun l_ => LObj.mk (enc eLk l_) 64 4) (by rw [hm0]; simp)), trivial⟩ (sr_map 4 (.sl 0 0 ((restG (fun x : Lk => !decide (x.train = i)) l).length)) (by first | exact Ok.sl _ _ _ (by first | decide | simp) | exact Ok.pt _ _ (by first | decide | simp)) (by exact congrArg (AV.sl 0 0) (by rw [hm0])) sr_none)) (keep_of rfl)
  refine awp_ret ?_
  exact fretG rfl rfl rfl rfl
 ·skip
  have hf2 := (beq_eq_false_iff_ne).1 hc0
  obtain ⟨i0, hi, hlt, hpre, hdel⟩ := idxB_found dLk (show ¬ idxB (fun x : Lk => !decide (x.train = i)) l = -1 from fun e => hf2 e)
  refine awp_skip ?_
  refine awp_seq ?_
  refine seqR ?_
  refine mG (.i (idxB (fun x : Lk => !decide (x.train = i)) l)) ?_
  refine opG rfl (aop_binI (u := (.int .i64 ((idxB (fun x : Lk => !decide (x.train = i)) l) + 1))) rfl rfl rfl rfl rfl trivial (addI (by omega)) ?_)
  refine mG (.i ((idxB (fun x : Lk => !decide (x.train = i)) l) + 1)) ?_
  refine op0 ?_
  refine rs_ (upd (upd (upd (upd (upd none_ 0 (.sl 0 0 l.length)) 1 (.fn 34 [.rp [.i i]])) 4 (.v (.slice none 0 0))) 5 (.i (idxB (fun x : Lk => !decide (x.train = i)) l))) 6 (.i ((idxB (fun x : Lk => !decide (x.train = i)) l) + 1))) (updO noOb 0 (.live ⟨(enc eLk l), 64, 4⟩)) (lu rfl (lu rfl (lu rfl (lu rfl (lu rfl ln))))) rfl ?_
  refine awp_block ?_
  refine awp_countI (fun k => ⟨(upd (upd (upd (upd (upd none_ 0 (.sl 0 0 l.length)) 1 (.fn 34 [.rp [.i i]])) 4 (.v (.slice none 0 0))) 5 (.i (((delG (fun x : Lk => !decide (x.train = i)) l (i0 + 1 + k)).2 : Nat) : Int))) 6 (.i ((i0 + 1 + k : Nat) : Int))), (updO noOb 0 (.live ⟨(enc eLk ((delG (fun x : Lk => !decide (x.train = i)) l (i0 + 1 + k)).1)), 64, 4⟩))⟩) (fun k => True) ((l.length - (i0 + 1))) ?_ trivial (fun k hk_k hinv => ?_)
  ·skip
   have hf0 := delG_first (fun x : Lk => !decide (x.train = i)) dLk hlt hpre hdel
   exact imp_ler [(0, 0)] (lerL [(0, 0)] [((0, 0), .live ⟨(enc eLk ((delG (fun x : Lk => !decide (x.train = i)) l (i0 + 1 + 0)).1)), 64, 4⟩)] rfl (by decide) (by decide) ⟨row_no (o := ⟨(enc eLk l), 64, 4⟩) rfl (by exact congrArg (fun l_ => LObj.mk (enc eLk l_) 64 4) (show (delG (fun x : Lk => !decide (x.train = i)) l (i0 + 1 + 0)).1 = l by rw [show i0 + 1 + 0 = i0 + 1 from rfl, hf0])), trivial⟩ (sr_same 6 (.i ((i0 + 1 + 0 : Nat) : Int)) (by exact congrArg (fun n_ : Int => AV.v (.int .i64 n_)) (show idxB (fun x : Lk => !decide (x.train = i)) l + 1 = ((i0 + 1 + 0 : Nat) : Int) by omega)) NoI.out (sr_same 5 (.i (((delG (fun x : Lk => !decide (x.train = i)) l (i0 + 1 + 0)).2 : Nat) : Int)) (by exact congrArg (fun n_ : Int => AV.v (.int .i64 n_)) (show idxB (fun x : Lk => !decide (x.train = i)) l = (((delG (fun x : Lk => !decide (x.train = i)) l (i0 + 1 + 0)).2 : Nat) : Int) by rw [show i0 + 1 + 0 = i0 + 1 from rfl, hf0]; exact hi)) NoI.out (sr_same 4 (.v (.slice none 0 0)) rfl NoI.out (sr_same 1 (.fn 34 [.rp [.i i]]) rfl NoI.out (sr_map 0 (.sl 0 0 l.length) (by first | exact Ok.sl _ _ _ (by first | decide | simp) | exact Ok.pt _ _ (by first | decide | simp)) rfl sr_none)))))) (keep_of rfl)
  obtain ⟨hv1, hv2, hv3, hv4, hv5⟩ := delG_inv (fun x : Lk => !decide (x.train = i)) l (i0 + 1 + k) (by omega)
  have hv6 := delG_lt (fun x : Lk => !decide (x.train = i)) dLk hlt hpre hdel k (by omega)
  refine awp_seq ?_
  refine seqR ?_
  refine mG (.i ((i0 + 1 + k : Nat) : Int)) ?_
  refine mG (.sl 0 0 l.length) ?_
  refine opG rfl (aop_len rfl rfl rfl rfl ut50 (len_sl rfl) ?_)
  refine bG ((.bool (decide (((i0 + 1 + k : Nat) : Int) < (l.length : Int))))) ?_
  refine op0 ?_
  refine rs_ (upd (upd (upd (upd (upd (upd none_ 0 (.sl 0 0 l.length)) 1 (.fn 34 [.rp [.i i]])) 4 (.v (.slice none 0 0))) 5 (.i (((delG (fun x : Lk => !decide (x.train = i)) l (i0 + 1 + k)).2 : Nat) : Int))) 6 (.i ((i0 + 1 + k : Nat) : Int))) 19 (.b (decide (((i0 + 1 + k : Nat) : Int) < (l.length : Int))))) (updO noOb 0 (.live ⟨(enc eLk ((delG (fun x : Lk => !decide (x.train = i)) l (i0 + 1 + k)).1)), 64, 4⟩)) (lu rfl (lu rfl (lu rfl (lu rfl (lu rfl (lu rfl ln)))))) rfl ?_
  refine awp_cond (decide (((i0 + 1 + k : Nat) : Int) < (l.length : Int))) rfl rfl (fun hc1 => ?_) (fun hc1 => ?_)
  ·skip
   have hf3 := of_decide_eq_true hc1
   refine awp_skip ?_
   refine awp_seq ?_
   refine awp_block ?_
   refine seqR ?_
   refine mG (.sl 0 0 l.length) ?_
   refine mG (.i ((i0 + 1 + k : Nat) : Int)) ?_
   refine opG rfl (aop_ixO (k := i0 + 1 + k) rfl rfl rfl ut50 sz64 rfl rfl (by first | omega | (simp; done) | decide | (simp at *; omega)) ?_)
   refine opG rfl (aop_ldOA (f := eLk) dLk rfl rfl rfl ag64 sz64 rfl rfl rfl (fun _ => rfl) (by first | omega | (simp; done) | decide | (simp at *; omega)) rfl ?_)
   refine opG rfl (aop_alloc 51 rfl rfl rfl rfl ze64 rfl ?_)
   refine opG rfl (aop_store rfl rfl rfl sz64 rfl rfl rfl rfl rfl (Nat.le_of_ble_eq_true rfl) rfl rfl ?_)
   refine op0 ?_
   refine rs_ (upd (upd (upd (upd (upd (upd none_ 0 (.sl 0 0 l.length)) 1 (.fn 34 [.rp [.i i]])) 4 (.v (.slice none 0 0))) 5 (.i (((delG (fun x : Lk => !decide (x.train = i)) l (i0 + 1 + k)).2 : Nat) : Int))) 6 (.i ((i0 + 1 + k : Nat) : Int))) 7 (.pt 51 0)) (updO (updO (updO noOb 0 (.live ⟨(enc eLk ((delG (fun x : Lk => !decide (x.train = i)) l (i0 + 1 + k)).1)), 64, 4⟩)) 51 (.live ⟨[.i 0, .i 0, .i 0, .v (.slice none 0 0)], 64, 1⟩)) 51 (.live ⟨[.i ((((delG (fun x : Lk => !decide (x.train = i)) l (i0 + 1 + k)).1).getD (i0 + 1 + k) dLk).route), .i ((((delG (fun x : Lk => !decide (x.train = i)) l (i0 + 1 + k)).1).getD (i0 + 1 + k) dLk).train), .i ((((delG (fun x : Lk => !decide (x.train = i)) l (i0 + 1 + k)).1).getD (i0 + 1 + k) dLk).ends), .ro ((((delG (fun x : Lk => !decide (x.train = i)) l (i0 + 1 + k)).1).getD (i0 + 1 + k) dLk).pieces.length) (enc eU8 ((((delG (fun x : Lk => !decide (x.train = i)) l (i0 + 1 + k)).1).getD (i0 + 1 + k) dLk).pieces))], 64, 1⟩)) (lu rfl (lu rfl (lu rfl (lu rfl (lu rfl (lu rfl ln)))))) rfl ?_
   refine seqR ?_
   refine mG (.fn 34 [.rp [.i i]]) ?_
   refine opG rfl (aop_ldB (cells' := [.i ((((delG (fun x : Lk => !decide (x.train = i)) l (i0 + 1 + k)).1).getD (i0 + 1 + k) dLk).route), .i ((((delG (fun x : Lk => !decide (x.train = i)) l (i0 + 1 + k)).1).getD (i0 + 1 + k) dLk).train), .i ((((delG (fun x : Lk => !decide (x.train = i)) l (i0 + 1 + k)).1).getD (i0 + 1 + k) dLk).ends), .ro ((((delG (fun x : Lk => !decide (x.train = i)) l (i0 + 1 + k)).1).getD (i0 + 1 + k) dLk).pieces.length) (enc eU8 ((((delG (fun x : Lk => !decide (x.train = i)) l (i0 + 1 + k)).1).getD (i0 + 1 + k) dLk).pieces))]) rfl rfl rfl ag64 sz64 rfl rfl rfl rfl ?_)
   refine opG rfl (callW_ (a_Of1 ((((delG (fun x : Lk => !decide (x.train = i)) l (i0 + 1 + k)).1).getD (i0 + 1 + k) dLk).train) i) rfl rfl rfl rfl rfl bd34 (lends_cons (lend_agg (lends_cons (.one _ rfl) (lends_cons (lend_n (av := .i ((((delG (fun x : Lk => !decide (x.train = i)) l (i0 + 1 + k)).1).getD (i0 + 1 + k) dLk).train))) (lends_cons (.one _ rfl) (lends_cons (.one _ rfl) lends_nil))))) (lends_cons (lend_n (av := .rp [.i i])) lends_nil)) ?_)
   refine opG rfl (aop_not rfl rfl rfl rfl ?_)
   refine op0 ?_
   refine rs_ (upd (upd (upd (upd (upd (upd (upd none_ 0 (.sl 0 0 l.length)) 1 (.fn 34 [.rp [.i i]])) 4 (.v (.slice none 0 0))) 5 (.i (((delG (fun x : Lk => !decide (x.train = i)) l (i0 + 1 + k)).2 : Nat) : Int))) 6 (.i ((i0 + 1 + k : Nat) : Int))) 7 (.pt 51 0)) 29 (.b (!(!decide (((((delG (fun x : Lk => !decide (x.train = i)) l (i0 + 1 + k)).1).getD (i0 + 1 + k) dLk).train) = i))))) (updO (updO (updO noOb 0 (.live ⟨(enc eLk ((delG (fun x : Lk => !decide (x.train = i)) l (i0 + 1 + k)).1)), 64, 4⟩)) 51 (.live ⟨[.i 0, .i 0, .i 0, .v (.slice none 0 0)], 64, 1⟩)) 51 (.live ⟨[.i ((((delG (fun x : Lk => !decide (x.train = i)) l (i0 + 1 + k)).1).getD (i0 + 1 + k) dLk).route), .i ((((delG (fun x : Lk => !decide (x.train = i)) l (i0 + 1 + k)).1).getD (i0 + 1 + k) dLk).train), .i ((((delG (fun x : Lk => !decide (x.train = i)) l (i0 + 1 + k)).1).getD (i0 + 1 + k) dLk).ends), .ro ((((delG (fun x : Lk => !decide (x.train = i)) l (i0 + 1 + k)).1).getD (i0 + 1 + k) dLk).pieces.length) (enc eU8 ((((delG (fun x : Lk => !decide (x.train = i)) l (i0 + 1 + k)).1).getD (i0 + 1 + k) dLk).pieces))], 64, 1⟩)) (lu rfl (lu rfl (lu rfl (lu rfl (lu rfl (lu rfl (lu rfl ln))))))) rfl ?_
   refine awp_cond (!(!decide (((((delG (fun x : Lk => !decide (x.train = i)) l (i0 + 1 + k)).1).getD (i0 + 1 + k) dLk).train) = i))) rfl rfl (fun hc2 => ?_) (fun hc2 => ?_)
   ·skip
    have hf4 := not_t hc2
    refine seqR ?_
    refine mG (.sl 0 0 l.length) ?_
    refine mG (.i (((delG (fun x : Lk => !decide (x.train = i)) l (i0 + 1 + k)).2 : Nat) : Int)) ?_
    refine opG rfl (aop_ldB (cells' := [.i ((((delG (fun x : Lk => !decide (x.train = i)) l (i0 + 1 + k)).1).getD (i0 + 1 + k) dLk).route), .i ((((delG (fun x : Lk => !decide (x.train = i)) l (i0 + 1 + k)).1).getD (i0 + 1 + k) dLk).train), .i ((((delG (fun x : Lk => !decide (x.train = i)) l (i0 + 1 + k)).1).getD (i0 + 1 + k) dLk).ends), .ro ((((delG (fun x : Lk => !decide (x.train = i)) l (i0 + 1 + k)).1).getD (i0 + 1 + k) dLk).pieces.length) (enc eU8 ((((delG (fun x : Lk => !decide (x.train = i)) l (i0 + 1 + k)).1).getD (i0 + 1 + k) dLk).pieces))]) rfl rfl rfl ag64 sz64 rfl rfl rfl rfl ?_)
    refine opG rfl (aop_ixO (k := (delG (fun x : Lk => !decide (x.train = i)) l (i0 + 1 + k)).2) rfl rfl rfl ut50 sz64 rfl rfl (by first | omega | (simp; done) | decide | (simp at *; omega)) ?_)
    refine opG rfl (aop_storeE (f := eLk) (l := (delG (fun x : Lk => !decide (x.train = i)) l (i0 + 1 + k)).1) (l' := ((delG (fun x : Lk => !decide (x.train = i)) l (i0 + 1 + k)).1).set ((delG (fun x : Lk => !decide (x.train = i)) l (i0 + 1 + k)).2) (⟨(((delG (fun x : Lk => !decide (x.train = i)) l (i0 + 1 + k)).1).getD (i0 + 1 + k) dLk).route, (((delG (fun x : Lk => !decide (x.train = i)) l (i0 + 1 + k)).1).getD (i0 + 1 + k) dLk).train, (((delG (fun x : Lk => !decide (x.train = i)) l (i0 + 1 + k)).1).getD (i0 + 1 + k) dLk).ends, (((delG (fun x : Lk => !decide (x.train = i)) l (i0 + 1 + k)).1).getD (i0 + 1 + k) dLk).pieces⟩ : Lk)) (⟨(((delG (fun x : Lk => !decide (x.train = i)) l (i0 + 1 + k)).1).getD (i0 + 1 + k) dLk).route, (((delG (fun x : Lk => !decide (x.train = i)) l (i0 + 1 + k)).1).getD (i0 + 1 + k) dLk).train, (((delG (fun x : Lk => !decide (x.train = i)) l (i0 + 1 + k)).1).getD (i0 + 1 + k) dLk).ends, (((delG (fun x : Lk => !decide (x.train = i)) l (i0 + 1 + k)).1).getD (i0 + 1 + k) dLk).pieces⟩ : Lk) rfl rfl rfl sz64 rfl rfl rfl rfl rfl (fun _ => rfl) (by first | omega | (simp; done) | decide | (simp at *; omega)) rfl rfl ?_)
    refine op0 ?_
    refine rs_ (upd (upd (upd (upd (upd (upd none_ 0 (.sl 0 0 l.length)) 1 (.fn 34 [.rp [.i i]])) 4 (.v (.slice none 0 0))) 5 (.i (((delG (fun x : Lk => !decide (x.train = i)) l (i0 + 1 + k)).2 : Nat) : Int))) 6 (.i ((i0 + 1 + k : Nat) : Int))) 7 (.pt 51 0)) (updO (updO (updO (updO noOb 0 (.live ⟨(enc eLk ((delG (fun x : Lk => !decide (x.train = i)) l (i0 + 1 + k)).1)), 64, 4⟩)) 51 (.live ⟨[.i 0, .i 0, .i 0, .v (.slice none 0 0)], 64, 1⟩)) 51 (.live ⟨[.i ((((delG (fun x : Lk => !decide (x.train = i)) l (i0 + 1 + k)).1).getD (i0 + 1 + k) dLk).route), .i ((((delG (fun x : Lk => !decide (x.train = i)) l (i0 + 1 + k)).1).getD (i0 + 1 + k) dLk).train), .i ((((delG (fun x : Lk => !decide (x.train = i)) l (i0 + 1 + k)).1).getD (i0 + 1 + k) dLk).ends), .ro ((((delG (fun x : Lk => !decide (x.train = i)) l (i0 + 1 + k)).1).getD (i0 + 1 + k) dLk).pieces.length) (enc eU8 ((((delG (fun x : Lk => !decide (x.train = i)) l (i0 + 1 + k)).1).getD (i0 + 1 + k) dLk).pieces))], 64, 1⟩)) 0 (.live ⟨(enc eLk (((delG (fun x : Lk => !decide (x.train = i)) l (i0 + 1 + k)).1).set ((delG (fun x : Lk => !decide (x.train = i)) l (i0 + 1 + k)).2) (⟨(((delG (fun x : Lk => !decide (x.train = i)) l (i0 + 1 + k)).1).getD (i0 + 1 + k) dLk).route, (((delG (fun x : Lk => !decide (x.train = i)) l (i0 + 1 + k)).1).getD (i0 + 1 + k) dLk).train, (((delG (fun x : Lk => !decide (x.train = i)) l (i0 + 1 + k)).1).getD (i0 + 1 + k) dLk).ends, (((delG (fun x : Lk => !decide (x.train = i)) l (i0 + 1 + k)).1).getD (i0 + 1 + k) dLk).pieces⟩ : Lk))), 64, 4⟩)) (lu rfl (lu rfl (lu rfl (lu rfl (lu rfl (lu rfl ln)))))) rfl ?_
    refine regR ?_
    refine mG (.i (((delG (fun x : Lk => !decide (x.train = i)) l (i0 + 1 + k)).2 : Nat) : Int)) ?_
    refine opG rfl (aop_binI (u := (.int .i64 (((delG (fun x : Lk => !decide (x.train = i)) l (i0 + 1 + k)).2 + 1 : Nat) : Int))) rfl rfl rfl rfl rfl trivial (addN (by omega)) ?_)
    refine mG (.i (((delG (fun x : Lk => !decide (x.train = i)) l (i0 + 1 + k)).2 + 1 : Nat) : Int)) ?_
    refine op0 ?_
    refine regR ?_
    refine mG (.i ((i0 + 1 + k : Nat) : Int)) ?_
    refine opG rfl (aop_binI (u := (.int .i64 ((i0 + 1 + k + 1 : Nat) : Int))) rfl rfl rfl rfl rfl trivial (addN (by omega)) ?_)
    refine mG (.i ((i0 + 1 + k + 1 : Nat) : Int)) ?_
    refine op0 ?_
    show _ ∧ _
    have hs := delG_keep (fun x : Lk => !decide (x.train = i)) dLk (l := l) (j := i0 + 1 + k) (by omega) ((Bool.not_eq_true' _).mp hc2)
    refine ⟨by omega, trivial, ?_⟩
    exact imp_ler [(0, 0)] (lerL [(0, 0)] [((0, 0), .live ⟨(enc eLk ((delG (fun x : Lk => !decide (x.train = i)) l (i0 + 1 + (k + 1))).1)), 64, 4⟩)] rfl (by decide) (by decide) ⟨row_no (o := ⟨(enc eLk (((delG (fun x : Lk => !decide (x.train = i)) l (i0 + 1 + k)).1).set ((delG (fun x : Lk => !decide (x.train = i)) l (i0 + 1 + k)).2) (⟨(((delG (fun x : Lk => !decide (x.train = i)) l (i0 + 1 + k)).1).getD (i0 + 1 + k) dLk).route, (((delG (fun x : Lk => !decide (x.train = i)) l (i0 + 1 + k)).1).getD (i0 + 1 + k) dLk).train, (((delG (fun x : Lk => !decide (x.train = i)) l (i0 + 1 + k)).1).getD (i0 + 1 + k) dLk).ends, (((delG (fun x : Lk => !decide (x.train = i)) l (i0 + 1 + k)).1).getD (i0 + 1 + k) dLk).pieces⟩ : Lk))), 64, 4⟩) rfl (by exact congrArg (fun l_ => LObj.mk (enc eLk l_) 64 4) (congrArg Prod.fst hs)), trivial⟩ (sr_same 6 (.i ((i0 + 1 + (k + 1) : Nat) : Int)) rfl NoI.out (sr_same 5 (.i (((delG (fun x : Lk => !decide (x.train = i)) l (i0 + 1 + (k + 1))).2 : Nat) : Int)) (by exact congrArg (fun n_ : Int => AV.v (.int .i64 n_)) (congrArg (fun q : List Lk × Nat => ((q.2 : Nat) : Int)) hs.symm)) NoI.out (sr_same 4 (.v (.slice none 0 0)) rfl NoI.out (sr_same 1 (.fn 34 [.rp [.i i]]) rfl NoI.out (sr_map 0 (.sl 0 0 l.length) (by first | exact Ok.sl _ _ _ (by first | decide | simp) | exact Ok.pt _ _ (by first | decide | simp)) rfl sr_none)))))) (keep_of rfl)
   ·skip
    have hf5 := not_f hc2
    refine awp_skip ?_
    refine regR ?_
    refine mG (.i ((i0 + 1 + k : Nat) : Int)) ?_
    refine opG rfl (aop_binI (u := (.int .i64 ((i0 + 1 + k + 1 : Nat) : Int))) rfl rfl rfl rfl rfl trivial (addN (by omega)) ?_)
    refine mG (.i ((i0 + 1 + k + 1 : Nat) : Int)) ?_
    refine op0 ?_
    show _ ∧ _
    have hs := delG_drop (fun x : Lk => !decide (x.train = i)) dLk (l := l) (j := i0 + 1 + k) (by omega) ((Bool.not_eq_false' _).mp hc2)
    refine ⟨by omega, trivial, ?_⟩
    exact imp_ler [(0, 0)] (lerL [(0, 0)] [((0, 0), .live ⟨(enc eLk ((delG (fun x : Lk => !decide (x.train = i)) l (i0 + 1 + (k + 1))).1)), 64, 4⟩)] rfl (by decide) (by decide) ⟨row_no (o := ⟨(enc eLk ((delG (fun x : Lk => !decide (x.train = i)) l (i0 + 1 + k)).1)), 64, 4⟩) rfl (by exact congrArg (fun l_ => LObj.mk (enc eLk l_) 64 4) (congrArg Prod.fst hs)), trivial⟩ (sr_same 6 (.i ((i0 + 1 + (k + 1) : Nat) : Int)) rfl NoI.out (sr_same 5 (.i (((delG (fun x : Lk => !decide (x.train = i)) l (i0 + 1 + (k + 1))).2 : Nat) : Int)) (by exact congrArg (fun n_ : Int => AV.v (.int .i64 n_)) (congrArg (fun q : List Lk × Nat => ((q.2 : Nat) : Int)) hs.symm)) NoI.out (sr_same 4 (.v (.slice none 0 0)) rfl NoI.out (sr_same 1 (.fn 34 [.rp [.i i]]) rfl NoI.out (sr_map 0 (.sl 0 0 l.length) (by first | exact Ok.sl _ _ _ (by first | decide | simp) | exact Ok.pt _ _ (by first | decide | simp)) rfl sr_none)))))) (keep_of rfl)
  ·skip
   have hf6 := of_decide_eq_false hc1
   refine awp_exit ?_
   refine seqR ?_
   refine mG (.sl 0 0 l.length) ?_
   refine mG (.i (((delG (fun x : Lk => !decide (x.train = i)) l (i0 + 1 + k)).2 : Nat) : Int)) ?_
   refine opG rfl (aop_sliceFrom (l := (delG (fun x : Lk => !decide (x.train = i)) l (i0 + 1 + k)).2) (ob := ⟨(enc eLk ((delG (fun x : Lk => !decide (x.train = i)) l (i0 + 1 + k)).1)), 64, 4⟩) rfl rfl rfl ut50 sz64 rfl rfl rfl ⟨_, rfl⟩ (by first | omega | (simp; done) | decide | (simp at *; omega)) ?_)
   refine opG rfl (aop_clearW (n := l.length - ((delG (fun x : Lk => !decide (x.train = i)) l (i0 + 1 + k)).2)) (ob := ⟨(enc eLk ((delG (fun x : Lk => !decide (x.train = i)) l (i0 + 1 + k)).1)), 64, 4⟩) (zs := enc eLk (List.replicate (l.length - (delG (fun x : Lk => !decide (x.train = i)) l (i0 + 1 + k)).2) dLk)) rfl rfl rfl rfl ut50 (run_zero_ ze64) rfl rfl rfl (by first | omega | (simp; done) | decide | (simp at *; omega)) (clear_fit (fun _ => rfl) (by omega)) (by rw [enc_length (f := eLk) (s := 4) (fun _ => rfl), List.length_replicate]; rfl) (zeds_rep rfl zed_Lk) (clear_rowW (e := eLk) (v := dLk) (s := 4) (i := (delG (fun x : Lk => !decide (x.train = i)) l (i0 + 1 + k)).2) (n := l.length - (delG (fun x : Lk => !decide (x.train = i)) l (i0 + 1 + k)).2) (fun _ => rfl) (by omega)) ?_)
   refine op0 ?_
   refine rs_ (upd (upd (upd none_ 0 (.sl 0 0 l.length)) 4 (.v (.slice none 0 0))) 5 (.i (((delG (fun x : Lk => !decide (x.train = i)) l (i0 + 1 + k)).2 : Nat) : Int))) (updO (updO noOb 0 (.live ⟨(enc eLk ((delG (fun x : Lk => !decide (x.train = i)) l (i0 + 1 + k)).1)), 64, 4⟩)) 0 (.live ⟨(enc eLk ((delG (fun x : Lk => !decide (x.train = i)) l (i0 + 1 + k)).1.take (delG (fun x : Lk => !decide (x.train = i)) l (i0 + 1 + k)).2 ++ List.replicate (l.length - (delG (fun x : Lk => !decide (x.train = i)) l (i0 + 1 + k)).2) dLk)), 64, 4⟩)) (lu rfl (lu rfl (lu rfl ln))) rfl ?_
   refine seqR ?_
   refine mG (.sl 0 0 l.length) ?_
   refine mG (.i (((delG (fun x : Lk => !decide (x.train = i)) l (i0 + 1 + k)).2 : Nat) : Int)) ?_
   refine opG rfl (aop_sliceOwn (hgh := (delG (fun x : Lk => !decide (x.train = i)) l (i0 + 1 + k)).2) rfl rfl rfl ut50 sz64 rfl ⟨_, rfl⟩ (by first | omega | (simp; done) | decide | (simp at *; omega)) ?_)
   refine mG (.sl 0 0 ((delG (fun x : Lk => !decide (x.train = i)) l (i0 + 1 + k)).2)) ?_
   refine op0 ?_
   refine rs_ (upd none_ 4 (.sl 0 0 ((delG (fun x : Lk => !decide (x.train = i)) l (i0 + 1 + k)).2))) (updO (updO noOb 0 (.live ⟨(enc eLk ((delG (fun x : Lk => !decide (x.train = i)) l (i0 + 1 + k)).1)), 64, 4⟩)) 0 (.live ⟨(enc eLk ((delG (fun x : Lk => !decide (x.train = i)) l (i0 + 1 + k)).1.take (delG (fun x : Lk => !decide (x.train = i)) l (i0 + 1 + k)).2 ++ List.replicate (l.length - (delG (fun x : Lk => !decide (x.train = i)) l (i0 + 1 + k)).2) dLk)), 64, 4⟩)) (lu rfl ln) rfl ?_
   have hjk : i0 + 1 + k = l.length := by omega
   rw [hjk, List.take_of_length_le (Nat.le_refl _)] at hv4 hv5
   refine awp_imp ⟨(upd none_ 4 (.sl 0 0 ((restG (fun x : Lk => !decide (x.train = i)) l).length))), (updO noOb 0 (.live ⟨(enc eLk (restG (fun x : Lk => !decide (x.train = i)) l ++ List.replicate (l.length - (restG (fun x : Lk => !decide (x.train = i)) l).length) dLk)), 64, 4⟩))⟩ ?_ ?_
   ·skip
    exact imp_ler [(0, 0)] (lerL [(0, 0)] [((0, 0), .live ⟨(enc eLk (restG (fun x : Lk => !decide (x.train = i)) l ++ List.replicate (l.length - (restG (fun x : Lk => !decide (x.train = i)) l).length) dLk)), 64, 4⟩)] rfl (by decide) (by decide) ⟨row_no (o := ⟨(enc eLk ((delG (fun x : Lk => !decide (x.train = i)) l (i0 + 1 + k)).1.take (delG (fun x : Lk => !decide (x.train = i)) l (i0 + 1 + k)).2 ++ List.replicate (l.length - (delG (fun x : Lk => !decide (x.train = i)) l (i0 + 1 + k)).2) dLk)), 64, 4⟩) rfl (by exact congrArg (fun l_ => LObj.mk (enc eLk l_) 64 4) (by rw [hjk, hv4, hv5])), trivial⟩ (sr_map 4 (.sl 0 0 ((restG (fun x : Lk => !decide (x.train = i)) l).length)) (by first | exact Ok.sl _ _ _ (by first | decide | simp) | exact Ok.pt _ _ (by first | decide | simp)) (by exact congrArg (AV.sl 0 0) (by rw [hjk, hv5])) sr_none)) (keep_of rfl)
   refine awp_ret ?_
   exact fretG rfl rfl rfl rfl
theorem a_New (secs : List Sec) (parts : List (List Int)) (pts : List Pnt)  : Fn Try.prog 31 [.agg [.one, .ro secs.length (enc eSec secs), .ro parts.length (enc eIL parts), .ro pts.length (enc ePnt pts), .one, .one, .one, .one, .one, .one]] (.rp [.one, .ro secs.length (enc eSec secs), .ro parts.length (enc eIL parts), .ro pts.length (enc ePnt pts), .one, .one, .one, .one, .one, .one]) := by
 refine fnE_of_body (N := 6) Try.func31 rfl rfl (resOf1 rfl) (by simp) (fun w0 X hL_ => ?_)
 refine seqR ?_
 refine opG rfl (aop_box 51 rfl rfl rfl rfl rfl rfl rfl ?_)
 refine mG (.v (.pointer none)) ?_
 refine op0 ?_
 refine seqR ?_
 refine opG rfl (aop_ldB (cells' := [.one, .q eSec secs, .q eIL parts, .q ePnt pts, .one, .one, .one, .one, .one, .one]) rfl rfl rfl ag39 sz39 rfl rfl rfl rfl ?_)
 refine opG rfl (aop_build rfl rfl rfl pl121 rfl ?_)
 refine opG rfl (aop_box 52 rfl rfl rfl rfl rfl rfl rfl ?_)
 refine mG (.pt 52 0) ?_
 refine op0 ?_
 refine rs_ (upd none_ 2 (.pt 52 0)) (updO (updO noOb 51 (.live ⟨[.one, .q eSec secs, .q eIL parts, .q ePnt pts, .one, .one, .one, .one, .one, .one], 39, 1⟩)) 52 (.live ⟨[.one, .q eSec secs, .q eIL parts, .q ePnt pts, .one, .one, .one, .one, .one, .one], 121, 1⟩)) (lu rfl ln) rfl ?_
 refine awp_imp _ (imp_frozen rfl (fun _ h => h) (lee_lend 2 (.rp [.one, .q eSec secs, .q eIL parts, .q ePnt pts, .one, .one, .one, .one, .one, .one]) (lend_pt rfl (lends_cons (lend_n (av := .one)) (lends_cons (lend_n (av := .q eSec secs)) (lends_cons (lend_n (av := .q eIL parts)) (lends_cons (lend_n (av := .q ePnt pts)) (lends_cons (lend_n (av := .one)) (lends_cons (lend_n (av := .one)) (lends_cons (lend_n (av := .one)) (lends_cons (lend_n (av := .one)) (lends_cons (lend_n (av := .one)) (lends_cons (lend_n (av := .one)) lends_nil))))))))))) lee_lend0)) ?_
 refine awp_ret ?_
 exact fret (av := .rp [.one, .ro secs.length (enc eSec secs), .ro parts.length (enc eIL parts), .ro pts.length (enc ePnt pts), .one, .one, .one, .one, .one, .one]) rfl rfl rfl
theorem a_Of (views : List View) (tid : Int) (secs : List Sec) (parts : List (List Int)) (pts : List Pnt) (routes : List (List Int)) (sts ow : List Int) (right : List Bool) (locks : List Lk) (hf : FldOk (fldOf (findV views tid) secs parts pts routes sts ow right)) (hlk : ∀ x, x ∈ locks → LkOk (fldOf (findV views tid) secs parts pts routes sts ow right) x) (hll : locks.length ≤ 65536) (hv : views.length ≤ 65536) : Fn Try.prog 17 [.agg [.one, .ro secs.length (enc eSec secs), .ro parts.length (enc eIL parts), .ro pts.length (enc ePnt pts), .ro routes.length (enc eIL routes), .one, .one, .one, .one, .one], .ro locks.length (enc eLk locks), .ro sts.length (enc eU8 sts), .ro ow.length (enc eI ow), .ro views.length (enc eV views), .ro right.length (enc eB right), .v (.int .i64 tid)] (.ro ((auT views tid (fldOf (findV views tid) secs parts pts routes sts ow right) locks).length) (enc eI (auT views tid (fldOf (findV views tid) secs parts pts routes sts ow right) locks))) := by
 refine fnE_of_body (N := 85) Try.func17 rfl rfl (resOf1 rfl) (by simp) (fun w0 X hL_ => ?_)
 refine seqR ?_
 refine opG rfl (aop_box 51 rfl rfl rfl rfl rfl rfl rfl ?_)
 refine opG rfl (aop_box 52 rfl rfl rfl rfl rfl rfl rfl ?_)
 refine mG (.v (.slice none 0 0)) ?_
 refine op0 ?_
 refine seqR ?_
 refine mG (.q eV views) ?_
 refine opG rfl (aop_ld (av := .i tid) rfl rfl rfl ag3 rfl rfl ?_)
 refine opG rfl (call_ (o_Find views tid (by omega)) rfl rfl rfl rfl rfl bd30 rfl ?_)
 refine mG (.tup [.agg [.i ((findV views tid).id), .b ((findV views tid).sure), .ro ((findV views tid).span.length) (enc eI ((findV views tid).span))], .b (!decide (findI views tid < 0))]) ?_
 refine opG rfl (aop_extract rfl rfl rfl rfl rfl ?_)
 refine opG rfl (aop_extract rfl rfl rfl rfl rfl ?_)
 refine opG rfl (aop_alloc 53 rfl rfl rfl rfl ze63 rfl ?_)
 refine opG rfl (aop_store rfl rfl rfl sz63 rfl rfl rfl rfl rfl (Nat.le_of_ble_eq_true rfl) rfl rfl ?_)
 refine mG (.b (!decide (findI views tid < 0))) ?_
 refine op0 ?_
 refine rs_ (upd (upd (upd (upd (upd (upd (upd (upd (upd none_ 1 (.q eLk locks)) 2 (.q eU8 sts)) 3 (.q eI ow)) 5 (.q eB right)) 7 (.pt 51 0)) 13 (.pt 52 0)) 14 (.v (.slice none 0 0))) 15 (.pt 53 0)) 16 (.b (!decide (findI views tid < 0)))) (updO (updO (updO (updO noOb 51 (.live ⟨[.one, .q eSec secs, .q eIL parts, .q ePnt pts, .q eIL routes, .one, .one, .one, .one, .one], 39, 1⟩)) 52 (.live ⟨[.i tid], 3, 1⟩)) 53 (.live ⟨[.i 0, .b false, .v (.slice none 0 0)], 63, 1⟩)) 53 (.live ⟨[.i ((findV views tid).id), .b ((findV views tid).sure), .ro ((findV views tid).span.length) (enc eI ((findV views tid).span))], 63, 1⟩)) (lu rfl (lu rfl (lu rfl (lu rfl (lu rfl (lu rfl (lu rfl (lu rfl (lu rfl ln))))))))) rfl ?_
 refine awp_seq ?_
 refine seqR ?_
 refine mG (.b (!decide (findI views tid < 0))) ?_
 refine opG rfl (aop_not rfl rfl rfl rfl ?_)
 refine mG (.b (!(!decide (findI views tid < 0)))) ?_
 refine aops_grp 4 37 (.b ((!(!decide (findI views tid < 0))) || (!((findV views tid).sure)))) ?_ ?_
 ·refine (Bool.eq_false_or_eq_true (!(!decide (findI views tid < 0)))).elim (fun hg1 => ?_) (fun hg1 => ?_)
  ·skip
   have hf2 := not_t hg1
   refine nG hg1 ?_
   refine nG hg1 ?_
   refine nG hg1 ?_
   refine opG rfl (aop_pick (b := (!(!decide (findI views tid < 0)))) (av := .b true) rfl rfl rfl rfl ((congrArg (fun b_ => cond b_ _ _) hg1).trans rfl) ?_)
   refine op0 ?_
   exact imp_env (lee_both 37 _ _ (by rw [hg1] <;> rfl) (lee_out 36 _ rfl (lee_out 35 _ rfl (lee_out 34 _ rfl (lee_same _)))))
  ·skip
   have hf3 := not_f hg1
   refine opY rfl rfl rfl (by show AV.v (.bool (!(!decide (findI views tid < 0)))) = _; rw [hg1]) (aop_fieldAddr (av := .pt 53 0) (av' := .pt 53 1) rfl rfl rfl ft63_1 sz4 rfl rfl rfl ?_)
   refine opY rfl rfl rfl (by show AV.v (.bool (!(!decide (findI views tid < 0)))) = _; rw [hg1]) (aop_ld (av := .b ((findV views tid).sure)) rfl rfl rfl ag4 rfl rfl ?_)
   refine opY rfl rfl rfl (by show AV.v (.bool (!(!decide (findI views tid < 0)))) = _; rw [hg1]) (aop_not rfl rfl rfl rfl ?_)
   refine opG rfl (aop_pick (b := (!(!decide (findI views tid < 0)))) (av := .b (!((findV views tid).sure))) rfl rfl rfl rfl ((congrArg (fun b_ => cond b_ _ _) hg1).trans rfl) ?_)
   refine op0 ?_
   exact imp_env (lee_both 37 _ _ (by rw [hg1] <;> rfl) (lee_out 36 _ rfl (lee_out 35 _ rfl (lee_out 34 _ rfl (lee_same _)))))
 refine op0 ?_
 refine awp_cond ((!(!decide (findI views tid < 0))) || (!((findV views tid).sure))) rfl rfl (fun hc0 => ?_) (fun hc0 => ?_)
 ·skip
  have hT : (auT views tid (fldOf (findV views tid) secs parts pts routes sts ow right) locks) = [] := auT_no (by simpa using hc0)
  refine seqR ?_
  refine mG (.v (.slice none 0 0)) ?_
  refine op0 ?_
  refine rs_ (upd (upd (upd (upd (upd (upd (upd (upd none_ 1 (.q eLk locks)) 2 (.q eU8 sts)) 3 (.q eI ow)) 5 (.q eB right)) 7 (.pt 51 0)) 13 (.pt 52 0)) 14 (.v (.slice none 0 0))) 15 (.pt 53 0)) (updO (updO (updO (updO noOb 51 (.live ⟨[.one, .q eSec secs, .q eIL parts, .q ePnt pts, .q eIL routes, .one, .one, .one, .one, .one], 39, 1⟩)) 52 (.live ⟨[.i tid], 3, 1⟩)) 53 (.live ⟨[.i 0, .b false, .v (.slice none 0 0)], 63, 1⟩)) 53 (.live ⟨[.i ((findV views tid).id), .b ((findV views tid).sure), .ro ((findV views tid).span.length) (enc eI ((findV views tid).span))], 63, 1⟩)) (lu rfl (lu rfl (lu rfl (lu rfl (lu rfl (lu rfl (lu rfl (lu rfl ln)))))))) rfl ?_
  refine awp_imp _ (imp_frozen rfl (fun _ h => h) (lee_lend 14 (.ro 0 []) .nil lee_lend0)) ?_
  refine awp_ret ?_
  exact fret (av := .ro 0 []) rfl rfl (by rw [hT]; rfl)
 ·skip
  obtain ⟨hf4a, hf4b⟩ := or_f hc0
  have hf5 := not_f hf4a
  have hf6 := not_f hf4b
  obtain ⟨hv1, hv2⟩ : ¬ findI views tid < 0 ∧ (findV views tid).sure = true := by simpa using hc0
  have hT : (auT views tid (fldOf (findV views tid) secs parts pts routes sts ow right) locks) = _ := auT_yes hv1 hv2
  refine awp_skip ?_
  refine awp_seq ?_
  refine awp_drawZ (m := 9) (fun b => (updO (updO (updO (updO (updO noOb 51 (.live ⟨[.one, .q eSec secs, .q eIL parts, .q ePnt pts, .q eIL routes, .one, .one, .one, .one, .one], 39, 1⟩)) 52 (.live ⟨[.i tid], 3, 1⟩)) 53 (.live ⟨[.i 0, .b false, .v (.slice none 0 0)], 63, 1⟩)) 53 (.live ⟨[.i ((findV views tid).id), .b ((findV views tid).sure), .ro ((findV views tid).span.length) (enc eI ((findV views tid).span))], 63, 1⟩)) 54 (cond (b 8) (.live ⟨[.i 0, .b false, .v (.slice none 0 0), .v (.slice none 0 0), .v (.slice none 0 0), .v (.slice none 0 0), .v (.slice none 0 0), .v (.slice none 0 0), .i 0, .i 0, .i 0, .i 0, .i 0, .v (.pointer none), .v (.slice none 0 0), .v (.slice none 0 0), .v (.slice none 0 0)], 81, 1⟩) .free))) (updO (updO (updO (updO (updO noOb 51 (.live ⟨[.one, .q eSec secs, .q eIL parts, .q ePnt pts, .q eIL routes, .one, .one, .one, .one, .one], 39, 1⟩)) 52 (.live ⟨[.i tid], 3, 1⟩)) 53 (.live ⟨[.i 0, .b false, .v (.slice none 0 0)], 63, 1⟩)) 53 (.live ⟨[.i ((findV views tid).id), .b ((findV views tid).sure), .ro ((findV views tid).span.length) (enc eI ((findV views tid).span))], 63, 1⟩)) 54 (.live ⟨[.i 0, .b false, .v (.slice none 0 0), .v (.slice none 0 0), .v (.slice none 0 0), .v (.slice none 0 0), .v (.slice none 0 0), .v (.slice none 0 0), .i 0, .i 0, .i 0, .i 0, .i 0, .v (.pointer none), .v (.slice none 0 0), .v (.slice none 0 0), .v (.slice none 0 0)], 81, 1⟩)) [8] (funext fun id_ => by by_cases e0_ : id_ = 54 <;> first | (subst e0_; rfl) | simp only [addO, updO, nbeq_ne e0_, cond_false]) (fun b b' h => by simp only [h 8 (by decide)]) (fun b h => by simp only [h 8 (by decide), cond_true]) [(17, .pt 54 0), (45, .agg [.i ((findV views tid).id), .b ((findV views tid).sure), .ro ((findV views tid).span.length) (enc eI ((findV views tid).span)), .one, .q eSec secs, .q eIL parts, .q ePnt pts, .q eIL routes, .one, .one, .one, .one, .one, .rp [.one, .q eSec secs, .q eIL parts, .q ePnt pts, .one, .one, .one, .one, .one, .one], .q eU8 sts, .q eI ow, .q eB right]), (44, .q eB right), (43, .q eI ow), (42, .q eU8 sts), (41, .rp [.one, .q eSec secs, .q eIL parts, .q ePnt pts, .one, .one, .one, .one, .one, .one]), (40, .agg [.one, .q eSec secs, .q eIL parts, .q ePnt pts, .q eIL routes, .one, .one, .one, .one, .one]), (39, .agg [.one, .q eSec secs, .q eIL parts, .q ePnt pts, .q eIL routes, .one, .one, .one, .one, .one]), (38, .agg [.i ((findV views tid).id), .b ((findV views tid).sure), .ro ((findV views tid).span.length) (enc eI ((findV views tid).span))])] mixed (by kernel_rfl) ?_ ?_
  ·refine ⟨?_, ?_, ?_, ?_, ?_, ?_, ?_, ?_, ?_, trivial⟩
   ·exact sy_pure (by decide) (fun b => ⟨38, rfl, blt_lt rfl, fun st hob hE => aop_ldB (cells' := [.i ((findV views tid).id), .b ((findV views tid).sure), .ro ((findV views tid).span.length) (enc eI ((findV views tid).span))]) rfl rfl rfl ag63 sz63 (hE 15 rfl) (by rw [hob]; rfl) rfl rfl (by rw [hob]; rfl)⟩)
   ·exact sy_pure (by decide) (fun b => ⟨39, rfl, blt_lt rfl, fun st hob hE => aop_ldB (cells' := [.one, .q eSec secs, .q eIL parts, .q ePnt pts, .q eIL routes, .one, .one, .one, .one, .one]) rfl rfl rfl ag39 sz39 (hE 7 rfl) (by rw [hob]; rfl) rfl rfl (by rw [hob]; rfl)⟩)
   ·exact sy_pure (by decide) (fun b => ⟨40, rfl, blt_lt rfl, fun st hob hE => aop_ldB (cells' := [.one, .q eSec secs, .q eIL parts, .q ePnt pts, .q eIL routes, .one, .one, .one, .one, .one]) rfl rfl rfl ag39 sz39 (hE 7 rfl) (by rw [hob]; rfl) rfl rfl (by rw [hob]; rfl)⟩)
   ·exact sy_pure (by decide) (fun b => ⟨41, rfl, blt_lt rfl, fun st hob hE => callW_ (a_New secs parts pts) rfl rfl rfl rfl rfl bd31 (by show Lends _ ([st.env 40] ++ _) _; rw [hE 40 rfl]; exact (lends_cons (lend_agg (lends_cons (lend_n (av := .one)) (lends_cons (lend_n (av := .q eSec secs)) (lends_cons (lend_n (av := .q eIL parts)) (lends_cons (lend_n (av := .q ePnt pts)) (lends_cons (.one _ rfl) (lends_cons (lend_n (av := .one)) (lends_cons (lend_n (av := .one)) (lends_cons (lend_n (av := .one)) (lends_cons (lend_n (av := .one)) (lends_cons (lend_n (av := .one)) lends_nil))))))))))) lends_nil)) (by rw [hob]; rfl)⟩)
   ·exact sy_pure (by decide) (fun b => ⟨42, rfl, blt_lt rfl, fun st hob hE => aop_move (av := .q eU8 sts) (.inl rfl) rfl rfl (hE 2 rfl) (by rw [hob]; rfl)⟩)
   ·exact sy_pure (by decide) (fun b => ⟨43, rfl, blt_lt rfl, fun st hob hE => aop_move (av := .q eI ow) (.inl rfl) rfl rfl (hE 3 rfl) (by rw [hob]; rfl)⟩)
   ·exact sy_pure (by decide) (fun b => ⟨44, rfl, blt_lt rfl, fun st hob hE => aop_move (av := .q eB right) (.inl rfl) rfl rfl (hE 5 rfl) (by rw [hob]; rfl)⟩)
   ·exact sy_pure (by decide) (fun b => ⟨45, rfl, blt_lt rfl, fun st hob hE => aop_build rfl rfl rfl pl81 (by simp only [partsA, List.map, evA, hE 38 rfl, hE 39 rfl, hE 41 rfl, hE 42 rfl, hE 43 rfl, hE 44 rfl]; rfl) (by rw [hob]; rfl)⟩)
   ·exact sy_fx (by decide) ⟨rfl, (fun d_ h_ => by cases h_ <;> exact blt_lt rfl), fun b hb_ hdep_ hcl_ st hob hE => by obtain ⟨en_, ob_⟩ := st; have hob_ : ob_ = (updO (updO (updO (updO (updO noOb 51 (.live ⟨[.one, .q eSec secs, .q eIL parts, .q ePnt pts, .q eIL routes, .one, .one, .one, .one, .one], 39, 1⟩)) 52 (.live ⟨[.i tid], 3, 1⟩)) 53 (.live ⟨[.i 0, .b false, .v (.slice none 0 0)], 63, 1⟩)) 53 (.live ⟨[.i ((findV views tid).id), .b ((findV views tid).sure), .ro ((findV views tid).span.length) (enc eI ((findV views tid).span))], 63, 1⟩)) 54 .free) := Eq.trans hob (by simp only [hb_, cond_false, cond_true]); subst hob_; exact aop_alloc 54 rfl rfl rfl rfl ze81 rfl ⟨rfl, fun id_ => by by_cases e0_ : id_ = 54 <;> first | (subst e0_; rfl) | simp only [addO, updO, nbeq_ne e0_, cond_false]⟩⟩
  refine opG rfl (aop_store rfl rfl rfl sz81 rfl rfl rfl rfl rfl (Nat.le_of_ble_eq_true rfl) rfl rfl ?_)
  refine op0 ?_
  refine rs_ (upd (upd (upd (upd (upd none_ 1 (.q eLk locks)) 7 (.pt 51 0)) 13 (.pt 52 0)) 14 (.v (.slice none 0 0))) 17 (.pt 54 0)) (updO (updO (updO (updO (updO (updO noOb 51 (.live ⟨[.one, .q eSec secs, .q eIL parts, .q ePnt pts, .q eIL routes, .one, .one, .one, .one, .one], 39, 1⟩)) 52 (.live ⟨[.i tid], 3, 1⟩)) 53 (.live ⟨[.i 0, .b false, .v (.slice none 0 0)], 63, 1⟩)) 53 (.live ⟨[.i ((findV views tid).id), .b ((findV views tid).sure), .ro ((findV views tid).span.length) (enc eI ((findV views tid).span))], 63, 1⟩)) 54 (.live ⟨[.i 0, .b false, .v (.slice none 0 0), .v (.slice none 0 0), .v (.slice none 0 0), .v (.slice none 0 0), .v (.slice none 0 0), .v (.slice none 0 0), .i 0, .i 0, .i 0, .i 0, .i 0, .v (.pointer none), .v (.slice none 0 0), .v (.slice none 0 0), .v (.slice none 0 0)], 81, 1⟩)) 54 (.live ⟨[.i ((findV views tid).id), .b ((findV views tid).sure), .ro ((findV views tid).span.length) (enc eI ((findV views tid).span)), .one, .q eSec secs, .q eIL parts, .q ePnt pts, .q eIL routes, .one, .one, .one, .one, .one, .rp [.one, .q eSec secs, .q eIL parts, .q ePnt pts, .one, .one, .one, .one, .one, .one], .q eU8 sts, .q eI ow, .q eB right], 81, 1⟩)) (lu rfl (lu rfl (lu rfl (lu rfl (lu rfl ln))))) rfl ?_
  refine awp_imp ⟨(upd (upd (upd (upd (upd none_ 1 (.q eLk locks)) 7 (.pt 51 0)) 13 (.rp [.i tid])) 14 (.v (.slice none 0 0))) 17 (.pt 54 0)), (updO (updO noOb 51 (.live ⟨[.one, .q eSec secs, .q eIL parts, .q ePnt pts, .q eIL routes, .one, .one, .one, .one, .one], 39, 1⟩)) 54 (.live ⟨[.i ((findV views tid).id), .b ((findV views tid).sure), .ro ((findV views tid).span.length) (enc eI ((findV views tid).span)), .one, .q eSec secs, .q eIL parts, .q ePnt pts, .q eIL routes, .one, .one, .one, .one, .one, .rp [.one, .q eSec secs, .q eIL parts, .q ePnt pts, .one, .one, .one, .one, .one, .one], .q eU8 sts, .q eI ow, .q eB right], 81, 1⟩))⟩ ?_ ?_
  ·skip
   refine (frz_ [51, 54] [(51, ⟨[.one, .q eSec secs, .q eIL parts, .q ePnt pts, .q eIL routes, .one, .one, .one, .one, .one], 39, 1⟩), (54, ⟨[.i ((findV views tid).id), .b ((findV views tid).sure), .ro ((findV views tid).span.length) (enc eI ((findV views tid).span)), .one, .q eSec secs, .q eIL parts, .q ePnt pts, .q eIL routes, .one, .one, .one, .one, .one, .rp [.one, .q eSec secs, .q eIL parts, .q ePnt pts, .one, .one, .one, .one, .one, .one], .q eU8 sts, .q eI ow, .q eB right], 81, 1⟩)] rfl (fun _ h => h) ⟨keep_cells (cs := [.one, .q eSec secs, .q eIL parts, .q ePnt pts, .q eIL routes, .one, .one, .one, .one, .one]) (by simp) rfl rfl (frzs_cons (.inl rfl) (frzs_cons (.inl rfl) (frzs_cons (.inl rfl) (frzs_cons (.inl rfl) (frzs_cons (.inl rfl) (frzs_cons (.inl rfl) (frzs_cons (.inl rfl) (frzs_cons (.inl rfl) (frzs_cons (.inl rfl) (frzs_cons (.inl rfl) frzs_nil)))))))))), keep_cells (cs := [.i ((findV views tid).id), .b ((findV views tid).sure), .ro ((findV views tid).span.length) (enc eI ((findV views tid).span)), .one, .q eSec secs, .q eIL parts, .q ePnt pts, .q eIL routes, .one, .one, .one, .one, .one, .rp [.one, .q eSec secs, .q eIL parts, .q ePnt pts, .one, .one, .one, .one, .one, .one], .q eU8 sts, .q eI ow, .q eB right]) (by simp) rfl rfl (frzs_cons (.inl rfl) (frzs_cons (.inl rfl) (frzs_cons (.inl rfl) (frzs_cons (.inl rfl) (frzs_cons (.inl rfl) (frzs_cons (.inl rfl) (frzs_cons (.inl rfl) (frzs_cons (.inl rfl) (frzs_cons (.inl rfl) (frzs_cons (.inl rfl) (frzs_cons (.inl rfl) (frzs_cons (.inl rfl) (frzs_cons (.inl rfl) (frzs_cons (.inl rfl) (frzs_cons (.inl rfl) (frzs_cons (.inl rfl) (frzs_cons (.inl rfl) frzs_nil))))))))))))))))), trivial⟩ (fz_same 17 (.pt 54 0) rfl (fz_same 14 (.v (.slice none 0 0)) rfl (fz_lend 13 (.rp [.i tid]) (lend_pt rfl (lends_cons (lend_n (av := .i tid)) lends_nil)) (fz_same 7 (.pt 51 0) rfl (fz_same 1 (.q eLk locks) rfl fz_none)))))).trans ?_
   exact imp_ler [(51, 51), (54, 54)] (lerJ 51 51 54 54 (o := ⟨[.one, .q eSec secs, .q eIL parts, .q ePnt pts, .q eIL routes, .one, .one, .one, .one, .one], 39, 1⟩) (o2 := ⟨[.i ((findV views tid).id), .b ((findV views tid).sure), .ro ((findV views tid).span.length) (enc eI ((findV views tid).span)), .one, .q eSec secs, .q eIL parts, .q ePnt pts, .q eIL routes, .one, .one, .one, .one, .one, .rp [.one, .q eSec secs, .q eIL parts, .q ePnt pts, .one, .one, .one, .one, .one, .one], .q eU8 sts, .q eI ow, .q eB right], 81, 1⟩) (by decide) (by decide) rfl rfl rfl rfl (sM rfl (sS rfl (sS rfl (sM rfl (sS rfl sr_none)))))) (keep_of rfl)
  refine seqR ?_
  refine mG (.q eLk locks) ?_
  refine opG rfl (callN_ 55 (cl_Lk locks (by omega)) rfl rfl rfl rfl rfl bd33 (fun _ => (lends_cons (lend_n (av := .q eLk locks)) lends_nil)) newsN1 (free1 rfl) rfl rfl ?_)
  refine opG rfl (aop_makeFunc (caps := [.tmp 13]) rfl rfl rfl rfl ?_)
  refine opG rfl (callG_ false [55] [] (delLk locks tid (by omega)) rfl rfl rfl rfl rfl bd32 (by decide) ⟨giv_no (o := ⟨(enc eLk locks), 64, 4⟩) rfl rfl, trivial⟩ ⟨(arg_own (.sl _ _ _ (by simp)) rfl), (arg_no (a := .fn 34 [.rp [.i tid]])), trivial⟩ rfl trivial (fun h => by cases h) rfl (place_cons (ost_no (cs := (enc eLk (restG (fun x : Lk => !decide (x.train = tid)) locks ++ List.replicate (locks.length - (restG (fun x : Lk => !decide (x.train = tid)) locks).length) dLk)))) place_nil) ?_)
  refine mG (.sl 55 0 ((restG (fun x : Lk => !decide (x.train = tid)) locks).length)) ?_
  refine op0 ?_
  refine rs_ (upd (upd (upd (upd none_ 7 (.pt 51 0)) 14 (.v (.slice none 0 0))) 17 (.pt 54 0)) 18 (.sl 55 0 ((restG (fun x : Lk => !decide (x.train = tid)) locks).length))) (updO (updO (updO (updO noOb 51 (.live ⟨[.one, .q eSec secs, .q eIL parts, .q ePnt pts, .q eIL routes, .one, .one, .one, .one, .one], 39, 1⟩)) 54 (.live ⟨[.i ((findV views tid).id), .b ((findV views tid).sure), .ro ((findV views tid).span.length) (enc eI ((findV views tid).span)), .one, .q eSec secs, .q eIL parts, .q ePnt pts, .q eIL routes, .one, .one, .one, .one, .one, .rp [.one, .q eSec secs, .q eIL parts, .q ePnt pts, .one, .one, .one, .one, .one, .one], .q eU8 sts, .q eI ow, .q eB right], 81, 1⟩)) 55 (.live ⟨(enc eLk locks), 64, 4⟩)) 55 (.live ⟨(enc eLk (restG (fun x : Lk => !decide (x.train = tid)) locks ++ List.replicate (locks.length - (restG (fun x : Lk => !decide (x.train = tid)) locks).length) dLk)), 64, 4⟩)) (lu rfl (lu rfl (lu rfl (lu rfl ln)))) rfl ?_
  obtain ⟨MN, hMN⟩ : ∃ m_, m_ = mineL locks tid := ⟨_, rfl⟩
  have hml : MN.length ≤ 65536 := by rw [hMN]; exact Nat.le_trans (mine_len locks tid) hll
  have hmk : ∀ x, x ∈ MN → LkOk (fldOf (findV views tid) secs parts pts routes sts ow right) x := fun x h_ => hlk x (mine_mem (by rw [← hMN]; exact h_))
  have hmp : ∀ x, x ∈ MN → x.pieces.length ≤ 65536 := fun x h_ => by have h1_ : x.pieces.length + 1 ≤ (routes.getD x.route.toNat []).length := (hmk x h_).ps; have h3_ : 0 ≤ x.route ∧ x.route < (routes.length : Int) := (hmk x h_).r; have h2_ : (routes.getD x.route.toNat []).length ≤ 65536 := (hf.hrl _ (getD_mem (l := routes) (k := x.route.toNat) [] (by omega))).2; omega
  refine awp_imp ⟨(upd (upd (upd (upd none_ 7 (.pt 51 0)) 14 (.v (.slice none 0 0))) 17 (.pt 54 0)) 18 (.q eLk MN)), (updO (updO noOb 51 (.live ⟨[.one, .q eSec secs, .q eIL parts, .q ePnt pts, .q eIL routes, .one, .one, .one, .one, .one], 39, 1⟩)) 54 (.live ⟨[.i ((findV views tid).id), .b ((findV views tid).sure), .ro ((findV views tid).span.length) (enc eI ((findV views tid).span)), .one, .q eSec secs, .q eIL parts, .q ePnt pts, .q eIL routes, .one, .one, .one, .one, .one, .rp [.one, .q eSec secs, .q eIL parts, .q ePnt pts, .one, .one, .one, .one, .one, .one], .q eU8 sts, .q eI ow, .q eB right], 81, 1⟩))⟩ ?_ ?_
  ·skip
   refine (frz_ [51, 54] [(51, ⟨[.one, .q eSec secs, .q eIL parts, .q ePnt pts, .q eIL routes, .one, .one, .one, .one, .one], 39, 1⟩), (54, ⟨[.i ((findV views tid).id), .b ((findV views tid).sure), .ro ((findV views tid).span.length) (enc eI ((findV views tid).span)), .one, .q eSec secs, .q eIL parts, .q ePnt pts, .q eIL routes, .one, .one, .one, .one, .one, .rp [.one, .q eSec secs, .q eIL parts, .q ePnt pts, .one, .one, .one, .one, .one, .one], .q eU8 sts, .q eI ow, .q eB right], 81, 1⟩)] rfl (fun _ h => h) ⟨keep_cells (cs := [.one, .q eSec secs, .q eIL parts, .q ePnt pts, .q eIL routes, .one, .one, .one, .one, .one]) (by simp) rfl rfl (frzs_cons (.inl rfl) (frzs_cons (.inl rfl) (frzs_cons (.inl rfl) (frzs_cons (.inl rfl) (frzs_cons (.inl rfl) (frzs_cons (.inl rfl) (frzs_cons (.inl rfl) (frzs_cons (.inl rfl) (frzs_cons (.inl rfl) (frzs_cons (.inl rfl) frzs_nil)))))))))), keep_cells (cs := [.i ((findV views tid).id), .b ((findV views tid).sure), .ro ((findV views tid).span.length) (enc eI ((findV views tid).span)), .one, .q eSec secs, .q eIL parts, .q ePnt pts, .q eIL routes, .one, .one, .one, .one, .one, .rp [.one, .q eSec secs, .q eIL parts, .q ePnt pts, .one, .one, .one, .one, .one, .one], .q eU8 sts, .q eI ow, .q eB right]) (by simp) rfl rfl (frzs_cons (.inl rfl) (frzs_cons (.inl rfl) (frzs_cons (.inl rfl) (frzs_cons (.inl rfl) (frzs_cons (.inl rfl) (frzs_cons (.inl rfl) (frzs_cons (.inl rfl) (frzs_cons (.inl rfl) (frzs_cons (.inl rfl) (frzs_cons (.inl rfl) (frzs_cons (.inl rfl) (frzs_cons (.inl rfl) (frzs_cons (.inl rfl) (frzs_cons (.inl rfl) (frzs_cons (.inl rfl) (frzs_cons (.inl rfl) (frzs_cons (.inl rfl) frzs_nil))))))))))))))))), trivial⟩ (fz_lend 18 (.q eLk (restG (fun x : Lk => !decide (x.train = tid)) locks)) (lend_p (id := 55) (n := (restG (fun x : Lk => !decide (x.train = tid)) locks).length) (o := ⟨(enc eLk (restG (fun x : Lk => !decide (x.train = tid)) locks ++ List.replicate (locks.length - (restG (fun x : Lk => !decide (x.train = tid)) locks).length) dLk)), 64, 4⟩) (f := eLk) (l := restG (fun x : Lk => !decide (x.train = tid)) locks) (rest := List.replicate (locks.length - (restG (fun x : Lk => !decide (x.train = tid)) locks).length) dLk) rfl rfl rfl (fun _ => rfl)) (fz_same 17 (.pt 54 0) rfl (fz_same 14 (.v (.slice none 0 0)) rfl (fz_same 7 (.pt 51 0) rfl fz_none))))).trans ?_
   exact imp_ler [(51, 51), (54, 54)] (lerJ 51 51 54 54 (o := ⟨[.one, .q eSec secs, .q eIL parts, .q ePnt pts, .q eIL routes, .one, .one, .one, .one, .one], 39, 1⟩) (o2 := ⟨[.i ((findV views tid).id), .b ((findV views tid).sure), .ro ((findV views tid).span.length) (enc eI ((findV views tid).span)), .one, .q eSec secs, .q eIL parts, .q ePnt pts, .q eIL routes, .one, .one, .one, .one, .one, .rp [.one, .q eSec secs, .q eIL parts, .q ePnt pts, .one, .one, .one, .one, .one, .one], .q eU8 sts, .q eI ow, .q eB right], 81, 1⟩) (by decide) (by decide) rfl rfl rfl rfl (sS (by rw [hMN]; rfl) (sM rfl (sS rfl (sM rfl sr_none))))) (keep_of rfl)
  refine seqR ?_
  refine mG (.v (.slice none 0 0)) ?_
  refine mG (.v (.slice none 0 0)) ?_
  refine op0 ?_
  refine awp_seq ?_
  refine awp_imp ⟨(upd (upd (upd (upd (upd (upd none_ 7 (.pt 51 0)) 14 (.v (.slice none 0 0))) 17 (.pt 54 0)) 18 (.q eLk MN)) 19 (.v (.slice none 0 0))) 20 (.q eI (auL (fldOf (findV views tid) secs parts pts routes sts ow right) MN 0))), (updO (updO noOb 51 (.live ⟨[.one, .q eSec secs, .q eIL parts, .q ePnt pts, .q eIL routes, .one, .one, .one, .one, .one], 39, 1⟩)) 54 (.live ⟨[.i ((findV views tid).id), .b ((findV views tid).sure), .ro ((findV views tid).span.length) (enc eI ((findV views tid).span)), .one, .q eSec secs, .q eIL parts, .q ePnt pts, .q eIL routes, .one, .one, .one, .one, .one, .rp [.one, .q eSec secs, .q eIL parts, .q ePnt pts, .one, .one, .one, .one, .one, .one], .q eU8 sts, .q eI ow, .q eB right], 81, 1⟩))⟩ ?_ ?_
  ·skip
   refine (frz_ [51, 54] [(51, ⟨[.one, .q eSec secs, .q eIL parts, .q ePnt pts, .q eIL routes, .one, .one, .one, .one, .one], 39, 1⟩), (54, ⟨[.i ((findV views tid).id), .b ((findV views tid).sure), .ro ((findV views tid).span.length) (enc eI ((findV views tid).span)), .one, .q eSec secs, .q eIL parts, .q ePnt pts, .q eIL routes, .one, .one, .one, .one, .one, .rp [.one, .q eSec secs, .q eIL parts, .q ePnt pts, .one, .one, .one, .one, .one, .one], .q eU8 sts, .q eI ow, .q eB right], 81, 1⟩)] rfl (fun _ h => h) ⟨keep_cells (cs := [.one, .q eSec secs, .q eIL parts, .q ePnt pts, .q eIL routes, .one, .one, .one, .one, .one]) (by simp) rfl rfl (frzs_cons (.inl rfl) (frzs_cons (.inl rfl) (frzs_cons (.inl rfl) (frzs_cons (.inl rfl) (frzs_cons (.inl rfl) (frzs_cons (.inl rfl) (frzs_cons (.inl rfl) (frzs_cons (.inl rfl) (frzs_cons (.inl rfl) (frzs_cons (.inl rfl) frzs_nil)))))))))), keep_cells (cs := [.i ((findV views tid).id), .b ((findV views tid).sure), .ro ((findV views tid).span.length) (enc eI ((findV views tid).span)), .one, .q eSec secs, .q eIL parts, .q ePnt pts, .q eIL routes, .one, .one, .one, .one, .one, .rp [.one, .q eSec secs, .q eIL parts, .q ePnt pts, .one, .one, .one, .one, .one, .one], .q eU8 sts, .q eI ow, .q eB right]) (by simp) rfl rfl (frzs_cons (.inl rfl) (frzs_cons (.inl rfl) (frzs_cons (.inl rfl) (frzs_cons (.inl rfl) (frzs_cons (.inl rfl) (frzs_cons (.inl rfl) (frzs_cons (.inl rfl) (frzs_cons (.inl rfl) (frzs_cons (.inl rfl) (frzs_cons (.inl rfl) (frzs_cons (.inl rfl) (frzs_cons (.inl rfl) (frzs_cons (.inl rfl) (frzs_cons (.inl rfl) (frzs_cons (.inl rfl) (frzs_cons (.inl rfl) (frzs_cons (.inl rfl) frzs_nil))))))))))))))))), trivial⟩ (fz_lend 20 (.ro 0 []) .nil (fz_same 19 (.v (.slice none 0 0)) rfl (fz_same 18 (.q eLk MN) rfl (fz_same 17 (.pt 54 0) rfl (fz_same 14 (.v (.slice none 0 0)) rfl (fz_same 7 (.pt 51 0) rfl fz_none))))))).trans ?_
   exact imp_ler [(51, 51), (54, 54)] (lerJ 51 51 54 54 (o := ⟨[.one, .q eSec secs, .q eIL parts, .q ePnt pts, .q eIL routes, .one, .one, .one, .one, .one], 39, 1⟩) (o2 := ⟨[.i ((findV views tid).id), .b ((findV views tid).sure), .ro ((findV views tid).span.length) (enc eI ((findV views tid).span)), .one, .q eSec secs, .q eIL parts, .q ePnt pts, .q eIL routes, .one, .one, .one, .one, .one, .rp [.one, .q eSec secs, .q eIL parts, .q ePnt pts, .one, .one, .one, .one, .one, .one], .q eU8 sts, .q eI ow, .q eB right], 81, 1⟩) (by decide) (by decide) rfl rfl rfl rfl (sS rfl (sS rfl (sS rfl (sM rfl (sS rfl (sM rfl sr_none))))))) (keep_of rfl)
  refine seqR ?_
  refine mG (.q eLk MN) ?_
  refine opG rfl (aop_len rfl rfl rfl rfl ut50 (len_ro rfl) ?_)
  refine mG (.i 0) ?_
  refine op0 ?_
  refine awp_block ?_
  refine awp_countI (fun k => ⟨(upd (upd (upd (upd (upd (upd (upd (upd none_ 7 (.pt 2 0)) 14 (.v (.slice none 0 0))) 17 (.pt 1 0)) 19 (.sl 3 0 ((auO (fldOf (findV views tid) secs parts pts routes sts ow right) MN k).length))) 20 (.q eI (auL (fldOf (findV views tid) secs parts pts routes sts ow right) MN k))) 50 (.q eLk MN)) 51 (.i (MN.length : Int))) 52 (.i (k : Int))), (updO (updO (updO noOb 1 (.live ⟨[.i ((findV views tid).id), .b ((findV views tid).sure), .ro ((findV views tid).span.length) (enc eI ((findV views tid).span)), .one, .q eSec secs, .q eIL parts, .q ePnt pts, .q eIL routes, .one, .one, .one, .one, .one, .rp [.one, .q eSec secs, .q eIL parts, .q ePnt pts, .one, .one, .one, .one, .one, .one], .q eU8 sts, .q eI ow, .q eB right], 81, 1⟩)) 2 (.live ⟨[.one, .q eSec secs, .q eIL parts, .q ePnt pts, .q eIL routes, .one, .one, .one, .one, .one], 39, 1⟩)) 3 (.live ⟨(enc eI (auO (fldOf (findV views tid) secs parts pts routes sts ow right) MN k)), 3, 1⟩))⟩) (fun k => auR (fldOf (findV views tid) secs parts pts routes sts ow right) (MN.drop k) (auO (fldOf (findV views tid) secs parts pts routes sts ow right) MN k) (auL (fldOf (findV views tid) secs parts pts routes sts ow right) MN k) = (auT views tid (fldOf (findV views tid) secs parts pts routes sts ow right) locks)) (MN.length) ?_ (by rw [hT, hMN]; rfl) (fun k hk_k hinv => ?_)
  ·skip
   refine (imp_adopt 19 56 3 1 rfl rfl).trans ?_
   exact imp_ler [(54, 1), (51, 2), (56, 3)] (lerL [(54, 1), (51, 2), (56, 3)] [((54, 1), .live ⟨[.i ((findV views tid).id), .b ((findV views tid).sure), .ro ((findV views tid).span.length) (enc eI ((findV views tid).span)), .one, .q eSec secs, .q eIL parts, .q ePnt pts, .q eIL routes, .one, .one, .one, .one, .one, .rp [.one, .q eSec secs, .q eIL parts, .q ePnt pts, .one, .one, .one, .one, .one, .one], .q eU8 sts, .q eI ow, .q eB right], 81, 1⟩), ((51, 2), .live ⟨[.one, .q eSec secs, .q eIL parts, .q ePnt pts, .q eIL routes, .one, .one, .one, .one, .one], 39, 1⟩), ((56, 3), .live ⟨(enc eI (auO (fldOf (findV views tid) secs parts pts routes sts ow right) MN 0)), 3, 1⟩)] rfl (by decide) (by decide) ⟨row_no (o := ⟨[.i ((findV views tid).id), .b ((findV views tid).sure), .ro ((findV views tid).span.length) (enc eI ((findV views tid).span)), .one, .q eSec secs, .q eIL parts, .q ePnt pts, .q eIL routes, .one, .one, .one, .one, .one, .rp [.one, .q eSec secs, .q eIL parts, .q ePnt pts, .one, .one, .one, .one, .one, .one], .q eU8 sts, .q eI ow, .q eB right], 81, 1⟩) rfl rfl, row_no (o := ⟨[.one, .q eSec secs, .q eIL parts, .q ePnt pts, .q eIL routes, .one, .one, .one, .one, .one], 39, 1⟩) rfl rfl, row_no (o := ⟨[], 3, 1⟩) rfl rfl, trivial⟩ (sr_same 52 (.i (0 : Int)) rfl NoI.out (sr_same 51 (.i (MN.length : Int)) rfl NoI.out (sr_same 50 (.q eLk MN) rfl NoI.out (sr_same 20 (.q eI (auL (fldOf (findV views tid) secs parts pts routes sts ow right) MN 0)) rfl NoI.out (sr_map 19 (.sl 3 0 ((auO (fldOf (findV views tid) secs parts pts routes sts ow right) MN 0).length)) (by first | exact Ok.sl _ _ _ (by first | decide | simp) | exact Ok.pt _ _ (by first | decide | simp)) rfl (sr_map 17 (.pt 1 0) (by first | exact Ok.sl _ _ _ (by first | decide | simp) | exact Ok.pt _ _ (by first | decide | simp)) rfl (sr_same 14 (.v (.slice none 0 0)) rfl NoI.out (sr_map 7 (.pt 2 0) (by first | exact Ok.sl _ _ _ (by first | decide | simp) | exact Ok.pt _ _ (by first | decide | simp)) rfl sr_none))))))))) (keep_of rfl)
  have hol := auO_len (f := (fldOf (findV views tid) secs parts pts routes sts ow right)) hmp k
  have hal := auL_len hf hmk k (by omega)
  refine seqR ?_
  refine bG ((.bool (decide ((k : Int) < (MN.length : Int))))) ?_
  refine op0 ?_
  refine awp_seq ?_
  refine awp_cond (decide ((k : Int) < (MN.length : Int))) rfl rfl (fun hc1 => ?_) (fun hc1 => ?_)
  ·skip
   have hf7 := of_decide_eq_true hc1
   have hxk := hmk _ (getD_mem (l := MN) (k := k) dLk (by omega))
   have hxr := hxk.r
   have hxr2 : (MN.getD k dLk).route < (routes.length : Int) := hxr.2
   have hxp := hmp _ (getD_mem (l := MN) (k := k) dLk (by omega))
   have hpl := pcF_len (f := (fldOf (findV views tid) secs parts pts routes sts ow right)) (path := pathOf (fldOf (findV views tid) secs parts pts routes sts ow right) (MN.getD k dLk)) (ps := (MN.getD k dLk).pieces)
   refine awp_skip ?_
   refine awp_seq ?_
   refine awp_block ?_
   refine seqR ?_
   refine opG rfl (aop_ixE dLk rfl rfl rfl ut50 sz64 rfl rfl (fun _ => rfl) rfl (by first | omega | (simp; done) | decide | (simp at *; omega)) ?_)
   refine opG rfl (aop_ldB (cells' := [.i ((MN.getD k dLk).route), .i ((MN.getD k dLk).train), .i ((MN.getD k dLk).ends), .ro ((MN.getD k dLk).pieces.length) (enc eU8 ((MN.getD k dLk).pieces))]) rfl rfl rfl ag64 sz64 rfl rfl rfl rfl ?_)
   refine opG rfl (aop_alloc 57 rfl rfl rfl rfl ze64 rfl ?_)
   refine opG rfl (aop_store rfl rfl rfl sz64 rfl rfl rfl rfl rfl (Nat.le_of_ble_eq_true rfl) rfl rfl ?_)
   refine op0 ?_
   refine rs_ (upd (upd (upd (upd (upd (upd (upd (upd (upd none_ 7 (.pt 2 0)) 14 (.v (.slice none 0 0))) 17 (.pt 1 0)) 19 (.sl 3 0 ((auO (fldOf (findV views tid) secs parts pts routes sts ow right) MN k).length))) 20 (.q eI (auL (fldOf (findV views tid) secs parts pts routes sts ow right) MN k))) 22 (.pt 57 0)) 50 (.q eLk MN)) 51 (.i (MN.length : Int))) 52 (.i (k : Int))) (updO (updO (updO (updO (updO noOb 1 (.live ⟨[.i ((findV views tid).id), .b ((findV views tid).sure), .ro ((findV views tid).span.length) (enc eI ((findV views tid).span)), .one, .q eSec secs, .q eIL parts, .q ePnt pts, .q eIL routes, .one, .one, .one, .one, .one, .rp [.one, .q eSec secs, .q eIL parts, .q ePnt pts, .one, .one, .one, .one, .one, .one], .q eU8 sts, .q eI ow, .q eB right], 81, 1⟩)) 2 (.live ⟨[.one, .q eSec secs, .q eIL parts, .q ePnt pts, .q eIL routes, .one, .one, .one, .one, .one], 39, 1⟩)) 3 (.live ⟨(enc eI (auO (fldOf (findV views tid) secs parts pts routes sts ow right) MN k)), 3, 1⟩)) 57 (.live ⟨[.i 0, .i 0, .i 0, .v (.slice none 0 0)], 64, 1⟩)) 57 (.live ⟨[.i ((MN.getD k dLk).route), .i ((MN.getD k dLk).train), .i ((MN.getD k dLk).ends), .ro ((MN.getD k dLk).pieces.length) (enc eU8 ((MN.getD k dLk).pieces))], 64, 1⟩)) (lu rfl (lu rfl (lu rfl (lu rfl (lu rfl (lu rfl (lu rfl (lu rfl (lu rfl ln))))))))) rfl ?_
   refine awp_seq ?_
   refine seqR ?_
   refine fG (.pt 57 2) ft64_2 sz2 ?_
   refine opG rfl (aop_ld (av := .i ((MN.getD k dLk).ends)) rfl rfl rfl ag2 rfl rfl ?_)
   refine bG ((.bool (decide (((MN.getD k dLk).ends) ≥ 0)))) ?_
   refine mG (.b (decide (((MN.getD k dLk).ends) ≥ 0))) ?_
   refine aops_grp 6 65 (.b ((decide (((MN.getD k dLk).ends) ≥ 0)) || (!(cntB (fldOf (findV views tid) secs parts pts routes sts ow right) (pathOf (fldOf (findV views tid) secs parts pts routes sts ow right) (MN.getD k dLk)) (auL (fldOf (findV views tid) secs parts pts routes sts ow right) MN k))))) ?_ ?_
   ·refine (Bool.eq_false_or_eq_true (decide (((MN.getD k dLk).ends) ≥ 0))).elim (fun hg8 => ?_) (fun hg8 => ?_)
    ·skip
     have hf9 := of_decide_eq_true hg8
     refine nG hg8 ?_
     refine nG hg8 ?_
     refine nG hg8 ?_
     refine nG hg8 ?_
     refine nG hg8 ?_
     refine opG rfl (aop_pick (b := (decide (((MN.getD k dLk).ends) ≥ 0))) (av := .b true) rfl rfl rfl rfl ((congrArg (fun b_ => cond b_ _ _) hg8).trans rfl) ?_)
     refine op0 ?_
     exact imp_env (lee_both 65 _ _ (by rw [hg8] <;> rfl) (lee_out 64 _ rfl (lee_out 63 _ rfl (lee_out 62 _ rfl (lee_out 61 _ rfl (lee_out 60 _ rfl (lee_same _)))))))
    ·skip
     have hf10 := of_decide_eq_false hg8
     refine opY rfl rfl rfl (by show AV.v (.bool (decide (((MN.getD k dLk).ends) ≥ 0))) = _; rw [hg8]) (aop_ldB (cells' := [.i ((findV views tid).id), .b ((findV views tid).sure), .ro ((findV views tid).span.length) (enc eI ((findV views tid).span)), .one, .q eSec secs, .q eIL parts, .q ePnt pts, .q eIL routes, .one, .one, .one, .one, .one, .rp [.one, .q eSec secs, .q eIL parts, .q ePnt pts, .one, .one, .one, .one, .one, .one], .q eU8 sts, .q eI ow, .q eB right]) rfl rfl rfl ag81 sz81 rfl rfl rfl rfl ?_)
     refine opY rfl rfl rfl (by show AV.v (.bool (decide (((MN.getD k dLk).ends) ≥ 0))) = _; rw [hg8]) (aop_ldB (cells' := [.i ((MN.getD k dLk).route), .i ((MN.getD k dLk).train), .i ((MN.getD k dLk).ends), .ro ((MN.getD k dLk).pieces.length) (enc eU8 ((MN.getD k dLk).pieces))]) rfl rfl rfl ag64 sz64 rfl rfl rfl rfl ?_)
     refine opY rfl rfl rfl (by show AV.v (.bool (decide (((MN.getD k dLk).ends) ≥ 0))) = _; rw [hg8]) (aop_move (av := .q eI (auL (fldOf (findV views tid) secs parts pts routes sts ow right) MN k)) (.inl rfl) rfl rfl rfl ?_)
     refine opY rfl rfl rfl (by show AV.v (.bool (decide (((MN.getD k dLk).ends) ≥ 0))) = _; rw [hg8]) (callW_ (show Fn Try.prog 35 [.agg [.one, .one, .ro ((fldOf (findV views tid) secs parts pts routes sts ow right).span.length) (enc eI ((fldOf (findV views tid) secs parts pts routes sts ow right).span)), .one, .one, .one, .one, .ro ((fldOf (findV views tid) secs parts pts routes sts ow right).routes.length) (enc eIL ((fldOf (findV views tid) secs parts pts routes sts ow right).routes)), .one, .one, .one, .one, .one, .one, .one, .one, .one], .agg [.i ((MN.getD k dLk).route), .one, .one, .one], .q eI (auL (fldOf (findV views tid) secs parts pts routes sts ow right) MN k)] (.b (cntB (fldOf (findV views tid) secs parts pts routes sts ow right) (pathOf (fldOf (findV views tid) secs parts pts routes sts ow right) (MN.getD k dLk)) (auL (fldOf (findV views tid) secs parts pts routes sts ow right) MN k))) from (a_counts (fldOf (findV views tid) secs parts pts routes sts ow right) (MN.getD k dLk).route (pathOf (fldOf (findV views tid) secs parts pts routes sts ow right) (MN.getD k dLk)) (auL (fldOf (findV views tid) secs parts pts routes sts ow right) MN k) hf hxr rfl hal)) rfl rfl rfl rfl rfl bd35 (lends_cons (lend_agg (lends_cons (.one _ rfl) (lends_cons (.one _ rfl) (lends_cons (lend_n (av := .ro ((findV views tid).span.length) (enc eI ((findV views tid).span)))) (lends_cons (lend_n (av := .one)) (lends_cons (.one _ rfl) (lends_cons (.one _ rfl) (lends_cons (.one _ rfl) (lends_cons (lend_n (av := .q eIL routes)) (lends_cons (lend_n (av := .one)) (lends_cons (lend_n (av := .one)) (lends_cons (lend_n (av := .one)) (lends_cons (lend_n (av := .one)) (lends_cons (lend_n (av := .one)) (lends_cons (.one _ rfl) (lends_cons (.one _ rfl) (lends_cons (.one _ rfl) (lends_cons (.one _ rfl) lends_nil)))))))))))))))))) (lends_cons (lend_agg (lends_cons (lend_n (av := .i ((MN.getD k dLk).route))) (lends_cons (.one _ rfl) (lends_cons (.one _ rfl) (lends_cons (.one _ rfl) lends_nil))))) (lends_cons (lend_n (av := .q eI (auL (fldOf (findV views tid) secs parts pts routes sts ow right) MN k))) lends_nil))) ?_)
     refine opY rfl rfl rfl (by show AV.v (.bool (decide (((MN.getD k dLk).ends) ≥ 0))) = _; rw [hg8]) (aop_not rfl rfl rfl rfl ?_)
     refine opG rfl (aop_pick (b := (decide (((MN.getD k dLk).ends) ≥ 0))) (av := .b (!(cntB (fldOf (findV views tid) secs parts pts routes sts ow right) (pathOf (fldOf (findV views tid) secs parts pts routes sts ow right) (MN.getD k dLk)) (auL (fldOf (findV views tid) secs parts pts routes sts ow right) MN k)))) rfl rfl rfl rfl ((congrArg (fun b_ => cond b_ _ _) hg8).trans rfl) ?_)
     refine op0 ?_
     exact imp_env (lee_both 65 _ _ (by rw [hg8] <;> rfl) (lee_out 64 _ rfl (lee_out 63 _ rfl (lee_out 62 _ rfl (lee_out 61 _ rfl (lee_out 60 _ rfl (lee_same _)))))))
   refine op0 ?_
   refine rs_ (upd (upd (upd (upd (upd (upd (upd (upd (upd (upd none_ 7 (.pt 2 0)) 14 (.v (.slice none 0 0))) 17 (.pt 1 0)) 19 (.sl 3 0 ((auO (fldOf (findV views tid) secs parts pts routes sts ow right) MN k).length))) 20 (.q eI (auL (fldOf (findV views tid) secs parts pts routes sts ow right) MN k))) 22 (.pt 57 0)) 50 (.q eLk MN)) 51 (.i (MN.length : Int))) 52 (.i (k : Int))) 65 (.b ((decide (((MN.getD k dLk).ends) ≥ 0)) || (!(cntB (fldOf (findV views tid) secs parts pts routes sts ow right) (pathOf (fldOf (findV views tid) secs parts pts routes sts ow right) (MN.getD k dLk)) (auL (fldOf (findV views tid) secs parts pts routes sts ow right) MN k)))))) (updO (updO (updO (updO (updO noOb 1 (.live ⟨[.i ((findV views tid).id), .b ((findV views tid).sure), .ro ((findV views tid).span.length) (enc eI ((findV views tid).span)), .one, .q eSec secs, .q eIL parts, .q ePnt pts, .q eIL routes, .one, .one, .one, .one, .one, .rp [.one, .q eSec secs, .q eIL parts, .q ePnt pts, .one, .one, .one, .one, .one, .one], .q eU8 sts, .q eI ow, .q eB right], 81, 1⟩)) 2 (.live ⟨[.one, .q eSec secs, .q eIL parts, .q ePnt pts, .q eIL routes, .one, .one, .one, .one, .one], 39, 1⟩)) 3 (.live ⟨(enc eI (auO (fldOf (findV views tid) secs parts pts routes sts ow right) MN k)), 3, 1⟩)) 57 (.live ⟨[.i 0, .i 0, .i 0, .v (.slice none 0 0)], 64, 1⟩)) 57 (.live ⟨[.i ((MN.getD k dLk).route), .i ((MN.getD k dLk).train), .i ((MN.getD k dLk).ends), .ro ((MN.getD k dLk).pieces.length) (enc eU8 ((MN.getD k dLk).pieces))], 64, 1⟩)) (lu rfl (lu rfl (lu rfl (lu rfl (lu rfl (lu rfl (lu rfl (lu rfl (lu rfl (lu rfl ln)))))))))) rfl ?_
   refine awp_cond ((decide (((MN.getD k dLk).ends) ≥ 0)) || (!(cntB (fldOf (findV views tid) secs parts pts routes sts ow right) (pathOf (fldOf (findV views tid) secs parts pts routes sts ow right) (MN.getD k dLk)) (auL (fldOf (findV views tid) secs parts pts routes sts ow right) MN k)))) rfl rfl (fun hc2 => ?_) (fun hc2 => ?_)
   ·skip
    have hO := au_stop (by omega) hinv (lk_f hc2)
    refine awp_exit ?_
    refine seqR ?_
    refine mG (.sl 3 0 ((auO (fldOf (findV views tid) secs parts pts routes sts ow right) MN k).length)) ?_
    refine mG (.sl 3 0 ((auO (fldOf (findV views tid) secs parts pts routes sts ow right) MN k).length)) ?_
    refine op0 ?_
    refine awp_imp _ (imp_frozen rfl (fun _ h => h) (lee_lend 14 (.q eI (auO (fldOf (findV views tid) secs parts pts routes sts ow right) MN k)) (lend_s (id := 3) (n := (auO (fldOf (findV views tid) secs parts pts routes sts ow right) MN k).length) (o := ⟨(enc eI (auO (fldOf (findV views tid) secs parts pts routes sts ow right) MN k)), 3, 1⟩) rfl (enc_len (fun _ => rfl) (by first | rfl | (simp; done)))) lee_lend0)) ?_
    refine awp_ret ?_
    exact fret (av := .ro ((auO (fldOf (findV views tid) secs parts pts routes sts ow right) MN k).length) (enc eI (auO (fldOf (findV views tid) secs parts pts routes sts ow right) MN k))) rfl rfl (by rw [← hO] <;> rfl)
   ·skip
    obtain ⟨hf11a, hf11b⟩ := or_f hc2
    have hf12 := of_decide_eq_false hf11a
    have hf13 := not_f hf11b
    have hlt := lk_t hc2
    refine awp_skip ?_
    refine seqR ?_
    refine opG rfl (aop_ldB (cells' := [.i ((findV views tid).id), .b ((findV views tid).sure), .ro ((findV views tid).span.length) (enc eI ((findV views tid).span)), .one, .q eSec secs, .q eIL parts, .q ePnt pts, .q eIL routes, .one, .one, .one, .one, .one, .rp [.one, .q eSec secs, .q eIL parts, .q ePnt pts, .one, .one, .one, .one, .one, .one], .q eU8 sts, .q eI ow, .q eB right]) rfl rfl rfl ag81 sz81 rfl rfl rfl rfl ?_)
    refine opG rfl (aop_ldB (cells' := [.i ((MN.getD k dLk).route), .i ((MN.getD k dLk).train), .i ((MN.getD k dLk).ends), .ro ((MN.getD k dLk).pieces.length) (enc eU8 ((MN.getD k dLk).pieces))]) rfl rfl rfl ag64 sz64 rfl rfl rfl rfl ?_)
    refine opG rfl (callW_ (show Fn Try.prog 36 [.agg [.i ((fldOf (findV views tid) secs parts pts routes sts ow right).id), .one, .one, .one, .one, .one, .one, .ro ((fldOf (findV views tid) secs parts pts routes sts ow right).routes.length) (enc eIL ((fldOf (findV views tid) secs parts pts routes sts ow right).routes)), .one, .one, .one, .one, .one, .rp [.one, .ro ((fldOf (findV views tid) secs parts pts routes sts ow right).secs.length) (enc eSec ((fldOf (findV views tid) secs parts pts routes sts ow right).secs)), .ro ((fldOf (findV views tid) secs parts pts routes sts ow right).parts.length) (enc eIL ((fldOf (findV views tid) secs parts pts routes sts ow right).parts)), .ro ((fldOf (findV views tid) secs parts pts routes sts ow right).pts.length) (enc ePnt ((fldOf (findV views tid) secs parts pts routes sts ow right).pts)), .one, .one, .one, .one, .one, .one], .ro ((fldOf (findV views tid) secs parts pts routes sts ow right).st.length) (enc eU8 ((fldOf (findV views tid) secs parts pts routes sts ow right).st)), .ro ((fldOf (findV views tid) secs parts pts routes sts ow right).ow.length) (enc eI ((fldOf (findV views tid) secs parts pts routes sts ow right).ow)), .ro ((fldOf (findV views tid) secs parts pts routes sts ow right).right.length) (enc eB ((fldOf (findV views tid) secs parts pts routes sts ow right).right))], .agg [.i ((MN.getD k dLk).route), .one, .one, .q eU8 ((MN.getD k dLk).pieces)]] (.tup [.ro ((pcF (fldOf (findV views tid) secs parts pts routes sts ow right) (pathOf (fldOf (findV views tid) secs parts pts routes sts ow right) (MN.getD k dLk)) (MN.getD k dLk).pieces).1.length) (enc eI ((pcF (fldOf (findV views tid) secs parts pts routes sts ow right) (pathOf (fldOf (findV views tid) secs parts pts routes sts ow right) (MN.getD k dLk)) (MN.getD k dLk).pieces).1)), .b ((pcF (fldOf (findV views tid) secs parts pts routes sts ow right) (pathOf (fldOf (findV views tid) secs parts pts routes sts ow right) (MN.getD k dLk)) (MN.getD k dLk).pieces).2)]) from (a_pieces (fldOf (findV views tid) secs parts pts routes sts ow right) (MN.getD k dLk).route (pathOf (fldOf (findV views tid) secs parts pts routes sts ow right) (MN.getD k dLk)) (MN.getD k dLk).pieces hf hxr rfl hxk.ps)) rfl rfl rfl rfl rfl bd36 (lends_cons (lend_agg (lends_cons (lend_n (av := .i ((findV views tid).id))) (lends_cons (.one _ rfl) (lends_cons (.one _ rfl) (lends_cons (lend_n (av := .one)) (lends_cons (.one _ rfl) (lends_cons (.one _ rfl) (lends_cons (.one _ rfl) (lends_cons (lend_n (av := .q eIL routes)) (lends_cons (lend_n (av := .one)) (lends_cons (lend_n (av := .one)) (lends_cons (lend_n (av := .one)) (lends_cons (lend_n (av := .one)) (lends_cons (lend_n (av := .one)) (lends_cons (lend_n (av := .rp [.one, .q eSec secs, .q eIL parts, .q ePnt pts, .one, .one, .one, .one, .one, .one])) (lends_cons (lend_n (av := .q eU8 sts)) (lends_cons (lend_n (av := .q eI ow)) (lends_cons (lend_n (av := .q eB right)) lends_nil)))))))))))))))))) (lends_cons (lend_agg (lends_cons (lend_n (av := .i ((MN.getD k dLk).route))) (lends_cons (.one _ rfl) (lends_cons (.one _ rfl) (lends_cons (lend_n (av := .ro ((MN.getD k dLk).pieces.length) (enc eU8 ((MN.getD k dLk).pieces)))) lends_nil))))) lends_nil)) ?_)
    refine mG (.tup [.ro ((pcF (fldOf (findV views tid) secs parts pts routes sts ow right) (pathOf (fldOf (findV views tid) secs parts pts routes sts ow right) (MN.getD k dLk)) (MN.getD k dLk).pieces).1.length) (enc eI ((pcF (fldOf (findV views tid) secs parts pts routes sts ow right) (pathOf (fldOf (findV views tid) secs parts pts routes sts ow right) (MN.getD k dLk)) (MN.getD k dLk).pieces).1)), .b ((pcF (fldOf (findV views tid) secs parts pts routes sts ow right) (pathOf (fldOf (findV views tid) secs parts pts routes sts ow right) (MN.getD k dLk)) (MN.getD k dLk).pieces).2)]) ?_
    refine opG rfl (aop_extract rfl rfl rfl rfl rfl ?_)
    refine opG rfl (aop_extract rfl rfl rfl rfl rfl ?_)
    refine mG (.ro ((pcF (fldOf (findV views tid) secs parts pts routes sts ow right) (pathOf (fldOf (findV views tid) secs parts pts routes sts ow right) (MN.getD k dLk)) (MN.getD k dLk).pieces).1.length) (enc eI ((pcF (fldOf (findV views tid) secs parts pts routes sts ow right) (pathOf (fldOf (findV views tid) secs parts pts routes sts ow right) (MN.getD k dLk)) (MN.getD k dLk).pieces).1))) ?_
    refine mG (.b ((pcF (fldOf (findV views tid) secs parts pts routes sts ow right) (pathOf (fldOf (findV views tid) secs parts pts routes sts ow right) (MN.getD k dLk)) (MN.getD k dLk).pieces).2)) ?_
    refine op0 ?_
    refine rs_ (upd (upd (upd (upd (upd (upd (upd (upd (upd (upd (upd none_ 7 (.pt 2 0)) 14 (.v (.slice none 0 0))) 17 (.pt 1 0)) 19 (.sl 3 0 ((auO (fldOf (findV views tid) secs parts pts routes sts ow right) MN k).length))) 20 (.q eI (auL (fldOf (findV views tid) secs parts pts routes sts ow right) MN k))) 22 (.pt 57 0)) 23 (.ro ((pcF (fldOf (findV views tid) secs parts pts routes sts ow right) (pathOf (fldOf (findV views tid) secs parts pts routes sts ow right) (MN.getD k dLk)) (MN.getD k dLk).pieces).1.length) (enc eI ((pcF (fldOf (findV views tid) secs parts pts routes sts ow right) (pathOf (fldOf (findV views tid) secs parts pts routes sts ow right) (MN.getD k dLk)) (MN.getD k dLk).pieces).1)))) 24 (.b ((pcF (fldOf (findV views tid) secs parts pts routes sts ow right) (pathOf (fldOf (findV views tid) secs parts pts routes sts ow right) (MN.getD k dLk)) (MN.getD k dLk).pieces).2))) 50 (.q eLk MN)) 51 (.i (MN.length : Int))) 52 (.i (k : Int))) (updO (updO (updO (updO (updO noOb 1 (.live ⟨[.i ((findV views tid).id), .b ((findV views tid).sure), .ro ((findV views tid).span.length) (enc eI ((findV views tid).span)), .one, .q eSec secs, .q eIL parts, .q ePnt pts, .q eIL routes, .one, .one, .one, .one, .one, .rp [.one, .q eSec secs, .q eIL parts, .q ePnt pts, .one, .one, .one, .one, .one, .one], .q eU8 sts, .q eI ow, .q eB right], 81, 1⟩)) 2 (.live ⟨[.one, .q eSec secs, .q eIL parts, .q ePnt pts, .q eIL routes, .one, .one, .one, .one, .one], 39, 1⟩)) 3 (.live ⟨(enc eI (auO (fldOf (findV views tid) secs parts pts routes sts ow right) MN k)), 3, 1⟩)) 57 (.live ⟨[.i 0, .i 0, .i 0, .v (.slice none 0 0)], 64, 1⟩)) 57 (.live ⟨[.i ((MN.getD k dLk).route), .i ((MN.getD k dLk).train), .i ((MN.getD k dLk).ends), .ro ((MN.getD k dLk).pieces.length) (enc eU8 ((MN.getD k dLk).pieces))], 64, 1⟩)) (lu rfl (lu rfl (lu rfl (lu rfl (lu rfl (lu rfl (lu rfl (lu rfl (lu rfl (lu rfl (lu rfl ln))))))))))) rfl ?_
    refine seqR ?_
    refine mG (.sl 3 0 ((auO (fldOf (findV views tid) secs parts pts routes sts ow right) MN k).length)) ?_
    refine mG (.ro ((pcF (fldOf (findV views tid) secs parts pts routes sts ow right) (pathOf (fldOf (findV views tid) secs parts pts routes sts ow right) (MN.getD k dLk)) (MN.getD k dLk).pieces).1.length) (enc eI ((pcF (fldOf (findV views tid) secs parts pts routes sts ow right) (pathOf (fldOf (findV views tid) secs parts pts routes sts ow right) (MN.getD k dLk)) (MN.getD k dLk).pieces).1))) ?_
    refine opG rfl (aop_appE (f := eI) (l := auO (fldOf (findV views tid) secs parts pts routes sts ow right) MN k) (l2 := (pcF (fldOf (findV views tid) secs parts pts routes sts ow right) (pathOf (fldOf (findV views tid) secs parts pts routes sts ow right) (MN.getD k dLk)) (MN.getD k dLk).pieces).1) 58 rfl rfl rfl rfl ut48 in3 rfl (by decide) rfl rfl rfl rfl rfl rfl (fun _ => rfl) rfl rfl rfl (by first | omega | (simp; done) | decide | (simp at *; omega)) (by first | omega | (simp; done) | decide | (simp at *; omega)) rfl ?_)
    refine mG (.sl 58 0 (((auO (fldOf (findV views tid) secs parts pts routes sts ow right) MN k) ++ ((pcF (fldOf (findV views tid) secs parts pts routes sts ow right) (pathOf (fldOf (findV views tid) secs parts pts routes sts ow right) (MN.getD k dLk)) (MN.getD k dLk).pieces).1)).length)) ?_
    refine op0 ?_
    refine rs_ (upd (upd (upd (upd (upd (upd (upd (upd (upd (upd (upd none_ 7 (.pt 2 0)) 14 (.v (.slice none 0 0))) 17 (.pt 1 0)) 19 (.sl 58 0 (((auO (fldOf (findV views tid) secs parts pts routes sts ow right) MN k) ++ ((pcF (fldOf (findV views tid) secs parts pts routes sts ow right) (pathOf (fldOf (findV views tid) secs parts pts routes sts ow right) (MN.getD k dLk)) (MN.getD k dLk).pieces).1)).length))) 20 (.q eI (auL (fldOf (findV views tid) secs parts pts routes sts ow right) MN k))) 22 (.pt 57 0)) 23 (.ro ((pcF (fldOf (findV views tid) secs parts pts routes sts ow right) (pathOf (fldOf (findV views tid) secs parts pts routes sts ow right) (MN.getD k dLk)) (MN.getD k dLk).pieces).1.length) (enc eI ((pcF (fldOf (findV views tid) secs parts pts routes sts ow right) (pathOf (fldOf (findV views tid) secs parts pts routes sts ow right) (MN.getD k dLk)) (MN.getD k dLk).pieces).1)))) 24 (.b ((pcF (fldOf (findV views tid) secs parts pts routes sts ow right) (pathOf (fldOf (findV views tid) secs parts pts routes sts ow right) (MN.getD k dLk)) (MN.getD k dLk).pieces).2))) 50 (.q eLk MN)) 51 (.i (MN.length : Int))) 52 (.i (k : Int))) (updO (updO (updO (updO (updO (updO (updO noOb 1 (.live ⟨[.i ((findV views tid).id), .b ((findV views tid).sure), .ro ((findV views tid).span.length) (enc eI ((findV views tid).span)), .one, .q eSec secs, .q eIL parts, .q ePnt pts, .q eIL routes, .one, .one, .one, .one, .one, .rp [.one, .q eSec secs, .q eIL parts, .q ePnt pts, .one, .one, .one, .one, .one, .one], .q eU8 sts, .q eI ow, .q eB right], 81, 1⟩)) 2 (.live ⟨[.one, .q eSec secs, .q eIL parts, .q ePnt pts, .q eIL routes, .one, .one, .one, .one, .one], 39, 1⟩)) 3 (.live ⟨(enc eI (auO (fldOf (findV views tid) secs parts pts routes sts ow right) MN k)), 3, 1⟩)) 57 (.live ⟨[.i 0, .i 0, .i 0, .v (.slice none 0 0)], 64, 1⟩)) 57 (.live ⟨[.i ((MN.getD k dLk).route), .i ((MN.getD k dLk).train), .i ((MN.getD k dLk).ends), .ro ((MN.getD k dLk).pieces.length) (enc eU8 ((MN.getD k dLk).pieces))], 64, 1⟩)) 3 .dead) 58 (.live ⟨(enc eI ((auO (fldOf (findV views tid) secs parts pts routes sts ow right) MN k) ++ ((pcF (fldOf (findV views tid) secs parts pts routes sts ow right) (pathOf (fldOf (findV views tid) secs parts pts routes sts ow right) (MN.getD k dLk)) (MN.getD k dLk).pieces).1))), 3, 1⟩)) (lu rfl (lu rfl (lu rfl (lu rfl (lu rfl (lu rfl (lu rfl (lu rfl (lu rfl (lu rfl (lu rfl ln))))))))))) rfl ?_
    refine awp_seq ?_
    refine seqR ?_
    refine mG (.b ((pcF (fldOf (findV views tid) secs parts pts routes sts ow right) (pathOf (fldOf (findV views tid) secs parts pts routes sts ow right) (MN.getD k dLk)) (MN.getD k dLk).pieces).2)) ?_
    refine opG rfl (aop_not rfl rfl rfl rfl ?_)
    refine op0 ?_
    refine awp_cond (!((pcF (fldOf (findV views tid) secs parts pts routes sts ow right) (pathOf (fldOf (findV views tid) secs parts pts routes sts ow right) (MN.getD k dLk)) (MN.getD k dLk).pieces).2)) rfl rfl (fun hc3 => ?_) (fun hc3 => ?_)
    ·skip
     have hf14 := not_t hc3
     have hO := au_part (by omega) hinv hlt (by simpa using hc3)
     refine awp_exit ?_
     refine seqR ?_
     refine mG (.sl 58 0 (((auO (fldOf (findV views tid) secs parts pts routes sts ow right) MN k) ++ ((pcF (fldOf (findV views tid) secs parts pts routes sts ow right) (pathOf (fldOf (findV views tid) secs parts pts routes sts ow right) (MN.getD k dLk)) (MN.getD k dLk).pieces).1)).length)) ?_
     refine mG (.sl 58 0 (((auO (fldOf (findV views tid) secs parts pts routes sts ow right) MN k) ++ ((pcF (fldOf (findV views tid) secs parts pts routes sts ow right) (pathOf (fldOf (findV views tid) secs parts pts routes sts ow right) (MN.getD k dLk)) (MN.getD k dLk).pieces).1)).length)) ?_
     refine op0 ?_
     refine rs_ (upd none_ 14 (.sl 58 0 (((auO (fldOf (findV views tid) secs parts pts routes sts ow right) MN k) ++ ((pcF (fldOf (findV views tid) secs parts pts routes sts ow right) (pathOf (fldOf (findV views tid) secs parts pts routes sts ow right) (MN.getD k dLk)) (MN.getD k dLk).pieces).1)).length))) (updO (updO (updO (updO (updO (updO (updO noOb 1 (.live ⟨[.i ((findV views tid).id), .b ((findV views tid).sure), .ro ((findV views tid).span.length) (enc eI ((findV views tid).span)), .one, .q eSec secs, .q eIL parts, .q ePnt pts, .q eIL routes, .one, .one, .one, .one, .one, .rp [.one, .q eSec secs, .q eIL parts, .q ePnt pts, .one, .one, .one, .one, .one, .one], .q eU8 sts, .q eI ow, .q eB right], 81, 1⟩)) 2 (.live ⟨[.one, .q eSec secs, .q eIL parts, .q ePnt pts, .q eIL routes, .one, .one, .one, .one, .one], 39, 1⟩)) 3 (.live ⟨(enc eI (auO (fldOf (findV views tid) secs parts pts routes sts ow right) MN k)), 3, 1⟩)) 57 (.live ⟨[.i 0, .i 0, .i 0, .v (.slice none 0 0)], 64, 1⟩)) 57 (.live ⟨[.i ((MN.getD k dLk).route), .i ((MN.getD k dLk).train), .i ((MN.getD k dLk).ends), .ro ((MN.getD k dLk).pieces.length) (enc eU8 ((MN.getD k dLk).pieces))], 64, 1⟩)) 3 .dead) 58 (.live ⟨(enc eI ((auO (fldOf (findV views tid) secs parts pts routes sts ow right) MN k) ++ ((pcF (fldOf (findV views tid) secs parts pts routes sts ow right) (pathOf (fldOf (findV views tid) secs parts pts routes sts ow right) (MN.getD k dLk)) (MN.getD k dLk).pieces).1))), 3, 1⟩)) (lu rfl ln) rfl ?_
     refine awp_imp _ (imp_frozen rfl (fun _ h => h) (lee_lend 14 (.q eI ((auO (fldOf (findV views tid) secs parts pts routes sts ow right) MN k) ++ ((pcF (fldOf (findV views tid) secs parts pts routes sts ow right) (pathOf (fldOf (findV views tid) secs parts pts routes sts ow right) (MN.getD k dLk)) (MN.getD k dLk).pieces).1))) (lend_s (id := 58) (n := ((auO (fldOf (findV views tid) secs parts pts routes sts ow right) MN k) ++ ((pcF (fldOf (findV views tid) secs parts pts routes sts ow right) (pathOf (fldOf (findV views tid) secs parts pts routes sts ow right) (MN.getD k dLk)) (MN.getD k dLk).pieces).1)).length) (o := ⟨(enc eI ((auO (fldOf (findV views tid) secs parts pts routes sts ow right) MN k) ++ ((pcF (fldOf (findV views tid) secs parts pts routes sts ow right) (pathOf (fldOf (findV views tid) secs parts pts routes sts ow right) (MN.getD k dLk)) (MN.getD k dLk).pieces).1))), 3, 1⟩) rfl (enc_len (fun _ => rfl) (by first | rfl | (simp; done)))) lee_lend0)) ?_
     refine awp_ret ?_
     exact fret (av := .ro (((auO (fldOf (findV views tid) secs parts pts routes sts ow right) MN k) ++ ((pcF (fldOf (findV views tid) secs parts pts routes sts ow right) (pathOf (fldOf (findV views tid) secs parts pts routes sts ow right) (MN.getD k dLk)) (MN.getD k dLk).pieces).1)).length) (enc eI ((auO (fldOf (findV views tid) secs parts pts routes sts ow right) MN k) ++ ((pcF (fldOf (findV views tid) secs parts pts routes sts ow right) (pathOf (fldOf (findV views tid) secs parts pts routes sts ow right) (MN.getD k dLk)) (MN.getD k dLk).pieces).1)))) rfl rfl (by rw [← hO] <;> rfl)
    ·skip
     have hf15 := not_f hc3
     refine awp_skip ?_
     refine regR ?_
     refine fG (.pt 2 4) ft39_4 sz36 ?_
     refine opG rfl (aop_ld (av := .q eIL routes) rfl rfl rfl ag36 rfl rfl ?_)
     refine fG (.pt 57 0) ft64_0 sz3 ?_
     refine opG rfl (aop_ld (av := .i ((MN.getD k dLk).route)) rfl rfl rfl ag3 rfl rfl ?_)
     refine opG rfl (aop_ixI [] rfl rfl rfl ut36 sz48 rfl rfl (fun _ => rfl) rfl (by omega) (by first | omega | (simp; done) | decide | (simp at *; omega)) ?_)
     refine opG rfl (aop_ld (av := .q eI (routes.getD ((MN.getD k dLk).route).toNat [])) rfl rfl rfl ag48 rfl rfl ?_)
     refine mG (.q eI (routes.getD ((MN.getD k dLk).route).toNat [])) ?_
     refine op0 ?_
     refine rs_ (upd (upd (upd (upd (upd (upd (upd (upd (upd (upd (upd none_ 7 (.pt 2 0)) 14 (.v (.slice none 0 0))) 17 (.pt 1 0)) 19 (.sl 58 0 (((auO (fldOf (findV views tid) secs parts pts routes sts ow right) MN k) ++ ((pcF (fldOf (findV views tid) secs parts pts routes sts ow right) (pathOf (fldOf (findV views tid) secs parts pts routes sts ow right) (MN.getD k dLk)) (MN.getD k dLk).pieces).1)).length))) 20 (.q eI (routes.getD ((MN.getD k dLk).route).toNat []))) 22 (.pt 57 0)) 23 (.ro ((pcF (fldOf (findV views tid) secs parts pts routes sts ow right) (pathOf (fldOf (findV views tid) secs parts pts routes sts ow right) (MN.getD k dLk)) (MN.getD k dLk).pieces).1.length) (enc eI ((pcF (fldOf (findV views tid) secs parts pts routes sts ow right) (pathOf (fldOf (findV views tid) secs parts pts routes sts ow right) (MN.getD k dLk)) (MN.getD k dLk).pieces).1)))) 24 (.b ((pcF (fldOf (findV views tid) secs parts pts routes sts ow right) (pathOf (fldOf (findV views tid) secs parts pts routes sts ow right) (MN.getD k dLk)) (MN.getD k dLk).pieces).2))) 50 (.q eLk MN)) 51 (.i (MN.length : Int))) 52 (.i (k : Int))) (updO (updO (updO (updO (updO (updO (updO noOb 1 (.live ⟨[.i ((findV views tid).id), .b ((findV views tid).sure), .ro ((findV views tid).span.length) (enc eI ((findV views tid).span)), .one, .q eSec secs, .q eIL parts, .q ePnt pts, .q eIL routes, .one, .one, .one, .one, .one, .rp [.one, .q eSec secs, .q eIL parts, .q ePnt pts, .one, .one, .one, .one, .one, .one], .q eU8 sts, .q eI ow, .q eB right], 81, 1⟩)) 2 (.live ⟨[.one, .q eSec secs, .q eIL parts, .q ePnt pts, .q eIL routes, .one, .one, .one, .one, .one], 39, 1⟩)) 3 (.live ⟨(enc eI (auO (fldOf (findV views tid) secs parts pts routes sts ow right) MN k)), 3, 1⟩)) 57 (.live ⟨[.i 0, .i 0, .i 0, .v (.slice none 0 0)], 64, 1⟩)) 57 (.live ⟨[.i ((MN.getD k dLk).route), .i ((MN.getD k dLk).train), .i ((MN.getD k dLk).ends), .ro ((MN.getD k dLk).pieces.length) (enc eU8 ((MN.getD k dLk).pieces))], 64, 1⟩)) 3 .dead) 58 (.live ⟨(enc eI ((auO (fldOf (findV views tid) secs parts pts routes sts ow right) MN k) ++ ((pcF (fldOf (findV views tid) secs parts pts routes sts ow right) (pathOf (fldOf (findV views tid) secs parts pts routes sts ow right) (MN.getD k dLk)) (MN.getD k dLk).pieces).1))), 3, 1⟩)) (lu rfl (lu rfl (lu rfl (lu rfl (lu rfl (lu rfl (lu rfl (lu rfl (lu rfl (lu rfl (lu rfl ln))))))))))) rfl ?_
     refine regR ?_
     refine opG rfl (aop_binI (u := (.int .i64 ((k + 1 : Nat) : Int))) rfl rfl rfl rfl rfl trivial (addN (by omega)) ?_)
     refine mG (.i ((k + 1 : Nat) : Int)) ?_
     refine op0 ?_
     show _ ∧ _
     refine ⟨by omega, (au_on (by omega) hinv hlt (by simpa using hc3)), ?_⟩
     exact imp_ler [(1, 1), (2, 2), (58, 3)] (lerL [(1, 1), (2, 2), (58, 3)] [((1, 1), .live ⟨[.i ((findV views tid).id), .b ((findV views tid).sure), .ro ((findV views tid).span.length) (enc eI ((findV views tid).span)), .one, .q eSec secs, .q eIL parts, .q ePnt pts, .q eIL routes, .one, .one, .one, .one, .one, .rp [.one, .q eSec secs, .q eIL parts, .q ePnt pts, .one, .one, .one, .one, .one, .one], .q eU8 sts, .q eI ow, .q eB right], 81, 1⟩), ((2, 2), .live ⟨[.one, .q eSec secs, .q eIL parts, .q ePnt pts, .q eIL routes, .one, .one, .one, .one, .one], 39, 1⟩), ((58, 3), .live ⟨(enc eI (auO (fldOf (findV views tid) secs parts pts routes sts ow right) MN (k + 1))), 3, 1⟩)] rfl (by decide) (by decide) ⟨row_no (o := ⟨[.i ((findV views tid).id), .b ((findV views tid).sure), .ro ((findV views tid).span.length) (enc eI ((findV views tid).span)), .one, .q eSec secs, .q eIL parts, .q ePnt pts, .q eIL routes, .one, .one, .one, .one, .one, .rp [.one, .q eSec secs, .q eIL parts, .q ePnt pts, .one, .one, .one, .one, .one, .one], .q eU8 sts, .q eI ow, .q eB right], 81, 1⟩) rfl rfl, row_no (o := ⟨[.one, .q eSec secs, .q eIL parts, .q ePnt pts, .q eIL routes, .one, .one, .one, .one, .one], 39, 1⟩) rfl rfl, row_no (o := ⟨(enc eI ((auO (fldOf (findV views tid) secs parts pts routes sts ow right) MN k) ++ ((pcF (fldOf (findV views tid) secs parts pts routes sts ow right) (pathOf (fldOf (findV views tid) secs parts pts routes sts ow right) (MN.getD k dLk)) (MN.getD k dLk).pieces).1))), 3, 1⟩) rfl (by exact congrArg (fun l_ => LObj.mk (enc eI l_) 3 1) rfl), trivial⟩ (sr_same 52 (.i ((k + 1) : Int)) rfl NoI.out (sr_same 51 (.i (MN.length : Int)) rfl NoI.out (sr_same 50 (.q eLk MN) rfl NoI.out (sr_same 20 (.q eI (auL (fldOf (findV views tid) secs parts pts routes sts ow right) MN (k + 1))) rfl NoI.out (sr_map 19 (.sl 3 0 ((auO (fldOf (findV views tid) secs parts pts routes sts ow right) MN (k + 1)).length)) (by first | exact Ok.sl _ _ _ (by first | decide | simp) | exact Ok.pt _ _ (by first | decide | simp)) (by exact congrArg (AV.sl 3 0) rfl) (sr_map 17 (.pt 1 0) (by first | exact Ok.sl _ _ _ (by first | decide | simp) | exact Ok.pt _ _ (by first | decide | simp)) rfl (sr_same 14 (.v (.slice none 0 0)) rfl NoI.out (sr_map 7 (.pt 2 0) (by first | exact Ok.sl _ _ _ (by first | decide | simp) | exact Ok.pt _ _ (by first | decide | simp)) rfl sr_none))))))))) (keep_of rfl)
  ·skip
   have hf16 := of_decide_eq_false hc1
   have hO := au_end (by omega) hinv
   refine awp_exit ?_
   refine seqR ?_
   refine mG (.sl 3 0 ((auO (fldOf (findV views tid) secs parts pts routes sts ow right) MN k).length)) ?_
   refine mG (.sl 3 0 ((auO (fldOf (findV views tid) secs parts pts routes sts ow right) MN k).length)) ?_
   refine op0 ?_
   refine awp_imp _ (imp_frozen rfl (fun _ h => h) (lee_lend 14 (.q eI (auO (fldOf (findV views tid) secs parts pts routes sts ow right) MN k)) (lend_s (id := 3) (n := (auO (fldOf (findV views tid) secs parts pts routes sts ow right) MN k).length) (o := ⟨(enc eI (auO (fldOf (findV views tid) secs parts pts routes sts ow right) MN k)), 3, 1⟩) rfl (enc_len (fun _ => rfl) (by first | rfl | (simp; done)))) lee_lend0)) ?_
   refine awp_ret ?_
   exact fret (av := .ro ((auO (fldOf (findV views tid) secs parts pts routes sts ow right) MN k).length) (enc eI (auO (fldOf (findV views tid) secs parts pts routes sts ow right) MN k))) rfl rfl (by rw [← hO] <;> rfl)
theorem bd10 : bodied Try.prog 10 = true := by kernel_rfl
theorem bd16 : bodied Try.prog 16 = true := by kernel_rfl
theorem bd17 : bodied Try.prog 17 = true := by kernel_rfl
theorem in5 : (Try.prog.info? 5).map (fun i => (i.zero, i.size, i.bytes)) = some (some (.int .u8 0), 1, 1) := by kernel_rfl
theorem iz5 : (Try.prog.info? 5).map (fun i => (i.zero, i.size)) = some (some (.int .u8 0), 1) := by kernel_rfl
theorem iz63 : (Try.prog.info? 63).map (fun i => (i.zero, i.size)) = some (some (.agg #[(.int .i64 0), (.bool false), (.slice none 0 0)]), 3) := by kernel_rfl
theorem pl25 : placesOf Try.prog 25 = some ((.agg #[(.int .u8 0), (.int .u8 0), (.int .u8 0), (.int .u16 0), (.int .u16 0), (.int .u8 0), (.int .u8 0), (.int .u8 0), (.slice none 0 0)]), fun i => ([(0, 1), (1, 1), (2, 1), (3, 1), (4, 1), (5, 1), (6, 1), (7, 1), (8, 1)] : List (Nat × Nat)).toArray[i]?) := by kernel_rfl
theorem pl64 : placesOf Try.prog 64 = some ((.agg #[(.int .i64 0), (.int .i64 0), (.int .i64 0), (.slice none 0 0)]), fun i => ([(0, 1), (1, 1), (2, 1), (3, 1)] : List (Nat × Nat)).toArray[i]?) := by kernel_rfl
theorem l16_none   : Fn Try.prog 10 [] (.v (.bool true)) := by
 have hel := mkEnds_len 0
 have hsl := mkSecs_len 0 0
 have hpl := mkPts_len 0
 refine fnE_of_body (N := 36) Try.func10 rfl rfl (resOf1 rfl) (by simp) (fun w0 X hL_ => ?_)
 refine seqR ?_
 refine mG (.b false) ?_
 refine op0 ?_
 refine seqR ?_
 refine opG rfl (aop_build rfl rfl rfl pl25 rfl ?_)
 refine opG rfl (callW_ (r04_Make 0 0 0 0 0 0 0 0 (by decide) (by decide) (by decide) (by decide) (by decide) (by decide) (by decide) (by decide)) rfl rfl rfl rfl rfl bd25 (lends_cons (lend_agg (lends_cons (lend_n (av := .v (.int .u8 0))) (lends_cons (lend_n (av := .v (.int .u8 0))) (lends_cons (lend_n (av := .v (.int .u8 0))) (lends_cons (lend_n (av := .v (.int .u16 0))) (lends_cons (lend_n (av := .v (.int .u16 0))) (lends_cons (lend_n (av := .v (.int .u8 0))) (lends_cons (lend_n (av := .v (.int .u8 0))) (lends_cons (lend_n (av := .v (.int .u8 0))) (lends_cons (.one _ rfl) lends_nil)))))))))) lends_nil) ?_)
 refine opG rfl (aop_alloc 51 rfl rfl rfl rfl ze39 rfl ?_)
 refine opG rfl (aop_store rfl rfl rfl sz39 rfl rfl rfl rfl rfl (Nat.le_of_ble_eq_true rfl) rfl rfl ?_)
 refine op0 ?_
 refine rs_ (upd (upd none_ 0 (.b false)) 1 (.pt 51 0)) (updO (updO noOb 51 (.live ⟨[.v (.slice none 0 0), .v (.slice none 0 0), .v (.slice none 0 0), .v (.slice none 0 0), .v (.slice none 0 0), .i 0, .i 0, .i 0, .i 0, .i 0], 39, 1⟩)) 51 (.live ⟨[.one, .q eSec (mkSecs 0 0), .q eIL (mkParts 0 0), .q ePnt (mkPts 0), .v (.slice none 0 0), .i (1 + 0 % (2 * (10 * (1 + 0 % 20)))), .i (1 + 0 % 1000), .i (1 + 0 % 1000), .i (1 + 0), .i (0 % 4)], 39, 1⟩)) (lu rfl (lu rfl ln)) rfl ?_
 refine seqR ?_
 refine opG rfl (aop_lit (cells := enc eI ([0, 1, 2] : List Int)) rfl rfl rfl ut48 iz3 (by decide) (by decide) rfl rfl ?_)
 refine opG rfl (aop_lit (cells := enc eIL noR) rfl rfl rfl ut36 iz48 (by decide) (by decide) rfl rfl ?_)
 refine fG (.pt 51 4) ft39_4 sz36 ?_
 refine opG rfl (aop_store rfl rfl rfl sz36 rfl rfl rfl rfl rfl (Nat.le_of_ble_eq_true rfl) rfl rfl ?_)
 refine op0 ?_
 refine rs_ (upd (upd none_ 0 (.b false)) 1 (.pt 51 0)) (updO (updO (updO noOb 51 (.live ⟨[.v (.slice none 0 0), .v (.slice none 0 0), .v (.slice none 0 0), .v (.slice none 0 0), .v (.slice none 0 0), .i 0, .i 0, .i 0, .i 0, .i 0], 39, 1⟩)) 51 (.live ⟨[.one, .q eSec (mkSecs 0 0), .q eIL (mkParts 0 0), .q ePnt (mkPts 0), .v (.slice none 0 0), .i (1 + 0 % (2 * (10 * (1 + 0 % 20)))), .i (1 + 0 % 1000), .i (1 + 0 % 1000), .i (1 + 0), .i (0 % 4)], 39, 1⟩)) 51 (.live ⟨[.one, .q eSec (mkSecs 0 0), .q eIL (mkParts 0 0), .q ePnt (mkPts 0), .ro 1 (enc eIL noR), .i (1 + 0 % (2 * (10 * (1 + 0 % 20)))), .i (1 + 0 % 1000), .i (1 + 0 % 1000), .i (1 + 0), .i (0 % 4)], 39, 1⟩)) (lu rfl (lu rfl ln)) rfl ?_
 refine seqR ?_
 refine opG rfl (aop_lit (cells := enc eI ([0] : List Int)) rfl rfl rfl ut48 iz3 (by decide) (by decide) rfl rfl ?_)
 refine opG rfl (aop_build rfl rfl rfl pl63 rfl ?_)
 refine opG rfl (aop_lit (cells := enc eV noV) rfl rfl rfl ut43 iz63 (by decide) (by decide) rfl rfl ?_)
 refine mG (.ro 1 (enc eV noV)) ?_
 refine op0 ?_
 refine rs_ (upd (upd (upd none_ 0 (.b false)) 1 (.pt 51 0)) 2 (.ro 1 (enc eV noV))) (updO (updO (updO noOb 51 (.live ⟨[.v (.slice none 0 0), .v (.slice none 0 0), .v (.slice none 0 0), .v (.slice none 0 0), .v (.slice none 0 0), .i 0, .i 0, .i 0, .i 0, .i 0], 39, 1⟩)) 51 (.live ⟨[.one, .q eSec (mkSecs 0 0), .q eIL (mkParts 0 0), .q ePnt (mkPts 0), .v (.slice none 0 0), .i (1 + 0 % (2 * (10 * (1 + 0 % 20)))), .i (1 + 0 % 1000), .i (1 + 0 % 1000), .i (1 + 0), .i (0 % 4)], 39, 1⟩)) 51 (.live ⟨[.one, .q eSec (mkSecs 0 0), .q eIL (mkParts 0 0), .q ePnt (mkPts 0), .ro 1 (enc eIL noR), .i (1 + 0 % (2 * (10 * (1 + 0 % 20)))), .i (1 + 0 % 1000), .i (1 + 0 % 1000), .i (1 + 0), .i (0 % 4)], 39, 1⟩)) (lu rfl (lu rfl (lu rfl ln))) rfl ?_
 refine seqR ?_
 refine opG rfl (aop_lit (cells := enc eU8 ([1, 1] : List Int)) rfl rfl rfl ut27 iz5 (by decide) (by decide) rfl rfl ?_)
 refine opG rfl (aop_build rfl rfl rfl pl64 rfl ?_)
 refine opG rfl (aop_lit (cells := enc eLk noK) rfl rfl rfl ut50 iz64 (by decide) (by decide) rfl rfl ?_)
 refine mG (.ro 1 (enc eLk noK)) ?_
 refine op0 ?_
 refine rs_ (upd (upd (upd (upd none_ 0 (.b false)) 1 (.pt 51 0)) 2 (.ro 1 (enc eV noV))) 3 (.ro 1 (enc eLk noK))) (updO (updO (updO noOb 51 (.live ⟨[.v (.slice none 0 0), .v (.slice none 0 0), .v (.slice none 0 0), .v (.slice none 0 0), .v (.slice none 0 0), .i 0, .i 0, .i 0, .i 0, .i 0], 39, 1⟩)) 51 (.live ⟨[.one, .q eSec (mkSecs 0 0), .q eIL (mkParts 0 0), .q ePnt (mkPts 0), .v (.slice none 0 0), .i (1 + 0 % (2 * (10 * (1 + 0 % 20)))), .i (1 + 0 % 1000), .i (1 + 0 % 1000), .i (1 + 0), .i (0 % 4)], 39, 1⟩)) 51 (.live ⟨[.one, .q eSec (mkSecs 0 0), .q eIL (mkParts 0 0), .q ePnt (mkPts 0), .ro 1 (enc eIL noR), .i (1 + 0 % (2 * (10 * (1 + 0 % 20)))), .i (1 + 0 % 1000), .i (1 + 0 % 1000), .i (1 + 0), .i (0 % 4)], 39, 1⟩)) (lu rfl (lu rfl (lu rfl (lu rfl ln)))) rfl ?_
 refine seqR ?_
 refine opG rfl (aop_lit (cells := enc eU8 noS) rfl rfl rfl ut27 iz5 (by decide) (by decide) rfl rfl ?_)
 refine opG rfl (aop_lit (cells := enc eI noO) rfl rfl rfl ut48 iz3 (by decide) (by decide) rfl rfl ?_)
 refine mG (.ro 3 (enc eU8 noS)) ?_
 refine mG (.ro 3 (enc eI noO)) ?_
 refine op0 ?_
 refine rs_ (upd (upd (upd (upd (upd (upd none_ 0 (.b false)) 1 (.pt 51 0)) 2 (.ro 1 (enc eV noV))) 3 (.ro 1 (enc eLk noK))) 4 (.ro 3 (enc eU8 noS))) 5 (.ro 3 (enc eI noO))) (updO (updO (updO noOb 51 (.live ⟨[.v (.slice none 0 0), .v (.slice none 0 0), .v (.slice none 0 0), .v (.slice none 0 0), .v (.slice none 0 0), .i 0, .i 0, .i 0, .i 0, .i 0], 39, 1⟩)) 51 (.live ⟨[.one, .q eSec (mkSecs 0 0), .q eIL (mkParts 0 0), .q ePnt (mkPts 0), .v (.slice none 0 0), .i (1 + 0 % (2 * (10 * (1 + 0 % 20)))), .i (1 + 0 % 1000), .i (1 + 0 % 1000), .i (1 + 0), .i (0 % 4)], 39, 1⟩)) 51 (.live ⟨[.one, .q eSec (mkSecs 0 0), .q eIL (mkParts 0 0), .q ePnt (mkPts 0), .ro 1 (enc eIL noR), .i (1 + 0 % (2 * (10 * (1 + 0 % 20)))), .i (1 + 0 % 1000), .i (1 + 0 % 1000), .i (1 + 0), .i (0 % 4)], 39, 1⟩)) (lu rfl (lu rfl (lu rfl (lu rfl (lu rfl (lu rfl ln)))))) rfl ?_
 refine seqR ?_
 refine opG rfl (aop_ldB (cells' := [.one, .q eSec (mkSecs 0 0), .q eIL (mkParts 0 0), .q ePnt (mkPts 0), .ro 1 (enc eIL noR), .i (1 + 0 % (2 * (10 * (1 + 0 % 20)))), .i (1 + 0 % 1000), .i (1 + 0 % 1000), .i (1 + 0), .i (0 % 4)]) rfl rfl rfl ag39 sz39 rfl rfl rfl rfl ?_)
 refine mG (.ro 3 (enc eU8 noS)) ?_
 refine mG (.ro 3 (enc eI noO)) ?_
 refine mG (.ro 1 (enc eV noV)) ?_
 refine opG rfl (callW_ (show Fn Try.prog 17 [.agg [.one, .q eSec (mkSecs 0 0), .q eIL (mkParts 0 0), .q ePnt (mkPts 0), .q eIL noR, .one, .one, .one, .one, .one], .q eLk ([] : List Lk), .q eU8 noS, .q eI noO, .q eV noV, .q eB ([] : List Bool), .i 3] (.q eI ([] : List Int)) from (by have h_ := a_Of noV 3 (mkSecs 0 0) (mkParts 0 0) (mkPts 0) noR noS noO [] [] noF_ok (fun x h => by cases h) (by decide) (by decide); rw [no_1] at h_; exact h_)) rfl rfl rfl rfl rfl bd17 (lends_cons (lend_agg (lends_cons (lend_n (av := .one)) (lends_cons (lend_n (av := .q eSec (mkSecs 0 0))) (lends_cons (lend_n (av := .q eIL (mkParts 0 0))) (lends_cons (lend_n (av := .q ePnt (mkPts 0))) (lends_cons (lend_n (av := .ro 1 (enc eIL noR))) (lends_cons (.one _ rfl) (lends_cons (.one _ rfl) (lends_cons (.one _ rfl) (lends_cons (.one _ rfl) (lends_cons (.one _ rfl) lends_nil))))))))))) (lends_cons .nil (lends_cons (lend_n (av := .ro 3 (enc eU8 noS))) (lends_cons (lend_n (av := .ro 3 (enc eI noO))) (lends_cons (lend_n (av := .ro 1 (enc eV noV))) (lends_cons .nil (lends_cons (lend_n (av := .i 3)) lends_nil))))))) ?_)
 refine opG rfl (aop_len rfl rfl rfl rfl ut48 (len_ro rfl) ?_)
 refine bG ((.bool ((([] : List Int).length : Int) == 0))) ?_
 refine mG (.b ((([] : List Int).length : Int) == 0)) ?_
 refine aops_grp 9 35 (.b (((([] : List Int).length : Int) == 0) && (decide (([1] : List Int) = ([1] : List Int))))) ?_ ?_
 ·refine (Bool.eq_false_or_eq_true ((([] : List Int).length : Int) == 0)).elim (fun hg1 => ?_) (fun hg1 => ?_)
  ·skip
   have hf2 := (beq_iff_eq).1 hg1
   refine opY rfl rfl rfl (by show AV.v (.bool ((([] : List Int).length : Int) == 0)) = _; rw [hg1]) (aop_ldB (cells' := [.one, .q eSec (mkSecs 0 0), .q eIL (mkParts 0 0), .q ePnt (mkPts 0), .ro 1 (enc eIL noR), .i (1 + 0 % (2 * (10 * (1 + 0 % 20)))), .i (1 + 0 % 1000), .i (1 + 0 % 1000), .i (1 + 0), .i (0 % 4)]) rfl rfl rfl ag39 sz39 rfl rfl rfl rfl ?_)
   refine opY rfl rfl rfl (by show AV.v (.bool ((([] : List Int).length : Int) == 0)) = _; rw [hg1]) (aop_move (av := .ro 1 (enc eLk noK)) (.inl rfl) rfl rfl rfl ?_)
   refine opY rfl rfl rfl (by show AV.v (.bool ((([] : List Int).length : Int) == 0)) = _; rw [hg1]) (aop_move (av := .ro 3 (enc eU8 noS)) (.inl rfl) rfl rfl rfl ?_)
   refine opY rfl rfl rfl (by show AV.v (.bool ((([] : List Int).length : Int) == 0)) = _; rw [hg1]) (aop_move (av := .ro 3 (enc eI noO)) (.inl rfl) rfl rfl rfl ?_)
   refine opY rfl rfl rfl (by show AV.v (.bool ((([] : List Int).length : Int) == 0)) = _; rw [hg1]) (aop_move (av := .ro 1 (enc eV noV)) (.inl rfl) rfl rfl rfl ?_)
   refine opY rfl rfl rfl (by show AV.v (.bool ((([] : List Int).length : Int) == 0)) = _; rw [hg1]) (callW_ (show Fn Try.prog 17 [.agg [.one, .q eSec (mkSecs 0 0), .q eIL (mkParts 0 0), .q ePnt (mkPts 0), .q eIL noR, .one, .one, .one, .one, .one], .q eLk noK, .q eU8 noS, .q eI noO, .q eV noV, .q eB ([] : List Bool), .i 3] (.q eI ([1] : List Int)) from (by have h_ := a_Of noV 3 (mkSecs 0 0) (mkParts 0 0) (mkPts 0) noR noS noO [] noK noF_ok noK_ok (by decide) (by decide); rw [no_2] at h_; exact h_)) rfl rfl rfl rfl rfl bd17 (lends_cons (lend_agg (lends_cons (lend_n (av := .one)) (lends_cons (lend_n (av := .q eSec (mkSecs 0 0))) (lends_cons (lend_n (av := .q eIL (mkParts 0 0))) (lends_cons (lend_n (av := .q ePnt (mkPts 0))) (lends_cons (lend_n (av := .ro 1 (enc eIL noR))) (lends_cons (.one _ rfl) (lends_cons (.one _ rfl) (lends_cons (.one _ rfl) (lends_cons (.one _ rfl) (lends_cons (.one _ rfl) lends_nil))))))))))) (lends_cons (lend_n (av := .ro 1 (enc eLk noK))) (lends_cons (lend_n (av := .ro 3 (enc eU8 noS))) (lends_cons (lend_n (av := .ro 3 (enc eI noO))) (lends_cons (lend_n (av := .ro 1 (enc eV noV))) (lends_cons .nil (lends_cons (lend_n (av := .i 3)) lends_nil))))))) ?_)
   refine opY rfl rfl rfl (by show AV.v (.bool ((([] : List Int).length : Int) == 0)) = _; rw [hg1]) (aop_lit (cells := enc eI ([1] : List Int)) rfl rfl rfl ut48 iz3 (by decide) (by decide) rfl rfl ?_)
   refine opY rfl rfl rfl (by show AV.v (.bool ((([] : List Int).length : Int) == 0)) = _; rw [hg1]) (call_ (r01_Ints [1] [1] (by decide)) rfl rfl rfl rfl rfl bd16 rfl ?_)
   refine opG rfl (aop_pick (b := ((([] : List Int).length : Int) == 0)) (av := .b (decide (([1] : List Int) = ([1] : List Int)))) rfl rfl rfl rfl ((congrArg (fun b_ => cond b_ _ _) hg1).trans rfl) ?_)
   refine op0 ?_
   exact imp_env (lee_both 35 _ _ (by rw [hg1] <;> rfl) (lee_out 34 _ rfl (lee_out 33 _ rfl (lee_out 32 _ rfl (lee_out 31 _ rfl (lee_out 30 _ rfl (lee_out 29 _ rfl (lee_out 28 _ rfl (lee_out 27 _ rfl (lee_same _))))))))))
  ·skip
   have hf3 := (beq_eq_false_iff_ne).1 hg1
   refine nG hg1 ?_
   refine nG hg1 ?_
   refine nG hg1 ?_
   refine nG hg1 ?_
   refine nG hg1 ?_
   refine nG hg1 ?_
   refine nG hg1 ?_
   refine nG hg1 ?_
   refine opG rfl (aop_pick (b := ((([] : List Int).length : Int) == 0)) (av := .b false) rfl rfl rfl rfl ((congrArg (fun b_ => cond b_ _ _) hg1).trans rfl) ?_)
   refine op0 ?_
   exact imp_env (lee_both 35 _ _ (by rw [hg1] <;> rfl) (lee_out 34 _ rfl (lee_out 33 _ rfl (lee_out 32 _ rfl (lee_out 31 _ rfl (lee_out 30 _ rfl (lee_out 29 _ rfl (lee_out 28 _ rfl (lee_out 27 _ rfl (lee_same _))))))))))
 refine mG (.b (((([] : List Int).length : Int) == 0) && (decide (([1] : List Int) = ([1] : List Int))))) ?_
 refine op0 ?_
 refine rs_ (upd none_ 0 (.b (((([] : List Int).length : Int) == 0) && (decide (([1] : List Int) = ([1] : List Int)))))) (updO (updO (updO noOb 51 (.live ⟨[.v (.slice none 0 0), .v (.slice none 0 0), .v (.slice none 0 0), .v (.slice none 0 0), .v (.slice none 0 0), .i 0, .i 0, .i 0, .i 0, .i 0], 39, 1⟩)) 51 (.live ⟨[.one, .q eSec (mkSecs 0 0), .q eIL (mkParts 0 0), .q ePnt (mkPts 0), .v (.slice none 0 0), .i (1 + 0 % (2 * (10 * (1 + 0 % 20)))), .i (1 + 0 % 1000), .i (1 + 0 % 1000), .i (1 + 0), .i (0 % 4)], 39, 1⟩)) 51 (.live ⟨[.one, .q eSec (mkSecs 0 0), .q eIL (mkParts 0 0), .q ePnt (mkPts 0), .ro 1 (enc eIL noR), .i (1 + 0 % (2 * (10 * (1 + 0 % 20)))), .i (1 + 0 % 1000), .i (1 + 0 % 1000), .i (1 + 0), .i (0 % 4)], 39, 1⟩)) (lu rfl ln) rfl ?_
 refine awp_ret ?_
 exact fret (av := .v (.bool (((([] : List Int).length : Int) == 0) && (decide (([1] : List Int) = ([1] : List Int)))))) rfl rfl (by simp)
end Go.Lo
