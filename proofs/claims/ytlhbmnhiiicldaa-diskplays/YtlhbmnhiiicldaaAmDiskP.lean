import Derived.Test.YtlhbmnhiiicldaaAmDiskR
set_option linter.all false
/- The document's disk: Dump, New; sectors, and all that is on the disk. -/
section
namespace Am.Disk
open Am Go Am.Ir
set_option maxRecDepth 100000

variable {x : AVal} {ws : List (Nat × List UInt8)} {secs : List (List UInt8)} {has off : Bool} {fuse : Int}

theorem flat_len (hs : Whole secs) : secs.flatten.length = secs.length * 256 := by
  induction secs with
  | nil => rfl
  | cons s l ih =>
    rw [List.flatten_cons, List.length_append, ih (fun t ht => hs t (by simp [ht])), hs s (by simp)]; simp; omega

structure RdF' (f : Fr) (d j : Nat) : Prop where
  s1 : f.get 1 = .ptr 0 0 0
  s3 : f.get 3 = .sl 1 j 0 d 1
  s4 : f.get 4 = .int .i64 (j : Int)

theorem take_flat_len (hs : Whole secs) (j : Nat) : (secs.take j).flatten.length ≤ secs.length * 256 := by
  rw [flat_len (fun t ht => hs t (List.mem_of_mem_take ht))]
  have : (secs.take j).length ≤ secs.length := by simp; omega
  exact Nat.mul_le_mul_right _ this

theorem dumpR_loop {O : Orc} {f : Fr} (hs : Whole secs) (hb : secs.length ≤ 512) (hf : RdF' f 0 0) :
    Post (evC O 1000 r04_Dump_s1 f [.live 0 (rc secs x has fuse off), .live 0 []]) fun e f' T => e = .normal ∧ T = [.live 0 (rc secs x has fuse off), .live secs.length (bcells secs.flatten)] ∧ f'.get 3 = .sl 1 secs.length 0 secs.flatten.length 1 := by
  obtain ⟨f', S', h1, h2⟩ := loop_post (O := O) (k := 1000) (id := 0) (b := r04_Dump_l0) (I := fun j f T => T = [.live 0 (rc secs x has fuse off), .live j (bcells (secs.take j).flatten)] ∧ RdF' f (secs.take j).flatten.length j)
    (Q := fun f' T => T = [.live 0 (rc secs x has fuse off), .live secs.length (bcells secs.flatten)] ∧ f'.get 3 = .sl 1 secs.length 0 secs.flatten.length 1) secs.length (by omega)
    (by
      rintro j hj f T ⟨rfl, hf⟩
      obtain ⟨s, hsj, hs2⟩ := hs.get hj
      have hjl : (j : Int) < (secs.length : Int) := by omega
      have hw1 : IntKind.i64.wrap ((j : Int) + 1) = (j : Int) + 1 := wrap64 (by omega) (by omega)
      have hix := svA_ix hsj
      have hfl : (secs.take (j + 1)).flatten = (secs.take j).flatten ++ s := by
        rw [List.take_add_one, hsj]; simp
      have hdl := take_flat_len hs j
      obtain ⟨d, hd⟩ : ∃ d, (secs.take j).flatten = d := ⟨_, rfl⟩
      rw [hd] at hf hdl hfl
      rw [hd, hfl]
      have hbc : ∀ u : List UInt8, u.map (fun b => AVal.int .u8 (b.toNat : Int)) = bcells u := fun u => rfl
      have hap : ∀ B0, appendA 1 1 (.sl 1 j 0 d.length 1) (.str s) [B0, .live j (bcells d)] = some (.sl 1 (j + 1) 0 (d ++ s).length 1, [B0, .live (j + 1) (bcells (d ++ s))]) := fun B0 => by
        have e1 : d.length + s.length ≤ 140737488355328 := by omega
        have e2 : List.take d.length (bcells d) = bcells d := List.take_of_length_le (by rw [bcells_len]; exact Nat.le_refl _)
        simp [appendA, cellsOf, hbc, e1, e2, bcells_append, bcells_len]
      suffices hmid : Post (evC O 1000 r04_Dump_l0 f [.live 0 (rc secs x has fuse off), .live j (bcells d)]) (fun e f' T => e = .normal ∧ T = [.live 0 (rc secs x has fuse off), .live (j + 1) (bcells (d ++ s))] ∧ f'.get 1 = .ptr 0 0 0 ∧ f'.get 3 = .sl 1 (j + 1) 0 (d ++ s).length 1 ∧ f'.get 4 = .int .i64 ((j : Int) + 1)) by
        refine hmid.mono ?_
        rintro e f' T ⟨h1, h2, h3, h4, h5⟩
        exact ⟨h1, h2, ⟨h3, h4, by rw [h5]; simp⟩⟩
      obtain ⟨ds, hds⟩ : ∃ ds, d ++ s = ds := ⟨_, rfl⟩
      rw [hds] at hap ⊢
      simp [r04_Dump_l0, exM, orc, orcD, evF, evC, evOps, evOper, evAny, evOp, evCall, putR, putA, Fr.ev, Fr.of, Fr.get, Fr.set, stable, junkA, junkL, resultsA, resA, same, Fr.get_set, hf.s1, hf.s3, hf.s4, rc, faddrA, loadA, partA, svA_len, binA, intBin, hjl, hix, hap, hw1, Post_some])
    (by
      rintro f T ⟨rfl, hf⟩
      rw [List.take_of_length_le (Nat.le_refl _)] at hf
      rw [List.take_of_length_le (Nat.le_refl _)]
      simp [r04_Dump_l0, exM, orc, orcD, evF, evC, evOps, evOper, evAny, evOp, evCall, putR, putA, Fr.ev, Fr.of, Fr.get, Fr.set, stable, junkA, junkL, resultsA, resA, same, Fr.get_set, hf.s1, hf.s3, hf.s4, rc, faddrA, loadA, partA, svA_len, binA, intBin, Post_some])
    (f := f) (S := [.live 0 (rc secs x has fuse off), .live 0 []]) ⟨rfl, by simpa using hf⟩
  rw [show r04_Dump_s1 = .block 0 (.loop r04_Dump_l0) from rfl, h1]
  exact Post.of rfl ⟨rfl, h2⟩

noncomputable def xDumpR : Model := exM (orc []) r04_Dump 1000
noncomputable def mDumpR : Model := pureM 5 xDumpR

theorem dumpR_ok (h : WtV x ws) (hs : Whole secs) (hb : secs.length ≤ 512) (S : St) : mDumpR [.agg (rc secs x has fuse off)] S = some (.fz false secs.flatten.length (bcells secs.flatten), S) := by
  have hT : xDumpR [.agg (rc secs x has fuse off)] [] = some (.sl 1 secs.length 0 secs.flatten.length 1, [.live 0 (rc secs x has fuse off), .live secs.length (bcells secs.flatten)]) := by
    unfold xDumpR exM
    refine evF_post rfl rfl ?_
    simp only [r04_Dump, r04_Dump_t2, Post_seq]
    simp [exM, orc, orcD, evF, evC, evOps, evOper, evAny, evOp, evCall, putR, putA, Fr.ev, Fr.of, Fr.get, Fr.set, stable, junkA, junkL, resultsA, resA, same, cells_agg, fillA, Post_some]
    refine (dumpR_loop (x := x) (has := has) (fuse := fuse) (off := off) hs hb ⟨rfl, rfl, rfl⟩).mono ?_
    rintro e f T ⟨rfl, rfl, k⟩
    simp [exM, orc, orcD, evF, evC, evOps, evOper, evAny, evOp, evCall, putR, putA, Fr.ev, Fr.of, Fr.get, Fr.set, stable, junkA, junkL, resultsA, resA, same, Fr.get_set, k, Post_some]
  refine pureM_run (by simp [closedL, closedV, rc, svA_closed, h.closed 0]) hT ?_
  rw [deep_sl (cells := bcells secs.flatten) (cs := bcells secs.flatten) (Nat.zero_le _) rfl (by rw [bcells_len]; simp)]
  rw [List.drop_zero, List.take_of_length_le (by rw [bcells_len]; simp)]
  exact deep_bcells _

structure RnF (f : Fr) (n j : Nat) : Prop where
  s0 : f.get 0 = .int .i64 (n : Int)
  s2 : f.get 2 = .ptr 0 0 0
  s4 : f.get 4 = .sl 1 0 0 n 1
  s5 : f.get 5 = .int .i64 (j : Int)

def newR (n j : Nat) : List (List UInt8) := List.replicate j zero256 ++ List.replicate (n - j) []

theorem newR_len {n j : Nat} (h : j ≤ n) : (newR n j).length = n := by simp [newR]; omega
theorem newR_succ {n j : Nat} (h : j < n) : (newR n j).set j zero256 = newR n (j + 1) := by
  obtain ⟨m, rfl⟩ : ∃ m, n = j + (m + 1) := ⟨n - j - 1, by omega⟩
  simp only [newR, Nat.add_sub_cancel_left, show j + (m + 1) - (j + 1) = m by omega]
  rw [List.set_append_right _ _ (by simp)]
  rw [List.length_replicate, Nat.sub_self, List.replicate_succ, List.set_cons_zero, List.replicate_succ']
  simp

theorem newR_loop {O : Orc} {f : Fr} {n : Nat} {B0 : ABlock} (hO : O.loc[0]? = some mBlankR) (hb : n ≤ 512) (hf : RnF f n 0) :
    Post (evC O 1000 r04_New_s1 f [B0, .live 0 (scells (newR n 0))]) fun e f' T => e = .normal ∧ T = [B0, .live 0 (scells (newR n n))] ∧ RnF f' n n := by
  obtain ⟨f', S', h1, h2⟩ := loop_post (O := O) (k := 1000) (id := 0) (b := r04_New_l0) (I := fun j f T => T = [B0, .live 0 (scells (newR n j))] ∧ RnF f n j)
    (Q := fun f' T => T = [B0, .live 0 (scells (newR n n))] ∧ RnF f' n n) n (by omega)
    (by
      rintro j hj f T ⟨rfl, hf⟩
      have hjl : (j : Int) < (n : Int) := by omega
      have hw1 : IntKind.i64.wrap ((j : Int) + 1) = (j : Int) + 1 := wrap64 (by omega) (by omega)
      have hl : (newR n j).length = n := newR_len (by omega)
      have hsl : iaddrSA 1 (.sl 1 0 0 n 1) (.int .i64 (j : Int)) = some (.ptr 1 0 j) := sl_ix (T := []) hj
      have hsp := splice_sc (L := newR n j) (i := j) (by omega) zero256
      rw [newR_succ hj] at hsp
      have hln : j + 1 ≤ (scells (newR n j)).length := by rw [scells_len]; omega
      have hbl := blankR_ok
      obtain ⟨z, hz⟩ : ∃ z, zero256 = z := ⟨_, rfl⟩
      rw [hz] at hsp hbl
      suffices hmid : Post (evC O 1000 r04_New_l0 f [B0, .live 0 (scells (newR n j))]) (fun e f' T => e = .normal ∧ T = [B0, .live 0 (scells (newR n (j + 1)))] ∧ f'.get 0 = .int .i64 (n : Int) ∧ f'.get 2 = .ptr 0 0 0 ∧ f'.get 4 = .sl 1 0 0 n 1 ∧ f'.get 5 = .int .i64 ((j : Int) + 1)) by
        refine hmid.mono ?_
        rintro e f' T ⟨h1, h2, h3, h4, h5, h6⟩
        exact ⟨h1, h2, ⟨h3, h4, h5, by rw [h6]; simp⟩⟩
      simp [r04_New_l0, exM, orc, orcD, evF, evC, evOps, evOper, evAny, evOp, evCall, putR, putA, Fr.ev, Fr.of, Fr.get, Fr.set, stable, junkA, junkL, resultsA, resA, same, Fr.get_set, hf.s0, hf.s2, hf.s4, hf.s5, binA, intBin, hjl, hsl, hO, hbl, storeA, cells?, hsp, hln, hw1, Post_some])
    (by
      rintro f T ⟨rfl, hf⟩
      suffices hmid : Post (evC O 1000 r04_New_l0 f [B0, .live 0 (scells (newR n n))]) (fun e f' T => e = .exit 0 ∧ T = [B0, .live 0 (scells (newR n n))] ∧ f'.get 0 = .int .i64 (n : Int) ∧ f'.get 2 = .ptr 0 0 0 ∧ f'.get 4 = .sl 1 0 0 n 1 ∧ f'.get 5 = .int .i64 (n : Int)) by
        refine hmid.mono ?_
        rintro e f' T ⟨h1, h2, h3, h4, h5, h6⟩
        exact ⟨h1, h2, ⟨h3, h4, h5, h6⟩⟩
      simp [r04_New_l0, exM, orc, orcD, evF, evC, evOps, evOper, evAny, evOp, evCall, putR, putA, Fr.ev, Fr.of, Fr.get, Fr.set, stable, junkA, junkL, resultsA, resA, same, Fr.get_set, hf.s0, hf.s2, hf.s4, hf.s5, binA, intBin, Post_some])
    (f := f) (S := [B0, .live 0 (scells (newR n 0))]) ⟨rfl, hf⟩
  rw [show r04_New_s1 = .block 0 (.loop r04_New_l0) from rfl, h1]
  exact Post.of rfl ⟨rfl, h2⟩

noncomputable def xNewR : Model := exM (orc [mBlankR]) r04_New 1000
noncomputable def mNewR : Model := pureM 5 xNewR

/-- A new disk of the document. -/
def secs0 (n : Nat) : List (List UInt8) := List.replicate n zero256

theorem newRef_ok {n : Nat} (h1 : 16 ≤ n) (h2 : n ≤ 512) (S : St) : mNewR [.int .i64 (n : Int)] S = some (.tup [.agg (rc (secs0 n) .nils false 0 false), .int .i64 0], S) := by
  have a1 : ¬ (n : Int) < 16 := by omega
  have a2 : ¬ (512 : Int) < n := by omega
  have a4 : (n : Int) ≤ 140737488355328 ∧ (n : Int) * 16 ≤ 140737488355328 := by omega
  have hn : newR n n = secs0 n := by simp [newR, secs0]
  have hmk : ∀ B0, mkA 1 16 [.str []] (.int .i64 (n : Int)) (.int .i64 (n : Int)) [B0] = some (.sl 1 0 0 n 1, [B0, .live 0 (scells (newR n 0))]) := fun B0 => by
    have hr : ∀ m : Nat, (List.replicate m [AVal.str []]).flatten = scells (List.replicate m []) := fun m => by
      induction m with
      | zero => rfl
      | succ m ih => rw [List.replicate_succ, List.flatten_cons, ih]; rfl
    have a5 : (0 : Int) ≤ (n : Int) ∧ (n : Int) * 16 ≤ 281474976710656 ∧ (n : Int) ≤ 9223372036854775807 := by omega
    simp only [mkA, newR, List.replicate_zero, List.nil_append, Nat.sub_zero, Int.toNat_natCast, hr]
    rw [if_pos ⟨a5.1, by omega, a5.2.1, a5.2.2, rfl⟩]
    rfl
  have hT : ∃ B0, xNewR [.int .i64 (n : Int)] [] = some (.tup [.agg [.sl 1 0 0 n 1, .nils, .bool false, .int .i64 0, .bool false], .int .i64 0], [B0, .live 0 (scells (secs0 n))]) := by
    suffices hs : Post (evC (orc [mBlankR]) 1000 r04_New.body (Fr.of [.int .i64 (n : Int)]) []) (fun e f S1 => (e = .normal ∨ e = .ret) ∧ resultsA f S1 r04_New.results = some (.tup [.agg [.sl 1 0 0 n 1, .nils, .bool false, .int .i64 0, .bool false], .int .i64 0]) ∧ ∃ B0, S1 = [B0, .live 0 (scells (secs0 n))]) by
      obtain ⟨e, f, S1, g1, g2, g3, B0, rfl⟩ := hs.ex
      refine ⟨B0, ?_⟩
      unfold xNewR exM
      refine evF_post rfl rfl ?_
      exact Post.of g1 ⟨g2, g3, rfl⟩
    simp only [r04_New, r04_New_t2, Post_seq]
    simp [exM, orc, orcD, evF, evC, evOps, evOper, evAny, evOp, evCall, putR, putA, Fr.ev, Fr.of, Fr.get, Fr.set, stable, junkA, junkL, resultsA, resA, same, binA, intBin, a1, a2, hmk, Post_some]
    refine (newR_loop (O := orc [mBlankR]) rfl h2 ⟨rfl, rfl, rfl, rfl⟩).mono ?_
    rintro e f T ⟨rfl, rfl, k⟩
    rw [hn]
    simp [exM, orc, orcD, evF, evC, evOps, evOper, evAny, evOp, evCall, putR, putA, Fr.ev, Fr.of, Fr.get, Fr.set, stable, junkA, junkL, resultsA, resA, same, Fr.get_set, k.s0, k.s2, k.s4, storeA, loadA, partA, cells?, splice, fillA, Post_some]
  obtain ⟨B0, hT⟩ := hT
  refine pureM_run rfl hT ?_
  have hl : (secs0 n).length = n := by simp [secs0]
  have hds : deep [B0, .live 0 (scells (secs0 n))] 0 3 (.sl 1 0 0 n 1) = some (svA (secs0 n)) := by
    rw [deep_sl (cells := scells (secs0 n)) (cs := scells (secs0 n)) (Nat.zero_le _) rfl (by rw [scells_len, hl]; simp)]
    · simp [svA, hl]
    · rw [List.drop_zero, List.take_of_length_le (by rw [scells_len, hl]; simp)]
      exact flats_deep _ _ _ (flat_scells _)
  rw [deep_tup]
  simp [deep_agg, rc, hds, deep_int, deep_bool, deep_nils]

theorem newRef_bad {n : Int} (h : n < 16 ∨ 512 < n) (S : St) : ∃ cs, mNewR [.int .i64 n] S = some (.tup [.agg cs, .int .i64 1], S) ∧ cs.length = 5 := by
  refine ⟨[.nils, .nils, .bool false, .int .i64 0, .bool false], ?_, rfl⟩
  refine pureM_run (T := [.live 0 [.nils, .nils, .bool false, .int .i64 0, .bool false]]) (v := .tup [.agg [.nils, .nils, .bool false, .int .i64 0, .bool false], .int .i64 1]) rfl ?_ rfl
  by_cases h1 : n < 16
  · simp [xNewR, r04_New, exM, orc, orcD, evF, evC, evOps, evOper, evAny, evOp, evCall, putR, putA, Fr.ev, Fr.of, Fr.get, Fr.set, stable, junkA, junkL, resultsA, resA, same, binA, intBin, h1, storeA, cells?, splice, fillA, loadA, partA]
  · have h2 : 512 < n := by omega
    simp [xNewR, r04_New, exM, orc, orcD, evF, evC, evOps, evOper, evAny, evOp, evCall, putR, putA, Fr.ev, Fr.of, Fr.get, Fr.set, stable, junkA, junkL, resultsA, resA, same, binA, intBin, h1, h2, storeA, cells?, splice, fillA, loadA, partA]
end Am.Disk
end

/- The disk and the document's disk, act by act. -/
section
namespace Am.Disk
open Am Go Am.Ir
set_option maxRecDepth 100000

variable {x : AVal} {ws : List (Nat × List UInt8)} {secs : List (List UInt8)} {has off : Bool} {fuse : Int} {S : St} {p ro : Nat} {fw : List Nat} {cs : List AVal} {m : Nat}

theorem flat_split (hs : Whole secs) {i : Nat} {s : List UInt8} (hi : secs[i]? = some s) :
    ∃ P Q, P.length = i * 256 ∧ secs.flatten = P ++ s ++ Q ∧ ∀ t, (secs.set i t).flatten = P ++ t ++ Q := by
  have hil := (List.getElem?_eq_some_iff.1 hi).1
  have hie := (List.getElem?_eq_some_iff.1 hi).2
  refine ⟨(secs.take i).flatten, (secs.drop (i + 1)).flatten, ?_, ?_, fun t => ?_⟩
  · rw [flat_len (fun t ht => hs t (List.mem_of_mem_take ht))]; simp; omega
  · have : secs = secs.take i ++ secs[i] :: secs.drop (i + 1) := by rw [← List.drop_eq_getElem_cons hil, List.take_append_drop]
    rw [hie] at this
    have h2 := congrArg List.flatten this
    simpa using h2
  · rw [List.set_eq_take_append_cons_drop, if_pos hil]; simp

theorem flat_cut (hs : Whole secs) {i : Nat} {s b : List UInt8} (hi : secs[i]? = some s) {c : Nat} (hc : c ≤ 256) (hb : b.length = 256) :
    lay secs.flatten i (b.take c) = (secs.set i (b.take c ++ s.drop c)).flatten := by
  obtain ⟨P, Q, h1, h2, h3⟩ := flat_split hs hi
  have hsl := hs s (List.mem_of_getElem? hi)
  rw [h3, h2, lay, ← h1]
  have hcl : (b.take c).length = c := by simp; omega
  rw [hcl, List.append_assoc P, List.take_left, List.drop_length_add_append, List.drop_append_of_le_length (by omega)]
  simp

theorem flat_set (hs : Whole secs) {i : Nat} {b : List UInt8} (hi : i < secs.length) (hb : b.length = 256) : lay secs.flatten i b = (secs.set i b).flatten := by
  obtain ⟨s, g1, g2⟩ := hs.get hi
  have := flat_cut hs g1 (b := b) (c := 256) (Nat.le_refl _) hb
  rw [List.take_of_length_le (by omega), List.drop_of_length_le (by omega), List.append_nil] at this
  exact this

theorem flat_sec (hs : Whole secs) {i : Nat} {s : List UInt8} (hi : secs[i]? = some s) : (secs.flatten.drop (i * 256)).take 256 = s := by
  obtain ⟨P, Q, h1, h2, h3⟩ := flat_split hs hi
  have hsl := hs s (List.mem_of_getElem? hi)
  rw [h2, ← h1, List.append_assoc, List.drop_left, ← hsl, List.take_left]

theorem rot_mid (P s Q mk : List UInt8) (hm : mk.length ≤ s.length) : ∀ j, rotS P.length (P ++ s ++ Q) (mk.take j) = P ++ xorR s (mk.take j) ++ Q := by
  intro j
  induction j with
  | zero => rfl
  | succ j ih =>
    cases h : mk[j]? with
    | none =>
      have hl := List.getElem?_eq_none_iff.1 h
      rw [List.take_of_length_le (by omega)]
      rw [List.take_of_length_le hl] at ih; exact ih
    | some y =>
      have hjl := (List.getElem?_eq_some_iff.1 h).1
      rw [rotS_succ _ _ _ h, ih, xorR_succ _ _ h]
      have hl := xorR_len s (mk.take j)
      obtain ⟨t, ht⟩ : ∃ t, xorR s (mk.take j) = t := ⟨_, rfl⟩
      rw [ht] at hl ⊢
      have h1 : (P ++ t ++ Q).getD (P.length + j) 0 = t.getD j 0 := by
        simp only [List.getD, List.append_assoc]
        rw [List.getElem?_append_right (by omega), Nat.add_sub_cancel_left, List.getElem?_append_left (by omega)]
      rw [h1, List.append_assoc, List.set_append_right _ _ (by omega), Nat.add_sub_cancel_left, List.set_append_left _ _ (by omega), List.append_assoc]

theorem flat_rot (hs : Whole secs) {i : Nat} {s mk : List UInt8} (hi : secs[i]? = some s) (hm : mk.length ≤ 256) : rotS (i * 256) secs.flatten mk = (secs.set i (xorR s mk)).flatten := by
  obtain ⟨P, Q, h1, h2, h3⟩ := flat_split hs hi
  have hsl := hs s (List.mem_of_getElem? hi)
  have := rot_mid P s Q mk (by omega) mk.length
  rw [List.take_of_length_le (Nat.le_refl _)] at this
  rw [h3, h2, ← h1, this]

theorem flat_flush (hs : Whole secs) (hw : WsOk secs.length ws) : ∀ j, flushS secs.flatten (ws.take j) = (flushR secs (ws.take j)).flatten ∧ Whole (flushR secs (ws.take j)) := by
  intro j
  induction j with
  | zero => exact ⟨rfl, hs⟩
  | succ j ih =>
    cases h : ws[j]? with
    | none =>
      have hl := List.getElem?_eq_none_iff.1 h
      rw [List.take_of_length_le (by omega)]
      rw [List.take_of_length_le hl] at ih; exact ih
    | some w =>
      obtain ⟨h1, h2⟩ := hw w (List.mem_of_getElem? h)
      have hl := flushR_len (ws.take j) secs
      rw [flushR_succ _ h]
      refine ⟨?_, ih.2.set _ h2⟩
      rw [← flat_set ih.2 (by rw [hl]; exact h1) h2, ← ih.1, take_succ h]
      simp [flushS]

theorem flat_crash (K : List Int) (hs : Whole secs) (hw : WsOk secs.length ws) : ∀ j, crashS K secs.flatten (ws.take j) = (crashR K secs (ws.take j)).flatten := by
  intro j
  induction j with
  | zero => rfl
  | succ j ih =>
    cases h : ws[j]? with
    | none =>
      have hl := List.getElem?_eq_none_iff.1 h
      rw [List.take_of_length_le (by omega)]
      rw [List.take_of_length_le hl] at ih; exact ih
    | some w =>
      obtain ⟨h1, h2⟩ := hw w (List.mem_of_getElem? h)
      obtain ⟨hl, hwh⟩ := crashR_whole K hs hw j
      obtain ⟨s, g1, g2⟩ := hwh.get (i := w.1) (by rw [hl]; exact h1)
      rw [crashR_succ _ _ _ h, crashS_succ _ _ _ h, ih]
      have := flat_cut hwh g1 (b := w.2) (cutN_le K j) h2
      rw [this]; simp [List.getD, g1]

/-- Behind the last number nothing takes hold. -/
theorem crash_more (K : List Int) (on : List UInt8) {n : Nat} (hn : on.length = n * 256) (hw : WsOk n ws) : ∀ d, crashS K on (ws.take (min ws.length K.length + d)) = crashS K on (ws.take (min ws.length K.length)) := by
  intro d
  induction d with
  | zero => rfl
  | succ d ih =>
    cases h : ws[min ws.length K.length + d]? with
    | none =>
      have hl := List.getElem?_eq_none_iff.1 h
      rw [← ih, List.take_of_length_le (l := ws) (by omega), List.take_of_length_le hl]
    | some w =>
      have hl := (List.getElem?_eq_some_iff.1 h).1
      rw [← Nat.add_assoc, crashS_succ _ _ _ h, ih]
      obtain ⟨h1, h2⟩ := hw w (List.mem_of_getElem? h)
      have hc : cutN K (min ws.length K.length + d) = 0 := by
        unfold cutN
        rw [List.getElem?_eq_none (by omega)]
      rw [hc]
      simp [lay]

theorem crash_all (K : List Int) (on : List UInt8) {n : Nat} (hn : on.length = n * 256) (hw : WsOk n ws) : crashS K on ws = crashS K on (ws.take (min ws.length K.length)) := by
  rw [← crash_more K on hn hw ws.length, List.take_of_length_le (by omega)]

/-- What is left of a fuse. -/
def FuseR (lets : Int) (has : Bool) (fuse : Int) : Prop := (has = false ∧ lets = -1) ∨ (has = true ∧ lets = fuse ∧ 0 ≤ fuse ∧ fuse ≤ 9223372036854775807)

/-- The disk, and the document's. -/
structure BothI (S : St) (p ro : Nat) (fw : List Nat) (cs : List AVal) (m : Nat) (n : Nat) (secs : List (List UInt8)) (ws : List (Nat × List UInt8)) (off : Bool) : Prop where
  ex : ∃ cw lets x has fuse, DiskI S p ro cw fw secs.flatten ws lets off ∧ cs = rc secs x has fuse off ∧ WtV x ws ∧ FuseR lets has fuse
  wh : Whole secs
  ln : secs.length = n
  lo : 16 ≤ n
  hi : n ≤ 512
  wo : WsOk n ws
  wl : ws.length ≤ m

variable {n : Nat}

theorem BothI.keep {S' : St} {K : List Nat} (h : BothI S p ro fw cs m n secs ws off) (hk : Keeps S S' K) (hn : ∀ r ∈ p :: ro :: fw, r ∉ K) : BothI S' p ro fw cs m n secs ws off := by
  obtain ⟨cw, lets, x, has, fuse, h1, h2⟩ := h.ex
  exact ⟨⟨cw, lets, x, has, fuse, h1.keep hk hn, h2⟩, h.wh, h.ln, h.lo, h.hi, h.wo, h.wl⟩

theorem BothI.lt (h : BothI S p ro fw cs m n secs ws off) : ∀ r ∈ p :: ro :: fw, r < S.length := by
  obtain ⟨cw, lets, x, has, fuse, h1, h2⟩ := h.ex
  exact h1.lt

/-- Both do the same. -/
structure Same (S T : St) (p ro : Nat) (fw : List Nat) (cs : List AVal) (m n : Nat) : Prop where
  ex : ∃ fw' secs ws off, BothI T p ro fw' cs (m + 1) n secs ws off ∧ (∀ r ∈ fw', r ∈ fw ∨ S.length ≤ r)
  keep : Keeps S T (p :: ro :: fw)

theorem letsN_fuse {lets : Int} (h : FuseR lets has fuse) (h0 : lets ≠ 0) : ∃ fuse', FuseR (letsN lets) has fuse' ∧
    ∀ {x ws}, WtV x ws → ∀ (secs : List (List UInt8)) (off : Bool) (S : St), mSpendR [.agg (rc secs x has fuse off)] S = some (.tup [.agg (rc secs x has fuse' off), .bool true], S) := by
  rcases h with ⟨rfl, rfl⟩ | ⟨rfl, rfl, h1, h2⟩
  · exact ⟨fuse, .inl ⟨rfl, rfl⟩, fun hx secs off S => spendR_not hx S⟩
  · refine ⟨lets - 1, .inr ⟨rfl, by unfold letsN; rw [if_pos (by omega)], by omega, by omega⟩, fun hx secs off S => spendR_has hx h0 (wrap64 (by omega) (by omega)) S⟩
end Am.Disk
end

/- The disk and the document's disk, act by act: what is written, flushed, crashed, rotten, fused, read. -/
section
namespace Am.Disk
open Am Go Am.Ir
set_option maxRecDepth 100000

variable {x : AVal} {ws : List (Nat × List UInt8)} {secs : List (List UInt8)} {has off : Bool} {fuse : Int} {S : St} {p ro : Nat} {fw : List Nat} {cs : List AVal} {m n : Nat}

theorem Same.rfl' (h : BothI S p ro fw cs m n secs ws off) : Same S S p ro fw cs m n :=
  ⟨⟨fw, secs, ws, off, ⟨h.ex, h.wh, h.ln, h.lo, h.hi, h.wo, Nat.le_succ_of_le h.wl⟩, fun r hr => .inl hr⟩, Keeps.refl S _⟩

theorem _root_.Am.Keeps.more {S T : St} {K K' : List Nat} (h : Keeps S T K) (hk : ∀ r ∈ K, r ∈ K') : Keeps S T K' := ⟨h.1, fun r hr hn => h.2 r hr (fun hm => hn (hk r hm))⟩

theorem lets0 {lets : Int} (h : FuseR lets has fuse) (h0 : lets = 0) : has = true ∧ fuse = 0 := by
  rcases h with ⟨_, h1⟩ | ⟨h1, h2, _⟩
  · omega
  · exact ⟨h1, by omega⟩

theorem lets_le {lets : Int} (h : FuseR lets has fuse) : lets ≤ 9223372036854775807 := by
  rcases h with ⟨_, h1⟩ | ⟨_, h2, _, h4⟩ <;> omega

theorem act_write (h : BothI S p ro fw cs m n secs ws off) (hm : m ≤ 800) (i : Int) {own : AVal} {u : List UInt8} (hx : isSl own = true) (hu : ∀ S' : St, (∀ r, r ≠ p → S'[r]? = S[r]?) → cellsOf 1 own S' = some (u.length, bcells u))
    (hl : lenA .sl own = some (.int .i64 (u.length : Int))) :
    ∃ e T cs', yWrite [.ptr p 0 0, .int .i64 i, own] S = some (.int .i64 e, T) ∧ (∀ U, mPutR [.agg cs, .int .i64 i, .fz false u.length (bcells u)] U = some (.tup [.agg cs', .int .i64 e], U)) ∧ Same S T p ro fw cs' m n := by
  obtain ⟨cw, lets, x, has, fuse, hD, rfl, hW, hF⟩ := h.ex
  have hn : secs.flatten.length = n * 256 := by rw [flat_len h.wh, h.ln]
  have hln := h.ln
  have hhi := h.hi
  have hwl := h.wl
  cases off with
  | true => exact ⟨8, S, _, write_off hD i own, fun U => putR_off hW i (fzb_closed false u 0) rfl U, Same.rfl' h⟩
  | false =>
    by_cases hbad : ¬ (0 ≤ i ∧ i < n) ∨ u.length ≠ 256
    · exact ⟨1, S, _, write_arg hD hn hhi i own u.length hl hbad, fun U => putR_arg hW i (fzb_closed false u 0) rfl (by rw [hln]; exact hbad) U, Same.rfl' h⟩
    · obtain ⟨hi, hul⟩ : (0 ≤ i ∧ i < n) ∧ u.length = 256 := by
        constructor
        · exact Classical.byContradiction fun hc => hbad (.inl hc)
        · exact Classical.byContradiction fun hc => hbad (.inr hc)
      obtain ⟨k, rfl⟩ : ∃ k : Nat, i = k := ⟨i.toNat, by omega⟩
      have hl' : lenA .sl own = some (.int .i64 256) := by rw [hl, hul]; rfl
      by_cases h0 : lets = 0
      · obtain ⟨rfl, rfl⟩ := lets0 hF h0
        subst h0
        refine ⟨8, _, _, write_fuse hD hn hhi k (by omega) own hl', fun U => putR_fuse hW k (fzb_closed false u 0) (by rw [hul]; rfl) (by omega) (by omega) U, ⟨⟨fw, secs, ws, true, ⟨⟨cw, 0, x, true, 0, hD.setp 0 true, rfl, hW, hF⟩, h.wh, h.ln, h.lo, h.hi, h.wo, by omega⟩, fun r hr => .inl hr⟩, ?_⟩⟩
        exact (Keeps.set S p _).more (by simp)
      · obtain ⟨fuse', hF', hsp⟩ := letsN_fuse hF h0
        obtain ⟨T, cw', fw', k1, k2, k3, k4⟩ := write_ok hD hn hhi k (by omega) hx hu hl' hul h0 (lets_le hF) (by omega)
        refine ⟨0, T, _, k1, fun U => putR_ok hW hul (by omega) (by omega) (fun S => hsp hW secs false S) U, ⟨⟨fw', secs, ws ++ [(k, u)], false, ⟨⟨cw', letsN lets, _, has, fuse', k2, rfl, .inr rfl, hF'⟩, h.wh, h.ln, h.lo, h.hi, ?_, by simp; omega⟩, k4⟩, k3.more ?_⟩⟩
        · intro w hw
          rcases List.mem_append.1 hw with hw | hw
          · exact h.wo w hw
          · simp at hw; subst hw; exact ⟨by omega, hul⟩
        · intro r hr
          simp only [List.mem_cons] at hr ⊢
          rcases hr with hr | hr
          · exact .inl hr
          · exact .inr (.inr hr)

theorem act_flush (h : BothI S p ro fw cs m n secs ws off) (hm : m ≤ 800) :
    ∃ e T cs', xFlush [.ptr p 0 0] S = some (.int .i64 e, T) ∧ (∀ U, mFlushR [.agg cs] U = some (.tup [.agg cs', .int .i64 e], U)) ∧ Same S T p ro fw cs' m n := by
  obtain ⟨cw, lets, x, has, fuse, hD, rfl, hW, hF⟩ := h.ex
  have hn : secs.flatten.length = n * 256 := by rw [flat_len h.wh, h.ln]
  have hln := h.ln
  have hhi := h.hi
  have hwl := h.wl
  have hwo := h.wo
  cases off with
  | true => exact ⟨8, S, _, flush_off hD, fun U => flushR_off hW U, Same.rfl' h⟩
  | false =>
    by_cases h0 : lets = 0
    · obtain ⟨rfl, rfl⟩ := lets0 hF h0
      subst h0
      refine ⟨8, _, _, flush_fuse hD, fun U => flushR_fuse hW U, ⟨⟨fw, secs, ws, true, ⟨⟨cw, 0, x, true, 0, hD.setp 0 true, rfl, hW, hF⟩, h.wh, h.ln, h.lo, h.hi, h.wo, by omega⟩, fun r hr => .inl hr⟩, ?_⟩⟩
      exact (Keeps.set S p _).more (by simp)
    · obtain ⟨fuse', hF', hsp⟩ := letsN_fuse hF h0
      obtain ⟨T, k1, k2, k3⟩ := flush_ok hD hn hhi hwo (by omega) h0 (lets_le hF)
      obtain ⟨g1, g2⟩ := flat_flush h.wh (by rw [hln]; exact hwo) ws.length
      rw [List.take_of_length_le (Nat.le_refl _)] at g1 g2
      rw [g1] at k2
      refine ⟨0, T, _, k1, fun U => flushR_ok hW (fun w hw => by rw [hln]; exact (hwo w hw).1) (by omega) (by omega) (fun S => hsp hW secs false S) U,
        ⟨⟨[], flushR secs ws, [], false, ⟨⟨.nils, letsN lets, .nils, has, fuse', k2, rfl, .inl ⟨rfl, rfl⟩, hF'⟩, g2, by rw [flushR_len, hln], h.lo, h.hi, fun w hw => by simp at hw, by simp⟩, fun r hr => by simp at hr⟩, k3.more (by simp)⟩⟩

theorem act_crash (h : BothI S p ro fw cs m n secs ws off) (hm : m ≤ 800) {k : AVal} {K : List Int} (hk : IntV k K) :
    ∃ T cs', xCrash [.ptr p 0 0, k] S = some (.tup [], T) ∧ (∀ U, mCrashR [.agg cs, k] U = some (.agg cs', U)) ∧ Same S T p ro fw cs' m n := by
  obtain ⟨cw, lets, x, has, fuse, hD, rfl, hW, hF⟩ := h.ex
  have hn : secs.flatten.length = n * 256 := by rw [flat_len h.wh, h.ln]
  have hln := h.ln
  have hhi := h.hi
  have hwl := h.wl
  have hwo := h.wo
  obtain ⟨T, k1, k2, k3⟩ := crash_ok hD hk.ints hn hhi hwo (by omega)
  obtain ⟨g1, g2⟩ := crashR_whole K h.wh (by rw [hln]; exact hwo) (min ws.length K.length)
  have g3 := flat_crash K h.wh (ws := ws) (by rw [hln]; exact hwo) (min ws.length K.length)
  rw [crash_all K _ hn hwo, g3] at k2
  exact ⟨T, _, k1, fun U => crashR_ok hW hk.ints (hk.closed 0) h.wh (by rw [hln]; exact hwo) (by omega) (by omega) U,
    ⟨⟨[], crashR K secs (ws.take (min ws.length K.length)), [], false, ⟨⟨.nils, -1, .nils, false, 0, k2, rfl, .inl ⟨rfl, rfl⟩, .inl ⟨rfl, rfl⟩⟩, g2, by rw [g1, hln], h.lo, h.hi, fun w hw => by simp at hw, by simp⟩, fun r hr => by simp at hr⟩, k3.more (by simp)⟩⟩

theorem act_rot (h : BothI S p ro fw cs m n secs ws off) (hm : m ≤ 800) (i : Int) {b : AVal} {u : List UInt8} (hb : ByteV b u) :
    ∃ e T cs', xRot [.ptr p 0 0, .int .i64 i, b] S = some (.int .i64 e, T) ∧ (∀ U, mRotR [.agg cs, .int .i64 i, b] U = some (.tup [.agg cs', .int .i64 e], U)) ∧ Same S T p ro fw cs' m n := by
  obtain ⟨cw, lets, x, has, fuse, hD, rfl, hW, hF⟩ := h.ex
  have hn : secs.flatten.length = n * 256 := by rw [flat_len h.wh, h.ln]
  have hln := h.ln
  have hhi := h.hi
  have hwl := h.wl
  by_cases hbad : ¬ (0 ≤ i ∧ i < n) ∨ 256 < u.length
  · exact ⟨1, S, _, rot_arg hD hn hhi i b u.length hb.len hbad, fun U => rotR_arg hW i (hb.closed 0) hb.len (by rw [hln]; exact hbad) U, Same.rfl' h⟩
  · obtain ⟨hi, hul⟩ : (0 ≤ i ∧ i < n) ∧ u.length ≤ 256 := by
      constructor
      · exact Classical.byContradiction fun hc => hbad (.inl hc)
      · exact Nat.le_of_not_lt fun hc => hbad (.inr hc)
    obtain ⟨k, rfl⟩ : ∃ k : Nat, i = k := ⟨i.toNat, by omega⟩
    obtain ⟨s, s1, s2⟩ := h.wh.get (i := k) (by omega)
    obtain ⟨T, k1, k2, k3⟩ := rot_ok hD hn hhi (i := k) (by omega) hb.bytes hul
    rw [flat_rot h.wh s1 hul] at k2
    exact ⟨0, T, _, k1, fun U => rotR_ok hW (hb.closed 0) hb.bytes hul s1 s2 (by omega) U,
      ⟨⟨fw, secs.set k (xorR s u), ws, off, ⟨⟨cw, lets, x, has, fuse, k2, rfl, hW, hF⟩, h.wh.set _ (by rw [xorR_len, s2]), by simp [hln], h.lo, h.hi, h.wo, by omega⟩, fun r hr => .inl hr⟩, k3.more (by simp)⟩⟩

theorem act_fuse (h : BothI S p ro fw cs m n secs ws off) (f : Int) (hf : f ≤ 9223372036854775807) :
    ∃ T cs', xFuse [.ptr p 0 0, .int .i64 f] S = some (.tup [], T) ∧ (∀ U, mFuseR [.agg cs, .int .i64 f] U = some (.agg cs', U)) ∧ Same S T p ro fw cs' m n := by
  obtain ⟨cw, lets, x, has, fuse, hD, rfl, hW, hF⟩ := h.ex
  exact ⟨_, _, fuse_ok hD f, fun U => fuseR_ok hW f U,
    ⟨⟨fw, secs, ws, off, ⟨⟨cw, max f 0, x, true, max f 0, hD.setp _ _, rfl, hW, .inr ⟨rfl, rfl, by omega, by omega⟩⟩, h.wh, h.ln, h.lo, h.hi, h.wo, Nat.le_succ_of_le h.wl⟩, fun r hr => .inl hr⟩, (Keeps.set S p _).more (by simp)⟩⟩

/-- What a read hands out: nothing, or a block of its own. -/
def OwnV (S T : St) (x : AVal) (u : List UInt8) : Prop := (x = .nils ∧ u = []) ∨ ∃ q v, x = .sl q v 0 u.length 1 ∧ S.length ≤ q ∧ T[q]? = some (.live v (bcells u))

theorem act_read (h : BothI S p ro fw cs m n secs ws off) (hm : m ≤ 800) (i : Int) :
    ∃ e T x y u, yReadR [.ptr p 0 0, .int .i64 i] S = some (.tup [x, .int .i64 e], T) ∧ (∀ U, mReadRef [.agg cs, .int .i64 i] U = some (.tup [y, .int .i64 e], U)) ∧ OwnV S T x u ∧ ByteV y u ∧ u.length ≤ 256 ∧ Keeps S T [] := by
  obtain ⟨cw, lets, x, has, fuse, hD, rfl, hW, hF⟩ := h.ex
  have hn : secs.flatten.length = n * 256 := by rw [flat_len h.wh, h.ln]
  have hln := h.ln
  have hhi := h.hi
  have hwl := h.wl
  cases off with
  | true =>
    obtain ⟨T, k1, k2⟩ := readR_off hD i
    exact ⟨8, T, .nils, .nils, [], k1, fun U => readRef_off hW i U, .inl ⟨rfl, rfl⟩, .inl ⟨rfl, rfl⟩, by simp, k2⟩
  | false =>
    by_cases hbad : 0 ≤ i ∧ i < n
    · obtain ⟨k, rfl⟩ : ∃ k : Nat, i = k := ⟨i.toNat, by omega⟩
      obtain ⟨s, s1, s2⟩ := h.wh.get (i := k) (by omega)
      obtain ⟨T, q, k1, k2, k3, k4⟩ := readR_ok hD hn hhi h.wo (by omega) (i := k) (by omega)
      have hrl := readS_len hn h.wo (i := k) (by omega)
      have hcur : curR s ws k = readS secs.flatten ws k := by
        simp only [curR, readS, flat_sec h.wh s1]
        cases newestS ws k <;> rfl
      have hrd := fun U => readRef_ok (has := has) (fuse := fuse) hW s1 (by omega) U
      rw [hcur] at hrd
      exact ⟨0, T, _, _, readS secs.flatten ws k, k1, hrd, .inr ⟨q, 1, by rw [hrl], k2, k3⟩, .inr rfl, by omega, k4⟩
    · obtain ⟨T, k1, k2⟩ := readR_arg hD hn hhi i hbad
      exact ⟨1, T, .nils, .nils, [], k1, fun U => readRef_arg hW i (by rw [hln]; exact hbad) U, .inl ⟨rfl, rfl⟩, .inl ⟨rfl, rfl⟩, by simp, k2⟩

theorem act_dump (h : BothI S p ro fw cs m n secs ws off) : yDump [.ptr p 0 0] S = some (.fz false secs.flatten.length (bcells secs.flatten), S) ∧ (∀ U, mDumpR [.agg cs] U = some (.fz false secs.flatten.length (bcells secs.flatten), U)) := by
  obtain ⟨cw, lets, x, has, fuse, hD, rfl, hW, hF⟩ := h.ex
  have hn : secs.flatten.length = n * 256 := by rw [flat_len h.wh, h.ln]
  have hln := h.ln
  have hhi := h.hi
  exact ⟨dump_ok hD (by omega), fun U => dumpR_ok hW h.wh (by omega) U⟩

theorem act_len (h : BothI S p ro fw cs m n secs ws off) : xLen [.ptr p 0 0] S = some (.int .i64 n, S) ∧ xWaits [.ptr p 0 0] S = some (.int .i64 ws.length, S) := by
  obtain ⟨cw, lets, x, has, fuse, hD, rfl, hW, hF⟩ := h.ex
  have hn : secs.flatten.length = n * 256 := by rw [flat_len h.wh, h.ln]
  exact ⟨len_ok hD hn h.hi, waits_ok hD⟩
end Am.Disk
end

/- Put over any heap, told in place; the sector that an act writes, in a block of its own. -/
section
namespace Am.Disk
open Am Go Am.Ir
set_option maxRecDepth 100000

variable {x : AVal} {ws : List (Nat × List UInt8)} {secs : List (List UInt8)} {has off : Bool} {fuse : Int} {S : St}

noncomputable def xPutT : Model := exM (orc [mSpendR]) r04_Put 10
noncomputable def mPutT : Model := tellM 5 xPutT

theorem rc_deepn (h : WtV x ws) (secs : List (List UInt8)) (has : Bool) (fuse : Int) (off : Bool) (T : St) (n k : Nat) : Am.deep T n (k + 3) (.agg (rc secs x has fuse off)) = some (.agg (rc secs x has fuse off)) := by
  rw [deep_agg]
  simp [rc, svA_deep, h.deep, deep_int, deep_bool]

theorem g0 (a : ABlock) (E : St) : (S ++ a :: E)[S.length]? = some a := by simp
theorem g1 (a b : ABlock) (E : St) : (S ++ a :: b :: E)[S.length + 1]? = some b := by simp
theorem g2 (a b c : ABlock) (E : St) : (S ++ a :: b :: c :: E)[S.length + 2]? = some c := by simp
theorem g3 (a b c d : ABlock) (E : St) : (S ++ a :: b :: c :: d :: E)[S.length + 3]? = some d := by simp
theorem s0 (a a' : ABlock) (E : St) : (S ++ a :: E).set S.length a' = S ++ a' :: E := by simp
theorem s1 (a b b' : ABlock) (E : St) : (S ++ a :: b :: E).set (S.length + 1) b' = S ++ a :: b' :: E := by simp [List.set_append]
theorem s2 (a b c c' : ABlock) (E : St) : (S ++ a :: b :: c :: E).set (S.length + 2) c' = S ++ a :: b :: c' :: E := by simp [List.set_append]

theorem putT_off (h : WtV x ws) (i : Int) (b : AVal) : mPutT [.agg (rc secs x has fuse true), .int .i64 i, b] S = some (.tup [.agg (rc secs x has fuse true), .int .i64 8], S) := by
  have hd := rc_deepn h secs has fuse true
  refine tellM_new (T := ?_) (v := .tup [.agg (rc secs x has fuse true), .int .i64 8]) ?_ (by rw [deep_tup]; simp [hd _ _ 1, deep_int])
  rotate_left
  · simp [xPutT, exM, r04_Put, exM, orc, orcD, evF, evC, evOps, evOper, evAny, evOp, evCall, putR, putA, Fr.ev, Fr.of, Fr.get, Fr.set, stable, junkA, junkL, resultsA, resA, same, cells_agg, rc, faddrA, storeA, loadA, partA, cells?, splice, g0, g1, s0, s1]
    rfl

theorem putT_arg (h : WtV x ws) (i : Int) {b : AVal} {m : Nat} (hl : lenA .sl b = some (.int .i64 (m : Int))) (hbad : ¬ (0 ≤ i ∧ i < (secs.length : Int)) ∨ m ≠ 256) :
    mPutT [.agg (rc secs x has fuse false), .int .i64 i, b] S = some (.tup [.agg (rc secs x has fuse false), .int .i64 1], S) := by
  have hd := rc_deepn h secs has fuse false
  refine tellM_new (T := [.live 0 (rc secs x has fuse false), .live 0 (rc secs x has fuse false)]) (v := .tup [.agg (rc secs x has fuse false), .int .i64 1]) ?_ (by rw [deep_tup]; simp [hd _ _ 1, deep_int])
  by_cases h1 : i < 0
  · simp [xPutT, exM, r04_Put, exM, orc, orcD, evF, evC, evOps, evOper, evAny, evOp, evCall, putR, putA, Fr.ev, Fr.of, Fr.get, Fr.set, stable, junkA, junkL, resultsA, resA, same, cells_agg, rc, faddrA, storeA, loadA, partA, cells?, splice, binA, intBin, h1, g0, g1, s0, s1]
  · by_cases h2 : (secs.length : Int) ≤ i
    · simp [xPutT, exM, r04_Put, exM, orc, orcD, evF, evC, evOps, evOper, evAny, evOp, evCall, putR, putA, Fr.ev, Fr.of, Fr.get, Fr.set, stable, junkA, junkL, resultsA, resA, same, cells_agg, rc, faddrA, storeA, loadA, partA, cells?, splice, binA, intBin, svA_len, h1, h2, g0, g1, s0, s1]
    · have h3 : ¬ ((m : Int) = 256) := by omega
      simp [xPutT, exM, r04_Put, exM, orc, orcD, evF, evC, evOps, evOper, evAny, evOp, evCall, putR, putA, Fr.ev, Fr.of, Fr.get, Fr.set, stable, junkA, junkL, resultsA, resA, same, cells_agg, rc, faddrA, storeA, loadA, partA, cells?, splice, binA, intBin, svA_len, hl, h1, h2, h3, g0, g1, s0, s1]

theorem putT_fuse (h : WtV x ws) (i : Int) {b : AVal} (hl : lenA .sl b = some (.int .i64 256)) (h1 : 0 ≤ i) (h2 : i < (secs.length : Int)) :
    mPutT [.agg (rc secs x true 0 false), .int .i64 i, b] S = some (.tup [.agg (rc secs x true 0 true), .int .i64 8], S) := by
  have hd := rc_deepn h secs true 0 true
  have hsp := fun S => spendR_no (secs := secs) (off := false) h S
  simp only [rc] at hsp
  have h1' : ¬ i < 0 := by omega
  have h2' : ¬ (secs.length : Int) ≤ i := by omega
  refine tellM_new (T := ?_) (v := .tup [.agg (rc secs x true 0 true), .int .i64 8]) ?_ (by rw [deep_tup]; simp [hd _ _ 1, deep_int])
  rotate_left
  · simp [xPutT, exM, r04_Put, exM, orc, orcD, evF, evC, evOps, evOper, evAny, evOp, evCall, putR, putA, Fr.ev, Fr.of, Fr.get, Fr.set, stable, junkA, junkL, resultsA, resA, same, cells_agg, rc, faddrA, storeA, loadA, partA, cells?, splice, binA, intBin, svA_len, hl, h1', h2', hsp, unA, g0, g1, s0, s1]
    rfl

theorem putT_ok (h : WtV x ws) {i : Nat} {u : List UInt8} {b : AVal} (hl : lenA .sl b = some (.int .i64 256)) (hby : ∀ E : St, bytesA b (S ++ E) = some u) (h2 : i < secs.length) (hw : ws.length ≤ 900) {fuse' : Int}
    (hsp : ∀ S, mSpendR [.agg (rc secs x has fuse false)] S = some (.tup [.agg (rc secs x has fuse' false), .bool true], S)) :
    mPutT [.agg (rc secs x has fuse false), .int .i64 i, b] S = some (.tup [.agg (rc secs (.fz false (ws ++ [(i, u)]).length (wcR (ws ++ [(i, u)]))) has fuse' false), .int .i64 0], S) := by
  simp only [rc] at hsp
  have h1' : ¬ (i : Int) < 0 := by omega
  have h2' : ¬ (secs.length : Int) ≤ i := by omega
  have hc := fun T => h.cells T
  have hw1 : List.take (ws.length * 2) (wcR ws) = wcR ws := List.take_of_length_le (by rw [wcR_len]; exact Nat.le_refl _)
  have hap1 : ∀ B0 B1, appendA 2 24 (.sl (S.length + 2) 0 0 0 2) x (S ++ [B0, B1, .live 0 []]) = some (.sl (S.length + 2) 1 0 ws.length 2, S ++ [B0, B1, .live 1 (wcR ws)]) := fun B0 B1 => by
    have e3 : ws.length * 24 ≤ 140737488355328 := by omega
    simp [appendA, hc, e3, g2, s2]
  have hap2 : ∀ B0 B1, appendA 2 24 (.sl (S.length + 2) 1 0 ws.length 2) (.sl (S.length + 3) 0 0 1 2) (S ++ [B0, B1, .live 1 (wcR ws), .live 0 [.int .i64 (i : Int), .str u]]) = some (.sl (S.length + 2) 2 0 (ws.length + 1) 2, S ++ [B0, B1, .live 2 (wcR (ws ++ [(i, u)])), .live 0 [.int .i64 (i : Int), .str u]]) := fun B0 B1 => by
    have e3 : (ws.length + 1) * 24 ≤ 140737488355328 := by omega
    have e4 : wcR (ws ++ [(i, u)]) = wcR ws ++ [.int .i64 (i : Int), .str u] := by rw [wcR_append]; rfl
    simp [appendA, cellsOf, wcR_len, hw1, e3, e4, g2, g3, s2]
  have hT : ∃ B0 B1 B3, xPutT [.agg (rc secs x has fuse false), .int .i64 i, b] S = some (.tup [.agg [svA secs, .sl (S.length + 2) 2 0 (ws.length + 1) 2, .bool has, .int .i64 fuse', .bool false], .int .i64 0], S ++ [B0, B1, .live 2 (wcR (ws ++ [(i, u)])), B3]) := by
    simp [xPutT, exM, r04_Put, exM, orc, orcD, evF, evC, evOps, evOper, evAny, evOp, evCall, putR, putA, Fr.ev, Fr.of, Fr.get, Fr.set, stable, junkA, junkL, resultsA, resA, same, cells_agg, rc, faddrA, storeA, loadA, partA, cells?, splice, binA, intBin, svA_len, hl, h1', h2', hsp, unA, fillA, hap1, hap2, hby, g0, g1, s0, s1]
  obtain ⟨B0, B1, B3, hT⟩ := hT
  refine tellM_new hT ?_
  have hsl : deep (S ++ [B0, B1, .live 2 (wcR (ws ++ [(i, u)])), B3]) S.length 3 (.sl (S.length + 2) 2 0 (ws.length + 1) 2) = some (.fz false (ws ++ [(i, u)]).length (wcR (ws ++ [(i, u)]))) := by
    rw [deep_sl (cells := wcR (ws ++ [(i, u)])) (cs := wcR (ws ++ [(i, u)])) (by omega) (g2 ..) (by rw [wcR_len]; simp)]
    · simp
    · rw [List.drop_zero, List.take_of_length_le (by rw [wcR_len]; simp)]
      exact flats_deep _ _ _ (flat_wcR _)
  rw [deep_tup]
  simp [deep_agg, rc, svA_deep, hsl, deep_int, deep_bool]
end Am.Disk
end

/- The sector that an act writes, in a block of its own; a write, with the document's. -/
section
namespace Am.Disk
open Am Go Am.Ir
set_option maxRecDepth 100000

variable {S : St}

noncomputable def xLsector : Model := exM (orc []) disk_lsector 1000

theorem lsector_raw (a : ActV) (hu : a.u.length ≤ 300) (S : St) : ∃ T v, xLsector [.agg a.cells] S = some (.sl (S.length + 1) v 0 (padS a.raw a.u).length 1, T) ∧ LsI S T a.cells v (padS a.raw a.u) := by
  obtain ⟨m, hm⟩ : ∃ m, (if a.raw = true then 0 else 256 - a.u.length) = m := ⟨_, rfl⟩
  have hpad : padS a.raw a.u = a.u ++ List.replicate m (a.u.getLastD 0) := by
    unfold padS; rw [← hm]; split <;> simp
  obtain ⟨T0, hT0⟩ : ∃ T0 : St, (S ++ [.live 0 a.cells, .live 1 (bcells a.u)]) = T0 := ⟨_, rfl⟩
  have hI0 : LsI S T0 a.cells 1 a.u := by subst hT0; exact ⟨fun r hr => get_old hr, by simp, by simp⟩
  have hloop : ∀ f : Fr, LsF f S.length 1 a.u.length → Post (evC (orc []) 1000 disk_lsector_s1 f T0) fun e f' T => e = .normal ∧ ∃ v, LsI S T a.cells v (padS a.raw a.u) ∧ LsF f' S.length v (padS a.raw a.u).length := by
    intro f hf
    obtain ⟨f', S', h1, h2⟩ := loop_post (O := orc []) (k := 1000) (id := 0) (b := disk_lsector_l0) (I := fun j f T => LsI S T a.cells (1 + j) (a.u ++ List.replicate j (a.u.getLastD 0)) ∧ LsF f S.length (1 + j) (a.u.length + j))
      (Q := fun f' T => ∃ v, LsI S T a.cells v (padS a.raw a.u) ∧ LsF f' S.length v (padS a.raw a.u).length) m (by split at hm <;> omega)
      (by
        rintro j hj f T ⟨g1, g2⟩
        have hr : a.raw = false := by
          cases hr : a.raw with
          | false => rfl
          | true => rw [hr] at hm; simp at hm; omega
        have hlen : (a.u ++ List.replicate j (a.u.getLastD 0)).length = a.u.length + j := by simp
        rw [hr] at hm; simp at hm
        refine (ls_round g1 hr (by rw [hlen]; omega) (by rw [hlen]; exact g2)).mono ?_
        rintro e f' T' ⟨rfl, k1, k2⟩
        rw [pad_step, List.append_assoc, ← List.replicate_succ'] at k1
        rw [hlen] at k2
        exact ⟨rfl, k1, k2⟩)
      (by
        rintro f T ⟨g1, g2⟩
        rw [← hpad] at g1
        have hlen : a.u.length + m = (padS a.raw a.u).length := by rw [hpad]; simp
        rw [hlen] at g2
        cases hr : a.raw with
        | true =>
          rw [hr] at g1 g2
          suffices hmid : Post (evC (orc []) 1000 disk_lsector_l0 f T) (fun e f' T' => e = .exit 0 ∧ f'.get 1 = .ptr S.length 0 0 ∧ f'.get 3 = .sl (S.length + 1) (1 + m) 0 (padS true a.u).length 1 ∧ T' = T) by
            refine hmid.mono ?_
            rintro e f' T' ⟨h1, h2, h3, rfl⟩
            exact ⟨h1, _, g1, ⟨h2, h3⟩⟩
          simp [disk_lsector_l0, exM, orc, orcD, evF, evC, evOps, evOper, evAny, evOp, evCall, putR, putA, Fr.ev, Fr.of, Fr.get, Fr.set, stable, junkA, junkL, resultsA, resA, same, Fr.get_set, g2.s1, g2.s3, faddrA, loadA, g1.b0, partA_none, ActV.cells, hr, unA, Post_some]
        | false =>
          rw [hr] at g1 g2 hlen
          rw [hr] at hm; simp at hm
          have hlss : binA .lss (.int .i64 ((padS false a.u).length : Int)) (.int .i64 256) = some (.bool false) := by simp [binA, intBin]; omega
          suffices hmid : Post (evC (orc []) 1000 disk_lsector_l0 f T) (fun e f' T' => e = .exit 0 ∧ f'.get 1 = .ptr S.length 0 0 ∧ f'.get 3 = .sl (S.length + 1) (1 + m) 0 (padS false a.u).length 1 ∧ T' = T) by
            refine hmid.mono ?_
            rintro e f' T' ⟨h1, h2, h3, rfl⟩
            exact ⟨h1, _, g1, ⟨h2, h3⟩⟩
          simp [disk_lsector_l0, exM, orc, orcD, evF, evC, evOps, evOper, evAny, evOp, evCall, putR, putA, Fr.ev, Fr.of, Fr.get, Fr.set, stable, junkA, junkL, resultsA, resA, same, Fr.get_set, g2.s1, g2.s3, faddrA, loadA, g1.b0, partA_none, ActV.cells, hr, unA, lenA, hlss, Post_some])
      (f := f) (S := T0) ⟨by simpa using hI0, by simpa using hf⟩
    rw [show disk_lsector_s1 = .block 0 (.loop disk_lsector_l0) from rfl, h1]
    exact Post.of rfl ⟨rfl, h2⟩
  suffices hs : Post (evC (orc []) 1000 disk_lsector.body (Fr.of [.agg a.cells]) S) (fun e f S1 => (e = .normal ∨ e = .ret) ∧ ∃ v, resultsA f S1 disk_lsector.results = some (.sl (S.length + 1) v 0 (padS a.raw a.u).length 1) ∧ LsI S S1 a.cells v (padS a.raw a.u)) by
    obtain ⟨e, f, S1, g1, g2, v, g3, g4⟩ := hs.ex
    refine ⟨S1, v, ?_, g4⟩
    unfold xLsector exM
    refine evF_post rfl rfl ?_
    exact Post.of g1 ⟨g2, g3, rfl⟩
  have hT0' : ∀ c : List AVal, c = a.cells → (S ++ [ABlock.live 0 c, .live 1 (bcells a.u)]) = T0 := by rintro c rfl; exact hT0
  have hcl := a.hb.cells (S ++ [.live 0 a.cells, .live 0 []])
  have hby : a.u.length ≤ 140737488355328 := by omega
  have hap : appendA 1 1 (.sl (S.length + 1) 0 0 0 1) a.b (S ++ [.live 0 a.cells, .live 0 []]) = some (.sl (S.length + 1) 1 0 a.u.length 1, T0) := by
    rw [← hT0]; simp [appendA, hcl, hby]
  simp only [disk_lsector, disk_lsector_t2, Post_seq]
  have hcs : cells? (.agg a.cells) = some a.cells := rfl
  have hb0 : ∀ E : St, (S ++ ABlock.live 0 a.cells :: E)[S.length]? = some (.live 0 a.cells) := fun E => by simp
  have hc2 : a.cells[2]? = some a.b := rfl
  simp [exM, orc, orcD, evF, evC, evOps, evOper, evAny, evOp, evCall, putR, putA, Fr.ev, Fr.of, Fr.get, Fr.set, stable, junkA, junkL, resultsA, resA, same, hcs, fillA, faddrA, loadA, hb0, hc2, partA_none, hap, Post_some]
  refine (hloop _ ⟨by simp [Fr.get], by simp [Fr.get]⟩).mono ?_
  rintro e f' T ⟨rfl, v, k1, k2⟩
  simp [exM, orc, orcD, evF, evC, evOps, evOper, evAny, evOp, evCall, putR, putA, Fr.ev, Fr.of, Fr.get, Fr.set, stable, junkA, junkL, resultsA, resA, same, Fr.get_set, k2.s3, Post_some]
  exact k1

variable {ws : List (Nat × List UInt8)} {secs : List (List UInt8)} {off : Bool} {p ro : Nat} {fw : List Nat} {cs : List AVal} {m n : Nat}

theorem act_writeT (h : BothI S p ro fw cs m n secs ws off) (hm : m ≤ 800) (i : Int) {own : AVal} {u : List UInt8} (hx : isSl own = true) (hu : ∀ S' : St, (∀ r, r ≠ p → S'[r]? = S[r]?) → cellsOf 1 own S' = some (u.length, bcells u))
    (hl : lenA .sl own = some (.int .i64 (u.length : Int))) :
   
    ∃ e T cs', yWrite [.ptr p 0 0, .int .i64 i, own] S = some (.int .i64 e, T) ∧ (∀ U b, lenA .sl b = some (.int .i64 (u.length : Int)) → (∀ E : St, bytesA b (U ++ E) = some u) → mPutT [.agg cs, .int .i64 i, b] U = some (.tup [.agg cs', .int .i64 e], U)) ∧ Same S T p ro fw cs' m n := by
  obtain ⟨cw, lets, x, has, fuse, hD, rfl, hW, hF⟩ := h.ex
  have hn : secs.flatten.length = n * 256 := by rw [flat_len h.wh, h.ln]
  have hln := h.ln
  have hhi := h.hi
  have hwl := h.wl
  cases off with
  | true => exact ⟨8, S, _, write_off hD i own, fun U b _ _ => putT_off hW i b, Same.rfl' h⟩
  | false =>
    by_cases hbad : ¬ (0 ≤ i ∧ i < n) ∨ u.length ≠ 256
    · exact ⟨1, S, _, write_arg hD hn hhi i own u.length hl hbad, fun U b hb _ => putT_arg hW i hb (by rw [hln]; exact hbad), Same.rfl' h⟩
    · obtain ⟨hi, hul⟩ : (0 ≤ i ∧ i < n) ∧ u.length = 256 := by
        constructor
        · exact Classical.byContradiction fun hc => hbad (.inl hc)
        · exact Classical.byContradiction fun hc => hbad (.inr hc)
      obtain ⟨k, rfl⟩ : ∃ k : Nat, i = k := ⟨i.toNat, by omega⟩
      have hl' : lenA .sl own = some (.int .i64 256) := by rw [hl, hul]; rfl
      by_cases h0 : lets = 0
      · obtain ⟨rfl, rfl⟩ := lets0 hF h0
        subst h0
        refine ⟨8, _, _, write_fuse hD hn hhi k (by omega) own hl', fun U b hb _ => putT_fuse hW k (by rw [hb, hul]; rfl) (by omega) (by omega), ⟨⟨fw, secs, ws, true, ⟨⟨cw, 0, x, true, 0, hD.setp 0 true, rfl, hW, hF⟩, h.wh, h.ln, h.lo, h.hi, h.wo, by omega⟩, fun r hr => .inl hr⟩, ?_⟩⟩
        exact (Keeps.set S p _).more (by simp)
      · obtain ⟨fuse', hF', hsp⟩ := letsN_fuse hF h0
        obtain ⟨T, cw', fw', k1, k2, k3, k4⟩ := write_ok hD hn hhi k (by omega) hx hu hl' hul h0 (lets_le hF) (by omega)
        refine ⟨0, T, _, k1, fun U b hb hby => putT_ok hW (by rw [hb, hul]; rfl) hby (by omega) (by omega) (fun S => hsp hW secs false S), ⟨⟨fw', secs, ws ++ [(k, u)], false, ⟨⟨cw', letsN lets, _, has, fuse', k2, rfl, .inr rfl, hF'⟩, h.wh, h.ln, h.lo, h.hi, ?_, by simp; omega⟩, k4⟩, k3.more ?_⟩⟩
        · intro w hw
          rcases List.mem_append.1 hw with hw | hw
          · exact h.wo w hw
          · simp at hw; subst hw; exact ⟨by omega, hul⟩
        · intro r hr
          simp only [List.mem_cons] at hr ⊢
          rcases hr with hr | hr
          · exact .inl hr
          · exact .inr (.inr hr)

end Am.Disk
end

/- 'do': an act on the disk, and on the document's; the loops that write on what was handed over. -/
section
namespace Am.Disk
open Am Go Am.Ir
set_option maxRecDepth 100000

variable {x : AVal} {ws : List (Nat × List UInt8)} {secs : List (List UInt8)} {has off : Bool} {fuse : Int} {S : St} {p ro : Nat} {fw : List Nat} {cs : List AVal} {m n : Nat}

noncomputable def oDo : Orc := orc [xLsector, yWrite, mPutT, xFlush, mFlushR, xCrash, mCrashR, xRot, mRotR, xFuse, mFuseR, yReadR, mReadRef, xWaits]

/-- The slots of 'do'. -/
structure DoF (f : Fr) (p n0 : Nat) (e1 e2 : Int) (X Y : AVal) : Prop where
  s0 : f.get 0 = .ptr p 0 0
  s4 : f.get 4 = .ptr n0 0 0
  s5 : f.get 5 = .ptr (n0 + 1) 0 0
  s6 : f.get 6 = .ptr (n0 + 2) 0 0
  s8 : f.get 8 = .int .i64 e1
  s9 : f.get 9 = .int .i64 e2
  s10 : f.get 10 = X
  s11 : f.get 11 = Y

/-- A slice in a block of its own, or none. -/
def Own (T : St) (X : AVal) (u : List UInt8) (q : Nat) : Prop := (X = .nils ∧ u = []) ∨ ∃ v, X = .sl q v 0 u.length 1 ∧ T[q]? = some (.live v (bcells u))

theorem set_byte {T : St} {q v : Nat} {u : List UInt8} (hq : T[q]? = some (.live v (bcells u))) {j : Nat} (hj : j < u.length) (c : UInt8) :
    storeA 1 (.ptr q v j) (.int .u8 (c.toNat : Int)) T = some (T.set q (.live v (bcells (u.set j c)))) := by
  have h1 : splice (bcells u) j [.int .u8 (c.toNat : Int)] = bcells (u.set j c) := by
    rw [splice_one (by rw [bcells_len]; exact hj)]; simp [bcells, List.map_set]
  have h2 : j + 1 ≤ (bcells u).length := by rw [bcells_len]; omega
  simp [storeA, cells?, hq, h1, h2]

theorem own_loop {O : Orc} {f : Fr} {T : St} {p n0 : Nat} {e1 e2 : Int} {X Y : AVal} {q v : Nat} {u : List UInt8} (hf : DoF f p n0 e1 e2 X Y) (h12 : f.get 12 = .sl q v 0 u.length 1) (h13 : f.get 13 = .int .i64 0) (hq : T[q]? = some (.live v (bcells u))) (hu : u.length ≤ 600) :
    Post (evC O 1000 disk_do_s1 f T) fun e f' T' => e = .normal ∧ DoF f' p n0 e1 e2 X Y ∧ Keeps T T' [q] := by
  obtain ⟨f', S', h1, h2⟩ := loop_post (O := O) (k := 1000) (id := 1) (b := disk_do_l0) (I := fun j f T' => DoF f p n0 e1 e2 X Y ∧ f.get 12 = .sl q v 0 u.length 1 ∧ f.get 13 = .int .i64 (j : Int) ∧ Keeps T T' [q] ∧ ∃ u', u'.length = u.length ∧ T'[q]? = some (.live v (bcells u')))
    (Q := fun f' T' => DoF f' p n0 e1 e2 X Y ∧ Keeps T T' [q]) u.length (by omega)
    (by
      rintro j hj f T1 ⟨hf, g12, g13, hk, u', hl, hq'⟩
      have hjl : (j : Int) < (u.length : Int) := by omega
      have hw1 : IntKind.i64.wrap ((j : Int) + 1) = (j : Int) + 1 := wrap64 (by omega) (by omega)
      have hsl : iaddrSA 1 (.sl q v 0 u.length 1) (.int .i64 (j : Int)) = some (.ptr q v j) := sl_ix (T := []) hj
      have hst : storeA 1 (.ptr q v j) (.int .u8 7) T1 = _ := set_byte hq' (by omega) 7
      obtain ⟨T2, hT2⟩ : ∃ T2 : St, T1.set q (.live v (bcells (u'.set j 7))) = T2 := ⟨_, rfl⟩
      rw [hT2] at hst
      have hk2 : Keeps T1 T2 [q] := by rw [← hT2]; exact Keeps.set T1 q _
      have hq2 : T2[q]? = some (.live v (bcells (u'.set j 7))) := by rw [← hT2, set_get (get_lt hq')]
      suffices hmid : Post (evC O 1000 disk_do_l0 f T1) (fun e f' T' => e = .normal ∧ T' = T2 ∧ f'.get 0 = .ptr p 0 0 ∧ f'.get 4 = .ptr n0 0 0 ∧ f'.get 5 = .ptr (n0 + 1) 0 0 ∧ f'.get 6 = .ptr (n0 + 2) 0 0 ∧ f'.get 8 = .int .i64 e1 ∧ f'.get 9 = .int .i64 e2 ∧ f'.get 10 = X ∧ f'.get 11 = Y ∧ f'.get 12 = .sl q v 0 u.length 1 ∧ f'.get 13 = .int .i64 ((j : Int) + 1)) by
        refine hmid.mono ?_
        rintro e f' T' ⟨rfl, rfl, a0, a4, a5, a6, a8, a9, a10, a11, a12, a13⟩
        exact ⟨rfl, ⟨a0, a4, a5, a6, a8, a9, a10, a11⟩, a12, by rw [a13]; simp, hk.trans hk2 (fun r hr => .inl hr), _, by simp [hl], hq2⟩
      simp [disk_do_l0, exM, orc, orcD, evF, evC, evOps, evOper, evAny, evOp, evCall, putR, putA, Fr.ev, Fr.of, Fr.get, Fr.set, stable, junkA, junkL, resultsA, resA, same, Fr.get_set, hf.s0, hf.s4, hf.s5, hf.s6, hf.s8, hf.s9, hf.s10, hf.s11, g12, g13, lenA, binA, intBin, hjl, hsl, hst, hw1, Post_some])
    (by
      rintro f T1 ⟨hf, g12, g13, hk, _⟩
      suffices hmid : Post (evC O 1000 disk_do_l0 f T1) (fun e f' T' => e = .exit 1 ∧ T' = T1 ∧ f'.get 0 = .ptr p 0 0 ∧ f'.get 4 = .ptr n0 0 0 ∧ f'.get 5 = .ptr (n0 + 1) 0 0 ∧ f'.get 6 = .ptr (n0 + 2) 0 0 ∧ f'.get 8 = .int .i64 e1 ∧ f'.get 9 = .int .i64 e2 ∧ f'.get 10 = X ∧ f'.get 11 = Y) by
        refine hmid.mono ?_
        rintro e f' T' ⟨rfl, rfl, a0, a4, a5, a6, a8, a9, a10, a11⟩
        exact ⟨rfl, ⟨a0, a4, a5, a6, a8, a9, a10, a11⟩, hk⟩
      simp [disk_do_l0, exM, orc, orcD, evF, evC, evOps, evOper, evAny, evOp, evCall, putR, putA, Fr.ev, Fr.of, Fr.get, Fr.set, stable, junkA, junkL, resultsA, resA, same, Fr.get_set, hf.s0, hf.s4, hf.s5, hf.s6, hf.s8, hf.s9, hf.s10, hf.s11, g12, g13, lenA, binA, intBin, Post_some])
    (f := f) (S := T) ⟨hf, h12, h13, Keeps.refl T _, u, rfl, hq⟩
  rw [show disk_do_s1 = .block 1 (.loop disk_do_l0) from rfl, h1]
  exact Post.of rfl ⟨rfl, h2⟩

theorem read_loop {O : Orc} {f : Fr} {T : St} {p n0 : Nat} {e1 e2 : Int} {X Y : AVal} {q : Nat} {u : List UInt8} (hf : DoF f p n0 e1 e2 X Y) (h14 : f.get 14 = .bool true) (h15 : f.get 15 = .int .i64 0) (hq : Own T X u q) (hu : u.length ≤ 600) :
    Post (evC O 1000 disk_do_s5 f T) fun e f' T' => e = .normal ∧ DoF f' p n0 e1 e2 X Y ∧ f'.get 14 = .bool true ∧ Keeps T T' [q] := by
  rcases hq with ⟨rfl, rfl⟩ | ⟨v, rfl, hq⟩
  · have hl : evC O 1000 disk_do_s5 f T = evC O 1000 (.block 3 (.loop disk_do_l4)) f T := rfl
    obtain ⟨f', S', h1, h2⟩ := loop_post (O := O) (k := 1000) (id := 3) (b := disk_do_l4) (I := fun j f T' => DoF f p n0 e1 e2 .nils Y ∧ f.get 14 = .bool true ∧ f.get 15 = .int .i64 (j : Int) ∧ T' = T)
      (Q := fun f' T' => DoF f' p n0 e1 e2 .nils Y ∧ f'.get 14 = .bool true ∧ Keeps T T' [q]) 0 (by omega)
      (by intro j hj; omega)
      (by
        rintro f T1 ⟨hf, g14, g15, rfl⟩
        suffices hmid : Post (evC O 1000 disk_do_l4 f T1) (fun e f' T' => e = .exit 3 ∧ T' = T1 ∧ f'.get 0 = .ptr p 0 0 ∧ f'.get 4 = .ptr n0 0 0 ∧ f'.get 5 = .ptr (n0 + 1) 0 0 ∧ f'.get 6 = .ptr (n0 + 2) 0 0 ∧ f'.get 8 = .int .i64 e1 ∧ f'.get 9 = .int .i64 e2 ∧ f'.get 10 = .nils ∧ f'.get 11 = Y ∧ f'.get 14 = .bool true) by
          refine hmid.mono ?_
          rintro e f' T' ⟨rfl, rfl, a0, a4, a5, a6, a8, a9, a10, a11, a14⟩
          exact ⟨rfl, ⟨a0, a4, a5, a6, a8, a9, a10, a11⟩, a14, Keeps.refl _ _⟩
        simp [disk_do_l4, exM, orc, orcD, evF, evC, evOps, evOper, evAny, evOp, evCall, putR, putA, Fr.ev, Fr.of, Fr.get, Fr.set, stable, junkA, junkL, resultsA, resA, same, Fr.get_set, hf.s0, hf.s4, hf.s5, hf.s6, hf.s8, hf.s9, hf.s10, hf.s11, g14, g15, lenA, binA, intBin, Post_some])
      (f := f) (S := T) ⟨hf, h14, h15, rfl⟩
    rw [hl, h1]
    exact Post.of rfl ⟨rfl, h2⟩
  obtain ⟨f', S', h1, h2⟩ := loop_post (O := O) (k := 1000) (id := 3) (b := disk_do_l4) (I := fun j f T' => DoF f p n0 e1 e2 (.sl q v 0 u.length 1) Y ∧ f.get 14 = .bool true ∧ f.get 15 = .int .i64 (j : Int) ∧ Keeps T T' [q] ∧ ∃ u', u'.length = u.length ∧ T'[q]? = some (.live v (bcells u')))
    (Q := fun f' T' => DoF f' p n0 e1 e2 (.sl q v 0 u.length 1) Y ∧ f'.get 14 = .bool true ∧ Keeps T T' [q]) u.length (by omega)
    (by
      rintro j hj f T1 ⟨hf, g14, g15, hk, u', hl, hq'⟩
      have hjl : (j : Int) < (u.length : Int) := by omega
      have hw1 : IntKind.i64.wrap ((j : Int) + 1) = (j : Int) + 1 := wrap64 (by omega) (by omega)
      have hsl : iaddrSA 1 (.sl q v 0 u.length 1) (.int .i64 (j : Int)) = some (.ptr q v j) := sl_ix (T := []) hj
      have hst : storeA 1 (.ptr q v j) (.int .u8 3) T1 = _ := set_byte hq' (by omega) 3
      obtain ⟨T2, hT2⟩ : ∃ T2 : St, T1.set q (.live v (bcells (u'.set j 3))) = T2 := ⟨_, rfl⟩
      rw [hT2] at hst
      have hk2 : Keeps T1 T2 [q] := by rw [← hT2]; exact Keeps.set T1 q _
      have hq2 : T2[q]? = some (.live v (bcells (u'.set j 3))) := by rw [← hT2, set_get (get_lt hq')]
      suffices hmid : Post (evC O 1000 disk_do_l4 f T1) (fun e f' T' => e = .normal ∧ T' = T2 ∧ f'.get 0 = .ptr p 0 0 ∧ f'.get 4 = .ptr n0 0 0 ∧ f'.get 5 = .ptr (n0 + 1) 0 0 ∧ f'.get 6 = .ptr (n0 + 2) 0 0 ∧ f'.get 8 = .int .i64 e1 ∧ f'.get 9 = .int .i64 e2 ∧ f'.get 10 = .sl q v 0 u.length 1 ∧ f'.get 11 = Y ∧ f'.get 14 = .bool true ∧ f'.get 15 = .int .i64 ((j : Int) + 1)) by
        refine hmid.mono ?_
        rintro e f' T' ⟨rfl, rfl, a0, a4, a5, a6, a8, a9, a10, a11, a14, a15⟩
        exact ⟨rfl, ⟨a0, a4, a5, a6, a8, a9, a10, a11⟩, a14, by rw [a15]; simp, hk.trans hk2 (fun r hr => .inl hr), _, by simp [hl], hq2⟩
      simp [disk_do_l4, exM, orc, orcD, evF, evC, evOps, evOper, evAny, evOp, evCall, putR, putA, Fr.ev, Fr.of, Fr.get, Fr.set, stable, junkA, junkL, resultsA, resA, same, Fr.get_set, hf.s0, hf.s4, hf.s5, hf.s6, hf.s8, hf.s9, hf.s10, hf.s11, g14, g15, lenA, binA, intBin, hjl, hsl, hst, hw1, Post_some])
    (by
      rintro f T1 ⟨hf, g14, g15, hk, _⟩
      suffices hmid : Post (evC O 1000 disk_do_l4 f T1) (fun e f' T' => e = .exit 3 ∧ T' = T1 ∧ f'.get 0 = .ptr p 0 0 ∧ f'.get 4 = .ptr n0 0 0 ∧ f'.get 5 = .ptr (n0 + 1) 0 0 ∧ f'.get 6 = .ptr (n0 + 2) 0 0 ∧ f'.get 8 = .int .i64 e1 ∧ f'.get 9 = .int .i64 e2 ∧ f'.get 10 = .sl q v 0 u.length 1 ∧ f'.get 11 = Y ∧ f'.get 14 = .bool true) by
        refine hmid.mono ?_
        rintro e f' T' ⟨rfl, rfl, a0, a4, a5, a6, a8, a9, a10, a11, a14⟩
        exact ⟨rfl, ⟨a0, a4, a5, a6, a8, a9, a10, a11⟩, a14, hk⟩
      simp [disk_do_l4, exM, orc, orcD, evF, evC, evOps, evOper, evAny, evOp, evCall, putR, putA, Fr.ev, Fr.of, Fr.get, Fr.set, stable, junkA, junkL, resultsA, resA, same, Fr.get_set, hf.s0, hf.s4, hf.s5, hf.s6, hf.s8, hf.s9, hf.s10, hf.s11, g14, g15, lenA, binA, intBin, Post_some])
    (f := f) (S := T) ⟨hf, h14, h15, Keeps.refl T _, u, rfl, hq⟩
  rw [show disk_do_s5 = .block 3 (.loop disk_do_l4) from rfl, h1]
  exact Post.of rfl ⟨rfl, h2⟩
end Am.Disk
end

