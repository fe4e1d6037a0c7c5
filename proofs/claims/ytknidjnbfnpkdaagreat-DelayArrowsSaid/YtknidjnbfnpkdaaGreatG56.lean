/- flow.Walker.Targets. -/
import Derived.Test.YtknidjnbfnpkdaaGreatG52
namespace Go.Proofs.YtknidjnbfnpkdaaGreat
set_option linter.unusedVariables false
set_option linter.unusedSimpArgs false
open Go.RowKit
set_option maxRecDepth 100000
attribute [local go_sem] List.set_cons_zero List.set_cons_succ List.map_cons List.map_nil List.take_succ_cons List.take_zero List.drop_zero List.drop_succ_cons C.pl C.one List.all_cons List.all_nil Bool.and_true Nat.mul_one Int.toNat_natCast

def tgR (r : List Ar) (e : Int) : List Nat := (r.filter fun a => a.1 == e).map fun a => a.2.toNat
/-- the targets of the arcs with the event e of the states of F -/
def tg (R : List (List Ar)) (F : List Nat) (e : Int) : List Nat := F.flatMap fun s => tgR (R.getD s []) e
theorem mem_tgR {r : List Ar} {e : Int} {u : Nat} : u ∈ tgR r e ↔ ∃ a ∈ r, a.1 = e ∧ a.2.toNat = u := by
  unfold tgR
  rw [List.mem_map]
  constructor
  · rintro ⟨a, ha, rfl⟩
    have := List.mem_filter.1 ha
    exact ⟨a, this.1, by simpa using this.2, rfl⟩
  · rintro ⟨a, ha, he, rfl⟩
    exact ⟨a, List.mem_filter.2 ⟨ha, by simpa using he⟩, rfl⟩
theorem mem_tg {R : List (List Ar)} {F : List Nat} {e : Int} {u : Nat} : u ∈ tg R F e ↔ ∃ s ∈ F, u ∈ tgR (R.getD s []) e := by unfold tg; rw [List.mem_flatMap]
def noE (_ : Nat) : List Nat := []
theorem rc_no {u v : Nat} (h : Rc noE u v) : v = u := by
  cases h with
  | refl => rfl
  | tail _ he => simp [noE] at he
set_option maxHeartbeats 8000000 in
theorem wtargets_fc (R : List (List Ar)) (F : List Nat) (e : Int) (hlo : looB R = true) (hn : R.length ≤ 1000000) (hr : ∀ r ∈ R, r.length ≤ 1000000) (hF : ∀ v ∈ F, v < R.length) (hFl : F.length ≤ 1000000) (seen : List Int) (rd : Int) (hs : seen.length = R.length) (hb : ∀ x ∈ seen, x ≤ rd) (h0 : 0 ≤ rd) (h1 : rd ≤ 1000000000) :
    FC Tryz.prog 26 [.a (.c (.p 0 0)), .a (.c (.t 1 (tInts (F.map Int.ofNat)))), .i e] [wkO R 1 rd, .r ⟨3, 1, true, cInts seen⟩] (fun r o => ∃ seen' : List Int, seen'.length = R.length ∧ (∀ x ∈ seen', x ≤ rd + 1) ∧ ∃ p : Nat → Bool, (∀ u, u < R.length → (p u = true ↔ u ∈ tg R F e)) ∧ o = [wkO R 1 (rd + 1), .r ⟨3, 1, true, cInts seen'⟩, .r ⟨3, 1, true, cInts ((ordN R.length p).map Int.ofNat)⟩] ∧ r = .a (.c (.s 2 (ordN R.length p).length))) := by
  refine fc_intro Tryz.func26 rfl (by rw [Tryz.ntmps26]; simp) ?_
  rw [Tryz.ntmps26]
  simp only [enum, wkO]
  have hbd := (of_decide_eq_true hlo).2.2.2
  have hFl2 : (F.map Int.ofNat).length = F.length := by simp
  (repeat (first | (refine aw_seq ?_; intro K hK) | refine aw_block ?_ | refine aw_region ?_ | (refine lst_x rfl rfl ?_; intro K1 hK1; simp only [go_sem, ST.put, setC, A0.cells, tInts_len, hFl2]; (first | refine hK1 _ ?_ | refine andk (hK1 _ ?_)); clear hK1 K1) | ((first | refine lst_nil ?_ | refine aw_skip ?_); refine hK _ ?_; clear hK K)))
  refine aw_le (le_nil 7 3 1 ?_) ?_
  · simp only [go_sem]
  refine aw_loop (fun x : Nat × List Int × List Nat => { tm := [(0, .a (.c (.p 0 0))), (2, .i e), (7, .a (.c (.s 2 x.2.2.length))), (19, .a (.c (.t 1 (tInts (F.map Int.ofNat))))), (20, .i F.length), (21, .i x.1)], hp := [.r ⟨66, 3, false, [.t 1 (tRows R), .s 1 R.length, .v (.int .i64 (rd + 1))]⟩, .r ⟨3, 1, true, cInts x.2.1⟩, .r ⟨3, 1, true, cInts (x.2.2.map Int.ofNat)⟩], n := 78, pin := 2 }) (fun x => x.1 ≤ F.length ∧ Fw noE R.length (tg R F e) (rd + 1) x.2.1 x.2.2 ∧ ∀ v ∈ tg R (F.take x.1) e, v ∈ x.2.2) (fun x => F.length - x.1) (0, seen, []) ?_ ?_ ?_
  · exact ⟨by simp, Fw.start hs (fun x hx => by have := hb x hx; omega), by simp [tg]⟩
  · (refine le_tm ?_; simp only [LeTm, go_sem]; try simp)
  · rintro ⟨k, sn, out⟩ ⟨hk, hW, hT⟩ K hK
    simp only at hk hW hT
    have hsl := hW.len
    have hol := hW.le
    by_cases hlt : k < F.length
    · have d1 : decide ((k : Int) < (F.length : Int)) = true := by simpa using hlt
      have gF : (tInts (F.map Int.ofNat))[k]? = some (.v (.int .i64 (F[k] : Int))) := tInts_get (by rw [List.getElem?_map, List.getElem?_eq_getElem hlt]; rfl)
      have hul := hF _ (List.getElem_mem hlt)
      have hFk := List.getElem_mem hlt
      have hTk : F.take (k + 1) = F.take k ++ [F[k]] := List.take_succ_eq_append_getElem hlt
      generalize F[k] = u at *
      have hgR := List.getElem?_eq_getElem hul
      have hrl := hr _ (List.getElem_mem hul)
      have hbr := hbd _ (List.getElem_mem hul)
      have hRu : R.getD u [] = R[u] := by rw [List.getD_eq_getElem?_getD, hgR]; rfl
      generalize hrr : R[u] = row at *
      have hKo := hK
      (repeat (first | (refine aw_seq ?_; intro K hK) | refine aw_block ?_ | refine aw_region ?_ | (refine lst_x rfl rfl ?_; intro K1 hK1; simp only [go_sem, d1]; (first | refine hK1 _ ?_ | refine andk (hK1 _ ?_)); clear hK1 K1) | ((first | refine lst_nil ?_ | refine aw_skip ?_); refine hK _ ?_; clear hK K)))
      (refine aw_cnd ?_; intro X Y hX hY; simp only [go_sem])
      refine hX ?_
      clear hX hY X Y
      (repeat (first | (refine aw_seq ?_; intro K hK) | refine aw_block ?_ | refine aw_region ?_ | (refine lst_x rfl rfl ?_; intro K1 hK1; simp only [go_sem, gF, tInts_len, hFl2, tRows_len, tRows_get hgR, tArcs_len, half2]; (first | refine hK1 _ ?_ | refine andk (hK1 _ ?_)); clear hK1 K1) | ((first | refine lst_nil ?_ | refine aw_skip ?_); refine hK _ ?_; clear hK K)))
      refine aw_loop (fun x : Nat × List Int × List Nat => { tm := [(0, .a (.c (.p 0 0))), (2, .i e), (7, .a (.c (.s 2 x.2.2.length))), (19, .a (.c (.t 1 (tInts (F.map Int.ofNat))))), (20, .i F.length), (21, .i k), (32, .a (.c (.t 2 (tArcs row)))), (33, .i row.length), (34, .i x.1)], hp := [.r ⟨66, 3, false, [.t 1 (tRows R), .s 1 R.length, .v (.int .i64 (rd + 1))]⟩, .r ⟨3, 1, true, cInts x.2.1⟩, .r ⟨3, 1, true, cInts (x.2.2.map Int.ofNat)⟩], n := 78, pin := 2 }) (fun x => x.1 ≤ row.length ∧ Fw noE R.length (tg R F e) (rd + 1) x.2.1 x.2.2 ∧ (∀ v ∈ out, v ∈ x.2.2) ∧ ∀ a ∈ row.take x.1, a.1 = e → a.2.toNat ∈ x.2.2) (fun x => row.length - x.1) (0, sn, out) ?_ ?_ ?_
      · exact ⟨by simp, hW, fun v h => h, by simp⟩
      · (refine le_tm ?_; simp only [LeTm, go_sem]; try simp)
      · rintro ⟨j, sn1, out1⟩ ⟨hj, hW1, hl1, hT1⟩ K hK
        simp only at hj hW1 hl1 hT1
        have hsl1 := hW1.len
        have hol1 := hW1.le
        by_cases hlt2 : j < row.length
        · have d2 : decide ((j : Int) < (row.length : Int)) = true := by simpa using hlt2
          have hat := tArcs_at hlt2
          have hb2 := hbr _ (List.getElem_mem hlt2)
          have hmem := List.getElem_mem hlt2
          have hTj : row.take (j + 1) = row.take j ++ [row[j]] := List.take_succ_eq_append_getElem hlt2
          generalize row[j] = a at *
          obtain ⟨ev, tn, rfl⟩ : ∃ (ev : Int) (tn : Nat), a = (ev, (tn : Int)) := ⟨a.1, a.2.toNat, by
            have : (a.2.toNat : Int) = a.2 := by omega
            rw [this]⟩
          simp only at hb2
          have htn : tn < R.length := by omega
          have gs : (cInts sn1)[tn]? = some (.v (.int .i64 sn1[tn])) := cInts_get (List.getElem?_eq_getElem (by omega))
          have gd : sn1.getD tn 0 = sn1[tn] := by rw [List.getD_eq_getElem?_getD, List.getElem?_eq_getElem (by omega)]; rfl
          (repeat (first | (refine aw_seq ?_; intro K hK) | refine aw_block ?_ | refine aw_region ?_ | (refine lst_x rfl rfl ?_; intro K1 hK1; simp only [go_sem, d2]; (first | refine hK1 _ ?_ | refine andk (hK1 _ ?_)); clear hK1 K1) | ((first | refine lst_nil ?_ | refine aw_skip ?_); refine hK _ ?_; clear hK K)))
          (refine aw_cnd ?_; intro X Y hX hY; simp only [go_sem])
          refine hX ?_
          clear hX hY X Y
          (repeat (first | (refine aw_seq ?_; intro K hK) | refine aw_block ?_ | refine aw_region ?_ | (refine lst_x rfl rfl ?_; intro K1 hK1; simp only [go_sem, hat, tArcs_len, half2, ST.put, setC, A0.cells]; (first | refine hK1 _ ?_ | refine andk (hK1 _ ?_)); clear hK1 K1) | ((first | refine lst_nil ?_ | refine aw_skip ?_); refine hK _ ?_; clear hK K)))
          by_cases he : ev = e
          · have d3 : (ev == e) = true := by simpa using he
            by_cases hq : sn1[tn] = rd + 1
            · have d4 : (sn1[tn] != rd + 1) = false := by rw [hq]; simp
              have hin := hW1.mem htn (by rw [gd, hq])
              (refine aw_regionU 18 [(0, 0), (1, 1), (2, 0), (3, 0), (4, 0), (5, 0), (6, 0), (7, 0), (8, 1), (9, 0), (10, 1), (11, 0), (12, 1), (13, 0), (14, 0), (15, 0), (16, 1), (17, 0), (18, 2)] (by kernel_rfl) (by kernel_rfl) (by intro c st h; simp [ThenA, InBl, Ret] at h) ?_)
              (repeat (first | ((first | refine u_0x rfl rfl rfl ?_ | refine u_1x rfl rfl rfl ?_); intro K1 hK1; simp only [go_sem, d3, gs, cInts_len, hsl1, d4]; (first | refine hK1 _ ?_ | refine andk (hK1 _ ?_)); clear hK1 K1) | (refine u_2x rfl rfl rfl rfl ?_; intro K1 hK1; simp only [go_sem, d3, gs, cInts_len, hsl1, d4]; (first | refine hK1 _ ?_ | refine andk (hK1 _ ?_)); clear hK1 K1) | (refine u_2f rfl rfl rfl rfl ?_; intro K1 hK1; simp only [go_sem, d3, gs, cInts_len, hsl1, d4]; (first | refine hK1 _ ?_ | refine andk (hK1 _ ?_)); clear hK1 K1) | (refine u_nil ?_; refine hK _ ?_; clear hK K)))
              (refine aw_cnd ?_; intro X Y hX hY; simp only [go_sem])
              refine hY ?_
              clear hX hY X Y
              (repeat (first | (refine aw_seq ?_; intro K hK) | refine aw_block ?_ | refine aw_region ?_ | (refine lst_x rfl rfl ?_; intro K1 hK1; simp only [go_sem]; (first | refine hK1 _ ?_ | refine andk (hK1 _ ?_)); clear hK1 K1) | ((first | refine lst_nil ?_ | refine aw_skip ?_); refine hK _ ?_; clear hK K)))
              ((try refine lst_nil ?_); (try refine aw_skip ?_); try simp only [ThenA])
              refine hK _ (j + 1, sn1, out1) ⟨by simp only; omega, hW1, hl1, fun a ha hae => ?_⟩ (by simp only; omega) ?_
              · simp only at ha
                rw [hTj] at ha
                rcases List.mem_append.1 ha with h | h
                · exact hT1 a h hae
                · simp at h; subst h; simpa using hin
              · refine Le.trans (le_pick [0, 1, 2] rfl rfl) ?_
                (try simp only [List.set_nil, List.take_nil, List.take_zero, List.map_append, go_sem])
                (try simp only [cInts_ren])
                (refine le_tm ?_; simp only [LeTm, go_sem]; try simp)
            · have d4 : (sn1[tn] != rd + 1) = true := by simpa using hq
              have hW2 := hW1.push htn (by rw [gd]; exact hq) ⟨tn, mem_tg.2 ⟨u, hFk, by rw [hRu]; exact mem_tgR.2 ⟨_, hmem, he, by simp⟩⟩, .refl _⟩
              have op1 := op_push out1 tn []
              simp only [List.append_nil] at op1
              (refine aw_regionU 18 [(0, 0), (1, 1), (2, 0), (3, 0), (4, 0), (5, 0), (6, 0), (7, 0), (8, 1), (9, 0), (10, 1), (11, 0), (12, 1), (13, 0), (14, 0), (15, 0), (16, 1), (17, 0), (18, 2)] (by kernel_rfl) (by kernel_rfl) (by intro c st h; simp [ThenA, InBl, Ret] at h) ?_)
              (repeat (first | ((first | refine u_0x rfl rfl rfl ?_ | refine u_1x rfl rfl rfl ?_); intro K1 hK1; simp only [go_sem, d3, gs, cInts_len, hsl1, d4]; (first | refine hK1 _ ?_ | refine andk (hK1 _ ?_)); clear hK1 K1) | (refine u_2x rfl rfl rfl rfl ?_; intro K1 hK1; simp only [go_sem, d3, gs, cInts_len, hsl1, d4]; (first | refine hK1 _ ?_ | refine andk (hK1 _ ?_)); clear hK1 K1) | (refine u_2f rfl rfl rfl rfl ?_; intro K1 hK1; simp only [go_sem, d3, gs, cInts_len, hsl1, d4]; (first | refine hK1 _ ?_ | refine andk (hK1 _ ?_)); clear hK1 K1) | (refine u_nil ?_; refine hK _ ?_; clear hK K)))
              (refine aw_cnd ?_; intro X Y hX hY; simp only [go_sem])
              refine hX ?_
              clear hX hY X Y
              (repeat (first | (refine aw_seq ?_; intro K hK) | refine aw_block ?_ | refine aw_region ?_ | (refine lst_x rfl rfl ?_; intro K1 hK1; simp only [go_sem]; (first | refine hK1 _ ?_ | refine andk (hK1 _ ?_)); clear hK1 K1) | ((first | refine lst_nil ?_ | refine aw_skip ?_); refine hK _ ?_; clear hK K)))
              (refine aw_regionU 11 [(0, 0), (1, 0), (2, 0), (3, 1), (4, 0), (5, 1), (6, 0), (7, 0), (8, 0), (9, 1), (10, 0), (11, 2)] (by kernel_rfl) (by kernel_rfl) (by intro c st h; simp [ThenA, InBl, Ret] at h) ?_)
              (repeat (first | ((first | refine u_0x rfl rfl rfl ?_ | refine u_1x rfl rfl rfl ?_); intro K1 hK1; simp only [go_sem, cInts_len, hsl1, cInts_set, ST.put, setC, A0.cells]; (first | refine hK1 _ ?_ | refine andk (hK1 _ ?_)); clear hK1 K1) | (refine u_2x rfl rfl rfl rfl ?_; intro K1 hK1; simp only [go_sem, cInts_len, hsl1, cInts_set, ST.put, setC, A0.cells]; (first | refine hK1 _ ?_ | refine andk (hK1 _ ?_)); clear hK1 K1) | (refine u_nil ?_; refine hK _ ?_; clear hK K)))
              (repeat (first | (refine aw_seq ?_; intro K hK) | refine aw_block ?_ | refine aw_region ?_ | (refine lst_x rfl rfl ?_; intro K1 hK1; simp only [go_sem, cInts_len, List.length_map, op1, Nat.le_refl]; (first | refine hK1 _ ?_ | refine andk (hK1 _ ?_)); clear hK1 K1) | ((first | refine lst_nil ?_ | refine aw_skip ?_); refine hK _ ?_; clear hK K)))
              ((try refine lst_nil ?_); (try refine aw_skip ?_); try simp only [ThenA])
              refine hK _ (j + 1, sn1.set tn (rd + 1), out1 ++ [tn]) ⟨by simp only; omega, hW2, fun v hv => List.mem_append_left _ (hl1 v hv), fun a ha hae => ?_⟩ (by simp only; omega) ?_
              · simp only at ha
                rw [hTj] at ha
                rcases List.mem_append.1 ha with h | h
                · exact List.mem_append_left _ (hT1 a h hae)
                · simp at h; subst h; simp
              · refine Le.trans (le_pick [0, 1, 5] rfl rfl) ?_
                (try simp only [List.set_nil, List.take_nil, List.take_zero, List.map_append, go_sem])
                (try simp only [cInts_ren])
                simp only [List.length_append, List.length_cons, List.length_nil]
                (refine le_tm ?_; simp only [LeTm, go_sem]; try simp)
          · have d3 : (ev == e) = false := by simpa using he
            (refine aw_regionU 18 [(0, 0), (1, 1), (2, 0), (3, 0), (4, 0), (5, 0), (6, 0), (7, 0), (8, 1), (9, 0), (10, 1), (11, 0), (12, 1), (13, 0), (14, 0), (15, 0), (16, 1), (17, 0), (18, 2)] (by kernel_rfl) (by kernel_rfl) (by intro c st h; simp [ThenA, InBl, Ret] at h) ?_)
            (repeat (first | ((first | refine u_0x rfl rfl rfl ?_ | refine u_1x rfl rfl rfl ?_); intro K1 hK1; simp only [go_sem, d3, cInts_len, hsl1]; (first | refine hK1 _ ?_ | refine andk (hK1 _ ?_)); clear hK1 K1) | (refine u_2x rfl rfl rfl rfl ?_; intro K1 hK1; simp only [go_sem, d3, cInts_len, hsl1]; (first | refine hK1 _ ?_ | refine andk (hK1 _ ?_)); clear hK1 K1) | (refine u_2f rfl rfl rfl rfl ?_; intro K1 hK1; simp only [go_sem, d3, cInts_len, hsl1]; (first | refine hK1 _ ?_ | refine andk (hK1 _ ?_)); clear hK1 K1) | (refine u_nil ?_; refine hK _ ?_; clear hK K)))
            (refine aw_cnd ?_; intro X Y hX hY; simp only [go_sem])
            refine hY ?_
            clear hX hY X Y
            (repeat (first | (refine aw_seq ?_; intro K hK) | refine aw_block ?_ | refine aw_region ?_ | (refine lst_x rfl rfl ?_; intro K1 hK1; simp only [go_sem]; (first | refine hK1 _ ?_ | refine andk (hK1 _ ?_)); clear hK1 K1) | ((first | refine lst_nil ?_ | refine aw_skip ?_); refine hK _ ?_; clear hK K)))
            ((try refine lst_nil ?_); (try refine aw_skip ?_); try simp only [ThenA])
            refine hK _ (j + 1, sn1, out1) ⟨by simp only; omega, hW1, hl1, fun a ha hae => ?_⟩ (by simp only; omega) ?_
            · simp only at ha
              rw [hTj] at ha
              rcases List.mem_append.1 ha with h | h
              · exact hT1 a h hae
              · simp at h; subst h; exact absurd hae he
            · refine Le.trans (le_pick [0, 1, 2] rfl rfl) ?_
              (try simp only [List.set_nil, List.take_nil, List.take_zero, List.map_append, go_sem])
              (try simp only [cInts_ren])
              (refine le_tm ?_; simp only [LeTm, go_sem]; try simp)
        · have d2 : decide ((j : Int) < (row.length : Int)) = false := by simpa using hlt2
          (repeat (first | (refine aw_seq ?_; intro K hK) | refine aw_block ?_ | refine aw_region ?_ | (refine lst_x rfl rfl ?_; intro K1 hK1; simp only [go_sem, d2]; (first | refine hK1 _ ?_ | refine andk (hK1 _ ?_)); clear hK1 K1) | ((first | refine lst_nil ?_ | refine aw_skip ?_); refine hK _ ?_; clear hK K)))
          (refine aw_cnd ?_; intro X Y hX hY; simp only [go_sem])
          refine hY ?_
          clear hX hY X Y
          (refine aw_exit ?_; simp only [ThenA, InBl, reduceIte, Nat.reduceEqDiff]; (first | refine hK _ ?_ | (clear hK K; refine hK _ ?_) | (clear hK K; clear hK K; refine hK _ ?_) | (clear hK K; clear hK K; clear hK K; refine hK _ ?_) | (clear hK K; clear hK K; clear hK K; clear hK K; refine hK _ ?_) | (clear hK K; clear hK K; clear hK K; clear hK K; clear hK K; refine hK _ ?_)); clear hK K)
          (repeat (first | (refine aw_seq ?_; intro K hK) | refine aw_block ?_ | refine aw_region ?_ | (refine lst_x rfl rfl ?_; intro K1 hK1; simp only [go_sem]; (first | refine hK1 _ ?_ | refine andk (hK1 _ ?_)); clear hK1 K1) | ((first | refine lst_nil ?_ | refine aw_skip ?_); refine hK _ ?_; clear hK K)))
          ((try refine lst_nil ?_); (try refine aw_skip ?_); try simp only [ThenA])
          refine hKo _ (k + 1, sn1, out1) ⟨by simp only; omega, hW1, fun v hv => ?_⟩ (by simp only; omega) ?_
          · simp only at hv
            rw [mem_tg] at hv
            obtain ⟨s, hs1, hs2⟩ := hv
            rw [hTk] at hs1
            rcases List.mem_append.1 hs1 with h | h
            · exact hl1 v (hT v (mem_tg.2 ⟨s, h, hs2⟩))
            · simp at h; subst h
              rw [hRu] at hs2
              obtain ⟨a, ha, hae, rfl⟩ := mem_tgR.1 hs2
              exact hT1 a (by rw [List.take_of_length_le (by omega)]; exact ha) hae
          · (refine le_tm ?_; simp only [LeTm, go_sem]; try simp)
    · have d1 : decide ((k : Int) < (F.length : Int)) = false := by simpa using hlt
      obtain ⟨p, hp⟩ : ∃ p : Nat → Bool, p = fun u => decide (u ∈ out) := ⟨_, rfl⟩
      have hdone : ∀ u, u ∈ out ↔ u ∈ tg R F e := fun u => ⟨fun h => by
        obtain ⟨v, hv, hr⟩ := hW.snd u h
        rw [rc_no hr]; exact hv, fun h => hT u (by rw [List.take_of_length_le (by omega)]; exact h)⟩
      have hlm : (out.map Int.ofNat).length = out.length := by simp
      (repeat (first | (refine aw_seq ?_; intro K hK) | refine aw_block ?_ | refine aw_region ?_ | (refine lst_x rfl rfl ?_; intro K1 hK1; simp only [go_sem, d1]; (first | refine hK1 _ ?_ | refine andk (hK1 _ ?_)); clear hK1 K1) | ((first | refine lst_nil ?_ | refine aw_skip ?_); refine hK _ ?_; clear hK K)))
      (refine aw_cnd ?_; intro X Y hX hY; simp only [go_sem])
      refine hY ?_
      clear hX hY X Y
      (refine aw_exit ?_; simp only [ThenA, InBl, reduceIte, Nat.reduceEqDiff]; (first | refine hK _ ?_ | (clear hK K; refine hK _ ?_) | (clear hK K; clear hK K; refine hK _ ?_) | (clear hK K; clear hK K; clear hK K; refine hK _ ?_) | (clear hK K; clear hK K; clear hK K; clear hK K; refine hK _ ?_) | (clear hK K; clear hK K; clear hK K; clear hK K; clear hK K; refine hK _ ?_)); clear hK K)
      rw [← hlm]
      (repeat (first | (refine aw_seq ?_; intro K hK) | refine aw_block ?_ | refine aw_region ?_ | (refine lst_x rfl rfl ?_; intro K1 hK1; simp only [go_sem]; (first | refine hK1 _ ?_ | refine andk (hK1 _ ?_)); clear hK1 K1) | ((first | refine lst_nil ?_ | refine aw_skip ?_); refine hK _ ?_; clear hK K)))
      (refine lst_cons rfl ?_; intro K1 hK1; refine stp_callσ (ids := []) [2] (sortI_fc (out.map Int.ofNat) (by rw [hlm]; omega)) rfl rfl (by simp only [go_sem]) (by first | assumption | kernel_rfl) rfl rfl (by (simp only [List.map_append, List.append_nil, go_sem]) <;> rfl) (by (simp only [pkh, cInts_ren, go_sem]) <;> rfl) ?_ ?_)
      · rintro _ _ ⟨rfl, L', _, _, rfl⟩; rfl
      rintro _ _ ⟨rfl, L', hperm, hsort, rfl⟩
      (simp only [aInts, aSets, cInts_up, List.append_nil, List.nil_append, List.length_map, go_sem]; refine hK1 _ ?_; clear hK1 K1)
      have hLo : L' = (ordN R.length p).map Int.ofNat := by
        obtain ⟨m, hm⟩ : ∃ m : List Nat, L' = m.map Int.ofNat := by
          refine ⟨L'.map Int.toNat, ?_⟩
          rw [List.map_map]
          refine (List.map_id L').symm.trans (List.map_congr_left fun x hx => ?_)
          have h := (hperm.mem_iff).1 hx
          obtain ⟨y, _, rfl⟩ := List.mem_map.1 h
          rfl
        subst hm
        have hp2 : m.Perm out := by
          have := hperm.map Int.toNat
          simpa [List.map_map, Function.comp_def] using this
        have hs2 : m.Pairwise (· ≤ ·) := by
          rw [List.pairwise_map] at hsort
          exact hsort.imp fun h => by simpa using h
        rw [sort_ord (p := p) hp2 hs2 hW.nd (fun u => ⟨fun h => ⟨hW.lt u h, by rw [hp]; simpa using h⟩, fun h => by have := h.2; rw [hp] at this; simpa using this⟩)]
      have hll : out.length = (ordN R.length p).length := by have h := hperm.length_eq; rw [hLo] at h; simpa using h.symm
      rw [hll, hLo]
      (repeat (first | (refine aw_seq ?_; intro K hK) | refine aw_block ?_ | refine aw_region ?_ | (refine lst_x rfl rfl ?_; intro K1 hK1; simp only [go_sem]; (first | refine hK1 _ ?_ | refine andk (hK1 _ ?_)); clear hK1 K1) | ((first | refine lst_nil ?_ | refine aw_skip ?_); refine hK _ ?_; clear hK K)))
      ((try refine aw_ret ?_); (try simp only [ThenA, InBl]); refine ret_le (le_pick [0, 1, 2] rfl rfl) ?_; (try simp only [List.set_nil, List.take_nil, List.take_zero, List.map_append, go_sem]); ((try refine aw_ret ?_); (try refine lst_nil ?_); (try simp only [ThenA, InBl]); refine ret_mk (by first | exact .inl rfl | exact .inr rfl) rfl ?_; simp only [rtn, resA, resL, resV, Tryz.results26, go_sem, true_and, and_true, cInts_ren, wkO]))
      exact ⟨sn, hsl, hW.bd, p, fun u hu => by rw [← hdone u, hp]; simp, rfl, rfl⟩
end Go.Proofs.YtknidjnbfnpkdaaGreat
