/- The reference's Read, walked: the pages. -/
import Derived.Test.YtianblmceohmnaaRefReadB
namespace Go.Proofs.Ytianblmceohmnaa.Hand
open Go.RowKit Go.Maps Go.Proofs.Ytianblmceohmnaa.PAll Go.Proofs.YtianblmceohmnaaW.PrintWords Go.Proofs.YtianblmceohmnaaW.PrintLast Go.Proofs.YtianblmceohmnaaW.PrintMore Go.Proofs.MapF
set_option linter.unusedVariables false
set_option linter.unusedSimpArgs false
set_option maxRecDepth 100000
attribute [local go_sem high] eqA24

set_option maxHeartbeats 16000000 in
theorem refReadC : refReadB.1 := by
  delta refReadB
  intro c0 l0 a1 w hc0 hlen HBD HLEN hu37 hu31 hu24 hu43 hu45 za1_ rb w1 gv w2 w3 za2_ za3_ wr u7 za4_ za5_ za6_ zb1_ zb2_ u13 u14 u15 za7_ za8_ za9_ za10_ za11_ za12_ za13_ za14_ za15_ za16_ za17_ za18_ za19_ za20_ za21_ za22_ za23_ za24_ za25_ za26_ za27_ za28_ za29_ za30_ za31_ za32_ za33_ za34_ za35_ za36_ za37_ za38_ za39_ za40_ za41_ za42_ za43_ za44_ za45_ za46_ za47_ za48_ za49_ za50_ za51_ za52_ za53_ za54_ za55_ za56_ za57_ za58_ za59_ za60_ za61_ za62_ za63_ za64_ za65_ za66_ za67_ za68_ za69_ za70_ za71_ za72_ za73_ za74_ za75_ za76_ za77_ za78_ za79_ za80_ za81_ za82_ za83_ za84_ za85_ za86_ za87_ za88_ za89_ za90_ za91_ za92_ za93_ za94_ za95_ za96_ za97_ za98_ za99_ za100_ za101_ za102_ za103_ za104_ za105_ za106_ za107_ za108_ za109_ za110_ za111_ za112_ za113_ za114_ za115_ za116_ za117_ za118_ za119_ za120_ za121_ za122_ za123_ za124_ za125_ za126_ za127_ za128_ za129_ za130_ za131_ za132_ za133_ za134_ za135_ za136_ za137_ za138_ za139_ za140_ za141_ za142_ za143_ za144_ za145_ za146_ za147_ za148_ za149_ za150_ za151_ za152_ za153_ za154_ za155_ za156_ za157_ za158_ za159_ za160_ za161_ za162_ za163_ za164_ za165_ za166_ za167_ za168_ za169_ za170_ za171_ za172_ za173_ za174_ za175_ za176_ za177_ za178_ za179_ za180_ za181_ za182_ za183_ za184_ za185_ za186_ za187_ za188_ i lv dv pv gko za189_ hi x hlt ad HR za190_ HX HG L' D' P' HL1 HD1 HP1 L D P HVP HLN HRP za191_ za192_ xb w5 hgs w6 w7 w8 zb3_ u8 u9 u10 zb4_ zb5_ zb6_ zb7_ zb8_ zb9_ zb10_ zb11_ zb12_ zb13_ zb14_ zb15_ zb16_ zb17_ zb18_ zb19_ zb20_ zb21_ zb22_ zb23_ zb24_ zb25_ zb26_ zb27_ zb28_ zb29_ zb30_ zb31_ zb32_ zb33_ zb34_ zb35_ zb36_ zb37_ zb38_ zb39_ zb40_ zb41_ zb42_ zb43_ zb44_ zb45_ zb46_ zb47_ zb48_ zb49_ zb50_ zb51_ zb52_ zb53_ zb54_ zb55_ zb56_ zb57_ zb58_ zb59_ zb60_ zb61_ zb62_ zb63_ zb64_ zb65_ zb66_ zb67_ zb68_ zb69_ zb70_ zb71_ zb72_ zb73_ zb74_ zb75_ zb76_ zb77_ zb78_ zb79_ zb80_ zb81_ zb82_ zb83_ zb84_ zb85_ zb86_ zb87_ zb88_ zb89_ zb90_ zb91_ zb92_ zb93_ zb94_ zb95_ zb96_ zb97_ zb98_ zb99_ zb100_ zb101_ zb102_ zb103_ zb104_ zb105_ zb106_ zb107_ zb108_ zb109_ zb110_ zb111_ zb112_ zb113_ zb114_ zb115_ zb116_ zb117_ zb118_ zb119_ zb120_ zb121_ zb122_ zb123_ zb124_ zb125_ zb126_ zb127_ zb128_ zb129_ zb130_ zb131_ zb132_ zb133_ zb134_ zb135_ zb136_ zb137_ zb138_ zb139_ zb140_ zb141_ zb142_ zb143_ zb144_ zb145_ zb146_ zb147_ zb148_ zb149_ zb150_ zb151_ zb152_ zb153_ zb154_ zb155_ zb156_ zb157_ zb158_ zb159_ zb160_ zb161_ zb162_ zb163_ zb164_ zb165_ zb166_ zb167_ zb168_ zb169_ zb170_ zb171_ zb172_ zb173_ zb174_ zb175_ zb176_ zb177_ zb178_ zb179_ zb180_ zb181_ zb182_ zb183_ lv' zb184_ zb185_ wc u11 u12 u24 u25 u26 u27 u28 u29 u30 u31 u32 u33 u34 u35 u36 u37 u38 u39 u40 u41 u42 u43 u44 u45 u46 u47 u48 u49 u50 u51 u52 u53 u54 u55 u56 u57 u58 u59 u60 u61 u62 u63 u64 u65 u66 u67 u68 u69 u70 u71 u72 u73 u74 u75 u76 u77 u78 u79 u80 u81 u82 u83 u84 u85 u86 u87 u88 u89 u90 u91 u92 u93 u94 u95 u96 u97 u98 u99 u100 u101 u102 u103 u104 u105 u106 u107 u108 u109 u110 u111 u112 u113 u114 u115 u116 u117 u118 u119 u120 u121 u122 u123 u124 u125 u126 u127 u128 u129 u130 u131 u132 u133 u134 u135 u136 u137 u138 u139 u140 u141 u142 u143 u144 u145 u146 u147 u148 u149 u150 u151 u152 u153 u154 u155 u156 u157 u158 u159 u160 u161 u162 u163 u164 u165 u166 u167 u168 u169 u170 u171 u172 u173 u174 u175 u176 u177 u178 u179 u180 u181 u182 u183 u184 u185 u186 u187 u188 u189 u190 u191 u192 u193 u194 u195 u196 u197 u198 u199 u200 u201 u202 u203 dv' HS10 HB10
  obtain ⟨d0, d1, d2, d3, d4, d5, d6, d7, d8, d9, d10, d11, d12⟩ := box31 (x := x) rfl HB10.out
  have hie : decide (x.f0 < 3) = !isEnd x := by
    rcases good_kind HG.out with e | e | e | e <;> unfold isEnd <;> rw [e] <;> rfl
  obtain ⟨en, hen⟩ : ∃ en, isEnd x = en := ⟨_, rfl⟩
  rw [hen] at hie
  have HP : Aside0 (P' = if en then P else insP x.f4 (a1 + i) P) := ⟨by rw [HVP.out, hen]⟩
  clear HVP hen
  cases en with
  | true =>
    go_wp2_with fail
    go_roundg gko
    case measure => omega
    case rel => exact ⟨i + 1, lv', dv', pv, by omega, by simp, by rw [HL1.out, HD1.out, HP1.out, HP.out]; exact HS10⟩
  | false =>
    have HS11 := HS10
    have hwi : wrap64 (a1 + (i : Int)) = a1 + i := by have := HBD.out; unfold wrap64; omega
    go_wp2_with fail
    have HQ0 := Aside0.mk (Pq.lit HS10.out HB10.out hgs.out)
    clear HS10 HB10 HS11
    go_loopg [13, 14, 15] (P.length) (fun kq nv bv kv wr => ∃ (k : Nat) (N : List S45) (b : Bool), k + kq = P.length ∧ bv = .bool b ∧ kv = .int .i64 k ∧ Aside0 ((P.take k).foldl (stepP x.f4 (a1 + i)) ([], false) = (N, b)) ∧ Aside0 (N.length ≤ 2 * k) ∧ Aside0 (Pq w wr gv rb xb x lv' dv' pv nv L' D' P N))
    case atStart => exact ⟨0, [], false, by omega, rfl, rfl, ⟨rfl⟩, ⟨Nat.le_refl _⟩, HQ0⟩
    case round =>
      clear HQ0
      obtain ⟨k, N, b, hk, rfl, rfl, HF, HNL, HQ⟩ := hrel
      cases gk with
      | zero =>
        obtain rfl : k = P.length := by omega
        have hF := HF.out
        rw [List.take_length] at hF
        have hfin := foldP45 x.f4 (a1 + i) P [] HRP.out
        rw [hF, List.nil_append] at hfin
        have HFIN : Aside0 (P' = finP x.f4 (a1 + i) (N, b)) := ⟨by rw [HP.out, hfin]; rfl⟩
        clear hF hfin
        obtain ⟨A9, cp9, e9⟩ := slice_of HQ.out.n.row
        subst e9
        obtain ⟨A4, cp4, e4⟩ := slice_of HQ.out.s.q
        subst e4
        cases b with
        | true =>
          have g0 : wr.cell? ⟨gv, 2, none⟩ = some (.slice (A4) P.length cp4) := (blk_cell HQ.out.s.v 2).trans rfl
          have f0 := blk_frozen HQ.out.s.v 2
          go_wp2_with fail
          go_roundg gko
          case measure => omega
          case rel => exact ⟨i + 1, lv', dv', _, by omega, by simp, by rw [HL1.out, HD1.out, HP1.out, HFIN.out]; exact ⟨HQ.out.s.putP HQ.out.n.row⟩⟩
        | false =>
          have g0 : wr.cell? ⟨gv, 2, none⟩ = some (.slice (A4) P.length cp4) := (blk_cell HQ.out.s.v 2).trans rfl
          obtain ⟨d0, d1, d2, d3, d4, d5, d6, _⟩ := box31 (x := x) rfl HQ.out.x
          obtain ⟨i0, hi0, hz0, hz1, hz2⟩ := info_parts info45
          have hNL := HNL.out
          have hLL := HLN.out.2.2
          go_wp2_with (at_builtin; refine wpList_append_lies _ rfl (.tmp 193) (.tmp 200) 35 rfl w.heap.size 45 i0 _ 2 16 Try.underlying35 hi0 hz0 hz1 hz2 rfl (by decide) _ N.length (N.flatMap cells45) rfl (HQ.out.n.row.alloc _) ⟨_, 0, none⟩ 1 1 (cells45 ⟨x.f4, a1 + i⟩) rfl rfl (World.news_of_block (blk_new _ (.cells #[.int .i64 x.f4, .int .i64 (a1 + i)] 45))) (one45 x.f4 (a1 + i)) (by decide) (by unfold maxLen; omega) (by omega) (by have := HQ.out.s.below.size; simp; omega) _ rfl ?_; intro g cap w10 hown hgrow hat hltg; have HQ10 := Aside0.mk (HQ.out.append (y := ⟨x.f4, a1 + i⟩) hown hgrow hat); have g1 : w10.cell? ⟨gv, 2, none⟩ = some (.slice A4 P.length cp4) := (blk_cell HQ10.out.s.v 2).trans rfl; have f1 := blk_frozen HQ10.out.s.v 2; clear hown hgrow hat hltg g0 d0 d1 d2 d3 d4 d5 d6)
          go_roundg gko
          case measure => omega
          case rel => exact ⟨i + 1, lv', dv', _, by omega, by simp, by rw [HL1.out, HD1.out, HP1.out, HFIN.out]; exact ⟨HQ10.out.s.putP HQ10.out.n.row⟩⟩
      | succ gk =>
        obtain ⟨y, hy⟩ : ∃ y, P[k]? = some y := ⟨P[k]'(by omega), List.getElem?_eq_getElem _⟩
        obtain ⟨A4, cp4, e4⟩ := slice_of HQ.out.s.q
        subst e4
        obtain ⟨_, _, hr4⟩ := own_reads (d := k45) (enc := cells45) (fun w x => k45_mk w x) (fun _ => rfl) HQ.out.s.q
        obtain ⟨ad4, e4', _⟩ := hr4.2.2 (by omega)
        subst e4'
        clear hr4
        obtain ⟨A9, cp9, e9⟩ := slice_of HQ.out.n.row
        subst e9
        have hstep := foldl_snoc (stepP x.f4 (a1 + i)) P ([], false) hy
        rw [HF.out] at hstep
        have HST := Aside0.mk hstep
        have HY := Aside0.mk hy
        obtain ⟨s0, s1, s2, s3⟩ := HQ.out.cells hy
        clear hstep hy
        have hNL := HNL.out
        have hLL := HLN.out.2.2
        obtain ⟨i0, hi0, hz0, hz1, hz2⟩ := info_parts info45
        obtain ⟨lt, hlt1⟩ : ∃ lt, decide (x.f4 < y.f0) = lt := ⟨_, rfl⟩
        obtain ⟨q, hq⟩ : ∃ q, (y.f0 == x.f4) = q := ⟨_, rfl⟩
        have hlt0 := hlt1
        have hq0 := hq
        cases b with
        | true =>
          go_upto_region 39 with fail
          go_region
          go_upto_region 42 with fail
          go_region
          go_wp2_with ((at_builtin; refine wpList_append_lies _ rfl (.tmp 183) (.tmp 189) 35 rfl w.heap.size 45 i0 _ 2 16 Try.underlying35 hi0 hz0 hz1 hz2 rfl (by decide) _ (N).length ((N).flatMap cells45) rfl ?own ⟨_, 0, none⟩ 1 1 (cells45 y) rfl rfl (World.news_of_block (blk_new _ (.cells #[(.int .i64 y.f0), (.int .i64 y.f1)] 45))) (one45 y.f0 y.f1) (by decide) (by unfold maxLen; (try rw [List.length_append, List.length_singleton]); omega) (by (try rw [List.length_append, List.length_singleton]); omega) (by have := HQ.out.s.below.size; simp; omega) _ rfl ?_; (case own => first | exact HQ.out.n.row.alloc _ | exact HQ.out.drew.n.row.alloc _ | exact HQ.out.drew.drew.n.row.alloc _ | exact (HQ.out.drewN _).n.row.alloc _); intro g1 cap1 w11 hown hgrow hat hltg; have HQ1 : Aside0 (Pq w w11 gv rb xb x lv' dv' (.slice (some ad4) P.length cp4) (.slice (some ⟨g1, 0, none⟩) ((N).length + 1) cap1) L' D' P ((N) ++ [(y : S45)])) := ⟨by first | exact HQ.out.append (y := y) hown hgrow hat | exact HQ.out.drew.append (y := y) hown hgrow hat | exact HQ.out.drew.drew.append (y := y) hown hgrow hat | exact (HQ.out.drewN _).append (y := y) hown hgrow hat⟩; clear hown hgrow hat hltg; (try clear s0 s1 s2 s3); obtain ⟨s0, s1, s2, s3⟩ := HQ1.out.cells HY.out))
          go_roundg gk
          case measure => omega
          case rel => exact ⟨k + 1, (N) ++ [(y : S45)], true, by omega, rfl, by simp, ⟨by rw [HST.out]; simp [stepP, hlt0, hq0]⟩, ⟨by simp; omega⟩, HQ1⟩
        | false =>
          go_upto_region 39 with fail
          go_region
          cases lt with
          | true =>
            go_upto_region 42 with ((at_builtin; refine wpList_append_lies _ rfl (.tmp 162) (.tmp 169) 35 rfl w.heap.size 45 i0 _ 2 16 Try.underlying35 hi0 hz0 hz1 hz2 rfl (by decide) _ (N).length ((N).flatMap cells45) rfl ?own ⟨_, 0, none⟩ 1 1 (cells45 ⟨x.f4, a1 + i⟩) rfl rfl (World.news_of_block (blk_new _ (.cells #[(.int .i64 x.f4), (.int .i64 (a1 + i))] 45))) (one45 x.f4 (a1 + i)) (by decide) (by unfold maxLen; (try rw [List.length_append, List.length_singleton]); omega) (by (try rw [List.length_append, List.length_singleton]); omega) (by have := HQ.out.s.below.size; simp; omega) _ rfl ?_; (case own => first | exact HQ.out.n.row.alloc _ | exact HQ.out.drew.n.row.alloc _ | exact HQ.out.drew.drew.n.row.alloc _ | exact (HQ.out.drewN _).n.row.alloc _); intro g1 cap1 w11 hown hgrow hat hltg; have HQ1 : Aside0 (Pq w w11 gv rb xb x lv' dv' (.slice (some ad4) P.length cp4) (.slice (some ⟨g1, 0, none⟩) ((N).length + 1) cap1) L' D' P ((N) ++ [(⟨x.f4, a1 + i⟩ : S45)])) := ⟨by first | exact HQ.out.append (y := ⟨x.f4, a1 + i⟩) hown hgrow hat | exact HQ.out.drew.append (y := ⟨x.f4, a1 + i⟩) hown hgrow hat | exact HQ.out.drew.drew.append (y := ⟨x.f4, a1 + i⟩) hown hgrow hat | exact (HQ.out.drewN _).append (y := ⟨x.f4, a1 + i⟩) hown hgrow hat⟩; clear hown hgrow hat hltg; (try clear s0 s1 s2 s3); obtain ⟨s0, s1, s2, s3⟩ := HQ1.out.cells HY.out))
            go_region
            go_wp2_with ((at_builtin; refine wpList_append_lies _ rfl (.tmp 183) (.tmp 189) 35 rfl w.heap.size 45 i0 _ 2 16 Try.underlying35 hi0 hz0 hz1 hz2 rfl (by decide) _ (N ++ [(⟨x.f4, a1 + i⟩ : S45)]).length ((N ++ [(⟨x.f4, a1 + i⟩ : S45)]).flatMap cells45) rfl ?own ⟨_, 0, none⟩ 1 1 (cells45 y) rfl rfl (World.news_of_block (blk_new _ (.cells #[(.int .i64 y.f0), (.int .i64 y.f1)] 45))) (one45 y.f0 y.f1) (by decide) (by unfold maxLen; (try rw [List.length_append, List.length_singleton]); omega) (by (try rw [List.length_append, List.length_singleton]); omega) (by have := HQ1.out.s.below.size; simp; omega) _ rfl ?_; (case own => first | exact HQ1.out.n.row.alloc _ | exact HQ1.out.drew.n.row.alloc _ | exact HQ1.out.drew.drew.n.row.alloc _ | exact (HQ1.out.drewN _).n.row.alloc _); intro g2 cap2 w12 hown hgrow hat hltg; have HQ2 : Aside0 (Pq w w12 gv rb xb x lv' dv' (.slice (some ad4) P.length cp4) (.slice (some ⟨g2, 0, none⟩) ((N ++ [(⟨x.f4, a1 + i⟩ : S45)]).length + 1) cap2) L' D' P ((N ++ [(⟨x.f4, a1 + i⟩ : S45)]) ++ [(y : S45)])) := ⟨by first | exact HQ1.out.append (y := y) hown hgrow hat | exact HQ1.out.drew.append (y := y) hown hgrow hat | exact HQ1.out.drew.drew.append (y := y) hown hgrow hat | exact (HQ1.out.drewN _).append (y := y) hown hgrow hat⟩; clear hown hgrow hat hltg; (try clear s0 s1 s2 s3); obtain ⟨s0, s1, s2, s3⟩ := HQ2.out.cells HY.out))
            go_roundg gk
            case measure => omega
            case rel => exact ⟨k + 1, (N ++ [(⟨x.f4, a1 + i⟩ : S45)]) ++ [(y : S45)], true, by omega, rfl, by simp, ⟨by rw [HST.out]; simp [stepP, hlt0, hq0]⟩, ⟨by simp; omega⟩, ⟨by have h9 := HQ2.out; rw [show (N ++ [(⟨x.f4, a1 + i⟩ : S45)]).length = N.length + 1 by simp] at h9; exact h9⟩⟩
          | false =>
            cases q with
            | true =>
              go_upto_region 42 with fail
              go_region
              go_wp2_with ((at_builtin; refine wpList_append_lies _ rfl (.tmp 183) (.tmp 189) 35 rfl w.heap.size 45 i0 _ 2 16 Try.underlying35 hi0 hz0 hz1 hz2 rfl (by decide) _ (N).length ((N).flatMap cells45) rfl ?own ⟨_, 0, none⟩ 1 1 (cells45 y) rfl rfl (World.news_of_block (blk_new _ (.cells #[(.int .i64 y.f0), (.int .i64 y.f1)] 45))) (one45 y.f0 y.f1) (by decide) (by unfold maxLen; (try rw [List.length_append, List.length_singleton]); omega) (by (try rw [List.length_append, List.length_singleton]); omega) (by have := HQ.out.s.below.size; simp; omega) _ rfl ?_; (case own => first | exact HQ.out.n.row.alloc _ | exact HQ.out.drew.n.row.alloc _ | exact HQ.out.drew.drew.n.row.alloc _ | exact (HQ.out.drewN _).n.row.alloc _); intro g1 cap1 w11 hown hgrow hat hltg; have HQ1 : Aside0 (Pq w w11 gv rb xb x lv' dv' (.slice (some ad4) P.length cp4) (.slice (some ⟨g1, 0, none⟩) ((N).length + 1) cap1) L' D' P ((N) ++ [(y : S45)])) := ⟨by first | exact HQ.out.append (y := y) hown hgrow hat | exact HQ.out.drew.append (y := y) hown hgrow hat | exact HQ.out.drew.drew.append (y := y) hown hgrow hat | exact (HQ.out.drewN _).append (y := y) hown hgrow hat⟩; clear hown hgrow hat hltg; (try clear s0 s1 s2 s3); obtain ⟨s0, s1, s2, s3⟩ := HQ1.out.cells HY.out))
              go_roundg gk
              case measure => omega
              case rel => exact ⟨k + 1, (N) ++ [(y : S45)], true, by omega, rfl, by simp, ⟨by rw [HST.out]; simp [stepP, hlt0, hq0]⟩, ⟨by simp; omega⟩, HQ1⟩
            | false =>
              go_upto_region 42 with fail
              go_region
              go_wp2_with ((at_builtin; refine wpList_append_lies _ rfl (.tmp 183) (.tmp 189) 35 rfl w.heap.size 45 i0 _ 2 16 Try.underlying35 hi0 hz0 hz1 hz2 rfl (by decide) _ (N).length ((N).flatMap cells45) rfl ?own ⟨_, 0, none⟩ 1 1 (cells45 y) rfl rfl (World.news_of_block (blk_new _ (.cells #[(.int .i64 y.f0), (.int .i64 y.f1)] 45))) (one45 y.f0 y.f1) (by decide) (by unfold maxLen; (try rw [List.length_append, List.length_singleton]); omega) (by (try rw [List.length_append, List.length_singleton]); omega) (by have := HQ.out.s.below.size; simp; omega) _ rfl ?_; (case own => first | exact HQ.out.n.row.alloc _ | exact HQ.out.drew.n.row.alloc _ | exact HQ.out.drew.drew.n.row.alloc _ | exact (HQ.out.drewN _).n.row.alloc _); intro g1 cap1 w11 hown hgrow hat hltg; have HQ1 : Aside0 (Pq w w11 gv rb xb x lv' dv' (.slice (some ad4) P.length cp4) (.slice (some ⟨g1, 0, none⟩) ((N).length + 1) cap1) L' D' P ((N) ++ [(y : S45)])) := ⟨by first | exact HQ.out.append (y := y) hown hgrow hat | exact HQ.out.drew.append (y := y) hown hgrow hat | exact HQ.out.drew.drew.append (y := y) hown hgrow hat | exact (HQ.out.drewN _).append (y := y) hown hgrow hat⟩; clear hown hgrow hat hltg; (try clear s0 s1 s2 s3); obtain ⟨s0, s1, s2, s3⟩ := HQ1.out.cells HY.out))
              go_roundg gk
              case measure => omega
              case rel => exact ⟨k + 1, (N) ++ [(y : S45)], false, by omega, rfl, by simp, ⟨by rw [HST.out]; simp [stepP, hlt0, hq0]⟩, ⟨by simp; omega⟩, HQ1⟩
theorem refRead_some (A0 : Option Addr) (c0 : Nat) (l0 : List S31) (a1 : Int) (w : World) (hf : isFirst a1 = true) (hr0 : Kd.C k31 w A0 l0.length l0) (hc0 : l0.length ≤ c0) (hlen : l0.length ≤ 400) :
    Calls Try.prog 14 #[.slice A0 l0.length c0, .int .i64 a1] w fun e w' => ∃ (v0 v1 v2 : Value), e = .returned (.agg #[v0, v1, v2]) ∧
      w'.ownsRow w.heap.size 43 4 v0 (vAt l0 a1 l0.length).losers.length ((vAt l0 a1 l0.length).losers.flatMap cells43) ∧
      w'.ownsRow w.heap.size 24 3 v1 (vAt l0 a1 l0.length).done.length (rows24 (vAt l0 a1 l0.length).done) ∧
      w'.ownsRow w.heap.size 45 2 v2 (vAt l0 a1 l0.length).pages.length ((vAt l0 a1 l0.length).pages.flatMap cells45) ∧ Below w.heap.size w w' := refReadA.2 ⟨refReadB.2 ⟨refReadC⟩⟩ A0 c0 l0 a1 w hf hr0 hc0 hlen
end Go.Proofs.Ytianblmceohmnaa.Hand

namespace Go.Proofs.Ytianblmceohmnaa.PAll
open Go.RowKit Go.Proofs.YtianblmceohmnaaW.PrintWords Go.Proofs.Ytianblmceohmnaa.Hand
def seneschalref17_Read.f (l0 : List (S31)) (a1 : Int) : Option ((List (S43)) × (List (S24)) × (List (S45))) :=
  if l0.length ≤ 400 then (if isFirst a1 then some ((vAt l0 a1 l0.length).losers, (vAt l0 a1 l0.length).done, (vAt l0 a1 l0.length).pages) else some ([], [], [])) else none
theorem seneschalref17_Read.calls (A0 : Option Addr) (c0 : Nat) (l0 : List (S31)) (a1 : Int) (r1 : List (S43)) (r2 : List (S24)) (r3 : List (S45)) (w : World) (hr0 : Kd.C k31 w A0 l0.length l0) (hc0 : l0.length ≤ c0) (h : seneschalref17_Read.f l0 a1 = some (r1, r2, r3)) :
    Calls Try.prog 14 #[.slice A0 l0.length c0, .int .i64 a1] w fun e w' => ∃ v0_ v1_ v2_ : Value, e = .returned (.agg #[v0_, v1_, v2_]) ∧ Kd.R k43 43 w' w.heap.size (fun _ => True) v0_ r1 ∧ Kd.R k24 24 w' w.heap.size (fun _ => True) v1_ r2 ∧ Kd.R k45 45 w' w.heap.size (fun _ => True) v2_ r3 ∧ Below w.heap.size w w' := by
  unfold seneschalref17_Read.f at h
  by_cases hl : l0.length ≤ 400
  · rw [if_pos hl] at h
    cases hf : isFirst a1 with
    | false =>
      rw [hf, if_neg (by simp)] at h
      cases h
      refine (refRead_none A0 c0 l0 a1 w hf).mono ?_
      rintro e w' ⟨rfl, hb⟩
      exact ⟨_, _, _, rfl, Kd.R_nil _ _ _ _ _, Kd.R_nil _ _ _ _ _, Kd.R_nil _ _ _ _ _, hb⟩
    | true =>
      rw [hf, if_pos rfl] at h
      cases h
      refine (refRead_some A0 c0 l0 a1 w hf hr0 hc0 hl).mono ?_
      rintro e w' ⟨v0, v1, v2, rfl, o1, o2, o3, hb⟩
      exact ⟨v0, v1, v2, rfl, R43 o1, R24 o2, R45 o3, hb⟩
  · rw [if_neg hl] at h; cases h
end Go.Proofs.Ytianblmceohmnaa.PAll
