/- A part of the proof: Fns0, Fns1, Fns, S1, Lib2, S2, Lib3. -/
import Derived.Test.YtpfekfkkcjfimaaDoorMini1
/- What functions come to (printed). -/
section
set_option linter.unusedVariables false
set_option maxRecDepth 100000
namespace Mini
open Go Go.Proofs
/-- alibi/alibilaw20.CheckLess -/
noncomputable def law20_CheckLess_L1 (n : Nat) (s : St) : Option Out :=
  seqX ((faV 3 0 (s.e 1)).bind fun v45 => (ldV 0 v45 s.h).bind fun v46 => (iaS 0 v46 (s.e 7)).bind fun v47 => (ldV 0 v47 s.h).bind fun v48 => (lenV v48).bind fun v49 => (intV .lss (s.e 9) v49).bind fun v50 => condV v50
  (some (.normal ⟨(envL [(1, (s.e 1)), (5, (s.e 5)), (6, (s.e 6)), (7, (s.e 7)), (8, (s.e 8)), (9, (s.e 9)), (48, v50)]), s.h⟩))
  (some (.exit 2 ⟨(envL [(1, (s.e 1)), (5, (s.e 5)), (6, (s.e 6)), (7, (s.e 7)), (8, (s.e 8)), (9, (s.e 9)), (48, v50)]), s.h⟩)))
  (fun s51 => seqX (blkX 3 ((faV 2 0 (s51.e 8)).bind fun v52 => (ldV 0 v52 s51.h).bind fun v53 => ((fillV (rep 1 [(.int .u32 0)]) [(0, 0, (.int .u32 0))]).bind fun cs => newSl none 1 0 cs s51.h).bind fun r54 => (appV (some 4) 17592186044416 0 v53 r54.1 r54.2).bind fun r55 => (faV 2 0 (s51.e 8)).bind fun v56 => ((stV 0 v56 r55.1 r55.2).bind fun h => some (V.tup [], h)).bind fun r57 => (faV 5 0 (s51.e 8)).bind fun v58 => (ldV 0 v58 r57.2).bind fun v59 => ((fillV (rep 1 [(.int .u32 0)]) [(0, 0, (.int .u32 511))]).bind fun cs => newSl none 1 0 cs r57.2).bind fun r60 => (appV (some 5) 17592186044416 0 v59 r60.1 r60.2).bind fun r61 => (faV 5 0 (s51.e 8)).bind fun v62 => ((stV 0 v62 r61.1 r61.2).bind fun h => some (V.tup [], h)).bind fun r63 => (grdV (s51.e 6) false (faV 3 0 (s51.e 1))).bind fun v64 => (grdV (s51.e 6) false (ldV 0 v64 r63.2)).bind fun v65 => (grdV (s51.e 6) false (some (s51.e 7))).bind fun v66 => (grdV (s51.e 6) false (iaS 0 v65 v66)).bind fun v67 => (grdV (s51.e 6) false (ldV 0 v67 r63.2)).bind fun v68 => (grdV (s51.e 6) false (some (s51.e 9))).bind fun v69 => (grdV (s51.e 6) false (iaS 4 v68 v69)).bind fun v70 => (grdV (s51.e 6) false (faV 0 0 v70)).bind fun v71 => (grdV (s51.e 6) false (ldV 0 v71 r63.2)).bind fun v72 => (grdV (s51.e 6) false (intV .eql v72 (.int .i64 1))).bind fun v73 => (pickV (s51.e 6) (.bool true) v73).bind fun v74 => (grdV v74 false (faV 3 0 (s51.e 1))).bind fun v75 => (grdV v74 false (ldV 0 v75 r63.2)).bind fun v76 => (grdV v74 false (some (s51.e 7))).bind fun v77 => (grdV v74 false (iaS 0 v76 v77)).bind fun v78 => (grdV v74 false (ldV 0 v78 r63.2)).bind fun v79 => (grdV v74 false (some (s51.e 9))).bind fun v80 => (grdV v74 false (iaS 4 v79 v80)).bind fun v81 => (grdV v74 false (faV 0 0 v81)).bind fun v82 => (grdV v74 false (ldV 0 v82 r63.2)).bind fun v83 => (grdV v74 false (intV .eql v83 (.int .i64 2))).bind fun v84 => (pickV v74 (.bool true) v84).bind fun v85 => some (.normal ⟨(envL [(1, (s51.e 1)), (5, (s51.e 5)), (6, v85), (7, (s51.e 7)), (8, (s51.e 8)), (9, (s51.e 9))]), r63.2⟩)))
  (fun s86 => (intV .add (s86.e 9) (.int .i64 1)).bind fun v87 => some (.normal ⟨(envL [(1, (s86.e 1)), (5, (s86.e 5)), (6, (s86.e 6)), (7, (s86.e 7)), (8, (s86.e 8)), (9, v87)]), s86.h⟩)))

noncomputable def law20_CheckLess_L0 (n : Nat) (s : St) : Option Out :=
  seqX ((faV 3 0 (s.e 1)).bind fun v33 => (ldV 0 v33 s.h).bind fun v34 => (lenV v34).bind fun v35 => (intV .lss (s.e 7) v35).bind fun v36 => condV v36
  (some (.normal ⟨(envL [(1, (s.e 1)), (5, (s.e 5)), (6, (s.e 6)), (7, (s.e 7)), (37, v36)]), s.h⟩))
  (some (.exit 0 ⟨(envL [(1, (s.e 1)), (5, (s.e 5)), (6, (s.e 6)), (7, (s.e 7)), (37, v36)]), s.h⟩)))
  (fun s37 => seqX (blkX 1 ((buildV [(.int .u32 0), (.int .u32 0), .nils, (.int .u32 0), (.int .u32 0), .nils] [(3, 0, (.int .u32 511)), (4, 0, (.int .u32 511))]).bind fun v38 => (allocV (some 3) 6 [(.int .u32 0), (.int .u32 0), .nils, (.int .u32 0), (.int .u32 0), .nils] s37.h).bind fun r39 => ((stV 6 r39.1 v38 r39.2).bind fun h => some (V.tup [], h)).bind fun r40 => (promC (cmds.faV' 2 r39.1) 11 0 r40.2).bind fun h42 => (promC (cmds.faV' 5 r39.1) 12 0 h42).bind fun h44 => seqX (blkX 2 (lpC (law20_CheckLess_L1 n) ⟨(envL [(1, (s37.e 1)), (5, (s37.e 5)), (6, (s37.e 6)), (7, (s37.e 7)), (8, r39.1), (9, (.int .i64 0))]), h44⟩))
  (fun s88 => (frzC (cmds.faV' 2 (s88.e 8)) s88.h).bind fun h90 => (frzC (cmds.faV' 5 (s88.e 8)) h90).bind fun h92 => (faV 32 0 (s88.e 5)).bind fun v93 => (ldV 0 v93 h92).bind fun v94 => (ldV 6 (s88.e 8) h92).bind fun v95 => ((fillV (rep 1 [(.int .u32 0), (.int .u32 0), .nils, (.int .u32 0), (.int .u32 0), .nils]) [(0, 6, v95)]).bind fun cs => newSl none 1 6 cs h92).bind fun r96 => (appV (some 6) 1099511627776 6 v94 r96.1 r96.2).bind fun r97 => (faV 32 0 (s88.e 5)).bind fun v98 => ((stV 0 v98 r97.1 r97.2).bind fun h => some (V.tup [], h)).bind fun r99 => some (.normal ⟨(envL [(1, (s88.e 1)), (5, (s88.e 5)), (6, (s88.e 6)), (7, (s88.e 7))]), r99.2⟩))))
  (fun s100 => (intV .add (s100.e 7) (.int .i64 1)).bind fun v101 => some (.normal ⟨(envL [(1, (s100.e 1)), (5, (s100.e 5)), (6, (s100.e 6)), (7, v101)]), s100.h⟩)))

noncomputable def law20_CheckLess_B (n : Nat) (a0 : V) (h : Heap) : Option Out :=
  (boxV none 4 a0 h).bind fun r1 => seqX ((runF (tD n) k_law20_awake {  } [] r1.2).bind fun r2 => (unV .not r2.1).bind fun v3 => (grdV v3 false (ldV 4 r1.1 r2.2)).bind fun v4 => (grdH v3 false r2.2 (runF (tD n) k_ref05_Small {  } [v4] r2.2)).bind fun r5 => (grdV v3 false (unV .not r5.1)).bind fun v6 => (pickV v3 (.bool true) v6).bind fun v7 => condV v7
  ((runF (tD n) k_law20_awake {  } [] r5.2).bind fun r8 => some (.ret r8.1 r8.2))
  (some (.normal ⟨(envL [(1, r1.1), (16, v7)]), r5.2⟩)))
  (fun s9 => (ldV 4 (s9.e 1) s9.h).bind fun v10 => (runF (tD n) k_pcode_Digest {  } [v10] s9.h).bind fun r11 => (extV r11.1 0).bind fun v12 => (extV r11.1 1).bind fun v13 => (allocV (some 0) 32 (rep 32 [(.int .u8 0)]) r11.2).bind fun r14 => ((stV 32 r14.1 v12 r14.2).bind fun h => some (V.tup [], h)).bind fun r15 => (frzP 32 r14.1 r15.2).bind fun r16 => seqX ((intV .neq v13 (.int .i64 0)).bind fun v17 => condV v17
  ((ldV 32 r16.1 r16.2).bind fun v18 => (buildV (rep 32 [(.int .u8 0)]) []).bind fun v19 => (aggEq .eql 32 (eqN 32 0) v18 v19).bind fun v20 => some (.ret v20 r16.2))
  (some (.normal ⟨(envL [(1, (s9.e 1)), (3, r16.1), (24, v17)]), r16.2⟩)))
  (fun s21 => (ldV 32 (s21.e 3) s21.h).bind fun v22 => (faV 0 0 (s21.e 1)).bind fun v23 => (ldV 0 v23 s21.h).bind fun v24 => (mkSl (some 1) 4398046511104 2 [(.int .i64 0), (.int .i64 0)] v24 v24 s21.h).bind fun r25 => grdB (okF (fpP (s21.e 3)) [] [] [1] && true) ((buildV (rep 32 [(.int .u8 0)] ++ [.nils, .nils]) [(0, 32, v22), (33, 0, r25.1)]).bind fun v26 => (allocV (some 2) 34 (rep 32 [(.int .u8 0)] ++ [.nils, .nils]) r25.2).bind fun r27 => grdB (okF [] [1] [] [2] && (okF (fpP v23) [] [] [2] && (okF (fpP (s21.e 3)) [] [] [2] && true))) (((stV 34 r27.1 v26 r27.2).bind fun h => some (V.tup [], h)).bind fun r28 => (frzC (cmds.faV' 33 r27.1) r28.2).bind fun h30 => (promC (cmds.faV' 32 r27.1) 10 6 h30).bind fun h32 => seqX (blkX 0 (lpC (law20_CheckLess_L0 n) ⟨(envL [(1, (s21.e 1)), (5, r27.1), (6, (.bool false)), (7, (.int .i64 0))]), h32⟩))
  (fun s102 => (frzC (cmds.faV' 32 (s102.e 5)) s102.h).bind fun h104 => (ldV 4 (s102.e 1) h104).bind fun v105 => (ldV 34 (s102.e 5) h104).bind fun v106 => (runF (tD n) k_check_Accepts {  } [v105, v106] h104).bind fun r107 => (unV .not (s102.e 6)).bind fun v108 => (boolV .eql r107.1 v108).bind fun v109 => some (.ret v109 r107.2))))))

theorem law20_CheckLess_eq (n : Nat) (a0 : V) (h : Heap) : dn PR gD anD (n + 1) k_law20_CheckLess [a0] h = fin PR [.tmp 2] (law20_CheckLess_B n a0 (h ++ pad 13)) := by kernel_rfl
/-- alibi/alibilaw20.CheckFirst -/
noncomputable def law20_CheckFirst_B (n : Nat) (a0 a1 a2 : V) (h : Heap) : Option Out :=
  (boxV none 4 a0 h).bind fun r1 => (boxV none 34 a1 r1.2).bind fun r2 => seqX ((runF (tD n) k_law20_awake {  } [] r2.2).bind fun r3 => (unV .not r3.1).bind fun v4 => (grdV v4 false (ldV 4 r1.1 r3.2)).bind fun v5 => (grdH v4 false r3.2 (runF (tD n) k_ref05_Small {  } [v5] r3.2)).bind fun r6 => (grdV v4 false (unV .not r6.1)).bind fun v7 => (pickV v4 (.bool true) v7).bind fun v8 => (grdV v8 false (ldV 34 r2.1 r6.2)).bind fun v9 => (grdH v8 false r6.2 (runF (tD n) k_ref18_Few {  } [v9] r6.2)).bind fun r10 => (grdV v8 false (unV .not r10.1)).bind fun v11 => (pickV v8 (.bool true) v11).bind fun v12 => condV v12
  ((runF (tD n) k_law20_awake {  } [] r10.2).bind fun r13 => some (.ret r13.1 r13.2))
  (some (.normal ⟨(envL [(2, a2), (3, r1.1), (4, r2.1), (26, v12)]), r10.2⟩)))
  (fun s14 => (ldV 4 (s14.e 3) s14.h).bind fun v15 => (runF (tD n) k_pcode_Digest {  } [v15] s14.h).bind fun r16 => (extV r16.1 0).bind fun v17 => (extV r16.1 1).bind fun v18 => (allocV (some 0) 32 (rep 32 [(.int .u8 0)]) r16.2).bind fun r19 => ((stV 32 r19.1 v17 r19.2).bind fun h => some (V.tup [], h)).bind fun r20 => (frzP 32 r19.1 r20.2).bind fun r21 => seqX ((intV .neq v18 (.int .i64 0)).bind fun v22 => condV v22
  (some (.ret (.bool true) r21.2))
  (some (.normal ⟨(envL [(2, (s14.e 2)), (3, (s14.e 3)), (4, (s14.e 4)), (7, r21.1), (34, v22)]), r21.2⟩)))
  (fun s23 => (ldV 34 (s23.e 4) s23.h).bind fun v24 => (allocV (some 1) 34 (rep 32 [(.int .u8 0)] ++ [.nils, .nils]) s23.h).bind fun r25 => ((stV 34 r25.1 v24 r25.2).bind fun h => some (V.tup [], h)).bind fun r26 => ((fillV (rep 0 [(.int .i64 0), (.int .i64 0)]) []).bind fun cs => newSl (some 2) 0 2 cs r26.2).bind fun r27 => (faV 33 0 (s23.e 4)).bind fun v28 => (ldV 0 v28 r27.2).bind fun v29 => (appV (some 3) 4398046511104 2 r27.1 v29 r27.2).bind fun r30 => (faV 33 0 r25.1).bind fun v31 => ((stV 0 v31 r30.1 r30.2).bind fun h => some (V.tup [], h)).bind fun r32 => seqX (condV (s23.e 2)
  ((faV 0 0 (s23.e 3)).bind fun v33 => (ldV 0 v33 r32.2).bind fun v34 => (intV .add v34 (.int .i64 1)).bind fun v35 => (mkSl (some 4) 4398046511104 2 [(.int .i64 0), (.int .i64 0)] v35 v35 r32.2).bind fun r36 => (faV 33 0 r25.1).bind fun v37 => ((stV 0 v37 r36.1 r36.2).bind fun h => some (V.tup [], h)).bind fun r38 => some (.normal ⟨(envL [(2, (s23.e 2)), (3, (s23.e 3)), (4, (s23.e 4)), (7, (s23.e 7)), (9, r25.1)]), r38.2⟩))
  ((faV 0 0 (s23.e 3)).bind fun v39 => (ldV 0 v39 r32.2).bind fun v40 => (intV .gtr v40 (.int .i64 0)).bind fun v41 => condV v41
  ((faV 0 0 (s23.e 3)).bind fun v42 => (ldV 0 v42 r32.2).bind fun v43 => (intV .sub v43 (.int .i64 1)).bind fun v44 => (mkSl (some 5) 4398046511104 2 [(.int .i64 0), (.int .i64 0)] v44 v44 r32.2).bind fun r45 => (faV 33 0 r25.1).bind fun v46 => ((stV 0 v46 r45.1 r45.2).bind fun h => some (V.tup [], h)).bind fun r47 => some (.normal ⟨(envL [(2, (s23.e 2)), (3, (s23.e 3)), (4, (s23.e 4)), (7, (s23.e 7)), (9, r25.1)]), r47.2⟩))
  (some (.normal ⟨(envL [(2, (s23.e 2)), (3, (s23.e 3)), (4, (s23.e 4)), (7, (s23.e 7)), (9, r25.1), (49, v41)]), r32.2⟩))))
  (fun s48 => (frzC (cmds.faV' 33 (s48.e 9)) s48.h).bind fun h50 => (ldV 4 (s48.e 3) h50).bind fun v51 => (ldV 34 (s48.e 9) h50).bind fun v52 => (runF (tD n) k_check_Check {  } [v51, v52] h50).bind fun r53 => (extV r53.1 0).bind fun v54 => (extV r53.1 1).bind fun v55 => (allocV (some 6) 3 [(.int .i64 0), (.int .i64 0), (.int .i64 0)] r53.2).bind fun r56 => ((stV 3 r56.1 v54 r56.2).bind fun h => some (V.tup [], h)).bind fun r57 => (frzP 3 r56.1 r57.2).bind fun r58 => seqX ((grdV (s48.e 2) false (faV 0 0 (s48.e 3))).bind fun v59 => (grdV (s48.e 2) false (ldV 0 v59 r58.2)).bind fun v60 => (grdV (s48.e 2) false (intV .gtr v60 (.int .i64 0))).bind fun v61 => (pickV (s48.e 2) (.bool true) v61).bind fun v62 => (grdV v62 true (some v55)).bind fun v63 => (grdV v62 true (intV .neq v63 (.int .i64 0))).bind fun v64 => (grdV v62 true (some v64)).bind fun v65 => (grdV v65 false (ldV 3 r58.1 r58.2)).bind fun v66 => (grdV v65 false (buildV [(.int .i64 0), (.int .i64 0), (.int .i64 0)] [(0, 0, (.int .i64 (-1))), (1, 0, (.int .i64 (-1))), (2, 0, (.int .i64 1))])).bind fun v67 => (grdV v65 false (aggEq .neq 3 [(0, 0), (1, 0), (2, 0)] v66 v67)).bind fun v68 => (grdV v62 true (pickV v65 (.bool true) v68)).bind fun v69 => (pickV v62 v69 (.bool false)).bind fun v70 => condV v70
  (some (.ret (.bool false) r58.2))
  (some (.normal ⟨(envL [(3, (s48.e 3)), (4, (s48.e 4)), (7, (s48.e 7)), (75, v70)]), r58.2⟩)))
  (fun s71 => (ldV 34 (s71.e 4) s71.h).bind fun v72 => (allocV (some 7) 34 (rep 32 [(.int .u8 0)] ++ [.nils, .nils]) s71.h).bind fun r73 => ((stV 34 r73.1 v72 r73.2).bind fun h => some (V.tup [], h)).bind fun r74 => (ldV 32 (s71.e 7) r74.2).bind fun v75 => (faV 0 32 r73.1).bind fun v76 => ((stV 32 v76 v75 r74.2).bind fun h => some (V.tup [], h)).bind fun r77 => (faV 0 32 r73.1).bind fun v78 => (iaA 32 0 v78 (.int .i64 5)).bind fun v79 => (ldV 0 v79 r77.2).bind fun v80 => (intV .xor v80 (.int .u8 1)).bind fun v81 => (faV 0 32 r73.1).bind fun v82 => (iaA 32 0 v82 (.int .i64 5)).bind fun v83 => ((stV 0 v83 v81 r77.2).bind fun h => some (V.tup [], h)).bind fun r84 => (ldV 4 (s71.e 3) r84.2).bind fun v85 => (ldV 34 r73.1 r84.2).bind fun v86 => (runF (tD n) k_check_Check {  } [v85, v86] r84.2).bind fun r87 => (extV r87.1 0).bind fun v88 => (extV r87.1 1).bind fun v89 => (allocV (some 8) 3 [(.int .i64 0), (.int .i64 0), (.int .i64 0)] r87.2).bind fun r90 => ((stV 3 r90.1 v88 r90.2).bind fun h => some (V.tup [], h)).bind fun r91 => (frzP 3 r90.1 r91.2).bind fun r92 => (intV .eql v89 (.int .i64 0)).bind fun v93 => (grdV v93 true (faV 0 0 r92.1)).bind fun v94 => (grdV v93 true (ldV 0 v94 r92.2)).bind fun v95 => (grdV v93 true (intV .eql v95 (.int .i64 (-1)))).bind fun v96 => (pickV v93 v96 (.bool false)).bind fun v97 => (grdV v97 true (faV 1 0 r92.1)).bind fun v98 => (grdV v97 true (ldV 0 v98 r92.2)).bind fun v99 => (grdV v97 true (intV .eql v99 (.int .i64 (-1)))).bind fun v100 => (pickV v97 v100 (.bool false)).bind fun v101 => (grdV v101 true (faV 2 0 r92.1)).bind fun v102 => (grdV v101 true (ldV 0 v102 r92.2)).bind fun v103 => (grdV v101 true (intV .eql v103 (.int .i64 1))).bind fun v104 => (grdV v101 true (some v104)).bind fun v105 => (grdV v105 false (faV 2 0 r92.1)).bind fun v106 => (grdV v105 false (ldV 0 v106 r92.2)).bind fun v107 => (grdV v105 false (intV .eql v107 (.int .i64 9))).bind fun v108 => (grdV v101 true (pickV v105 (.bool true) v108)).bind fun v109 => (pickV v101 v109 (.bool false)).bind fun v110 => some (.ret v110 r92.2)))))

theorem law20_CheckFirst_eq (n : Nat) (a0 a1 a2 : V) (h : Heap) : dn PR gD anD (n + 1) k_law20_CheckFirst [a0, a1, a2] h = fin PR [.tmp 6] (law20_CheckFirst_B n a0 a1 a2 (h ++ pad 9)) := by kernel_rfl
/-- alibi/alibilaw20.awake -/
noncomputable def law20_awake_B (n : Nat) (h : Heap) : Option Out :=
  (buildV [(.int .i64 0), (.int .i64 0), (.int .i64 0), (.int .i64 0)] [(0, 0, (.int .i64 9))]).bind fun v1 => ((fillV (rep 1 [(.int .i64 0), (.int .i64 0), (.int .i64 0), (.int .i64 0)]) [(0, 4, v1)]).bind fun cs => newSl none 1 4 cs h).bind fun r2 => ((fillV (rep 1 [.nils]) [(0, 0, r2.1)]).bind fun cs => newSl none 1 0 cs r2.2).bind fun r3 => (buildV [(.int .i64 0), (.int .i64 0), (.int .i64 0), .nils] [(3, 0, r3.1)]).bind fun v4 => (allocV (some 0) 4 [(.int .i64 0), (.int .i64 0), (.int .i64 0), .nils] r3.2).bind fun r5 => ((stV 4 r5.1 v4 r5.2).bind fun h => some (V.tup [], h)).bind fun r6 => (frzP 4 r5.1 r6.2).bind fun r7 => (ldV 4 r7.1 r7.2).bind fun v8 => (runF (tD n) k_pcode_Digest {  } [v8] r7.2).bind fun r9 => (extV r9.1 0).bind fun v10 => (extV r9.1 1).bind fun v11 => (allocV (some 1) 32 (rep 32 [(.int .u8 0)]) r9.2).bind fun r12 => ((stV 32 r12.1 v10 r12.2).bind fun h => some (V.tup [], h)).bind fun r13 => (frzP 32 r12.1 r13.2).bind fun r14 => (ldV 32 r14.1 r14.2).bind fun v15 => ((fillV (rep 1 [(.int .u32 0)]) [(0, 0, (.int .u32 0))]).bind fun cs => newSl none 1 0 cs r14.2).bind fun r16 => ((fillV (rep 1 [(.int .u32 0)]) [(0, 0, (.int .u32 0))]).bind fun cs => newSl none 1 0 cs r16.2).bind fun r17 => (buildV [(.int .u32 0), (.int .u32 0), .nils, (.int .u32 0), (.int .u32 0), .nils] [(2, 0, r16.1), (5, 0, r17.1)]).bind fun v18 => ((fillV (rep 1 [(.int .u32 0), (.int .u32 0), .nils, (.int .u32 0), (.int .u32 0), .nils]) [(0, 6, v18)]).bind fun cs => newSl none 1 6 cs r17.2).bind fun r19 => (buildV (rep 32 [(.int .u8 0)] ++ [.nils, .nils]) [(0, 32, v15), (32, 0, r19.1)]).bind fun v20 => (allocV (some 2) 34 (rep 32 [(.int .u8 0)] ++ [.nils, .nils]) r19.2).bind fun r21 => ((stV 34 r21.1 v20 r21.2).bind fun h => some (V.tup [], h)).bind fun r22 => (frzC (cmds.faV' 33 r21.1) r22.2).bind fun h24 => (ldV 4 r7.1 h24).bind fun v25 => (ldV 34 r21.1 h24).bind fun v26 => (runF (tD n) k_check_Check {  } [v25, v26] h24).bind fun r27 => (extV r27.1 0).bind fun v28 => (extV r27.1 1).bind fun v29 => (allocV (some 3) 3 [(.int .i64 0), (.int .i64 0), (.int .i64 0)] r27.2).bind fun r30 => ((stV 3 r30.1 v28 r30.2).bind fun h => some (V.tup [], h)).bind fun r31 => (frzP 3 r30.1 r31.2).bind fun r32 => (ldV 4 r7.1 r32.2).bind fun v33 => (ldV 34 r21.1 r32.2).bind fun v34 => (runF (tD n) k_check_Accepts {  } [v33, v34] r32.2).bind fun r35 => (faV 0 32 r21.1).bind fun v36 => (iaA 32 0 v36 (.int .i64 0)).bind fun v37 => (ldV 0 v37 r35.2).bind fun v38 => (intV .add v38 (.int .u8 1)).bind fun v39 => (faV 0 32 r21.1).bind fun v40 => (iaA 32 0 v40 (.int .i64 0)).bind fun v41 => ((stV 0 v41 v39 r35.2).bind fun h => some (V.tup [], h)).bind fun r42 => (intV .eql v11 (.int .i64 0)).bind fun v43 => (grdV v43 true (some v29)).bind fun v44 => (grdV v43 true (intV .eql v44 (.int .i64 0))).bind fun v45 => (pickV v43 v45 (.bool false)).bind fun v46 => (grdV v46 true (ldV 3 r32.1 r42.2)).bind fun v47 => (grdV v46 true (buildV [(.int .i64 0), (.int .i64 0), (.int .i64 0)] [])).bind fun v48 => (grdV v46 true (aggEq .eql 3 [(0, 0), (1, 0), (2, 0)] v47 v48)).bind fun v49 => (pickV v46 v49 (.bool false)).bind fun v50 => (grdV v50 true (some r35.1)).bind fun v51 => (pickV v50 v51 (.bool false)).bind fun v52 => (grdV v52 true (ldV 4 r7.1 r42.2)).bind fun v53 => (grdV v52 true (ldV 34 r21.1 r42.2)).bind fun v54 => (grdH v52 true r42.2 (runF (tD n) k_check_Accepts {  } [v53, v54] r42.2)).bind fun r55 => (grdV v52 true (unV .not r55.1)).bind fun v56 => (pickV v52 v56 (.bool false)).bind fun v57 => some (.ret v57 r55.2)

theorem law20_awake_eq (n : Nat) (h : Heap) : dn PR gD anD (n + 1) k_law20_awake [] h = fin PR [.tmp 0] (law20_awake_B n (h ++ pad 4)) := by kernel_rfl
/-- alibi/alibiref05.Small -/
noncomputable def ref05_Small_L0 (n : Nat) (s : St) : Option Out :=
  seqX ((faV 3 0 (s.e 1)).bind fun v7 => (ldV 0 v7 s.h).bind fun v8 => (lenV v8).bind fun v9 => (intV .lss (s.e 3) v9).bind fun v10 => condV v10
  (some (.normal ⟨(envL [(1, (s.e 1)), (3, (s.e 3)), (12, v10)]), s.h⟩))
  (some (.exit 0 ⟨(envL [(1, (s.e 1)), (3, (s.e 3)), (12, v10)]), s.h⟩)))
  (fun s11 => seqX (blkX 1 ((faV 3 0 (s11.e 1)).bind fun v12 => (ldV 0 v12 s11.h).bind fun v13 => (iaS 0 v13 (s11.e 3)).bind fun v14 => (ldV 0 v14 s11.h).bind fun v15 => (lenV v15).bind fun v16 => (intV .gtr v16 (.int .i64 100)).bind fun v17 => condV v17
  (some (.ret (.bool false) s11.h))
  (some (.normal ⟨(envL [(1, (s11.e 1)), (3, (s11.e 3)), (21, v17)]), s11.h⟩))))
  (fun s18 => (intV .add (s18.e 3) (.int .i64 1)).bind fun v19 => some (.normal ⟨(envL [(1, (s18.e 1)), (3, v19)]), s18.h⟩)))

noncomputable def ref05_Small_B (n : Nat) (a0 : V) (h : Heap) : Option Out :=
  (boxV none 4 a0 h).bind fun r1 => seqX ((faV 3 0 r1.1).bind fun v2 => (ldV 0 v2 r1.2).bind fun v3 => (lenV v3).bind fun v4 => (intV .gtr v4 (.int .i64 40)).bind fun v5 => condV v5
  (some (.ret (.bool false) r1.2))
  (some (.normal ⟨(envL [(1, r1.1), (7, v5)]), r1.2⟩)))
  (fun s6 => seqX (blkX 0 (lpC (ref05_Small_L0 n) ⟨(envL [(1, (s6.e 1)), (3, (.int .i64 0))]), s6.h⟩))
  (fun s20 => some (.ret (.bool true) s20.h)))

theorem ref05_Small_eq (n : Nat) (a0 : V) (h : Heap) : dn PR gD anD (n + 1) k_ref05_Small [a0] h = fin PR [.tmp 2] (ref05_Small_B n a0 (h ++ pad 0)) := by kernel_rfl
/-- alibi/pcode.Digest -/
noncomputable def pcode_Digest_B (n : Nat) (a0 : V) (h : Heap) : Option Out :=
  (boxV none 4 a0 h).bind fun r1 => (allocV (some 0) 32 (rep 32 [(.int .u8 0)]) r1.2).bind fun r2 => (ldV 4 r1.1 r2.2).bind fun v3 => (runF (tD n) k_pcode_Write {  } [v3] r2.2).bind fun r4 => (extV r4.1 0).bind fun v5 => (extV r4.1 1).bind fun v6 => seqX ((intV .neq v6 (.int .i64 0)).bind fun v7 => condV v7
  ((buildV (rep 32 [(.int .u8 0)]) []).bind fun v8 => ((stV 32 r2.1 v8 r4.2).bind fun h => some (V.tup [], h)).bind fun r9 => ((((ldV 32 r2.1 r9.2).bind fun v10 => some (v10 :: (v6 :: [])))).bind tupL).bind fun v => some (.ret v r9.2))
  (some (.normal ⟨(envL [(2, r2.1), (4, v5), (5, v6), (12, v7)]), r4.2⟩)))
  (fun s11 => ((fillV (rep 1 [.nils]) [(0, 0, (s11.e 4))]).bind fun cs => newSl none 1 0 cs s11.h).bind fun r12 => (runF (tD n) k_sha_Of {  } [r12.1] r12.2).bind fun r13 => ((stV 32 (s11.e 2) r13.1 r13.2).bind fun h => some (V.tup [], h)).bind fun r14 => ((((ldV 32 (s11.e 2) r14.2).bind fun v15 => some (v15 :: ((.int .i64 0) :: [])))).bind tupL).bind fun v => some (.ret v r14.2))

theorem pcode_Digest_eq (n : Nat) (a0 : V) (h : Heap) : dn PR gD anD (n + 1) k_pcode_Digest [a0] h = fin PR [.cell 2 27, .tmp 3] (pcode_Digest_B n a0 (h ++ pad 1)) := by kernel_rfl
/-- alibi/check.Accepts -/
noncomputable def check_Accepts_B (n : Nat) (a0 a1 : V) (h : Heap) : Option Out :=
  (boxV none 4 a0 h).bind fun r1 => (boxV none 34 a1 r1.2).bind fun r2 => (ldV 4 r1.1 r2.2).bind fun v3 => (ldV 34 r2.1 r2.2).bind fun v4 => (runF (tD n) k_check_Check {  } [v3, v4] r2.2).bind fun r5 => (extV r5.1 0).bind fun v6 => (extV r5.1 1).bind fun v7 => (allocV (some 0) 3 [(.int .i64 0), (.int .i64 0), (.int .i64 0)] r5.2).bind fun r8 => ((stV 3 r8.1 v6 r8.2).bind fun h => some (V.tup [], h)).bind fun r9 => (frzP 3 r8.1 r9.2).bind fun r10 => (intV .eql v7 (.int .i64 0)).bind fun v11 => (grdV v11 true (faV 2 0 r10.1)).bind fun v12 => (grdV v11 true (ldV 0 v12 r10.2)).bind fun v13 => (grdV v11 true (intV .eql v13 (.int .i64 0))).bind fun v14 => (pickV v11 v14 (.bool false)).bind fun v15 => some (.ret v15 r10.2)

theorem check_Accepts_eq (n : Nat) (a0 a1 : V) (h : Heap) : dn PR gD anD (n + 1) k_check_Accepts [a0, a1] h = fin PR [.tmp 4] (check_Accepts_B n a0 a1 (h ++ pad 1)) := by kernel_rfl
/-- alibi/alibiref18.Few -/
noncomputable def ref18_Few_L0 (n : Nat) (s : St) : Option Out :=
  seqX ((faV 32 0 (s.e 1)).bind fun v12 => (ldV 0 v12 s.h).bind fun v13 => (lenV v13).bind fun v14 => (intV .lss (s.e 3) v14).bind fun v15 => condV v15
  (some (.normal ⟨(envL [(1, (s.e 1)), (3, (s.e 3)), (18, v15)]), s.h⟩))
  (some (.exit 0 ⟨(envL [(1, (s.e 1)), (3, (s.e 3)), (18, v15)]), s.h⟩)))
  (fun s16 => seqX (blkX 1 ((faV 32 0 (s16.e 1)).bind fun v17 => (ldV 0 v17 s16.h).bind fun v18 => (iaS 6 v18 (s16.e 3)).bind fun v19 => (faV 2 0 v19).bind fun v20 => (ldV 0 v20 s16.h).bind fun v21 => (lenV v21).bind fun v22 => (intV .gtr v22 (.int .i64 100)).bind fun v23 => (grdV v23 false (faV 32 0 (s16.e 1))).bind fun v24 => (grdV v23 false (ldV 0 v24 s16.h)).bind fun v25 => (grdV v23 false (some (s16.e 3))).bind fun v26 => (grdV v23 false (iaS 6 v25 v26)).bind fun v27 => (grdV v23 false (faV 5 0 v27)).bind fun v28 => (grdV v23 false (ldV 0 v28 s16.h)).bind fun v29 => (grdV v23 false (lenV v29)).bind fun v30 => (grdV v23 false (intV .gtr v30 (.int .i64 100))).bind fun v31 => (pickV v23 (.bool true) v31).bind fun v32 => condV v32
  (some (.ret (.bool false) s16.h))
  (some (.normal ⟨(envL [(1, (s16.e 1)), (3, (s16.e 3)), (38, v32)]), s16.h⟩))))
  (fun s33 => (intV .add (s33.e 3) (.int .i64 1)).bind fun v34 => some (.normal ⟨(envL [(1, (s33.e 1)), (3, v34)]), s33.h⟩)))

noncomputable def ref18_Few_B (n : Nat) (a0 : V) (h : Heap) : Option Out :=
  (boxV none 34 a0 h).bind fun r1 => seqX ((faV 32 0 r1.1).bind fun v2 => (ldV 0 v2 r1.2).bind fun v3 => (lenV v3).bind fun v4 => (intV .gtr v4 (.int .i64 40)).bind fun v5 => (grdV v5 false (faV 33 0 r1.1)).bind fun v6 => (grdV v5 false (ldV 0 v6 r1.2)).bind fun v7 => (grdV v5 false (lenV v7)).bind fun v8 => (grdV v5 false (intV .gtr v8 (.int .i64 40))).bind fun v9 => (pickV v5 (.bool true) v9).bind fun v10 => condV v10
  (some (.ret (.bool false) r1.2))
  (some (.normal ⟨(envL [(1, r1.1), (13, v10)]), r1.2⟩)))
  (fun s11 => seqX (blkX 0 (lpC (ref18_Few_L0 n) ⟨(envL [(1, (s11.e 1)), (3, (.int .i64 0))]), s11.h⟩))
  (fun s35 => some (.ret (.bool true) s35.h)))

theorem ref18_Few_eq (n : Nat) (a0 : V) (h : Heap) : dn PR gD anD (n + 1) k_ref18_Few [a0] h = fin PR [.tmp 2] (ref18_Few_B n a0 (h ++ pad 0)) := by kernel_rfl
/-- alibi/check.Check -/
noncomputable def check_Check_L0 (n : Nat) (s : St) : Option Out :=
  (intV .lss (s.e 23) (s.e 22)).bind fun v18 => seqX (condV v18
  (some (.normal ⟨(envL [(2, (s.e 2)), (3, (s.e 3)), (4, (s.e 4)), (21, (s.e 21)), (22, (s.e 22)), (23, (s.e 23)), (24, v18)]), s.h⟩))
  (some (.exit 0 ⟨(envL [(2, (s.e 2)), (3, (s.e 3)), (4, (s.e 4)), (21, (s.e 21)), (22, (s.e 22)), (23, (s.e 23)), (24, v18)]), s.h⟩)))
  (fun s19 => seqX (blkX 1 ((iaS 0 (s19.e 21) (s19.e 23)).bind fun v20 => (ldV 0 v20 s19.h).bind fun v21 => (ldV 4 (s19.e 2) s19.h).bind fun v22 => (ldV 34 (s19.e 3) s19.h).bind fun v23 => (runFV (tD n) v21 {  } [v22, v23] s19.h).bind fun r24 => (extV r24.1 0).bind fun v25 => (extV r24.1 1).bind fun v26 => (allocV (some 2) 3 [(.int .i64 0), (.int .i64 0), (.int .i64 0)] r24.2).bind fun r27 => ((stV 3 r27.1 v25 r27.2).bind fun h => some (V.tup [], h)).bind fun r28 => (frzP 3 r27.1 r28.2).bind fun r29 => (intV .neq v26 (.int .i64 0)).bind fun v30 => (grdV v30 false (faV 2 0 r29.1)).bind fun v31 => (grdV v30 false (ldV 0 v31 r29.2)).bind fun v32 => (grdV v30 false (intV .neq v32 (.int .i64 0))).bind fun v33 => (pickV v30 (.bool true) v33).bind fun v34 => condV v34
  ((ldV 3 r29.1 r29.2).bind fun v35 => ((stV 3 (s19.e 4) v35 r29.2).bind fun h => some (V.tup [], h)).bind fun r36 => ((((ldV 3 (s19.e 4) r36.2).bind fun v37 => some (v37 :: (v26 :: [])))).bind tupL).bind fun v => some (.ret v r36.2))
  (some (.normal ⟨(envL [(2, (s19.e 2)), (3, (s19.e 3)), (4, (s19.e 4)), (10, r29.1), (11, v26), (21, (s19.e 21)), (22, (s19.e 22)), (23, (s19.e 23)), (40, v34)]), r29.2⟩))))
  (fun s38 => (intV .add (s38.e 23) (.int .i64 1)).bind fun v39 => some (.normal ⟨(envL [(2, (s38.e 2)), (3, (s38.e 3)), (4, (s38.e 4)), (21, (s38.e 21)), (22, (s38.e 22)), (23, v39)]), s38.h⟩)))

noncomputable def check_Check_B (n : Nat) (a0 a1 : V) (h : Heap) : Option Out :=
  (boxV none 4 a0 h).bind fun r1 => (boxV none 34 a1 r1.2).bind fun r2 => (allocV (some 0) 3 [(.int .i64 0), (.int .i64 0), (.int .i64 0)] r2.2).bind fun r3 => seqX ((ldV 4 r1.1 r3.2).bind fun v4 => (runF (tD n) k_pcode_Digest {  } [v4] r3.2).bind fun r5 => (extV r5.1 0).bind fun v6 => (extV r5.1 1).bind fun v7 => (allocV (some 1) 32 (rep 32 [(.int .u8 0)]) r5.2).bind fun r8 => ((stV 32 r8.1 v6 r8.2).bind fun h => some (V.tup [], h)).bind fun r9 => (frzP 32 r8.1 r9.2).bind fun r10 => (intV .neq v7 (.int .i64 0)).bind fun v11 => condV v11
  ((buildV [(.int .i64 0), (.int .i64 0), (.int .i64 0)] []).bind fun v12 => ((stV 3 r3.1 v12 r10.2).bind fun h => some (V.tup [], h)).bind fun r13 => ((((ldV 3 r3.1 r13.2).bind fun v14 => some (v14 :: (v7 :: [])))).bind tupL).bind fun v => some (.ret v r13.2))
  (some (.normal ⟨(envL [(2, r1.1), (3, r2.1), (4, r3.1), (7, v7), (18, v11)]), r10.2⟩)))
  (fun s15 => seqX (((fillV (rep 5 [.nilf]) [(0, 0, (.fn (.func k_check_shape) [] [])), (1, 0, (.fn (.func k_check_bound) [] [])), (2, 0, (.fn (.func k_check_held) [] [])), (3, 0, (.fn (.func k_check_live) [] [])), (4, 0, (.fn (.func k_check_justs) [] []))]).bind fun cs => newSl none 5 0 cs s15.h).bind fun r16 => (lenV r16.1).bind fun v17 => blkX 0 (lpC (check_Check_L0 n) ⟨(envL [(2, (s15.e 2)), (3, (s15.e 3)), (4, (s15.e 4)), (21, r16.1), (22, v17), (23, (.int .i64 0))]), r16.2⟩))
  (fun s40 => (buildV [(.int .i64 0), (.int .i64 0), (.int .i64 0)] []).bind fun v41 => ((stV 3 (s40.e 4) v41 s40.h).bind fun h => some (V.tup [], h)).bind fun r42 => ((((ldV 3 (s40.e 4) r42.2).bind fun v43 => some (v43 :: ((.int .i64 0) :: [])))).bind tupL).bind fun v => some (.ret v r42.2)))

theorem check_Check_eq (n : Nat) (a0 a1 : V) (h : Heap) : dn PR gD anD (n + 1) k_check_Check [a0, a1] h = fin PR [.cell 4 45, .tmp 5] (check_Check_B n a0 a1 (h ++ pad 3)) := by kernel_rfl
/-- alibi/pcode.Write -/
noncomputable def pcode_Write_L3 (n : Nat) (s : St) : Option Out :=
  (intV .lss (s.e 67) (s.e 66)).bind fun v57 => seqX (condV v57
  (some (.normal ⟨(envL [(7, (s.e 7)), (47, (s.e 47)), (48, (s.e 48)), (49, (s.e 49)), (56, (s.e 56)), (57, (s.e 57)), (58, (s.e 58)), (65, (s.e 65)), (66, (s.e 66)), (67, (s.e 67)), (68, v57)]), s.h⟩))
  (some (.exit 6 ⟨(envL [(7, (s.e 7)), (47, (s.e 47)), (48, (s.e 48)), (49, (s.e 49)), (56, (s.e 56)), (57, (s.e 57)), (58, (s.e 58)), (65, (s.e 65)), (66, (s.e 66)), (67, (s.e 67)), (68, v57)]), s.h⟩)))
  (fun s58 => seqX (blkX 7 ((iaS 0 (s58.e 65) (s58.e 67)).bind fun v59 => (ldV 0 v59 s58.h).bind fun v60 => (nilV v60).bind fun v61 => (ldV 0 v61 s58.h).bind fun v62 => (runF (tD n) k_wire_WriterP_Num { ks := [0, 3] } [(s58.e 7), v62] s58.h).bind fun r63 => some (.normal ⟨(envL [(7, (s58.e 7)), (47, (s58.e 47)), (48, (s58.e 48)), (49, (s58.e 49)), (56, (s58.e 56)), (57, (s58.e 57)), (58, (s58.e 58)), (65, (s58.e 65)), (66, (s58.e 66)), (67, (s58.e 67))]), r63.2⟩)))
  (fun s64 => (intV .add (s64.e 67) (.int .i64 1)).bind fun v65 => some (.normal ⟨(envL [(7, (s64.e 7)), (47, (s64.e 47)), (48, (s64.e 48)), (49, (s64.e 49)), (56, (s64.e 56)), (57, (s64.e 57)), (58, (s64.e 58)), (65, (s64.e 65)), (66, (s64.e 66)), (67, v65)]), s64.h⟩)))

noncomputable def pcode_Write_L2 (n : Nat) (s : St) : Option Out :=
  (intV .lss (s.e 58) (s.e 57)).bind fun v45 => seqX (condV v45
  (some (.normal ⟨(envL [(7, (s.e 7)), (47, (s.e 47)), (48, (s.e 48)), (49, (s.e 49)), (56, (s.e 56)), (57, (s.e 57)), (58, (s.e 58)), (59, v45)]), s.h⟩))
  (some (.exit 4 ⟨(envL [(7, (s.e 7)), (47, (s.e 47)), (48, (s.e 48)), (49, (s.e 49)), (56, (s.e 56)), (57, (s.e 57)), (58, (s.e 58)), (59, v45)]), s.h⟩)))
  (fun s46 => seqX (blkX 5 ((iaS 4 (s46.e 56) (s46.e 58)).bind fun v47 => (ldV 4 v47 s46.h).bind fun v48 => (allocV (some 2) 4 [(.int .i64 0), (.int .i64 0), (.int .i64 0), (.int .i64 0)] s46.h).bind fun r49 => ((stV 4 r49.1 v48 r49.2).bind fun h => some (V.tup [], h)).bind fun r50 => (frzP 4 r49.1 r50.2).bind fun r51 => (faV 0 0 r51.1).bind fun v52 => (ldV 0 v52 r51.2).bind fun v53 => (runF (tD n) k_wire_WriterP_Num { ks := [0, 3] } [(s46.e 7), v53] r51.2).bind fun r54 => (runF (tD n) k_pcode_parts {  } [r51.1] r54.2).bind fun r55 => (lenV r55.1).bind fun v56 => blkX 6 (lpC (pcode_Write_L3 n) ⟨(envL [(7, (s46.e 7)), (47, (s46.e 47)), (48, (s46.e 48)), (49, (s46.e 49)), (56, (s46.e 56)), (57, (s46.e 57)), (58, (s46.e 58)), (65, r55.1), (66, v56), (67, (.int .i64 0))]), r55.2⟩)))
  (fun s66 => (intV .add (s66.e 58) (.int .i64 1)).bind fun v67 => some (.normal ⟨(envL [(7, (s66.e 7)), (47, (s66.e 47)), (48, (s66.e 48)), (49, (s66.e 49)), (56, (s66.e 56)), (57, (s66.e 57)), (58, v67)]), s66.h⟩)))

noncomputable def pcode_Write_L1 (n : Nat) (s : St) : Option Out :=
  (intV .lss (s.e 49) (s.e 48)).bind fun v38 => seqX (condV v38
  (some (.normal ⟨(envL [(7, (s.e 7)), (47, (s.e 47)), (48, (s.e 48)), (49, (s.e 49)), (50, v38)]), s.h⟩))
  (some (.exit 2 ⟨(envL [(7, (s.e 7)), (47, (s.e 47)), (48, (s.e 48)), (49, (s.e 49)), (50, v38)]), s.h⟩)))
  (fun s39 => seqX (blkX 3 ((iaS 0 (s39.e 47) (s39.e 49)).bind fun v40 => (ldV 0 v40 s39.h).bind fun v41 => (lenV v41).bind fun v42 => (runF (tD n) k_wire_WriterP_Num { ks := [0, 3] } [(s39.e 7), v42] s39.h).bind fun r43 => (lenV v41).bind fun v44 => blkX 4 (lpC (pcode_Write_L2 n) ⟨(envL [(7, (s39.e 7)), (47, (s39.e 47)), (48, (s39.e 48)), (49, (s39.e 49)), (56, v41), (57, v44), (58, (.int .i64 0))]), r43.2⟩)))
  (fun s68 => (intV .add (s68.e 49) (.int .i64 1)).bind fun v69 => some (.normal ⟨(envL [(7, (s68.e 7)), (47, (s68.e 47)), (48, (s68.e 48)), (49, v69)]), s68.h⟩)))

noncomputable def pcode_Write_L0 (n : Nat) (s : St) : Option Out :=
  (intV .lss (s.e 39) (s.e 38)).bind fun v27 => seqX (condV v27
  (some (.normal ⟨(envL [(1, (s.e 1)), (7, (s.e 7)), (37, (s.e 37)), (38, (s.e 38)), (39, (s.e 39)), (40, v27)]), s.h⟩))
  (some (.exit 0 ⟨(envL [(1, (s.e 1)), (7, (s.e 7)), (37, (s.e 37)), (38, (s.e 38)), (39, (s.e 39)), (40, v27)]), s.h⟩)))
  (fun s28 => seqX (blkX 1 ((iaS 0 (s28.e 37) (s28.e 39)).bind fun v29 => (ldV 0 v29 s28.h).bind fun v30 => (runF (tD n) k_wire_WriterP_Num { ks := [0, 3] } [(s28.e 7), v30] s28.h).bind fun r31 => some (.normal ⟨(envL [(1, (s28.e 1)), (7, (s28.e 7)), (37, (s28.e 37)), (38, (s28.e 38)), (39, (s28.e 39))]), r31.2⟩)))
  (fun s32 => (intV .add (s32.e 39) (.int .i64 1)).bind fun v33 => some (.normal ⟨(envL [(1, (s32.e 1)), (7, (s32.e 7)), (37, (s32.e 37)), (38, (s32.e 38)), (39, v33)]), s32.h⟩)))

noncomputable def pcode_Write_B (n : Nat) (a0 : V) (h : Heap) : Option Out :=
  (boxV none 4 a0 h).bind fun r1 => seqX ((ldV 4 r1.1 r1.2).bind fun v2 => (runF (tD n) k_prog_Check {  } [v2] r1.2).bind fun r3 => (extV r3.1 0).bind fun v4 => (extV r3.1 1).bind fun v5 => (extV r3.1 2).bind fun v6 => (intV .neq v6 (.int .i64 0)).bind fun v7 => condV v7
  ((frzV 8 .nils r3.2).bind fun r8 => some (.ret (.tup [r8.1, v6]) r8.2))
  (some (.normal ⟨(envL [(1, r1.1), (6, v6), (23, v7)]), r3.2⟩)))
  (fun s9 => (allocV (some 0) 1 [.nils] s9.h).bind fun r10 => (promC (cmds.faV' 0 r10.1) 3 0 r10.2).bind fun h12 => ((fillV (rep 4 [(.int .u8 0)]) [(0, 0, (.int .u8 97)), (1, 0, (.int .u8 108)), (2, 0, (.int .u8 112)), (3, 0, (.int .u8 49))]).bind fun cs => newSl (some 1) 4 0 cs h12).bind fun r13 => (slcV r13.1 r13.2).bind fun r14 => (runF (tD n) k_wire_WriterP_Raw { ks := [0, 3] } [r10.1, r14.1] r14.2).bind fun r15 => seqX ((faV 0 0 (s9.e 1)).bind fun v16 => (ldV 0 v16 r15.2).bind fun v17 => (faV 1 0 (s9.e 1)).bind fun v18 => (ldV 0 v18 r15.2).bind fun v19 => (faV 2 0 (s9.e 1)).bind fun v20 => (ldV 0 v20 r15.2).bind fun v21 => (faV 3 0 (s9.e 1)).bind fun v22 => (ldV 0 v22 r15.2).bind fun v23 => (lenV v23).bind fun v24 => ((fillV (rep 4 [(.int .i64 0)]) [(0, 0, v17), (1, 0, v19), (2, 0, v21), (3, 0, v24)]).bind fun cs => newSl none 4 0 cs r15.2).bind fun r25 => (lenV r25.1).bind fun v26 => blkX 0 (lpC (pcode_Write_L0 n) ⟨(envL [(1, (s9.e 1)), (7, r10.1), (37, r25.1), (38, v26), (39, (.int .i64 0))]), r25.2⟩))
  (fun s34 => seqX ((faV 3 0 (s34.e 1)).bind fun v35 => (ldV 0 v35 s34.h).bind fun v36 => (lenV v36).bind fun v37 => blkX 2 (lpC (pcode_Write_L1 n) ⟨(envL [(7, (s34.e 7)), (47, v36), (48, v37), (49, (.int .i64 0))]), s34.h⟩))
  (fun s70 => (runF (tD n) k_wire_WriterP_Bytes { ks := [0, 3] } [(s70.e 7)] s70.h).bind fun r71 => (frzV 8 r71.1 r71.2).bind fun r72 => some (.ret (.tup [r72.1, (.int .i64 0)]) r72.2))))

theorem pcode_Write_eq (n : Nat) (a0 : V) (h : Heap) : dn PR gD anD (n + 1) k_pcode_Write [a0] h = fin PR [.tmp 2, .tmp 3] (pcode_Write_B n a0 (h ++ pad 4)) := by kernel_rfl
/-- alibi/sha.Of -/
noncomputable def sha_Of_L0 (n : Nat) (s : St) : Option Out :=
  (intV .lss (s.e 9) (s.e 8)).bind fun v4 => seqX (condV v4
  (some (.normal ⟨(envL [(2, (s.e 2)), (3, (s.e 3)), (7, (s.e 7)), (8, (s.e 8)), (9, (s.e 9)), (10, v4)]), s.h⟩))
  (some (.exit 0 ⟨(envL [(2, (s.e 2)), (3, (s.e 3)), (7, (s.e 7)), (8, (s.e 8)), (9, (s.e 9)), (10, v4)]), s.h⟩)))
  (fun s5 => seqX (blkX 1 ((iaS 0 (s5.e 7) (s5.e 9)).bind fun v6 => (ldV 0 v6 s5.h).bind fun v7 => (runF (tD n) k_sha_StateP_Write { ks := [1, 2] } [(s5.e 3), v7] s5.h).bind fun r8 => some (.normal ⟨(envL [(2, (s5.e 2)), (3, (s5.e 3)), (7, (s5.e 7)), (8, (s5.e 8)), (9, (s5.e 9))]), r8.2⟩)))
  (fun s9 => (intV .add (s9.e 9) (.int .i64 1)).bind fun v10 => some (.normal ⟨(envL [(2, (s9.e 2)), (3, (s9.e 3)), (7, (s9.e 7)), (8, (s9.e 8)), (9, v10)]), s9.h⟩)))

noncomputable def sha_Of_B (n : Nat) (a0 : V) (h : Heap) : Option Out :=
  (allocV (some 0) 32 (rep 32 [(.int .u8 0)]) h).bind fun r1 => (runF (tD n) k_sha_New { outs := [(0, 1)] } [] r1.2).bind fun r2 => seqX ((lenV a0).bind fun v3 => blkX 0 (lpC (sha_Of_L0 n) ⟨(envL [(2, r1.1), (3, r2.1), (7, a0), (8, v3), (9, (.int .i64 0))]), r2.2⟩))
  (fun s11 => (runF (tD n) k_sha_StateP_Sum { ks := [1] } [(s11.e 3)] s11.h).bind fun r12 => ((stV 32 (s11.e 2) r12.1 r12.2).bind fun h => some (V.tup [], h)).bind fun r13 => ((((ldV 32 (s11.e 2) r13.2).bind fun v14 => some (v14 :: []))).bind tupL).bind fun v => some (.ret v r13.2))

theorem sha_Of_eq (n : Nat) (a0 : V) (h : Heap) : dn PR gD anD (n + 1) k_sha_Of [a0] h = fin PR [.cell 2 27] (sha_Of_B n a0 (h ++ pad 3)) := by kernel_rfl
/-- alibi/check.shape -/
noncomputable def check_shape_B (n : Nat) (a0 a1 : V) (h : Heap) : Option Out :=
  (boxV none 4 a0 h).bind fun r1 => (boxV none 34 a1 r1.2).bind fun r2 => (allocV (some 0) 3 [(.int .i64 0), (.int .i64 0), (.int .i64 0)] r2.2).bind fun r3 => seqX ((ldV 4 r1.1 r3.2).bind fun v4 => (faV 32 0 r2.1).bind fun v5 => (ldV 0 v5 r3.2).bind fun v6 => (runF (tD n) k_must_Shaped {  } [v4, v6] r3.2).bind fun r7 => (unV .not r7.1).bind fun v8 => (grdV v8 false (faV 33 0 r2.1)).bind fun v9 => (grdV v8 false (ldV 0 v9 r7.2)).bind fun v10 => (grdV v8 false (lenV v10)).bind fun v11 => (grdV v8 false (faV 0 0 r1.1)).bind fun v12 => (grdV v8 false (ldV 0 v12 r7.2)).bind fun v13 => (grdV v8 false (intV .neq v11 v13)).bind fun v14 => (pickV v8 (.bool true) v14).bind fun v15 => condV v15
  ((runF (tD n) k_check_whole {  } [(.int .i64 1)] r7.2).bind fun r16 => (extV r16.1 0).bind fun v17 => (extV r16.1 1).bind fun v18 => ((stV 3 r3.1 v17 r16.2).bind fun h => some (V.tup [], h)).bind fun r19 => ((((ldV 3 r3.1 r19.2).bind fun v20 => some (v20 :: (v18 :: [])))).bind tupL).bind fun v => some (.ret v r19.2))
  (some (.normal ⟨(envL [(4, r3.1), (18, v15)]), r7.2⟩)))
  (fun s21 => (buildV [(.int .i64 0), (.int .i64 0), (.int .i64 0)] []).bind fun v22 => ((stV 3 (s21.e 4) v22 s21.h).bind fun h => some (V.tup [], h)).bind fun r23 => ((((ldV 3 (s21.e 4) r23.2).bind fun v24 => some (v24 :: ((.int .i64 0) :: [])))).bind tupL).bind fun v => some (.ret v r23.2))

theorem check_shape_eq (n : Nat) (a0 a1 : V) (h : Heap) : dn PR gD anD (n + 1) k_check_shape [a0, a1] h = fin PR [.cell 4 45, .tmp 5] (check_shape_B n a0 a1 (h ++ pad 1)) := by kernel_rfl
/-- alibi/check.bound -/
noncomputable def check_bound_B (n : Nat) (a0 a1 : V) (h : Heap) : Option Out :=
  (boxV none 4 a0 h).bind fun r1 => (boxV none 34 a1 r1.2).bind fun r2 => (allocV (some 0) 3 [(.int .i64 0), (.int .i64 0), (.int .i64 0)] r2.2).bind fun r3 => seqX ((ldV 4 r1.1 r3.2).bind fun v4 => (runF (tD n) k_pcode_Digest {  } [v4] r3.2).bind fun r5 => (extV r5.1 0).bind fun v6 => (extV r5.1 1).bind fun v7 => (allocV (some 1) 32 (rep 32 [(.int .u8 0)]) r5.2).bind fun r8 => ((stV 32 r8.1 v6 r8.2).bind fun h => some (V.tup [], h)).bind fun r9 => (frzP 32 r8.1 r9.2).bind fun r10 => (intV .neq v7 (.int .i64 0)).bind fun v11 => (grdV v11 false (ldV 32 r10.1 r10.2)).bind fun v12 => (grdV v11 false (faV 0 32 r2.1)).bind fun v13 => (grdV v11 false (ldV 32 v13 r10.2)).bind fun v14 => (grdV v11 false (aggEq .neq 32 (eqN 32 0) v12 v14)).bind fun v15 => (pickV v11 (.bool true) v15).bind fun v16 => condV v16
  ((runF (tD n) k_check_whole {  } [(.int .i64 9)] r10.2).bind fun r17 => (extV r17.1 0).bind fun v18 => (extV r17.1 1).bind fun v19 => ((stV 3 r3.1 v18 r17.2).bind fun h => some (V.tup [], h)).bind fun r20 => ((((ldV 3 r3.1 r20.2).bind fun v21 => some (v21 :: (v19 :: [])))).bind tupL).bind fun v => some (.ret v r20.2))
  (some (.normal ⟨(envL [(4, r3.1), (20, v16)]), r10.2⟩)))
  (fun s22 => (buildV [(.int .i64 0), (.int .i64 0), (.int .i64 0)] []).bind fun v23 => ((stV 3 (s22.e 4) v23 s22.h).bind fun h => some (V.tup [], h)).bind fun r24 => ((((ldV 3 (s22.e 4) r24.2).bind fun v25 => some (v25 :: ((.int .i64 0) :: [])))).bind tupL).bind fun v => some (.ret v r24.2))

theorem check_bound_eq (n : Nat) (a0 a1 : V) (h : Heap) : dn PR gD anD (n + 1) k_check_bound [a0, a1] h = fin PR [.cell 4 45, .tmp 5] (check_bound_B n a0 a1 (h ++ pad 2)) := by kernel_rfl
/-- alibi/check.held -/
noncomputable def check_held_B (n : Nat) (a0 a1 : V) (h : Heap) : Option Out :=
  (boxV none 4 a0 h).bind fun r1 => (boxV none 34 a1 r1.2).bind fun r2 => (allocV (some 0) 3 [(.int .i64 0), (.int .i64 0), (.int .i64 0)] r2.2).bind fun r3 => (ldV 4 r1.1 r3.2).bind fun v4 => (faV 32 0 r2.1).bind fun v5 => (ldV 0 v5 r3.2).bind fun v6 => (runF (tD n) k_must_Check {  } [v4, v6] r3.2).bind fun r7 => (extV r7.1 0).bind fun v8 => (extV r7.1 1).bind fun v9 => ((stV 3 r3.1 v8 r7.2).bind fun h => some (V.tup [], h)).bind fun r10 => ((((ldV 3 r3.1 r10.2).bind fun v11 => some (v11 :: (v9 :: [])))).bind tupL).bind fun v => some (.ret v r10.2)

theorem check_held_eq (n : Nat) (a0 a1 : V) (h : Heap) : dn PR gD anD (n + 1) k_check_held [a0, a1] h = fin PR [.cell 4 45, .tmp 5] (check_held_B n a0 a1 (h ++ pad 1)) := by kernel_rfl
/-- alibi/check.live -/
noncomputable def check_live_B (n : Nat) (a0 a1 : V) (h : Heap) : Option Out :=
  (boxV none 4 a0 h).bind fun r1 => (boxV none 34 a1 r1.2).bind fun r2 => (allocV (some 0) 3 [(.int .i64 0), (.int .i64 0), (.int .i64 0)] r2.2).bind fun r3 => (ldV 4 r1.1 r3.2).bind fun v4 => (faV 32 0 r2.1).bind fun v5 => (ldV 0 v5 r3.2).bind fun v6 => (runF (tD n) k_may_Check {  } [v4, v6] r3.2).bind fun r7 => (extV r7.1 0).bind fun v8 => (extV r7.1 1).bind fun v9 => ((stV 3 r3.1 v8 r7.2).bind fun h => some (V.tup [], h)).bind fun r10 => ((((ldV 3 r3.1 r10.2).bind fun v11 => some (v11 :: (v9 :: [])))).bind tupL).bind fun v => some (.ret v r10.2)

theorem check_live_eq (n : Nat) (a0 a1 : V) (h : Heap) : dn PR gD anD (n + 1) k_check_live [a0, a1] h = fin PR [.cell 4 45, .tmp 5] (check_live_B n a0 a1 (h ++ pad 1)) := by kernel_rfl
/-- alibi/check.justs -/
noncomputable def check_justs_B (n : Nat) (a0 a1 : V) (h : Heap) : Option Out :=
  (boxV none 4 a0 h).bind fun r1 => (boxV none 34 a1 r1.2).bind fun r2 => (allocV (some 0) 3 [(.int .i64 0), (.int .i64 0), (.int .i64 0)] r2.2).bind fun r3 => (ldV 4 r1.1 r3.2).bind fun v4 => (faV 32 0 r2.1).bind fun v5 => (ldV 0 v5 r3.2).bind fun v6 => (faV 33 0 r2.1).bind fun v7 => (ldV 0 v7 r3.2).bind fun v8 => (runF (tD n) k_guard_Check {  } [v4, v6, v8] r3.2).bind fun r9 => (extV r9.1 0).bind fun v10 => (extV r9.1 1).bind fun v11 => ((stV 3 r3.1 v10 r9.2).bind fun h => some (V.tup [], h)).bind fun r12 => ((((ldV 3 r3.1 r12.2).bind fun v13 => some (v13 :: (v11 :: [])))).bind tupL).bind fun v => some (.ret v r12.2)

theorem check_justs_eq (n : Nat) (a0 a1 : V) (h : Heap) : dn PR gD anD (n + 1) k_check_justs [a0, a1] h = fin PR [.cell 4 45, .tmp 5] (check_justs_B n a0 a1 (h ++ pad 1)) := by kernel_rfl
/-- alibi/sets.Has -/
noncomputable def sets_Has_B (n : Nat) (a0 a1 : V) (h : Heap) : Option Out :=
  (intV .geq a1 (.int .i64 0)).bind fun v1 => (grdV v1 true (some a1)).bind fun v2 => (grdV v1 true (intV .lss v2 (.int .i64 32))).bind fun v3 => (pickV v1 v3 (.bool false)).bind fun v4 => (grdV v4 true (some a0)).bind fun v5 => (grdV v4 true (some a1)).bind fun v6 => (grdV v4 true (intV .shr v5 v6)).bind fun v7 => (grdV v4 true (intV .and v7 (.int .u32 1))).bind fun v8 => (grdV v4 true (intV .eql v8 (.int .u32 1))).bind fun v9 => (pickV v4 v9 (.bool false)).bind fun v10 => some (.ret v10 h)

theorem sets_Has_eq (n : Nat) (a0 a1 : V) (h : Heap) : dn PR gD anD (n + 1) k_sets_Has [a0, a1] h = fin PR [.tmp 4] (sets_Has_B n a0 a1 (h ++ pad 0)) := by kernel_rfl
/-- alibi/prog.Check -/
noncomputable def prog_Check_L1 (n : Nat) (s : St) : Option Out :=
  (intV .lss (s.e 70) (s.e 69)).bind fun v49 => seqX (condV v49
  (some (.normal ⟨(envL [(1, (s.e 1)), (5, (s.e 5)), (6, (s.e 6)), (51, (s.e 51)), (52, (s.e 52)), (53, (s.e 53)), (68, (s.e 68)), (69, (s.e 69)), (70, (s.e 70)), (71, v49)]), s.h⟩))
  (some (.exit 3 ⟨(envL [(1, (s.e 1)), (5, (s.e 5)), (6, (s.e 6)), (51, (s.e 51)), (52, (s.e 52)), (53, (s.e 53)), (68, (s.e 68)), (69, (s.e 69)), (70, (s.e 70)), (71, v49)]), s.h⟩)))
  (fun s50 => seqX (blkX 4 ((iaS 4 (s50.e 68) (s50.e 70)).bind fun v51 => (ldV 4 v51 s50.h).bind fun v52 => (allocV (some 0) 4 [(.int .i64 0), (.int .i64 0), (.int .i64 0), (.int .i64 0)] s50.h).bind fun r53 => ((stV 4 r53.1 v52 r53.2).bind fun h => some (V.tup [], h)).bind fun r54 => (frzP 4 r53.1 r54.2).bind fun r55 => (ldV 4 (s50.e 1) r55.2).bind fun v56 => (ldV 4 r55.1 r55.2).bind fun v57 => (lenV (s50.e 6)).bind fun v58 => (runF (tD n) k_prog_May {  } [v56, v57, v58] r55.2).bind fun r59 => (unV .not r59.1).bind fun v60 => condV v60
  (some (.ret (.tup [(s50.e 5), (s50.e 70), (.int .i64 3)]) r59.2))
  (some (.normal ⟨(envL [(1, (s50.e 1)), (5, (s50.e 5)), (6, (s50.e 6)), (7, (s50.e 70)), (51, (s50.e 51)), (52, (s50.e 52)), (53, (s50.e 53)), (68, (s50.e 68)), (69, (s50.e 69)), (70, (s50.e 70)), (80, v60)]), r59.2⟩))))
  (fun s61 => (intV .add (s61.e 70) (.int .i64 1)).bind fun v62 => some (.normal ⟨(envL [(1, (s61.e 1)), (5, (s61.e 5)), (6, (s61.e 6)), (51, (s61.e 51)), (52, (s61.e 52)), (53, (s61.e 53)), (68, (s61.e 68)), (69, (s61.e 69)), (70, v62)]), s61.h⟩)))

noncomputable def prog_Check_L0 (n : Nat) (s : St) : Option Out :=
  (intV .lss (s.e 53) (s.e 52)).bind fun v39 => seqX (condV v39
  (some (.normal ⟨(envL [(1, (s.e 1)), (51, (s.e 51)), (52, (s.e 52)), (53, (s.e 53)), (54, v39)]), s.h⟩))
  (some (.exit 0 ⟨(envL [(1, (s.e 1)), (51, (s.e 51)), (52, (s.e 52)), (53, (s.e 53)), (54, v39)]), s.h⟩)))
  (fun s40 => seqX (blkX 1 ((iaS 0 (s40.e 51) (s40.e 53)).bind fun v41 => (ldV 0 v41 s40.h).bind fun v42 => seqX (blkX 2 ((lenV v42).bind fun v43 => (intV .eql v43 (.int .i64 0)).bind fun v44 => condV v44
  (some (.ret (.tup [(s40.e 53), (.int .i64 (-1)), (.int .i64 1)]) s40.h))
  ((lenV v42).bind fun v45 => (intV .gtr v45 (.int .i64 64)).bind fun v46 => condV v46
  (some (.ret (.tup [(s40.e 53), (.int .i64 (-1)), (.int .i64 4)]) s40.h))
  (some (.normal ⟨(envL [(1, (s40.e 1)), (5, (s40.e 53)), (6, v42), (51, (s40.e 51)), (52, (s40.e 52)), (53, (s40.e 53)), (63, v46)]), s40.h⟩)))))
  (fun s47 => (lenV (s47.e 6)).bind fun v48 => blkX 3 (lpC (prog_Check_L1 n) ⟨(envL [(1, (s47.e 1)), (5, (s47.e 5)), (6, (s47.e 6)), (51, (s47.e 51)), (52, (s47.e 52)), (53, (s47.e 53)), (68, (s47.e 6)), (69, v48), (70, (.int .i64 0))]), s47.h⟩))))
  (fun s63 => (intV .add (s63.e 53) (.int .i64 1)).bind fun v64 => some (.normal ⟨(envL [(1, (s63.e 1)), (51, (s63.e 51)), (52, (s63.e 52)), (53, v64)]), s63.h⟩)))

noncomputable def prog_Check_B (n : Nat) (a0 : V) (h : Heap) : Option Out :=
  (boxV none 4 a0 h).bind fun r1 => seqX ((faV 0 0 r1.1).bind fun v2 => (ldV 0 v2 r1.2).bind fun v3 => (intV .lss v3 (.int .i64 0)).bind fun v4 => (grdV v4 false (faV 1 0 r1.1)).bind fun v5 => (grdV v4 false (ldV 0 v5 r1.2)).bind fun v6 => (grdV v4 false (intV .lss v6 (.int .i64 0))).bind fun v7 => (pickV v4 (.bool true) v7).bind fun v8 => (grdV v8 false (faV 2 0 r1.1)).bind fun v9 => (grdV v8 false (ldV 0 v9 r1.2)).bind fun v10 => (grdV v8 false (intV .lss v10 (.int .i64 0))).bind fun v11 => (pickV v8 (.bool true) v11).bind fun v12 => (grdV v12 false (faV 3 0 r1.1)).bind fun v13 => (grdV v12 false (ldV 0 v13 r1.2)).bind fun v14 => (grdV v12 false (lenV v14)).bind fun v15 => (grdV v12 false (intV .eql v15 (.int .i64 0))).bind fun v16 => (pickV v12 (.bool true) v16).bind fun v17 => condV v17
  (some (.ret (.tup [(.int .i64 (-1)), (.int .i64 (-1)), (.int .i64 1)]) r1.2))
  (some (.normal ⟨(envL [(1, r1.1), (30, v17)]), r1.2⟩)))
  (fun s18 => seqX ((faV 0 0 (s18.e 1)).bind fun v19 => (ldV 0 v19 s18.h).bind fun v20 => (intV .gtr v20 (.int .i64 16)).bind fun v21 => (grdV v21 false (faV 1 0 (s18.e 1))).bind fun v22 => (grdV v21 false (ldV 0 v22 s18.h)).bind fun v23 => (grdV v21 false (intV .gtr v23 (.int .i64 16))).bind fun v24 => (pickV v21 (.bool true) v24).bind fun v25 => (grdV v25 false (faV 2 0 (s18.e 1))).bind fun v26 => (grdV v25 false (ldV 0 v26 s18.h)).bind fun v27 => (grdV v25 false (intV .gtr v27 (.int .i64 8))).bind fun v28 => (pickV v25 (.bool true) v28).bind fun v29 => (grdV v29 false (faV 3 0 (s18.e 1))).bind fun v30 => (grdV v29 false (ldV 0 v30 s18.h)).bind fun v31 => (grdV v29 false (lenV v31)).bind fun v32 => (grdV v29 false (intV .gtr v32 (.int .i64 16))).bind fun v33 => (pickV v29 (.bool true) v33).bind fun v34 => condV v34
  (some (.ret (.tup [(.int .i64 (-1)), (.int .i64 (-1)), (.int .i64 4)]) s18.h))
  (some (.normal ⟨(envL [(1, (s18.e 1)), (49, v34)]), s18.h⟩)))
  (fun s35 => seqX ((faV 3 0 (s35.e 1)).bind fun v36 => (ldV 0 v36 s35.h).bind fun v37 => (lenV v37).bind fun v38 => blkX 0 (lpC (prog_Check_L0 n) ⟨(envL [(1, (s35.e 1)), (51, v37), (52, v38), (53, (.int .i64 0))]), s35.h⟩))
  (fun s65 => seqX ((ldV 4 (s65.e 1) s65.h).bind fun v66 => (runF (tD n) k_prog_round {  } [v66] s65.h).bind fun r67 => (extV r67.1 0).bind fun v68 => (extV r67.1 1).bind fun v69 => (extV r67.1 2).bind fun v70 => condV v70
  (some (.ret (.tup [v68, v69, (.int .i64 8)]) r67.2))
  (some (.normal ⟨(envL [(9, v68), (10, v69), (91, v70)]), r67.2⟩)))
  (fun s71 => some (.ret (.tup [(.int .i64 0), (.int .i64 0), (.int .i64 0)]) s71.h)))))

theorem prog_Check_eq (n : Nat) (a0 : V) (h : Heap) : dn PR gD anD (n + 1) k_prog_Check [a0] h = fin PR [.tmp 2, .tmp 3, .tmp 4] (prog_Check_B n a0 (h ++ pad 1)) := by kernel_rfl
/-- (*alibi/wire.Writer).Raw -/
noncomputable def wire_WriterP_Raw_B (n : Nat) (a0 a1 : V) (h : Heap) : Option Out :=
  (nilV a0).bind fun v1 => (faV 0 0 v1).bind fun v2 => (ldV 0 v2 h).bind fun v3 => (appV (some 2) 70368744177664 0 v3 a1 h).bind fun r4 => (nilV a0).bind fun v5 => (faV 0 0 v5).bind fun v6 => ((stV 0 v6 r4.1 r4.2).bind fun h => some (V.tup [], h)).bind fun r7 => some (.normal ⟨(envL []), r7.2⟩)

theorem wire_WriterP_Raw_eq (n : Nat) (a0 a1 : V) (h : Heap) : dn PR gD anD (n + 1) k_wire_WriterP_Raw [a0, a1] h = fin PR [] (wire_WriterP_Raw_B n a0 a1 (h ++ pad 1)) := by kernel_rfl
/-- (*alibi/wire.Writer).Num -/
noncomputable def wire_WriterP_Num_B (n : Nat) (a0 a1 : V) (h : Heap) : Option Out :=
  (nilV a0).bind fun v1 => (faV 0 0 v1).bind fun v2 => (ldV 0 v2 h).bind fun v3 => (toIntV .u32 a1).bind fun v4 => (runF (tD n) k_varint_Put {  } [v4] h).bind fun r5 => (appV (some 2) 70368744177664 0 v3 r5.1 r5.2).bind fun r6 => (nilV a0).bind fun v7 => (faV 0 0 v7).bind fun v8 => ((stV 0 v8 r6.1 r6.2).bind fun h => some (V.tup [], h)).bind fun r9 => some (.normal ⟨(envL []), r9.2⟩)

theorem wire_WriterP_Num_eq (n : Nat) (a0 a1 : V) (h : Heap) : dn PR gD anD (n + 1) k_wire_WriterP_Num [a0, a1] h = fin PR [] (wire_WriterP_Num_B n a0 a1 (h ++ pad 1)) := by kernel_rfl
/-- alibi/pcode.parts -/
noncomputable def pcode_parts_B (n : Nat) (a0 : V) (h : Heap) : Option Out :=
  seqX ((nilV a0).bind fun v1 => (faV 0 0 v1).bind fun v2 => (ldV 0 v2 h).bind fun v3 => blkX 0 ((intV .eql v3 (.int .i64 9)).bind fun v4 => condV v4
  (some (.ret .nils h))
  ((intV .eql v3 (.int .i64 0)).bind fun v5 => condV v5
  ((nilV a0).bind fun v6 => (faV 2 0 v6).bind fun v7 => ((fillV (rep 1 [.nilp]) [(0, 0, v7)]).bind fun cs => newSl none 1 0 cs h).bind fun r8 => some (.ret r8.1 r8.2))
  ((intV .eql v3 (.int .i64 5)).bind fun v9 => condV v9
  ((nilV a0).bind fun v10 => (faV 1 0 v10).bind fun v11 => (nilV a0).bind fun v12 => (faV 2 0 v12).bind fun v13 => (nilV a0).bind fun v14 => (faV 3 0 v14).bind fun v15 => ((fillV (rep 3 [.nilp]) [(0, 0, v11), (1, 0, v13), (2, 0, v15)]).bind fun cs => newSl none 3 0 cs h).bind fun r16 => some (.ret r16.1 r16.2))
  ((intV .eql v3 (.int .i64 8)).bind fun v17 => condV v17
  ((nilV a0).bind fun v18 => (faV 2 0 v18).bind fun v19 => (nilV a0).bind fun v20 => (faV 3 0 v20).bind fun v21 => ((fillV (rep 2 [.nilp]) [(0, 0, v19), (1, 0, v21)]).bind fun cs => newSl none 2 0 cs h).bind fun r22 => some (.ret r22.1 r22.2))
  (some (.normal ⟨(envL [(0, a0), (27, v17)]), h⟩)))))))
  (fun s23 => (nilV (s23.e 0)).bind fun v24 => (faV 1 0 v24).bind fun v25 => (nilV (s23.e 0)).bind fun v26 => (faV 2 0 v26).bind fun v27 => ((fillV (rep 2 [.nilp]) [(0, 0, v25), (1, 0, v27)]).bind fun cs => newSl none 2 0 cs s23.h).bind fun r28 => some (.ret r28.1 r28.2))

theorem pcode_parts_eq (n : Nat) (a0 : V) (h : Heap) : dn PR gD anD (n + 1) k_pcode_parts [a0] h = fin PR [.tmp 2] (pcode_parts_B n a0 (h ++ pad 0)) := by kernel_rfl
/-- (*alibi/wire.Writer).Bytes -/
noncomputable def wire_WriterP_Bytes_B (n : Nat) (a0 : V) (h : Heap) : Option Out :=
  ((fillV (rep 0 [(.int .u8 0)]) []).bind fun cs => newSl (some 2) 0 0 cs h).bind fun r1 => (nilV a0).bind fun v2 => (faV 0 0 v2).bind fun v3 => (ldV 0 v3 r1.2).bind fun v4 => (appV (some 3) 70368744177664 0 r1.1 v4 r1.2).bind fun r5 => (frzV 8 r5.1 r5.2).bind fun r6 => some (.ret r6.1 r6.2)

theorem wire_WriterP_Bytes_eq (n : Nat) (a0 : V) (h : Heap) : dn PR gD anD (n + 1) k_wire_WriterP_Bytes [a0] h = fin PR [.tmp 2] (wire_WriterP_Bytes_B n a0 (h ++ pad 2)) := by kernel_rfl
/-- alibi/sha.New -/
noncomputable def sha_New_B (n : Nat) (h : Heap) : Option Out :=
  (buildV [(.int .u32 0), (.int .u32 0), (.int .u32 0), (.int .u32 0), (.int .u32 0), (.int .u32 0), (.int .u32 0), (.int .u32 0)] [(0, 0, (.int .u32 1779033703)), (1, 0, (.int .u32 3144134277)), (2, 0, (.int .u32 1013904242)), (3, 0, (.int .u32 2773480762)), (4, 0, (.int .u32 1359893119)), (5, 0, (.int .u32 2600822924)), (6, 0, (.int .u32 528734635)), (7, 0, (.int .u32 1541459225))]).bind fun v1 => (buildV [(.int .u32 0), (.int .u32 0), (.int .u32 0), (.int .u32 0), (.int .u32 0), (.int .u32 0), (.int .u32 0), (.int .u32 0), .nils, (.int .u64 0)] [(0, 8, v1)]).bind fun v2 => (boxV (some 0) 10 v2 h).bind fun r3 => some (.ret r3.1 r3.2)

theorem sha_New_eq (n : Nat) (h : Heap) : dn PR gD anD (n + 1) k_sha_New [] h = fin PR [.tmp 0] (sha_New_B n (h ++ pad 1)) := by kernel_rfl
/-- (*alibi/sha.State).Write -/
noncomputable def sha_StateP_Write_L0 (n : Nat) (s : St) : Option Out :=
  seqX ((lenV (s.e 4)).bind fun v17 => (intV .geq v17 (.int .i64 64)).bind fun v18 => condV v18
  (some (.normal ⟨(envL [(0, (s.e 0)), (4, (s.e 4)), (25, v18)]), s.h⟩))
  (some (.exit 0 ⟨(envL [(0, (s.e 0)), (4, (s.e 4)), (25, v18)]), s.h⟩)))
  (fun s19 => blkX 1 ((slS 0 (s19.e 4) none (some (.int .i64 64))).bind fun v20 => (runF (tD n) k_sha_StateP_mix { ks := [0] } [(s19.e 0), v20] s19.h).bind fun r21 => (slS 0 (s19.e 4) (some (.int .i64 64)) none).bind fun v22 => some (.normal ⟨(envL [(0, (s19.e 0)), (4, v22)]), r21.2⟩)))

noncomputable def sha_StateP_Write_B (n : Nat) (a0 a1 : V) (h : Heap) : Option Out :=
  (nilV a0).bind fun v1 => (faV 9 0 v1).bind fun v2 => (ldV 0 v2 h).bind fun v3 => (lenV a1).bind fun v4 => (toIntV .u64 v4).bind fun v5 => (intV .add v3 v5).bind fun v6 => (nilV a0).bind fun v7 => (faV 9 0 v7).bind fun v8 => ((stV 0 v8 v6 h).bind fun h => some (V.tup [], h)).bind fun r9 => ((fillV (rep 0 [(.int .u8 0)]) []).bind fun cs => newSl (some 2) 0 0 cs r9.2).bind fun r10 => (nilV a0).bind fun v11 => (faV 8 0 v11).bind fun v12 => (ldV 0 v12 r10.2).bind fun v13 => (appV (some 3) 70368744177664 0 r10.1 v13 r10.2).bind fun r14 => (appV (some 4) 70368744177664 0 r14.1 a1 r14.2).bind fun r15 => (frzV 8 r15.1 r15.2).bind fun r16 => seqX (blkX 0 (lpC (sha_StateP_Write_L0 n) ⟨(envL [(0, a0), (4, r16.1)]), r16.2⟩))
  (fun s23 => (nilV (s23.e 0)).bind fun v24 => (faV 8 0 v24).bind fun v25 => ((stV 0 v25 (s23.e 4) s23.h).bind fun h => some (V.tup [], h)).bind fun r26 => some (.normal ⟨(envL []), r26.2⟩))

theorem sha_StateP_Write_eq (n : Nat) (a0 a1 : V) (h : Heap) : dn PR gD anD (n + 1) k_sha_StateP_Write [a0, a1] h = fin PR [] (sha_StateP_Write_B n a0 a1 (h ++ pad 3)) := by kernel_rfl
/-- (*alibi/sha.State).Sum -/
noncomputable def sha_StateP_Sum_L3 (n : Nat) (s : St) : Option Out :=
  (intV .lss (s.e 59) (.int .i64 4)).bind fun v50 => seqX (condV v50
  (some (.normal ⟨(envL [(2, (s.e 2)), (7, (s.e 7)), (8, (s.e 8)), (9, (s.e 9)), (54, (s.e 54)), (55, (s.e 55)), (59, (s.e 59)), (60, v50)]), s.h⟩))
  (some (.exit 6 ⟨(envL [(2, (s.e 2)), (7, (s.e 7)), (8, (s.e 8)), (9, (s.e 9)), (54, (s.e 54)), (55, (s.e 55)), (59, (s.e 59)), (60, v50)]), s.h⟩)))
  (fun s51 => seqX (blkX 7 ((intV .mul (.int .i64 4) (s51.e 8)).bind fun v52 => (intV .add v52 (s51.e 59)).bind fun v53 => (intV .mul (.int .i64 8) (s51.e 59)).bind fun v54 => (intV .sub (.int .i64 24) v54).bind fun v55 => (intV .shr (s51.e 9) v55).bind fun v56 => (toIntV .u8 v56).bind fun v57 => (iaA 32 0 (s51.e 7) v53).bind fun v58 => ((stV 0 v58 v57 s51.h).bind fun h => some (V.tup [], h)).bind fun r59 => some (.normal ⟨(envL [(2, (s51.e 2)), (7, (s51.e 7)), (8, (s51.e 8)), (9, (s51.e 9)), (54, (s51.e 54)), (55, (s51.e 55)), (59, (s51.e 59))]), r59.2⟩)))
  (fun s60 => (intV .add (s60.e 59) (.int .i64 1)).bind fun v61 => some (.normal ⟨(envL [(2, (s60.e 2)), (7, (s60.e 7)), (8, (s60.e 8)), (9, (s60.e 9)), (54, (s60.e 54)), (55, (s60.e 55)), (59, v61)]), s60.h⟩)))

noncomputable def sha_StateP_Sum_L2 (n : Nat) (s : St) : Option Out :=
  (intV .lss (s.e 55) (.int .i64 8)).bind fun v47 => seqX (condV v47
  (some (.normal ⟨(envL [(2, (s.e 2)), (7, (s.e 7)), (54, (s.e 54)), (55, (s.e 55)), (56, v47)]), s.h⟩))
  (some (.exit 4 ⟨(envL [(2, (s.e 2)), (7, (s.e 7)), (54, (s.e 54)), (55, (s.e 55)), (56, v47)]), s.h⟩)))
  (fun s48 => seqX (blkX 5 ((ixA 8 0 (s48.e 54) (s48.e 55)).bind fun v49 => blkX 6 (lpC (sha_StateP_Sum_L3 n) ⟨(envL [(2, (s48.e 2)), (7, (s48.e 7)), (8, (s48.e 55)), (9, v49), (54, (s48.e 54)), (55, (s48.e 55)), (59, (.int .i64 0))]), s48.h⟩)))
  (fun s62 => (intV .add (s62.e 55) (.int .i64 1)).bind fun v63 => some (.normal ⟨(envL [(2, (s62.e 2)), (7, (s62.e 7)), (54, (s62.e 54)), (55, v63)]), s62.h⟩)))

noncomputable def sha_StateP_Sum_L1 (n : Nat) (s : St) : Option Out :=
  (intV .lss (s.e 39) (.int .i64 8)).bind fun v31 => seqX (condV v31
  (some (.normal ⟨(envL [(2, (s.e 2)), (3, (s.e 3)), (4, (s.e 4)), (5, (s.e 5)), (39, (s.e 39)), (40, v31)]), s.h⟩))
  (some (.exit 2 ⟨(envL [(2, (s.e 2)), (3, (s.e 3)), (4, (s.e 4)), (5, (s.e 5)), (39, (s.e 39)), (40, v31)]), s.h⟩)))
  (fun s32 => seqX (blkX 3 ((intV .mul (.int .i64 8) (s32.e 39)).bind fun v33 => (intV .sub (.int .i64 56) v33).bind fun v34 => (intV .shr (s32.e 4) v34).bind fun v35 => (toIntV .u8 v35).bind fun v36 => (iaA 8 0 (s32.e 5) (s32.e 39)).bind fun v37 => ((stV 0 v37 v36 s32.h).bind fun h => some (V.tup [], h)).bind fun r38 => some (.normal ⟨(envL [(2, (s32.e 2)), (3, (s32.e 3)), (4, (s32.e 4)), (5, (s32.e 5)), (39, (s32.e 39))]), r38.2⟩)))
  (fun s39 => (intV .add (s39.e 39) (.int .i64 1)).bind fun v40 => some (.normal ⟨(envL [(2, (s39.e 2)), (3, (s39.e 3)), (4, (s39.e 4)), (5, (s39.e 5)), (39, v40)]), s39.h⟩)))

noncomputable def sha_StateP_Sum_L0 (n : Nat) (s : St) : Option Out :=
  seqX ((faV 8 0 (s.e 3)).bind fun v22 => (ldV 0 v22 s.h).bind fun v23 => (lenV v23).bind fun v24 => (intV .neq v24 (.int .i64 56)).bind fun v25 => condV v25
  (some (.normal ⟨(envL [(2, (s.e 2)), (3, (s.e 3)), (4, (s.e 4)), (36, v25)]), s.h⟩))
  (some (.exit 0 ⟨(envL [(2, (s.e 2)), (3, (s.e 3)), (4, (s.e 4)), (36, v25)]), s.h⟩)))
  (fun s26 => blkX 1 (((fillV (rep 1 [(.int .u8 0)]) [(0, 0, (.int .u8 0))]).bind fun cs => newSl none 1 0 cs s26.h).bind fun r27 => (runF (tD n) k_sha_StateP_Write { ks := [3, 2] } [(s26.e 3), r27.1] r27.2).bind fun r28 => some (.normal ⟨(envL [(2, (s26.e 2)), (3, (s26.e 3)), (4, (s26.e 4))]), r28.2⟩)))

noncomputable def sha_StateP_Sum_B (n : Nat) (a0 : V) (h : Heap) : Option Out :=
  (allocV (some 1) 32 (rep 32 [(.int .u8 0)]) h).bind fun r1 => (nilV a0).bind fun v2 => (faV 0 8 v2).bind fun v3 => (ldV 8 v3 r1.2).bind fun v4 => ((fillV (rep 0 [(.int .u8 0)]) []).bind fun cs => newSl (some 2) 0 0 cs r1.2).bind fun r5 => grdB (okF (fpP v3) [] [] [2] && true) ((nilV a0).bind fun v6 => (faV 8 0 v6).bind fun v7 => (ldV 0 v7 r5.2).bind fun v8 => grdB (okF [] [2] (fpP v7) [] && true) ((appV (some 6) 70368744177664 0 r5.1 v8 r5.2).bind fun r9 => grdB (okF (fpP v3) [] (fpP v8) ([6] ++ fpP r5.1) && true) ((nilV a0).bind fun v10 => (faV 9 0 v10).bind fun v11 => (ldV 0 v11 r9.2).bind fun v12 => grdB (okF (fpP v8) ([6] ++ fpP r5.1) (fpP v11) [] && (okF [] [2] (fpP v11) [] && true)) ((buildV [(.int .u32 0), (.int .u32 0), (.int .u32 0), (.int .u32 0), (.int .u32 0), (.int .u32 0), (.int .u32 0), (.int .u32 0), .nils, (.int .u64 0)] [(0, 8, v4), (8, 0, r9.1), (9, 0, v12)]).bind fun v13 => (allocV (some 3) 10 [(.int .u32 0), (.int .u32 0), (.int .u32 0), (.int .u32 0), (.int .u32 0), (.int .u32 0), (.int .u32 0), (.int .u32 0), .nils, (.int .u64 0)] r9.2).bind fun r14 => grdB (okF (fpP v11) [] [] [3] && (okF (fpP v8) ([6] ++ fpP r5.1) [] [3] && (okF (fpP v7) [] [] [3] && (okF [] [2] [] [3] && (okF (fpP v3) [] [] [3] && true))))) (((stV 10 r14.1 v13 r14.2).bind fun h => some (V.tup [], h)).bind fun r15 => (nilV a0).bind fun v16 => (faV 9 0 v16).bind fun v17 => (ldV 0 v17 r15.2).bind fun v18 => (intV .mul v18 (.int .u64 8)).bind fun v19 => ((fillV (rep 1 [(.int .u8 0)]) [(0, 0, (.int .u8 128))]).bind fun cs => newSl none 1 0 cs r15.2).bind fun r20 => (runF (tD n) k_sha_StateP_Write { ks := [3, 2] } [r14.1, r20.1] r20.2).bind fun r21 => seqX (blkX 0 (lpC (sha_StateP_Sum_L0 n) ⟨(envL [(2, r1.1), (3, r14.1), (4, v19)]), r21.2⟩))
  (fun s29 => (allocV (some 4) 8 [(.int .u8 0), (.int .u8 0), (.int .u8 0), (.int .u8 0), (.int .u8 0), (.int .u8 0), (.int .u8 0), (.int .u8 0)] s29.h).bind fun r30 => seqX (blkX 2 (lpC (sha_StateP_Sum_L1 n) ⟨(envL [(2, (s29.e 2)), (3, (s29.e 3)), (4, (s29.e 4)), (5, r30.1), (39, (.int .i64 0))]), r30.2⟩))
  (fun s41 => (slA 8 0 (s41.e 5) none none s41.h).bind fun v42 => (runF (tD n) k_sha_StateP_Write { ks := [3, 4] } [(s41.e 3), v42] s41.h).bind fun r43 => (allocV (some 5) 32 (rep 32 [(.int .u8 0)]) r43.2).bind fun r44 => seqX ((faV 0 8 (s41.e 3)).bind fun v45 => (ldV 8 v45 r44.2).bind fun v46 => blkX 4 (lpC (sha_StateP_Sum_L2 n) ⟨(envL [(2, (s41.e 2)), (7, r44.1), (54, v46), (55, (.int .i64 0))]), r44.2⟩))
  (fun s64 => (ldV 32 (s64.e 7) s64.h).bind fun v65 => ((stV 32 (s64.e 2) v65 s64.h).bind fun h => some (V.tup [], h)).bind fun r66 => ((((ldV 32 (s64.e 2) r66.2).bind fun v67 => some (v67 :: []))).bind tupL).bind fun v => some (.ret v r66.2)))))))))

theorem sha_StateP_Sum_eq (n : Nat) (a0 : V) (h : Heap) : dn PR gD anD (n + 1) k_sha_StateP_Sum [a0] h = fin PR [.cell 2 27] (sha_StateP_Sum_B n a0 (h ++ pad 6)) := by kernel_rfl
/-- alibi/must.Shaped -/
noncomputable def must_Shaped_L0 (n : Nat) (s : St) : Option Out :=
  (intV .lss (s.e 15) (s.e 14)).bind fun v9 => seqX (condV v9
  (some (.normal ⟨(envL [(2, (s.e 2)), (13, (s.e 13)), (14, (s.e 14)), (15, (s.e 15)), (16, v9)]), s.h⟩))
  (some (.exit 0 ⟨(envL [(2, (s.e 2)), (13, (s.e 13)), (14, (s.e 14)), (15, (s.e 15)), (16, v9)]), s.h⟩)))
  (fun s10 => seqX (blkX 1 ((iaS 6 (s10.e 13) (s10.e 15)).bind fun v11 => (ldV 6 v11 s10.h).bind fun v12 => (allocV (some 0) 6 [(.int .u32 0), (.int .u32 0), .nils, (.int .u32 0), (.int .u32 0), .nils] s10.h).bind fun r13 => ((stV 6 r13.1 v12 r13.2).bind fun h => some (V.tup [], h)).bind fun r14 => (frzP 6 r13.1 r14.2).bind fun r15 => (faV 2 0 r15.1).bind fun v16 => (ldV 0 v16 r15.2).bind fun v17 => (lenV v17).bind fun v18 => (faV 3 0 (s10.e 2)).bind fun v19 => (ldV 0 v19 r15.2).bind fun v20 => (iaS 0 v20 (s10.e 15)).bind fun v21 => (ldV 0 v21 r15.2).bind fun v22 => (lenV v22).bind fun v23 => (intV .neq v18 v23).bind fun v24 => (grdV v24 false (faV 5 0 r15.1)).bind fun v25 => (grdV v24 false (ldV 0 v25 r15.2)).bind fun v26 => (grdV v24 false (lenV v26)).bind fun v27 => (grdV v24 false (faV 3 0 (s10.e 2))).bind fun v28 => (grdV v24 false (ldV 0 v28 r15.2)).bind fun v29 => (grdV v24 false (some (s10.e 15))).bind fun v30 => (grdV v24 false (iaS 0 v29 v30)).bind fun v31 => (grdV v24 false (ldV 0 v31 r15.2)).bind fun v32 => (grdV v24 false (lenV v32)).bind fun v33 => (grdV v24 false (intV .neq v27 v33)).bind fun v34 => (pickV v24 (.bool true) v34).bind fun v35 => condV v35
  (some (.ret (.bool false) r15.2))
  (some (.normal ⟨(envL [(2, (s10.e 2)), (13, (s10.e 13)), (14, (s10.e 14)), (15, (s10.e 15)), (41, v35)]), r15.2⟩))))
  (fun s36 => (intV .add (s36.e 15) (.int .i64 1)).bind fun v37 => some (.normal ⟨(envL [(2, (s36.e 2)), (13, (s36.e 13)), (14, (s36.e 14)), (15, v37)]), s36.h⟩)))

noncomputable def must_Shaped_B (n : Nat) (a0 a1 : V) (h : Heap) : Option Out :=
  (boxV none 4 a0 h).bind fun r1 => seqX ((lenV a1).bind fun v2 => (faV 3 0 r1.1).bind fun v3 => (ldV 0 v3 r1.2).bind fun v4 => (lenV v4).bind fun v5 => (intV .neq v2 v5).bind fun v6 => condV v6
  (some (.ret (.bool false) r1.2))
  (some (.normal ⟨(envL [(1, a1), (2, r1.1), (12, v6)]), r1.2⟩)))
  (fun s7 => seqX ((lenV (s7.e 1)).bind fun v8 => blkX 0 (lpC (must_Shaped_L0 n) ⟨(envL [(2, (s7.e 2)), (13, (s7.e 1)), (14, v8), (15, (.int .i64 0))]), s7.h⟩))
  (fun s38 => some (.ret (.bool true) s38.h)))

theorem must_Shaped_eq (n : Nat) (a0 a1 : V) (h : Heap) : dn PR gD anD (n + 1) k_must_Shaped [a0, a1] h = fin PR [.tmp 4] (must_Shaped_B n a0 a1 (h ++ pad 1)) := by kernel_rfl
/-- alibi/check.whole -/
noncomputable def check_whole_B (n : Nat) (a0 : V) (h : Heap) : Option Out :=
  (allocV (some 0) 3 [(.int .i64 0), (.int .i64 0), (.int .i64 0)] h).bind fun r1 => (buildV [(.int .i64 0), (.int .i64 0), (.int .i64 0)] [(0, 0, (.int .i64 (-1))), (1, 0, (.int .i64 (-1))), (2, 0, a0)]).bind fun v2 => ((stV 3 r1.1 v2 r1.2).bind fun h => some (V.tup [], h)).bind fun r3 => ((((ldV 3 r1.1 r3.2).bind fun v4 => some (v4 :: ((.int .i64 0) :: [])))).bind tupL).bind fun v => some (.ret v r3.2)

theorem check_whole_eq (n : Nat) (a0 : V) (h : Heap) : dn PR gD anD (n + 1) k_check_whole [a0] h = fin PR [.cell 2 45, .tmp 3] (check_whole_B n a0 (h ++ pad 1)) := by kernel_rfl
/-- alibi/must.Check -/
noncomputable def must_Check_L0 (n : Nat) (s : St) : Option Out :=
  (intV .lss (s.e 36) (s.e 35)).bind fun v29 => seqX (condV v29
  (some (.normal ⟨(envL [(4, (s.e 4)), (8, (s.e 8)), (35, (s.e 35)), (36, (s.e 36)), (37, v29)]), s.h⟩))
  (some (.exit 0 ⟨(envL [(4, (s.e 4)), (8, (s.e 8)), (35, (s.e 35)), (36, (s.e 36)), (37, v29)]), s.h⟩)))
  (fun s30 => seqX (blkX 1 ((ldV 7 (s30.e 8) s30.h).bind fun v31 => (runF (tD n) k_must_checker_function {  } [v31, (s30.e 36)] s30.h).bind fun r32 => (extV r32.1 0).bind fun v33 => (extV r32.1 1).bind fun v34 => (intV .neq v34 (.int .i64 0)).bind fun v35 => condV v35
  ((buildV [(.int .i64 0), (.int .i64 0), (.int .i64 0)] [(0, 0, (s30.e 36)), (1, 0, v33), (2, 0, v34)]).bind fun v36 => ((stV 3 (s30.e 4) v36 r32.2).bind fun h => some (V.tup [], h)).bind fun r37 => ((((ldV 3 (s30.e 4) r37.2).bind fun v38 => some (v38 :: ((.int .i64 0) :: [])))).bind tupL).bind fun v => some (.ret v r37.2))
  (some (.normal ⟨(envL [(4, (s30.e 4)), (8, (s30.e 8)), (9, (s30.e 36)), (10, v33), (11, v34), (35, (s30.e 35)), (36, (s30.e 36)), (46, v35)]), r32.2⟩))))
  (fun s39 => (intV .add (s39.e 36) (.int .i64 1)).bind fun v40 => some (.normal ⟨(envL [(4, (s39.e 4)), (8, (s39.e 8)), (35, (s39.e 35)), (36, v40)]), s39.h⟩)))

noncomputable def must_Check_B (n : Nat) (a0 a1 : V) (h : Heap) : Option Out :=
  (boxV none 4 a0 h).bind fun r1 => (allocV (some 0) 3 [(.int .i64 0), (.int .i64 0), (.int .i64 0)] r1.2).bind fun r2 => (ldV 4 r1.1 r2.2).bind fun v3 => (runF (tD n) k_kill_Unlocks {  } [v3] r2.2).bind fun r4 => (extV r4.1 0).bind fun v5 => (extV r4.1 1).bind fun v6 => seqX ((intV .neq v6 (.int .i64 0)).bind fun v7 => condV v7
  ((buildV [(.int .i64 0), (.int .i64 0), (.int .i64 0)] []).bind fun v8 => ((stV 3 r2.1 v8 r4.2).bind fun h => some (V.tup [], h)).bind fun r9 => ((((ldV 3 r2.1 r9.2).bind fun v10 => some (v10 :: (v6 :: [])))).bind tupL).bind fun v => some (.ret v r9.2))
  (some (.normal ⟨(envL [(1, a1), (2, r1.1), (4, r2.1), (6, v5), (7, v6), (18, v7)]), r4.2⟩)))
  (fun s11 => seqX ((ldV 4 (s11.e 2) s11.h).bind fun v12 => (runF (tD n) k_must_Shaped {  } [v12, (s11.e 1)] s11.h).bind fun r13 => (unV .not r13.1).bind fun v14 => condV v14
  ((buildV [(.int .i64 0), (.int .i64 0), (.int .i64 0)] [(0, 0, (.int .i64 (-1))), (1, 0, (.int .i64 (-1))), (2, 0, (.int .i64 1))]).bind fun v15 => ((stV 3 (s11.e 4) v15 r13.2).bind fun h => some (V.tup [], h)).bind fun r16 => ((((ldV 3 (s11.e 4) r16.2).bind fun v17 => some (v17 :: ((.int .i64 0) :: [])))).bind tupL).bind fun v => some (.ret v r16.2))
  (some (.normal ⟨(envL [(1, (s11.e 1)), (2, (s11.e 2)), (4, (s11.e 4)), (6, (s11.e 6)), (24, v14)]), r13.2⟩)))
  (fun s18 => (ldV 4 (s18.e 2) s18.h).bind fun v19 => (ldV 4 (s18.e 2) s18.h).bind fun v20 => (runF (tD n) k_graph_Begun {  } [v20] s18.h).bind fun r21 => (runF (tD n) k_sets_One {  } [(.int .i64 0)] r21.2).bind fun r22 => (intV .or r21.1 r22.1).bind fun v23 => (buildV [(.int .i64 0), (.int .i64 0), (.int .i64 0), .nils, .nils, .nils, (.int .u32 0)] [(0, 4, v19), (4, 0, (s18.e 1)), (5, 0, (s18.e 6)), (6, 0, v23)]).bind fun v24 => (allocV (some 1) 7 [(.int .i64 0), (.int .i64 0), (.int .i64 0), .nils, .nils, .nils, (.int .u32 0)] r22.2).bind fun r25 => grdB (okF (fpP (s18.e 2)) [] [] [1] && (okF (fpP (s18.e 2)) [] [] [1] && true)) (((stV 7 r25.1 v24 r25.2).bind fun h => some (V.tup [], h)).bind fun r26 => (frzP 7 r25.1 r26.2).bind fun r27 => seqX ((lenV (s18.e 1)).bind fun v28 => blkX 0 (lpC (must_Check_L0 n) ⟨(envL [(4, (s18.e 4)), (8, r27.1), (35, v28), (36, (.int .i64 0))]), r27.2⟩))
  (fun s41 => (buildV [(.int .i64 0), (.int .i64 0), (.int .i64 0)] []).bind fun v42 => ((stV 3 (s41.e 4) v42 s41.h).bind fun h => some (V.tup [], h)).bind fun r43 => ((((ldV 3 (s41.e 4) r43.2).bind fun v44 => some (v44 :: ((.int .i64 0) :: [])))).bind tupL).bind fun v => some (.ret v r43.2)))))

theorem must_Check_eq (n : Nat) (a0 a1 : V) (h : Heap) : dn PR gD anD (n + 1) k_must_Check [a0, a1] h = fin PR [.cell 4 45, .tmp 5] (must_Check_B n a0 a1 (h ++ pad 2)) := by kernel_rfl
/-- alibi/may.Check -/
noncomputable def may_Check_L1 (n : Nat) (s : St) : Option Out :=
  (intV .lss (s.e 54) (s.e 53)).bind fun v49 => seqX (condV v49
  (some (.normal ⟨(envL [(2, (s.e 2)), (4, (s.e 4)), (8, (s.e 8)), (9, (s.e 9)), (31, (s.e 31)), (32, (s.e 32)), (33, (s.e 33)), (53, (s.e 53)), (54, (s.e 54)), (55, v49)]), s.h⟩))
  (some (.exit 2 ⟨(envL [(2, (s.e 2)), (4, (s.e 4)), (8, (s.e 8)), (9, (s.e 9)), (31, (s.e 31)), (32, (s.e 32)), (33, (s.e 33)), (53, (s.e 53)), (54, (s.e 54)), (55, v49)]), s.h⟩)))
  (fun s50 => seqX (blkX 3 ((ldV 6 (s50.e 8) s50.h).bind fun v51 => (runF (tD n) k_may_checker_node {  } [v51, (s50.e 9), (s50.e 54)] s50.h).bind fun r52 => (intV .neq r52.1 (.int .i64 0)).bind fun v53 => condV v53
  ((buildV [(.int .i64 0), (.int .i64 0), (.int .i64 0)] [(0, 0, (s50.e 9)), (1, 0, (s50.e 54)), (2, 0, r52.1)]).bind fun v54 => ((stV 3 (s50.e 4) v54 r52.2).bind fun h => some (V.tup [], h)).bind fun r55 => ((((ldV 3 (s50.e 4) r55.2).bind fun v56 => some (v56 :: ((.int .i64 0) :: [])))).bind tupL).bind fun v => some (.ret v r55.2))
  (some (.normal ⟨(envL [(2, (s50.e 2)), (4, (s50.e 4)), (8, (s50.e 8)), (9, (s50.e 9)), (11, (s50.e 54)), (12, r52.1), (31, (s50.e 31)), (32, (s50.e 32)), (33, (s50.e 33)), (53, (s50.e 53)), (54, (s50.e 54)), (62, v53)]), r52.2⟩))))
  (fun s57 => (intV .add (s57.e 54) (.int .i64 1)).bind fun v58 => some (.normal ⟨(envL [(2, (s57.e 2)), (4, (s57.e 4)), (8, (s57.e 8)), (9, (s57.e 9)), (31, (s57.e 31)), (32, (s57.e 32)), (33, (s57.e 33)), (53, (s57.e 53)), (54, v58)]), s57.h⟩)))

noncomputable def may_Check_L0 (n : Nat) (s : St) : Option Out :=
  (intV .lss (s.e 33) (s.e 32)).bind fun v25 => seqX (condV v25
  (some (.normal ⟨(envL [(2, (s.e 2)), (4, (s.e 4)), (8, (s.e 8)), (31, (s.e 31)), (32, (s.e 32)), (33, (s.e 33)), (34, v25)]), s.h⟩))
  (some (.exit 0 ⟨(envL [(2, (s.e 2)), (4, (s.e 4)), (8, (s.e 8)), (31, (s.e 31)), (32, (s.e 32)), (33, (s.e 33)), (34, v25)]), s.h⟩)))
  (fun s26 => seqX (blkX 1 ((iaS 6 (s26.e 31) (s26.e 33)).bind fun v27 => (ldV 6 v27 s26.h).bind fun v28 => (allocV (some 2) 6 [(.int .u32 0), (.int .u32 0), .nils, (.int .u32 0), (.int .u32 0), .nils] s26.h).bind fun r29 => ((stV 6 r29.1 v28 r29.2).bind fun h => some (V.tup [], h)).bind fun r30 => (frzP 6 r29.1 r30.2).bind fun r31 => seqX ((faV 3 0 r31.1).bind fun v32 => (ldV 0 v32 r31.2).bind fun v33 => (faV 5 0 r31.1).bind fun v34 => (ldV 0 v34 r31.2).bind fun v35 => (iaS 0 v35 (.int .i64 0)).bind fun v36 => (ldV 0 v36 r31.2).bind fun v37 => (runF (tD n) k_sets_Within {  } [v33, v37] r31.2).bind fun r38 => (unV .not r38.1).bind fun v39 => condV v39
  ((buildV [(.int .i64 0), (.int .i64 0), (.int .i64 0)] [(0, 0, (s26.e 33)), (1, 0, (.int .i64 (-1))), (2, 0, (.int .i64 6))]).bind fun v40 => ((stV 3 (s26.e 4) v40 r38.2).bind fun h => some (V.tup [], h)).bind fun r41 => ((((ldV 3 (s26.e 4) r41.2).bind fun v42 => some (v42 :: ((.int .i64 0) :: [])))).bind tupL).bind fun v => some (.ret v r41.2))
  (some (.normal ⟨(envL [(2, (s26.e 2)), (4, (s26.e 4)), (8, (s26.e 8)), (9, (s26.e 33)), (31, (s26.e 31)), (32, (s26.e 32)), (33, (s26.e 33)), (45, v39)]), r38.2⟩)))
  (fun s43 => (faV 3 0 (s43.e 2)).bind fun v44 => (ldV 0 v44 s43.h).bind fun v45 => (iaS 0 v45 (s43.e 9)).bind fun v46 => (ldV 0 v46 s43.h).bind fun v47 => (lenV v47).bind fun v48 => blkX 2 (lpC (may_Check_L1 n) ⟨(envL [(2, (s43.e 2)), (4, (s43.e 4)), (8, (s43.e 8)), (9, (s43.e 9)), (31, (s43.e 31)), (32, (s43.e 32)), (33, (s43.e 33)), (53, v48), (54, (.int .i64 0))]), s43.h⟩))))
  (fun s59 => (intV .add (s59.e 33) (.int .i64 1)).bind fun v60 => some (.normal ⟨(envL [(2, (s59.e 2)), (4, (s59.e 4)), (8, (s59.e 8)), (31, (s59.e 31)), (32, (s59.e 32)), (33, v60)]), s59.h⟩)))

noncomputable def may_Check_B (n : Nat) (a0 a1 : V) (h : Heap) : Option Out :=
  (boxV none 4 a0 h).bind fun r1 => (allocV (some 0) 3 [(.int .i64 0), (.int .i64 0), (.int .i64 0)] r1.2).bind fun r2 => (ldV 4 r1.1 r2.2).bind fun v3 => (runF (tD n) k_kill_Begins {  } [v3] r2.2).bind fun r4 => (extV r4.1 0).bind fun v5 => (extV r4.1 1).bind fun v6 => seqX ((intV .neq v6 (.int .i64 0)).bind fun v7 => condV v7
  ((buildV [(.int .i64 0), (.int .i64 0), (.int .i64 0)] []).bind fun v8 => ((stV 3 r2.1 v8 r4.2).bind fun h => some (V.tup [], h)).bind fun r9 => ((((ldV 3 r2.1 r9.2).bind fun v10 => some (v10 :: (v6 :: [])))).bind tupL).bind fun v => some (.ret v r9.2))
  (some (.normal ⟨(envL [(1, a1), (2, r1.1), (4, r2.1), (6, v5), (7, v6), (19, v7)]), r4.2⟩)))
  (fun s11 => seqX ((ldV 4 (s11.e 2) s11.h).bind fun v12 => (runF (tD n) k_must_Shaped {  } [v12, (s11.e 1)] s11.h).bind fun r13 => (unV .not r13.1).bind fun v14 => condV v14
  ((buildV [(.int .i64 0), (.int .i64 0), (.int .i64 0)] [(0, 0, (.int .i64 (-1))), (1, 0, (.int .i64 (-1))), (2, 0, (.int .i64 1))]).bind fun v15 => ((stV 3 (s11.e 4) v15 r13.2).bind fun h => some (V.tup [], h)).bind fun r16 => ((((ldV 3 (s11.e 4) r16.2).bind fun v17 => some (v17 :: ((.int .i64 0) :: [])))).bind tupL).bind fun v => some (.ret v r16.2))
  (some (.normal ⟨(envL [(1, (s11.e 1)), (2, (s11.e 2)), (4, (s11.e 4)), (6, (s11.e 6)), (25, v14)]), r13.2⟩)))
  (fun s18 => (ldV 4 (s18.e 2) s18.h).bind fun v19 => (buildV [(.int .i64 0), (.int .i64 0), (.int .i64 0), .nils, .nils, (.int .u32 0)] [(0, 4, v19), (4, 0, (s18.e 1)), (5, 0, (s18.e 6))]).bind fun v20 => (allocV (some 1) 6 [(.int .i64 0), (.int .i64 0), (.int .i64 0), .nils, .nils, (.int .u32 0)] s18.h).bind fun r21 => ((stV 6 r21.1 v20 r21.2).bind fun h => some (V.tup [], h)).bind fun r22 => (frzP 6 r21.1 r22.2).bind fun r23 => seqX ((lenV (s18.e 1)).bind fun v24 => blkX 0 (lpC (may_Check_L0 n) ⟨(envL [(2, (s18.e 2)), (4, (s18.e 4)), (8, r23.1), (31, (s18.e 1)), (32, v24), (33, (.int .i64 0))]), r23.2⟩))
  (fun s61 => (buildV [(.int .i64 0), (.int .i64 0), (.int .i64 0)] []).bind fun v62 => ((stV 3 (s61.e 4) v62 s61.h).bind fun h => some (V.tup [], h)).bind fun r63 => ((((ldV 3 (s61.e 4) r63.2).bind fun v64 => some (v64 :: ((.int .i64 0) :: [])))).bind tupL).bind fun v => some (.ret v r63.2))))

theorem may_Check_eq (n : Nat) (a0 a1 : V) (h : Heap) : dn PR gD anD (n + 1) k_may_Check [a0, a1] h = fin PR [.cell 4 45, .tmp 5] (may_Check_B n a0 a1 (h ++ pad 3)) := by kernel_rfl
/-- alibi/guard.Check -/
noncomputable def guard_Check_L2 (n : Nat) (s : St) : Option Out :=
  (intV .lss (s.e 67) (s.e 66)).bind fun v53 => seqX (condV v53
  (some (.normal ⟨(envL [(1, (s.e 1)), (2, (s.e 2)), (6, (s.e 6)), (13, (s.e 13)), (58, (s.e 58)), (59, (s.e 59)), (60, (s.e 60)), (65, (s.e 65)), (66, (s.e 66)), (67, (s.e 67)), (68, v53)]), s.h⟩))
  (some (.exit 4 ⟨(envL [(1, (s.e 1)), (2, (s.e 2)), (6, (s.e 6)), (13, (s.e 13)), (58, (s.e 58)), (59, (s.e 59)), (60, (s.e 60)), (65, (s.e 65)), (66, (s.e 66)), (67, (s.e 67)), (68, v53)]), s.h⟩)))
  (fun s54 => seqX (blkX 5 ((iaS 4 (s54.e 65) (s54.e 67)).bind fun v55 => (ldV 4 v55 s54.h).bind fun v56 => (allocV (some 2) 4 [(.int .i64 0), (.int .i64 0), (.int .i64 0), (.int .i64 0)] s54.h).bind fun r57 => ((stV 4 r57.1 v56 r57.2).bind fun h => some (V.tup [], h)).bind fun r58 => (frzP 4 r57.1 r58.2).bind fun r59 => (ldV 4 r59.1 r59.2).bind fun v60 => (runF (tD n) k_prog_Access {  } [v60] r59.2).bind fun r61 => (extV r61.1 0).bind fun v62 => (extV r61.1 1).bind fun v63 => (extV r61.1 2).bind fun v64 => (grdV v64 true (some (s54.e 1))).bind fun v65 => (grdV v64 true (some (s54.e 13))).bind fun v66 => (grdV v64 true (iaS 6 v65 v66)).bind fun v67 => (grdV v64 true (ldV 6 v67 r61.2)).bind fun v68 => (grdV v64 true (some (s54.e 67))).bind fun v69 => (grdH v64 true r61.2 (runF (tD n) k_may_Solo {  } [v68, v69] r61.2)).bind fun r70 => (grdV v64 true (unV .not r70.1)).bind fun v71 => (pickV v64 v71 (.bool false)).bind fun v72 => (grdV v72 true (some (s54.e 2))).bind fun v73 => (grdV v72 true (some v62)).bind fun v74 => (grdV v72 true (iaS 2 v73 v74)).bind fun v75 => (grdV v72 true (ldV 2 v75 r70.2)).bind fun v76 => (grdV v72 true (some v63)).bind fun v77 => (grdV v72 true (some (s54.e 1))).bind fun v78 => (grdV v72 true (some (s54.e 13))).bind fun v79 => (grdV v72 true (iaS 6 v78 v79)).bind fun v80 => (grdV v72 true (faV 2 0 v80)).bind fun v81 => (grdV v72 true (ldV 0 v81 r70.2)).bind fun v82 => (grdV v72 true (some (s54.e 67))).bind fun v83 => (grdV v72 true (iaS 0 v82 v83)).bind fun v84 => (grdV v72 true (ldV 0 v84 r70.2)).bind fun v85 => (grdV v72 true (some (s54.e 1))).bind fun v86 => (grdV v72 true (some (s54.e 13))).bind fun v87 => (grdV v72 true (iaS 6 v86 v87)).bind fun v88 => (grdV v72 true (faV 5 0 v88)).bind fun v89 => (grdV v72 true (ldV 0 v89 r70.2)).bind fun v90 => (grdV v72 true (some (s54.e 67))).bind fun v91 => (grdV v72 true (iaS 0 v90 v91)).bind fun v92 => (grdV v72 true (ldV 0 v92 r70.2)).bind fun v93 => (grdH v72 true r70.2 (runF (tD n) k_guard_Holds {  } [v76, v77, v85, v93] r70.2)).bind fun r94 => (grdV v72 true (unV .not r94.1)).bind fun v95 => (pickV v72 v95 (.bool false)).bind fun v96 => condV v96
  ((buildV [(.int .i64 0), (.int .i64 0), (.int .i64 0)] [(0, 0, (s54.e 13)), (1, 0, (s54.e 67)), (2, 0, (.int .i64 8))]).bind fun v97 => ((stV 3 (s54.e 6) v97 r94.2).bind fun h => some (V.tup [], h)).bind fun r98 => ((((ldV 3 (s54.e 6) r98.2).bind fun v99 => some (v99 :: ((.int .i64 0) :: [])))).bind tupL).bind fun v => some (.ret v r98.2))
  (some (.normal ⟨(envL [(1, (s54.e 1)), (2, (s54.e 2)), (6, (s54.e 6)), (13, (s54.e 13)), (15, (s54.e 67)), (58, (s54.e 58)), (59, (s54.e 59)), (60, (s54.e 60)), (65, (s54.e 65)), (66, (s54.e 66)), (67, (s54.e 67)), (112, v96)]), r94.2⟩))))
  (fun s100 => (intV .add (s100.e 67) (.int .i64 1)).bind fun v101 => some (.normal ⟨(envL [(1, (s100.e 1)), (2, (s100.e 2)), (6, (s100.e 6)), (13, (s100.e 13)), (58, (s100.e 58)), (59, (s100.e 59)), (60, (s100.e 60)), (65, (s100.e 65)), (66, (s100.e 66)), (67, v101)]), s100.h⟩)))

noncomputable def guard_Check_L1 (n : Nat) (s : St) : Option Out :=
  (intV .lss (s.e 60) (s.e 59)).bind fun v48 => seqX (condV v48
  (some (.normal ⟨(envL [(1, (s.e 1)), (2, (s.e 2)), (6, (s.e 6)), (58, (s.e 58)), (59, (s.e 59)), (60, (s.e 60)), (61, v48)]), s.h⟩))
  (some (.exit 2 ⟨(envL [(1, (s.e 1)), (2, (s.e 2)), (6, (s.e 6)), (58, (s.e 58)), (59, (s.e 59)), (60, (s.e 60)), (61, v48)]), s.h⟩)))
  (fun s49 => seqX (blkX 3 ((iaS 0 (s49.e 58) (s49.e 60)).bind fun v50 => (ldV 0 v50 s49.h).bind fun v51 => (lenV v51).bind fun v52 => blkX 4 (lpC (guard_Check_L2 n) ⟨(envL [(1, (s49.e 1)), (2, (s49.e 2)), (6, (s49.e 6)), (13, (s49.e 60)), (58, (s49.e 58)), (59, (s49.e 59)), (60, (s49.e 60)), (65, v51), (66, v52), (67, (.int .i64 0))]), s49.h⟩)))
  (fun s102 => (intV .add (s102.e 60) (.int .i64 1)).bind fun v103 => some (.normal ⟨(envL [(1, (s102.e 1)), (2, (s102.e 2)), (6, (s102.e 6)), (58, (s102.e 58)), (59, (s102.e 59)), (60, v103)]), s102.h⟩)))

noncomputable def guard_Check_L0 (n : Nat) (s : St) : Option Out :=
  (intV .lss (s.e 44) (s.e 43)).bind fun v27 => seqX (condV v27
  (some (.normal ⟨(envL [(1, (s.e 1)), (2, (s.e 2)), (3, (s.e 3)), (6, (s.e 6)), (42, (s.e 42)), (43, (s.e 43)), (44, (s.e 44)), (45, v27)]), s.h⟩))
  (some (.exit 0 ⟨(envL [(1, (s.e 1)), (2, (s.e 2)), (3, (s.e 3)), (6, (s.e 6)), (42, (s.e 42)), (43, (s.e 43)), (44, (s.e 44)), (45, v27)]), s.h⟩)))
  (fun s28 => seqX (blkX 1 ((iaS 2 (s28.e 42) (s28.e 44)).bind fun v29 => (ldV 2 v29 s28.h).bind fun v30 => (allocV (some 1) 2 [(.int .i64 0), (.int .i64 0)] s28.h).bind fun r31 => ((stV 2 r31.1 v30 r31.2).bind fun h => some (V.tup [], h)).bind fun r32 => (frzP 2 r31.1 r32.2).bind fun r33 => (ldV 2 r33.1 r33.2).bind fun v34 => (faV 1 0 (s28.e 3)).bind fun v35 => (ldV 0 v35 r33.2).bind fun v36 => (runF (tD n) k_guard_Right {  } [v34, v36] r33.2).bind fun r37 => (unV .not r37.1).bind fun v38 => condV v38
  ((buildV [(.int .i64 0), (.int .i64 0), (.int .i64 0)] [(0, 0, (.int .i64 (-1))), (1, 0, (s28.e 44)), (2, 0, (.int .i64 8))]).bind fun v39 => ((stV 3 (s28.e 6) v39 r37.2).bind fun h => some (V.tup [], h)).bind fun r40 => ((((ldV 3 (s28.e 6) r40.2).bind fun v41 => some (v41 :: ((.int .i64 0) :: [])))).bind tupL).bind fun v => some (.ret v r40.2))
  (some (.normal ⟨(envL [(1, (s28.e 1)), (2, (s28.e 2)), (3, (s28.e 3)), (6, (s28.e 6)), (11, (s28.e 44)), (42, (s28.e 42)), (43, (s28.e 43)), (44, (s28.e 44)), (53, v38)]), r37.2⟩))))
  (fun s42 => (intV .add (s42.e 44) (.int .i64 1)).bind fun v43 => some (.normal ⟨(envL [(1, (s42.e 1)), (2, (s42.e 2)), (3, (s42.e 3)), (6, (s42.e 6)), (42, (s42.e 42)), (43, (s42.e 43)), (44, v43)]), s42.h⟩)))

noncomputable def guard_Check_B (n : Nat) (a0 a1 a2 : V) (h : Heap) : Option Out :=
  (boxV none 4 a0 h).bind fun r1 => (allocV (some 0) 3 [(.int .i64 0), (.int .i64 0), (.int .i64 0)] r1.2).bind fun r2 => seqX ((ldV 4 r1.1 r2.2).bind fun v3 => (runF (tD n) k_prog_Check {  } [v3] r2.2).bind fun r4 => (extV r4.1 0).bind fun v5 => (extV r4.1 1).bind fun v6 => (extV r4.1 2).bind fun v7 => (intV .neq v7 (.int .i64 0)).bind fun v8 => condV v8
  ((buildV [(.int .i64 0), (.int .i64 0), (.int .i64 0)] []).bind fun v9 => ((stV 3 r2.1 v9 r4.2).bind fun h => some (V.tup [], h)).bind fun r10 => ((((ldV 3 r2.1 r10.2).bind fun v11 => some (v11 :: (v7 :: [])))).bind tupL).bind fun v => some (.ret v r10.2))
  (some (.normal ⟨(envL [(1, a1), (2, a2), (3, r1.1), (6, r2.1), (10, v7), (27, v8)]), r4.2⟩)))
  (fun s12 => seqX ((ldV 4 (s12.e 3) s12.h).bind fun v13 => (runF (tD n) k_must_Shaped {  } [v13, (s12.e 1)] s12.h).bind fun r14 => (unV .not r14.1).bind fun v15 => (grdV v15 false (some (s12.e 2))).bind fun v16 => (grdV v15 false (lenV v16)).bind fun v17 => (grdV v15 false (faV 0 0 (s12.e 3))).bind fun v18 => (grdV v15 false (ldV 0 v18 r14.2)).bind fun v19 => (grdV v15 false (intV .neq v17 v19)).bind fun v20 => (pickV v15 (.bool true) v20).bind fun v21 => condV v21
  ((buildV [(.int .i64 0), (.int .i64 0), (.int .i64 0)] [(0, 0, (.int .i64 (-1))), (1, 0, (.int .i64 (-1))), (2, 0, (.int .i64 1))]).bind fun v22 => ((stV 3 (s12.e 6) v22 r14.2).bind fun h => some (V.tup [], h)).bind fun r23 => ((((ldV 3 (s12.e 6) r23.2).bind fun v24 => some (v24 :: ((.int .i64 0) :: [])))).bind tupL).bind fun v => some (.ret v r23.2))
  (some (.normal ⟨(envL [(1, (s12.e 1)), (2, (s12.e 2)), (3, (s12.e 3)), (6, (s12.e 6)), (40, v21)]), r14.2⟩)))
  (fun s25 => seqX ((lenV (s25.e 2)).bind fun v26 => blkX 0 (lpC (guard_Check_L0 n) ⟨(envL [(1, (s25.e 1)), (2, (s25.e 2)), (3, (s25.e 3)), (6, (s25.e 6)), (42, (s25.e 2)), (43, v26), (44, (.int .i64 0))]), s25.h⟩))
  (fun s44 => seqX ((faV 3 0 (s44.e 3)).bind fun v45 => (ldV 0 v45 s44.h).bind fun v46 => (lenV v46).bind fun v47 => blkX 2 (lpC (guard_Check_L1 n) ⟨(envL [(1, (s44.e 1)), (2, (s44.e 2)), (6, (s44.e 6)), (58, v46), (59, v47), (60, (.int .i64 0))]), s44.h⟩))
  (fun s104 => (buildV [(.int .i64 0), (.int .i64 0), (.int .i64 0)] []).bind fun v105 => ((stV 3 (s104.e 6) v105 s104.h).bind fun h => some (V.tup [], h)).bind fun r106 => ((((ldV 3 (s104.e 6) r106.2).bind fun v107 => some (v107 :: ((.int .i64 0) :: [])))).bind tupL).bind fun v => some (.ret v r106.2)))))

theorem guard_Check_eq (n : Nat) (a0 a1 a2 : V) (h : Heap) : dn PR gD anD (n + 1) k_guard_Check [a0, a1, a2] h = fin PR [.cell 6 45, .tmp 7] (guard_Check_B n a0 a1 a2 (h ++ pad 3)) := by kernel_rfl
/-- alibi/prog.Succ -/
noncomputable def prog_Succ_B (n : Nat) (a0 : V) (h : Heap) : Option Out :=
  (boxV none 4 a0 h).bind fun r1 => seqX ((faV 0 0 r1.1).bind fun v2 => (ldV 0 v2 r1.2).bind fun v3 => blkX 0 ((intV .eql v3 (.int .i64 9)).bind fun v4 => condV v4
  ((frzV 8 .nils r1.2).bind fun r5 => some (.ret r5.1 r5.2))
  ((intV .eql v3 (.int .i64 8)).bind fun v6 => condV v6
  ((faV 2 0 r1.1).bind fun v7 => (ldV 0 v7 r1.2).bind fun v8 => (faV 3 0 r1.1).bind fun v9 => (ldV 0 v9 r1.2).bind fun v10 => ((fillV (rep 2 [(.int .i64 0)]) [(0, 0, v8), (1, 0, v10)]).bind fun cs => newSl none 2 0 cs r1.2).bind fun r11 => (frzV 8 r11.1 r11.2).bind fun r12 => some (.ret r12.1 r12.2))
  (some (.normal ⟨(envL [(1, r1.1), (7, v6)]), r1.2⟩)))))
  (fun s13 => (faV 2 0 (s13.e 1)).bind fun v14 => (ldV 0 v14 s13.h).bind fun v15 => ((fillV (rep 1 [(.int .i64 0)]) [(0, 0, v15)]).bind fun cs => newSl none 1 0 cs s13.h).bind fun r16 => (frzV 8 r16.1 r16.2).bind fun r17 => some (.ret r17.1 r17.2))

theorem prog_Succ_eq (n : Nat) (a0 : V) (h : Heap) : dn PR gD anD (n + 1) k_prog_Succ [a0] h = fin PR [.tmp 2] (prog_Succ_B n a0 (h ++ pad 0)) := by kernel_rfl
/-- alibi/graph.Begun -/
noncomputable def graph_Begun_L0 (n : Nat) (s : St) : Option Out :=
  (intV .lss (s.e 9) (s.e 8)).bind fun v5 => seqX (condV v5
  (some (.normal ⟨(envL [(3, (s.e 3)), (7, (s.e 7)), (8, (s.e 8)), (9, (s.e 9)), (10, v5)]), s.h⟩))
  (some (.exit 0 ⟨(envL [(3, (s.e 3)), (7, (s.e 7)), (8, (s.e 8)), (9, (s.e 9)), (10, v5)]), s.h⟩)))
  (fun s6 => seqX (blkX 1 ((iaS 0 (s6.e 7) (s6.e 9)).bind fun v7 => (ldV 0 v7 s6.h).bind fun v8 => (runF (tD n) k_graph_named {  } [v8, (.int .i64 5)] s6.h).bind fun r9 => (intV .or (s6.e 3) r9.1).bind fun v10 => some (.normal ⟨(envL [(3, v10), (7, (s6.e 7)), (8, (s6.e 8)), (9, (s6.e 9))]), r9.2⟩)))
  (fun s11 => (intV .add (s11.e 9) (.int .i64 1)).bind fun v12 => some (.normal ⟨(envL [(3, (s11.e 3)), (7, (s11.e 7)), (8, (s11.e 8)), (9, v12)]), s11.h⟩)))

noncomputable def graph_Begun_B (n : Nat) (a0 : V) (h : Heap) : Option Out :=
  (boxV none 4 a0 h).bind fun r1 => seqX ((faV 3 0 r1.1).bind fun v2 => (ldV 0 v2 r1.2).bind fun v3 => (lenV v3).bind fun v4 => blkX 0 (lpC (graph_Begun_L0 n) ⟨(envL [(3, (.int .u32 0)), (7, v3), (8, v4), (9, (.int .i64 0))]), r1.2⟩))
  (fun s13 => some (.ret (s13.e 3) s13.h))

theorem graph_Begun_eq (n : Nat) (a0 : V) (h : Heap) : dn PR gD anD (n + 1) k_graph_Begun [a0] h = fin PR [.tmp 2] (graph_Begun_B n a0 (h ++ pad 0)) := by kernel_rfl
/-- alibi/sets.One -/
noncomputable def sets_One_B (n : Nat) (a0 : V) (h : Heap) : Option Out :=
  seqX ((intV .lss a0 (.int .i64 0)).bind fun v1 => (grdV v1 false (some a0)).bind fun v2 => (grdV v1 false (intV .geq v2 (.int .i64 32))).bind fun v3 => (pickV v1 (.bool true) v3).bind fun v4 => condV v4
  (some (.ret (.int .u32 0) h))
  (some (.normal ⟨(envL [(0, a0), (8, v4)]), h⟩)))
  (fun s5 => (intV .shl (.int .u32 1) (s5.e 0)).bind fun v6 => some (.ret v6 s5.h))

theorem sets_One_eq (n : Nat) (a0 : V) (h : Heap) : dn PR gD anD (n + 1) k_sets_One [a0] h = fin PR [.tmp 2] (sets_One_B n a0 (h ++ pad 0)) := by kernel_rfl
end Mini
end
/- What functions come to (printed). -/
section
set_option linter.unusedVariables false
set_option maxRecDepth 100000
namespace Mini
open Go Go.Proofs
/-- alibi/graph.Order -/
noncomputable def graph_Order_L2 (n : Nat) (s : St) : Option Out :=
  (intV .lss (s.e 64) (s.e 63)).bind fun v42 => seqX (condV v42
  (some (.normal ⟨(envL [(7, (s.e 7)), (8, (s.e 8)), (9, (s.e 9)), (12, (s.e 12)), (13, (s.e 13)), (62, (s.e 62)), (63, (s.e 63)), (64, (s.e 64)), (65, v42)]), s.h⟩))
  (some (.exit 4 ⟨(envL [(7, (s.e 7)), (8, (s.e 8)), (9, (s.e 9)), (12, (s.e 12)), (13, (s.e 13)), (62, (s.e 62)), (63, (s.e 63)), (64, (s.e 64)), (65, v42)]), s.h⟩)))
  (fun s43 => seqX (blkX 5 ((iaS 0 (s43.e 62) (s43.e 64)).bind fun v44 => (ldV 0 v44 s43.h).bind fun v45 => (runF (tD n) k_sets_Has {  } [v45, (s43.e 13)] s43.h).bind fun r46 => condV r46.1
  ((iaS 0 (s43.e 8) (s43.e 64)).bind fun v47 => (ldV 0 v47 r46.2).bind fun v48 => (intV .sub v48 (.int .i64 1)).bind fun v49 => (iaS 0 (s43.e 8) (s43.e 64)).bind fun v50 => ((stV 0 v50 v49 r46.2).bind fun h => some (V.tup [], h)).bind fun r51 => (iaS 0 (s43.e 8) (s43.e 64)).bind fun v52 => (ldV 0 v52 r51.2).bind fun v53 => (intV .eql v53 (.int .i64 0)).bind fun v54 => condV v54
  ((runF (tD n) k_heap_Push { ks := [2, 3, 4] } [(.iface y_P_graph_ids (s43.e 9)), (.iface y_i64 (s43.e 64))] r51.2).bind fun r55 => some (.normal ⟨(envL [(7, (s43.e 7)), (8, (s43.e 8)), (9, (s43.e 9)), (12, (s43.e 12)), (13, (s43.e 13)), (62, (s43.e 62)), (63, (s43.e 63)), (64, (s43.e 64))]), r55.2⟩))
  (some (.normal ⟨(envL [(7, (s43.e 7)), (8, (s43.e 8)), (9, (s43.e 9)), (12, (s43.e 12)), (13, (s43.e 13)), (14, (s43.e 64)), (62, (s43.e 62)), (63, (s43.e 63)), (64, (s43.e 64)), (82, v54)]), r51.2⟩)))
  (some (.normal ⟨(envL [(7, (s43.e 7)), (8, (s43.e 8)), (9, (s43.e 9)), (12, (s43.e 12)), (13, (s43.e 13)), (14, (s43.e 64)), (62, (s43.e 62)), (63, (s43.e 63)), (64, (s43.e 64)), (71, r46.1)]), r46.2⟩))))
  (fun s56 => (intV .add (s56.e 64) (.int .i64 1)).bind fun v57 => some (.normal ⟨(envL [(7, (s56.e 7)), (8, (s56.e 8)), (9, (s56.e 9)), (12, (s56.e 12)), (13, (s56.e 13)), (62, (s56.e 62)), (63, (s56.e 63)), (64, v57)]), s56.h⟩)))

noncomputable def graph_Order_L1 (n : Nat) (s : St) : Option Out :=
  seqX ((ldV 0 (s.e 9) s.h).bind fun v33 => (runF (tD n) k_graph_ids_Len { ks := [3] } [v33] s.h).bind fun r34 => (intV .gtr r34.1 (.int .i64 0)).bind fun v35 => condV v35
  (some (.normal ⟨(envL [(7, (s.e 7)), (8, (s.e 8)), (9, (s.e 9)), (12, (s.e 12)), (54, v35)]), r34.2⟩))
  (some (.exit 2 ⟨(envL [(7, (s.e 7)), (8, (s.e 8)), (9, (s.e 9)), (12, (s.e 12)), (54, v35)]), r34.2⟩)))
  (fun s36 => blkX 3 ((runF (tD n) k_heap_Pop { ks := [2, 3, 4] } [(.iface y_P_graph_ids (s36.e 9))] s36.h).bind fun r37 => (tasV y_i64 r37.1).bind fun v38 => ((fillV (rep 1 [(.int .i64 0)]) [(0, 0, v38)]).bind fun cs => newSl none 1 0 cs r37.2).bind fun r39 => (appV (some 0) 8796093022208 0 (s36.e 12) r39.1 r39.2).bind fun r40 => (lenV (s36.e 7)).bind fun v41 => blkX 4 (lpC (graph_Order_L2 n) ⟨(envL [(7, (s36.e 7)), (8, (s36.e 8)), (9, (s36.e 9)), (12, r40.1), (13, v38), (62, (s36.e 7)), (63, v41), (64, (.int .i64 0))]), r40.2⟩)))

noncomputable def graph_Order_L0 (n : Nat) (s : St) : Option Out :=
  (intV .lss (s.e 32) (s.e 31)).bind fun v18 => seqX (condV v18
  (some (.normal ⟨(envL [(7, (s.e 7)), (8, (s.e 8)), (9, (s.e 9)), (30, (s.e 30)), (31, (s.e 31)), (32, (s.e 32)), (33, v18)]), s.h⟩))
  (some (.exit 0 ⟨(envL [(7, (s.e 7)), (8, (s.e 8)), (9, (s.e 9)), (30, (s.e 30)), (31, (s.e 31)), (32, (s.e 32)), (33, v18)]), s.h⟩)))
  (fun s19 => seqX (blkX 1 ((iaS 0 (s19.e 30) (s19.e 32)).bind fun v20 => (ldV 0 v20 s19.h).bind fun v21 => (runF (tD n) k_sets_Count {  } [v21] s19.h).bind fun r22 => (iaS 0 (s19.e 8) (s19.e 32)).bind fun v23 => ((stV 0 v23 r22.1 r22.2).bind fun h => some (V.tup [], h)).bind fun r24 => (iaS 0 (s19.e 8) (s19.e 32)).bind fun v25 => (ldV 0 v25 r24.2).bind fun v26 => (intV .eql v26 (.int .i64 0)).bind fun v27 => condV v27
  ((runF (tD n) k_heap_Push { ks := [2, 3, 4] } [(.iface y_P_graph_ids (s19.e 9)), (.iface y_i64 (s19.e 32))] r24.2).bind fun r28 => some (.normal ⟨(envL [(7, (s19.e 7)), (8, (s19.e 8)), (9, (s19.e 9)), (30, (s19.e 30)), (31, (s19.e 31)), (32, (s19.e 32))]), r28.2⟩))
  (some (.normal ⟨(envL [(7, (s19.e 7)), (8, (s19.e 8)), (9, (s19.e 9)), (10, (s19.e 32)), (30, (s19.e 30)), (31, (s19.e 31)), (32, (s19.e 32)), (46, v27)]), r24.2⟩))))
  (fun s29 => (intV .add (s29.e 32) (.int .i64 1)).bind fun v30 => some (.normal ⟨(envL [(7, (s29.e 7)), (8, (s29.e 8)), (9, (s29.e 9)), (30, (s29.e 30)), (31, (s29.e 31)), (32, v30)]), s29.h⟩)))

noncomputable def graph_Order_B (n : Nat) (a0 : V) (h : Heap) : Option Out :=
  (boxV none 4 a0 h).bind fun r1 => seqX ((ldV 4 r1.1 r1.2).bind fun v2 => (runF (tD n) k_prog_Check {  } [v2] r1.2).bind fun r3 => (extV r3.1 0).bind fun v4 => (extV r3.1 1).bind fun v5 => (extV r3.1 2).bind fun v6 => (intV .neq v6 (.int .i64 0)).bind fun v7 => condV v7
  ((frzV 8 .nils r3.2).bind fun r8 => some (.ret (.tup [r8.1, v6]) r8.2))
  (some (.normal ⟨(envL [(1, r1.1), (6, v6), (23, v7)]), r3.2⟩)))
  (fun s9 => (ldV 4 (s9.e 1) s9.h).bind fun v10 => (runF (tD n) k_graph_Callees {  } [v10] s9.h).bind fun r11 => (lenV r11.1).bind fun v12 => (mkSl (some 1) 8796093022208 0 [(.int .i64 0)] v12 v12 r11.2).bind fun r13 => (allocV (some 2) 0 [.nils] r13.2).bind fun r14 => (promC (cmds.faV' 0 r14.1) 3 0 r14.2).bind fun h16 => seqX ((lenV r11.1).bind fun v17 => blkX 0 (lpC (graph_Order_L0 n) ⟨(envL [(7, r11.1), (8, r13.1), (9, r14.1), (30, r11.1), (31, v17), (32, (.int .i64 0))]), h16⟩))
  (fun s31 => (promV 0 0 .nils s31.h).bind fun r32 => seqX (blkX 2 (lpC (graph_Order_L1 n) ⟨(envL [(7, (s31.e 7)), (8, (s31.e 8)), (9, (s31.e 9)), (12, r32.1)]), r32.2⟩))
  (fun s58 => (frzV 8 (s58.e 12) s58.h).bind fun r59 => some (.ret (.tup [r59.1, (.int .i64 0)]) r59.2))))

theorem graph_Order_eq (n : Nat) (a0 : V) (h : Heap) : dn PR gD anD (n + 1) k_graph_Order [a0] h = fin PR [.tmp 2, .tmp 3] (graph_Order_B n a0 (h ++ pad 5)) := by kernel_rfl
/-- alibi/kill.Begins -/
noncomputable def kill_Begins_L0 (n : Nat) (s : St) : Option Out :=
  (intV .lss (s.e 19) (s.e 18)).bind fun v9 => seqX (condV v9
  (some (.normal ⟨(envL [(6, (s.e 6)), (17, (s.e 17)), (18, (s.e 18)), (19, (s.e 19)), (20, v9)]), s.h⟩))
  (some (.exit 0 ⟨(envL [(6, (s.e 6)), (17, (s.e 17)), (18, (s.e 18)), (19, (s.e 19)), (20, v9)]), s.h⟩)))
  (fun s10 => seqX (blkX 1 ((iaS 0 (s10.e 17) (s10.e 19)).bind fun v11 => (ldV 0 v11 s10.h).bind fun v12 => (intV .gtr v12 (.int .u32 0)).bind fun v13 => condV v13
  ((runF (tD n) k_sets_One {  } [(s10.e 19)] s10.h).bind fun r14 => (intV .or (s10.e 6) r14.1).bind fun v15 => some (.normal ⟨(envL [(6, v15), (17, (s10.e 17)), (18, (s10.e 18)), (19, (s10.e 19))]), r14.2⟩))
  (some (.normal ⟨(envL [(6, (s10.e 6)), (7, (s10.e 19)), (17, (s10.e 17)), (18, (s10.e 18)), (19, (s10.e 19)), (25, v13)]), s10.h⟩))))
  (fun s16 => (intV .add (s16.e 19) (.int .i64 1)).bind fun v17 => some (.normal ⟨(envL [(6, (s16.e 6)), (17, (s16.e 17)), (18, (s16.e 18)), (19, v17)]), s16.h⟩)))

noncomputable def kill_Begins_B (n : Nat) (a0 : V) (h : Heap) : Option Out :=
  (boxV none 4 a0 h).bind fun r1 => (ldV 4 r1.1 r1.2).bind fun v2 => (runF (tD n) k_kill_gather {  } [v2, (.fn (.func k_kill_begins) [] [])] r1.2).bind fun r3 => (extV r3.1 0).bind fun v4 => (extV r3.1 1).bind fun v5 => seqX ((intV .neq v5 (.int .i64 0)).bind fun v6 => condV v6
  (some (.ret (.tup [(.int .u32 0), v5]) r3.2))
  (some (.normal ⟨(envL [(4, v4), (5, v5), (15, v6)]), r3.2⟩)))
  (fun s7 => seqX ((lenV (s7.e 4)).bind fun v8 => blkX 0 (lpC (kill_Begins_L0 n) ⟨(envL [(6, (.int .u32 0)), (17, (s7.e 4)), (18, v8), (19, (.int .i64 0))]), s7.h⟩))
  (fun s18 => some (.ret (.tup [(s18.e 6), (.int .i64 0)]) s18.h)))

theorem kill_Begins_eq (n : Nat) (a0 : V) (h : Heap) : dn PR gD anD (n + 1) k_kill_Begins [a0] h = fin PR [.tmp 2, .tmp 3] (kill_Begins_B n a0 (h ++ pad 0)) := by kernel_rfl
/-- alibi/prog.Access -/
noncomputable def prog_Access_B (n : Nat) (a0 : V) (h : Heap) : Option Out :=
  (boxV none 4 a0 h).bind fun r1 => (faV 1 0 r1.1).bind fun v2 => (ldV 0 v2 r1.2).bind fun v3 => (faV 0 0 r1.1).bind fun v4 => (ldV 0 v4 r1.2).bind fun v5 => (intV .eql v5 (.int .i64 2)).bind fun v6 => (faV 0 0 r1.1).bind fun v7 => (ldV 0 v7 r1.2).bind fun v8 => (intV .eql v8 (.int .i64 1)).bind fun v9 => (grdV v9 false (faV 0 0 r1.1)).bind fun v10 => (grdV v9 false (ldV 0 v10 r1.2)).bind fun v11 => (grdV v9 false (intV .eql v11 (.int .i64 2))).bind fun v12 => (pickV v9 (.bool true) v12).bind fun v13 => some (.ret (.tup [v3, v6, v13]) r1.2)

theorem prog_Access_eq (n : Nat) (a0 : V) (h : Heap) : dn PR gD anD (n + 1) k_prog_Access [a0] h = fin PR [.tmp 2, .tmp 3, .tmp 4] (prog_Access_B n a0 (h ++ pad 0)) := by kernel_rfl
/-- alibi/prog.May -/
noncomputable def prog_May_B (n : Nat) (a0 a1 a2 : V) (h : Heap) : Option Out :=
  (boxV none 4 a0 h).bind fun r1 => (boxV none 4 a1 r1.2).bind fun r2 => (ldV 4 r1.1 r2.2).bind fun v3 => (faV 0 0 r2.1).bind fun v4 => (ldV 0 v4 r2.2).bind fun v5 => (runF (tD n) k_prog_fields {  } [v3, v5, a2] r2.2).bind fun r6 => (extV r6.1 0).bind fun v7 => (extV r6.1 1).bind fun v8 => (extV r6.1 2).bind fun v9 => (extV r6.1 3).bind fun v10 => (grdV v10 true (faV 1 0 r2.1)).bind fun v11 => (grdV v10 true (ldV 0 v11 r6.2)).bind fun v12 => (grdV v10 true (some v7)).bind fun v13 => (grdV v10 true (maxV [v13, (.int .i64 1)])).bind fun v14 => (grdH v10 true r6.2 (runF (tD n) k_prog_within {  } [v12, v14] r6.2)).bind fun r15 => (pickV v10 r15.1 (.bool false)).bind fun v16 => (grdV v16 true (faV 2 0 r2.1)).bind fun v17 => (grdV v16 true (ldV 0 v17 r15.2)).bind fun v18 => (grdV v16 true (some v8)).bind fun v19 => (grdV v16 true (maxV [v19, (.int .i64 1)])).bind fun v20 => (grdH v16 true r15.2 (runF (tD n) k_prog_within {  } [v18, v20] r15.2)).bind fun r21 => (pickV v16 r21.1 (.bool false)).bind fun v22 => (grdV v22 true (faV 3 0 r2.1)).bind fun v23 => (grdV v22 true (ldV 0 v23 r21.2)).bind fun v24 => (grdV v22 true (some v9)).bind fun v25 => (grdV v22 true (maxV [v25, (.int .i64 1)])).bind fun v26 => (grdH v22 true r21.2 (runF (tD n) k_prog_within {  } [v24, v26] r21.2)).bind fun r27 => (pickV v22 r27.1 (.bool false)).bind fun v28 => some (.ret v28 r27.2)

theorem prog_May_eq (n : Nat) (a0 a1 a2 : V) (h : Heap) : dn PR gD anD (n + 1) k_prog_May [a0, a1, a2] h = fin PR [.tmp 6] (prog_May_B n a0 a1 a2 (h ++ pad 0)) := by kernel_rfl
/-- alibi/prog.round -/
noncomputable def prog_round_L1 (n : Nat) (s : St) : Option Out :=
  (intV .lss (s.e 19) (s.e 18)).bind fun v10 => seqX (condV v10
  (some (.normal ⟨(envL [(1, (s.e 1)), (5, (s.e 5)), (10, (s.e 10)), (11, (s.e 11)), (12, (s.e 12)), (17, (s.e 17)), (18, (s.e 18)), (19, (s.e 19)), (20, v10)]), s.h⟩))
  (some (.exit 2 ⟨(envL [(1, (s.e 1)), (5, (s.e 5)), (10, (s.e 10)), (11, (s.e 11)), (12, (s.e 12)), (17, (s.e 17)), (18, (s.e 18)), (19, (s.e 19)), (20, v10)]), s.h⟩)))
  (fun s11 => seqX (blkX 3 ((iaS 4 (s11.e 17) (s11.e 19)).bind fun v12 => (ldV 4 v12 s11.h).bind fun v13 => (allocV (some 0) 4 [(.int .i64 0), (.int .i64 0), (.int .i64 0), (.int .i64 0)] s11.h).bind fun r14 => ((stV 4 r14.1 v13 r14.2).bind fun h => some (V.tup [], h)).bind fun r15 => (frzP 4 r14.1 r15.2).bind fun r16 => (faV 0 0 r16.1).bind fun v17 => (ldV 0 v17 r16.2).bind fun v18 => (intV .eql v18 (.int .i64 7)).bind fun v19 => (grdV v19 true (ldV 4 (s11.e 1) r16.2)).bind fun v20 => (grdV v19 true (faV 1 0 r16.1)).bind fun v21 => (grdV v19 true (ldV 0 v21 r16.2)).bind fun v22 => (grdV v19 true (some (s11.e 5))).bind fun v23 => (grdV v19 true (faV 3 0 (s11.e 1))).bind fun v24 => (grdV v19 true (ldV 0 v24 r16.2)).bind fun v25 => (grdV v19 true (lenV v25)).bind fun v26 => (grdH v19 true r16.2 (mkSl (some 1) 70368744177664 0 [(.bool false)] v26 v26 r16.2)).bind fun r27 => grdB (okF (fpP v21) [] [] [1] && (okF (fpP (s11.e 1)) [] [] [1] && true)) ((grdH v19 true r27.2 (runF (tD n) k_prog_reaches { ks := [1] } [v20, v22, v23, r27.1] r27.2)).bind fun r28 => (pickV v19 r28.1 (.bool false)).bind fun v29 => condV v29
  (some (.ret (.tup [(s11.e 5), (s11.e 19), (.bool true)]) r28.2))
  (some (.normal ⟨(envL [(1, (s11.e 1)), (5, (s11.e 5)), (7, (s11.e 19)), (10, (s11.e 10)), (11, (s11.e 11)), (12, (s11.e 12)), (17, (s11.e 17)), (18, (s11.e 18)), (19, (s11.e 19)), (37, v29)]), r28.2⟩)))))
  (fun s30 => (intV .add (s30.e 19) (.int .i64 1)).bind fun v31 => some (.normal ⟨(envL [(1, (s30.e 1)), (5, (s30.e 5)), (10, (s30.e 10)), (11, (s30.e 11)), (12, (s30.e 12)), (17, (s30.e 17)), (18, (s30.e 18)), (19, v31)]), s30.h⟩)))

noncomputable def prog_round_L0 (n : Nat) (s : St) : Option Out :=
  (intV .lss (s.e 12) (s.e 11)).bind fun v5 => seqX (condV v5
  (some (.normal ⟨(envL [(1, (s.e 1)), (10, (s.e 10)), (11, (s.e 11)), (12, (s.e 12)), (13, v5)]), s.h⟩))
  (some (.exit 0 ⟨(envL [(1, (s.e 1)), (10, (s.e 10)), (11, (s.e 11)), (12, (s.e 12)), (13, v5)]), s.h⟩)))
  (fun s6 => seqX (blkX 1 ((iaS 0 (s6.e 10) (s6.e 12)).bind fun v7 => (ldV 0 v7 s6.h).bind fun v8 => (lenV v8).bind fun v9 => blkX 2 (lpC (prog_round_L1 n) ⟨(envL [(1, (s6.e 1)), (5, (s6.e 12)), (10, (s6.e 10)), (11, (s6.e 11)), (12, (s6.e 12)), (17, v8), (18, v9), (19, (.int .i64 0))]), s6.h⟩)))
  (fun s32 => (intV .add (s32.e 12) (.int .i64 1)).bind fun v33 => some (.normal ⟨(envL [(1, (s32.e 1)), (10, (s32.e 10)), (11, (s32.e 11)), (12, v33)]), s32.h⟩)))

noncomputable def prog_round_B (n : Nat) (a0 : V) (h : Heap) : Option Out :=
  (boxV none 4 a0 h).bind fun r1 => seqX ((faV 3 0 r1.1).bind fun v2 => (ldV 0 v2 r1.2).bind fun v3 => (lenV v3).bind fun v4 => blkX 0 (lpC (prog_round_L0 n) ⟨(envL [(1, r1.1), (10, v3), (11, v4), (12, (.int .i64 0))]), r1.2⟩))
  (fun s34 => some (.ret (.tup [(.int .i64 0), (.int .i64 0), (.bool false)]) s34.h))

theorem prog_round_eq (n : Nat) (a0 : V) (h : Heap) : dn PR gD anD (n + 1) k_prog_round [a0] h = fin PR [.tmp 2, .tmp 3, .tmp 4] (prog_round_B n a0 (h ++ pad 2)) := by kernel_rfl
/-- alibi/varint.Put -/
noncomputable def varint_Put_L0 (n : Nat) (s : St) : Option Out :=
  seqX ((intV .geq (s.e 0) (.int .u32 128)).bind fun v2 => condV v2
  (some (.normal ⟨(envL [(0, (s.e 0)), (3, (s.e 3)), (5, v2)]), s.h⟩))
  (some (.exit 0 ⟨(envL [(0, (s.e 0)), (3, (s.e 3)), (5, v2)]), s.h⟩)))
  (fun s3 => seqX (blkX 1 ((toIntV .u8 (s3.e 0)).bind fun v4 => (intV .or v4 (.int .u8 128)).bind fun v5 => ((fillV (rep 1 [(.int .u8 0)]) [(0, 0, v5)]).bind fun cs => newSl none 1 0 cs s3.h).bind fun r6 => (appV (some 0) 70368744177664 0 (s3.e 3) r6.1 r6.2).bind fun r7 => some (.normal ⟨(envL [(0, (s3.e 0)), (3, r7.1)]), r7.2⟩)))
  (fun s8 => (intV .shr (s8.e 0) (.int .u64 7)).bind fun v9 => some (.normal ⟨(envL [(0, v9), (3, (s8.e 3))]), s8.h⟩)))

noncomputable def varint_Put_B (n : Nat) (a0 : V) (h : Heap) : Option Out :=
  (promV 0 0 .nils h).bind fun r1 => seqX (blkX 0 (lpC (varint_Put_L0 n) ⟨(envL [(0, a0), (3, r1.1)]), r1.2⟩))
  (fun s10 => (toIntV .u8 (s10.e 0)).bind fun v11 => ((fillV (rep 1 [(.int .u8 0)]) [(0, 0, v11)]).bind fun cs => newSl none 1 0 cs s10.h).bind fun r12 => (appV (some 1) 70368744177664 0 (s10.e 3) r12.1 r12.2).bind fun r13 => (frzV 8 r13.1 r13.2).bind fun r14 => some (.ret r14.1 r14.2))

theorem varint_Put_eq (n : Nat) (a0 : V) (h : Heap) : dn PR gD anD (n + 1) k_varint_Put [a0] h = fin PR [.tmp 2] (varint_Put_B n a0 (h ++ pad 2)) := by kernel_rfl
/-- (*alibi/sha.State).mix -/
noncomputable def sha_StateP_mix_L1 (n : Nat) (s : St) : Option Out :=
  (intV .lss (s.e 93) (.int .i64 8)).bind fun v71 => seqX (condV v71
  (some (.normal ⟨(envL [(0, (s.e 0)), (5, (s.e 5)), (93, (s.e 93)), (94, v71)]), s.h⟩))
  (some (.exit 2 ⟨(envL [(0, (s.e 0)), (5, (s.e 5)), (93, (s.e 93)), (94, v71)]), s.h⟩)))
  (fun s72 => seqX (blkX 3 ((nilV (s72.e 0)).bind fun v73 => (faV 0 8 v73).bind fun v74 => (iaA 8 0 v74 (s72.e 93)).bind fun v75 => (ldV 0 v75 s72.h).bind fun v76 => (iaA 8 0 (s72.e 5) (s72.e 93)).bind fun v77 => (ldV 0 v77 s72.h).bind fun v78 => (intV .add v76 v78).bind fun v79 => (nilV (s72.e 0)).bind fun v80 => (faV 0 8 v80).bind fun v81 => (iaA 8 0 v81 (s72.e 93)).bind fun v82 => ((stV 0 v82 v79 s72.h).bind fun h => some (V.tup [], h)).bind fun r83 => some (.normal ⟨(envL [(0, (s72.e 0)), (5, (s72.e 5)), (93, (s72.e 93))]), r83.2⟩)))
  (fun s84 => (intV .add (s84.e 93) (.int .i64 1)).bind fun v85 => some (.normal ⟨(envL [(0, (s84.e 0)), (5, (s84.e 5)), (93, v85)]), s84.h⟩)))

noncomputable def sha_StateP_mix_L0 (n : Nat) (s : St) : Option Out :=
  (intV .lss (s.e 20) (.int .i64 64)).bind fun v10 => seqX (condV v10
  (some (.normal ⟨(envL [(0, (s.e 0)), (4, (s.e 4)), (5, (s.e 5)), (19, (s.e 19)), (20, (s.e 20)), (21, v10)]), s.h⟩))
  (some (.exit 0 ⟨(envL [(0, (s.e 0)), (4, (s.e 4)), (5, (s.e 5)), (19, (s.e 19)), (20, (s.e 20)), (21, v10)]), s.h⟩)))
  (fun s11 => seqX (blkX 1 ((ixA 64 0 (s11.e 19) (s11.e 20)).bind fun v12 => (iaA 8 0 (s11.e 5) (.int .i64 0)).bind fun v13 => (ldV 0 v13 s11.h).bind fun v14 => (iaA 8 0 (s11.e 5) (.int .i64 4)).bind fun v15 => (ldV 0 v15 s11.h).bind fun v16 => (iaA 8 0 (s11.e 5) (.int .i64 7)).bind fun v17 => (ldV 0 v17 s11.h).bind fun v18 => (runF (tD n) k_sha_turn {  } [v16, (.int .i64 6)] s11.h).bind fun r19 => (runF (tD n) k_sha_turn {  } [v16, (.int .i64 11)] r19.2).bind fun r20 => (intV .xor r19.1 r20.1).bind fun v21 => (runF (tD n) k_sha_turn {  } [v16, (.int .i64 25)] r20.2).bind fun r22 => (intV .xor v21 r22.1).bind fun v23 => (intV .add v18 v23).bind fun v24 => (iaA 8 0 (s11.e 5) (.int .i64 5)).bind fun v25 => (ldV 0 v25 r22.2).bind fun v26 => (intV .and v16 v26).bind fun v27 => (unV .xor v16).bind fun v28 => (iaA 8 0 (s11.e 5) (.int .i64 6)).bind fun v29 => (ldV 0 v29 r22.2).bind fun v30 => (intV .and v28 v30).bind fun v31 => (intV .xor v27 v31).bind fun v32 => (intV .add v24 v32).bind fun v33 => (intV .add v33 v12).bind fun v34 => (iaA 64 0 (s11.e 4) (s11.e 20)).bind fun v35 => (ldV 0 v35 r22.2).bind fun v36 => (intV .add v34 v36).bind fun v37 => (runF (tD n) k_sha_turn {  } [v14, (.int .i64 2)] r22.2).bind fun r38 => (runF (tD n) k_sha_turn {  } [v14, (.int .i64 13)] r38.2).bind fun r39 => (intV .xor r38.1 r39.1).bind fun v40 => (runF (tD n) k_sha_turn {  } [v14, (.int .i64 22)] r39.2).bind fun r41 => (intV .xor v40 r41.1).bind fun v42 => (iaA 8 0 (s11.e 5) (.int .i64 1)).bind fun v43 => (ldV 0 v43 r41.2).bind fun v44 => (intV .and v14 v44).bind fun v45 => (iaA 8 0 (s11.e 5) (.int .i64 2)).bind fun v46 => (ldV 0 v46 r41.2).bind fun v47 => (intV .and v14 v47).bind fun v48 => (intV .xor v45 v48).bind fun v49 => (iaA 8 0 (s11.e 5) (.int .i64 1)).bind fun v50 => (ldV 0 v50 r41.2).bind fun v51 => (iaA 8 0 (s11.e 5) (.int .i64 2)).bind fun v52 => (ldV 0 v52 r41.2).bind fun v53 => (intV .and v51 v53).bind fun v54 => (intV .xor v49 v54).bind fun v55 => (intV .add v42 v55).bind fun v56 => (slA 8 0 (s11.e 5) (some (.int .i64 1)) none r41.2).bind fun v57 => (slA 8 0 (s11.e 5) none (some (.int .i64 7)) r41.2).bind fun v58 => (copyV 0 v57 v58 r41.2).bind fun r59 => (iaA 8 0 (s11.e 5) (.int .i64 4)).bind fun v60 => (ldV 0 v60 r59.2).bind fun v61 => (intV .add v61 v37).bind fun v62 => (iaA 8 0 (s11.e 5) (.int .i64 4)).bind fun v63 => ((stV 0 v63 v62 r59.2).bind fun h => some (V.tup [], h)).bind fun r64 => (intV .add v37 v56).bind fun v65 => (iaA 8 0 (s11.e 5) (.int .i64 0)).bind fun v66 => ((stV 0 v66 v65 r64.2).bind fun h => some (V.tup [], h)).bind fun r67 => some (.normal ⟨(envL [(0, (s11.e 0)), (4, (s11.e 4)), (5, (s11.e 5)), (19, (s11.e 19)), (20, (s11.e 20))]), r67.2⟩)))
  (fun s68 => (intV .add (s68.e 20) (.int .i64 1)).bind fun v69 => some (.normal ⟨(envL [(0, (s68.e 0)), (4, (s68.e 4)), (5, (s68.e 5)), (19, (s68.e 19)), (20, v69)]), s68.h⟩)))

noncomputable def sha_StateP_mix_B (n : Nat) (a0 a1 : V) (h : Heap) : Option Out :=
  (runF (tD n) k_sha_spread {  } [a1] h).bind fun r1 => (allocV (some 1) 64 (rep 64 [(.int .u32 0)]) r1.2).bind fun r2 => ((stV 64 r2.1 r1.1 r2.2).bind fun h => some (V.tup [], h)).bind fun r3 => (nilV a0).bind fun v4 => (faV 0 8 v4).bind fun v5 => (ldV 8 v5 r3.2).bind fun v6 => (allocV (some 2) 8 [(.int .u32 0), (.int .u32 0), (.int .u32 0), (.int .u32 0), (.int .u32 0), (.int .u32 0), (.int .u32 0), (.int .u32 0)] r3.2).bind fun r7 => ((stV 8 r7.1 v6 r7.2).bind fun h => some (V.tup [], h)).bind fun r8 => seqX ((ldV 64 (gD g_sha_keys) r8.2).bind fun v9 => blkX 0 (lpC (sha_StateP_mix_L0 n) ⟨(envL [(0, a0), (4, r2.1), (5, r7.1), (19, v9), (20, (.int .i64 0))]), r8.2⟩))
  (fun s70 => blkX 2 (lpC (sha_StateP_mix_L1 n) ⟨(envL [(0, (s70.e 0)), (5, (s70.e 5)), (93, (.int .i64 0))]), s70.h⟩))

theorem sha_StateP_mix_eq (n : Nat) (a0 a1 : V) (h : Heap) : dn PR gD anD (n + 1) k_sha_StateP_mix [a0, a1] h = fin PR [] (sha_StateP_mix_B n a0 a1 (h ++ pad 2)) := by kernel_rfl
/-- alibi/kill.Unlocks -/
noncomputable def kill_Unlocks_B (n : Nat) (a0 : V) (h : Heap) : Option Out :=
  (boxV none 4 a0 h).bind fun r1 => (ldV 4 r1.1 r1.2).bind fun v2 => (runF (tD n) k_kill_gather {  } [v2, (.fn (.func k_kill_unlocks) [] [])] r1.2).bind fun r3 => (extV r3.1 0).bind fun v4 => (extV r3.1 1).bind fun v5 => (frzV 8 v4 r3.2).bind fun r6 => some (.ret (.tup [r6.1, v5]) r6.2)

theorem kill_Unlocks_eq (n : Nat) (a0 : V) (h : Heap) : dn PR gD anD (n + 1) k_kill_Unlocks [a0] h = fin PR [.tmp 2, .tmp 3] (kill_Unlocks_B n a0 (h ++ pad 0)) := by kernel_rfl
/-- (alibi/must.checker).function -/
noncomputable def must_checker_function_L0 (n : Nat) (s : St) : Option Out :=
  (intV .lss (s.e 40) (s.e 39)).bind fun v31 => seqX (condV v31
  (some (.normal ⟨(envL [(1, (s.e 1)), (2, (s.e 2)), (39, (s.e 39)), (40, (s.e 40)), (41, v31)]), s.h⟩))
  (some (.exit 1 ⟨(envL [(1, (s.e 1)), (2, (s.e 2)), (39, (s.e 39)), (40, (s.e 40)), (41, v31)]), s.h⟩)))
  (fun s32 => seqX (blkX 2 ((ldV 7 (s32.e 2) s32.h).bind fun v33 => (runF (tD n) k_must_checker_node {  } [v33, (s32.e 1), (s32.e 40)] s32.h).bind fun r34 => (intV .neq r34.1 (.int .i64 0)).bind fun v35 => condV v35
  (some (.ret (.tup [(s32.e 40), r34.1]) r34.2))
  (some (.normal ⟨(envL [(1, (s32.e 1)), (2, (s32.e 2)), (7, (s32.e 40)), (8, r34.1), (39, (s32.e 39)), (40, (s32.e 40)), (48, v35)]), r34.2⟩))))
  (fun s36 => (intV .add (s36.e 40) (.int .i64 1)).bind fun v37 => some (.normal ⟨(envL [(1, (s36.e 1)), (2, (s36.e 2)), (39, (s36.e 39)), (40, v37)]), s36.h⟩)))

noncomputable def must_checker_function_B (n : Nat) (a0 a1 : V) (h : Heap) : Option Out :=
  (boxV none 7 a0 h).bind fun r1 => (faV 4 0 r1.1).bind fun v2 => (ldV 0 v2 r1.2).bind fun v3 => (iaS 6 v3 a1).bind fun v4 => (ldV 6 v4 r1.2).bind fun v5 => (allocV (some 0) 6 [(.int .u32 0), (.int .u32 0), .nils, (.int .u32 0), (.int .u32 0), .nils] r1.2).bind fun r6 => ((stV 6 r6.1 v5 r6.2).bind fun h => some (V.tup [], h)).bind fun r7 => (frzP 6 r6.1 r7.2).bind fun r8 => seqX (blkX 0 ((faV 6 0 r1.1).bind fun v9 => (ldV 0 v9 r8.2).bind fun v10 => (runF (tD n) k_sets_Has {  } [v10, a1] r8.2).bind fun r11 => (grdV r11.1 true (faV 0 0 r8.1)).bind fun v12 => (grdV r11.1 true (ldV 0 v12 r11.2)).bind fun v13 => (grdV r11.1 true (intV .neq v13 (.int .u32 0))).bind fun v14 => (pickV r11.1 v14 (.bool false)).bind fun v15 => condV v15
  (some (.ret (.tup [(.int .i64 (-1)), (.int .i64 2)]) r11.2))
  ((faV 2 0 r8.1).bind fun v16 => (ldV 0 v16 r11.2).bind fun v17 => (iaS 0 v17 (.int .i64 0)).bind fun v18 => (ldV 0 v18 r11.2).bind fun v19 => (faV 0 0 r8.1).bind fun v20 => (ldV 0 v20 r11.2).bind fun v21 => (runF (tD n) k_sets_Within {  } [v19, v21] r11.2).bind fun r22 => (unV .not r22.1).bind fun v23 => condV v23
  (some (.ret (.tup [(.int .i64 (-1)), (.int .i64 3)]) r22.2))
  (some (.normal ⟨(envL [(1, a1), (2, r1.1), (24, v23)]), r22.2⟩)))))
  (fun s24 => seqX ((faV 0 4 (s24.e 2)).bind fun v25 => (faV 3 0 v25).bind fun v26 => (ldV 0 v26 s24.h).bind fun v27 => (iaS 0 v27 (s24.e 1)).bind fun v28 => (ldV 0 v28 s24.h).bind fun v29 => (lenV v29).bind fun v30 => blkX 1 (lpC (must_checker_function_L0 n) ⟨(envL [(1, (s24.e 1)), (2, (s24.e 2)), (39, v30), (40, (.int .i64 0))]), s24.h⟩))
  (fun s38 => some (.ret (.tup [(.int .i64 0), (.int .i64 0)]) s38.h)))

theorem must_checker_function_eq (n : Nat) (a0 a1 : V) (h : Heap) : dn PR gD anD (n + 1) k_must_checker_function [a0, a1] h = fin PR [.tmp 4, .tmp 5] (must_checker_function_B n a0 a1 (h ++ pad 1)) := by kernel_rfl
/-- alibi/sets.Within -/
noncomputable def sets_Within_B (n : Nat) (a0 a1 : V) (h : Heap) : Option Out :=
  (intV .andNot a0 a1).bind fun v1 => (intV .eql v1 (.int .u32 0)).bind fun v2 => some (.ret v2 h)

theorem sets_Within_eq (n : Nat) (a0 a1 : V) (h : Heap) : dn PR gD anD (n + 1) k_sets_Within [a0, a1] h = fin PR [.tmp 4] (sets_Within_B n a0 a1 (h ++ pad 0)) := by kernel_rfl
/-- (alibi/may.checker).node -/
noncomputable def may_checker_node_L0 (n : Nat) (s : St) : Option Out :=
  (intV .lss (s.e 79) (s.e 78)).bind fun v63 => seqX (condV v63
  (some (.normal ⟨(envL [(1, (s.e 1)), (3, (s.e 3)), (7, (s.e 7)), (8, (s.e 8)), (9, (s.e 9)), (77, (s.e 77)), (78, (s.e 78)), (79, (s.e 79)), (80, v63)]), s.h⟩))
  (some (.exit 1 ⟨(envL [(1, (s.e 1)), (3, (s.e 3)), (7, (s.e 7)), (8, (s.e 8)), (9, (s.e 9)), (77, (s.e 77)), (78, (s.e 78)), (79, (s.e 79)), (80, v63)]), s.h⟩)))
  (fun s64 => seqX (blkX 2 ((iaS 0 (s64.e 77) (s64.e 79)).bind fun v65 => (ldV 0 v65 s64.h).bind fun v66 => (ldV 4 (s64.e 7) s64.h).bind fun v67 => (faV 0 4 (s64.e 3)).bind fun v68 => (ldV 4 v68 s64.h).bind fun v69 => (runF (tD n) k_may_Lost {  } [v69] s64.h).bind fun r70 => (faV 5 0 (s64.e 3)).bind fun v71 => (ldV 0 v71 r70.2).bind fun v72 => (faV 1 0 (s64.e 7)).bind fun v73 => (ldV 0 v73 r70.2).bind fun v74 => (runF (tD n) k_sets_Has {  } [v72, v74] r70.2).bind fun r75 => (runF (tD n) k_may_Behind {  } [v67, (s64.e 8), (s64.e 9), r70.1, r75.1] r75.2).bind fun r76 => (faV 4 0 (s64.e 3)).bind fun v77 => (ldV 0 v77 r76.2).bind fun v78 => (iaS 6 v78 (s64.e 1)).bind fun v79 => (faV 5 0 v79).bind fun v80 => (ldV 0 v80 r76.2).bind fun v81 => (iaS 0 v81 v66).bind fun v82 => (ldV 0 v82 r76.2).bind fun v83 => (runF (tD n) k_sets_Within {  } [r76.1, v83] r76.2).bind fun r84 => (unV .not r84.1).bind fun v85 => condV v85
  (some (.ret (.int .i64 6) r84.2))
  (some (.normal ⟨(envL [(1, (s64.e 1)), (3, (s64.e 3)), (7, (s64.e 7)), (8, (s64.e 8)), (9, (s64.e 9)), (77, (s64.e 77)), (78, (s64.e 78)), (79, (s64.e 79)), (105, v85)]), r84.2⟩))))
  (fun s86 => (intV .add (s86.e 79) (.int .i64 1)).bind fun v87 => some (.normal ⟨(envL [(1, (s86.e 1)), (3, (s86.e 3)), (7, (s86.e 7)), (8, (s86.e 8)), (9, (s86.e 9)), (77, (s86.e 77)), (78, (s86.e 78)), (79, v87)]), s86.h⟩)))

noncomputable def may_checker_node_B (n : Nat) (a0 a1 a2 : V) (h : Heap) : Option Out :=
  (boxV none 6 a0 h).bind fun r1 => (faV 0 4 r1.1).bind fun v2 => (faV 3 0 v2).bind fun v3 => (ldV 0 v3 r1.2).bind fun v4 => (iaS 0 v4 a1).bind fun v5 => (ldV 0 v5 r1.2).bind fun v6 => (iaS 4 v6 a2).bind fun v7 => (ldV 4 v7 r1.2).bind fun v8 => (faV 4 0 r1.1).bind fun v9 => (ldV 0 v9 r1.2).bind fun v10 => (iaS 6 v10 a1).bind fun v11 => (faV 5 0 v11).bind fun v12 => (ldV 0 v12 r1.2).bind fun v13 => (iaS 0 v13 a2).bind fun v14 => (ldV 0 v14 r1.2).bind fun v15 => (allocV (some 0) 4 [(.int .i64 0), (.int .i64 0), (.int .i64 0), (.int .i64 0)] r1.2).bind fun r16 => grdB (okF (fpP v14) [] [] [0] && (okF (fpP v12) [] [] [0] && (okF (fpP v9) [] [] [0] && (okF (fpP v7) [] [] [0] && (okF (fpP v5) [] [] [0] && (okF (fpP v3) [] [] [0] && true)))))) (((stV 4 r16.1 v8 r16.2).bind fun h => some (V.tup [], h)).bind fun r17 => grdB (okF (fpP v14) [] [] (fpP r16.1) && (okF (fpP v12) [] [] (fpP r16.1) && (okF (fpP v9) [] [] (fpP r16.1) && true))) ((frzP 4 r16.1 r17.2).bind fun r18 => seqX ((faV 0 0 r18.1).bind fun v19 => (ldV 0 v19 r18.2).bind fun v20 => blkX 0 ((intV .eql v20 (.int .i64 7)).bind fun v21 => condV v21
  ((faV 4 0 r1.1).bind fun v22 => (ldV 0 v22 r18.2).bind fun v23 => (faV 1 0 r18.1).bind fun v24 => (ldV 0 v24 r18.2).bind fun v25 => (iaS 6 v23 v25).bind fun v26 => (faV 4 0 v26).bind fun v27 => (ldV 0 v27 r18.2).bind fun v28 => (faV 4 0 r1.1).bind fun v29 => (ldV 0 v29 r18.2).bind fun v30 => (faV 1 0 r18.1).bind fun v31 => (ldV 0 v31 r18.2).bind fun v32 => (iaS 6 v30 v32).bind fun v33 => (faV 3 0 v33).bind fun v34 => (ldV 0 v34 r18.2).bind fun v35 => (runF (tD n) k_sets_Within {  } [v15, v35] r18.2).bind fun r36 => (unV .not r36.1).bind fun v37 => condV v37
  (some (.ret (.int .i64 6) r36.2))
  (some (.normal ⟨(envL [(1, a1), (3, r1.1), (7, r18.1), (8, v15), (9, v28), (50, v37)]), r36.2⟩)))
  ((intV .eql v20 (.int .i64 9)).bind fun v38 => condV v38
  ((faV 4 0 r1.1).bind fun v39 => (ldV 0 v39 r18.2).bind fun v40 => (iaS 6 v40 a1).bind fun v41 => (faV 4 0 v41).bind fun v42 => (ldV 0 v42 r18.2).bind fun v43 => (runF (tD n) k_sets_Within {  } [v15, v43] r18.2).bind fun r44 => (unV .not r44.1).bind fun v45 => condV v45
  (some (.ret (.int .i64 6) r44.2))
  (some (.normal ⟨(envL [(1, a1), (3, r1.1), (7, r18.1), (8, v15), (9, (.int .u32 0)), (61, v45)]), r44.2⟩)))
  ((intV .eql v20 (.int .i64 5)).bind fun v46 => condV v46
  ((faV 4 0 r1.1).bind fun v47 => (ldV 0 v47 r18.2).bind fun v48 => (faV 1 0 r18.1).bind fun v49 => (ldV 0 v49 r18.2).bind fun v50 => (iaS 6 v48 v50).bind fun v51 => (faV 3 0 v51).bind fun v52 => (ldV 0 v52 r18.2).bind fun v53 => (faV 0 4 r1.1).bind fun v54 => (ldV 4 v54 r18.2).bind fun v55 => (runF (tD n) k_may_Lost {  } [v55] r18.2).bind fun r56 => (runF (tD n) k_sets_Has {  } [v53, r56.1] r56.2).bind fun r57 => (unV .not r57.1).bind fun v58 => condV v58
  (some (.ret (.int .i64 7) r57.2))
  (some (.normal ⟨(envL [(1, a1), (3, r1.1), (7, r18.1), (8, v15), (9, (.int .u32 0)), (75, v58)]), r57.2⟩)))
  (some (.normal ⟨(envL [(1, a1), (3, r1.1), (7, r18.1), (8, v15), (9, (.int .u32 0)), (62, v46)]), r18.2⟩))))))
  (fun s59 => seqX ((ldV 4 (s59.e 7) s59.h).bind fun v60 => (runF (tD n) k_prog_Succ {  } [v60] s59.h).bind fun r61 => (lenV r61.1).bind fun v62 => blkX 1 (lpC (may_checker_node_L0 n) ⟨(envL [(1, (s59.e 1)), (3, (s59.e 3)), (7, (s59.e 7)), (8, (s59.e 8)), (9, (s59.e 9)), (77, r61.1), (78, v62), (79, (.int .i64 0))]), r61.2⟩))
  (fun s88 => some (.ret (.int .i64 0) s88.h)))))

theorem may_checker_node_eq (n : Nat) (a0 a1 a2 : V) (h : Heap) : dn PR gD anD (n + 1) k_may_checker_node [a0, a1, a2] h = fin PR [.tmp 6] (may_checker_node_B n a0 a1 a2 (h ++ pad 1)) := by kernel_rfl
/-- alibi/guard.Right -/
noncomputable def guard_Right_B (n : Nat) (a0 a1 : V) (h : Heap) : Option Out :=
  (boxV none 2 a0 h).bind fun r1 => seqX ((faV 0 0 r1.1).bind fun v2 => (ldV 0 v2 r1.2).bind fun v3 => (intV .eql v3 (.int .i64 2)).bind fun v4 => condV v4
  ((faV 1 0 r1.1).bind fun v5 => (ldV 0 v5 r1.2).bind fun v6 => (intV .geq v6 (.int .i64 0)).bind fun v7 => (grdV v7 true (faV 1 0 r1.1)).bind fun v8 => (grdV v7 true (ldV 0 v8 r1.2)).bind fun v9 => (grdV v7 true (some a1)).bind fun v10 => (grdV v7 true (intV .lss v9 v10)).bind fun v11 => (pickV v7 v11 (.bool false)).bind fun v12 => some (.ret v12 r1.2))
  (some (.normal ⟨(envL [(1, a1), (2, r1.1), (7, v4)]), r1.2⟩)))
  (fun s13 => (faV 0 0 (s13.e 2)).bind fun v14 => (ldV 0 v14 s13.h).bind fun v15 => (intV .eql v15 (.int .i64 0)).bind fun v16 => (grdV v16 false (faV 0 0 (s13.e 2))).bind fun v17 => (grdV v16 false (ldV 0 v17 s13.h)).bind fun v18 => (grdV v16 false (intV .eql v18 (.int .i64 1))).bind fun v19 => (pickV v16 (.bool true) v19).bind fun v20 => (grdV v20 true (faV 1 0 (s13.e 2))).bind fun v21 => (grdV v20 true (ldV 0 v21 s13.h)).bind fun v22 => (grdV v20 true (intV .eql v22 (.int .i64 0))).bind fun v23 => (pickV v20 v23 (.bool false)).bind fun v24 => some (.ret v24 s13.h))

theorem guard_Right_eq (n : Nat) (a0 a1 : V) (h : Heap) : dn PR gD anD (n + 1) k_guard_Right [a0, a1] h = fin PR [.tmp 4] (guard_Right_B n a0 a1 (h ++ pad 0)) := by kernel_rfl
/-- alibi/may.Solo -/
noncomputable def may_Solo_B (n : Nat) (a0 a1 : V) (h : Heap) : Option Out :=
  (boxV none 6 a0 h).bind fun r1 => (intV .geq a1 (.int .i64 0)).bind fun v2 => (grdV v2 true (some a1)).bind fun v3 => (grdV v2 true (faV 5 0 r1.1)).bind fun v4 => (grdV v2 true (ldV 0 v4 r1.2)).bind fun v5 => (grdV v2 true (lenV v5)).bind fun v6 => (grdV v2 true (intV .lss v3 v6)).bind fun v7 => (pickV v2 v7 (.bool false)).bind fun v8 => (grdV v8 true (faV 5 0 r1.1)).bind fun v9 => (grdV v8 true (ldV 0 v9 r1.2)).bind fun v10 => (grdV v8 true (some a1)).bind fun v11 => (grdV v8 true (iaS 0 v10 v11)).bind fun v12 => (grdV v8 true (ldV 0 v12 r1.2)).bind fun v13 => (grdV v8 true (intV .eql v13 (.int .u32 0))).bind fun v14 => (pickV v8 v14 (.bool false)).bind fun v15 => some (.ret v15 r1.2)

theorem may_Solo_eq (n : Nat) (a0 a1 : V) (h : Heap) : dn PR gD anD (n + 1) k_may_Solo [a0, a1] h = fin PR [.tmp 4] (may_Solo_B n a0 a1 (h ++ pad 0)) := by kernel_rfl
/-- alibi/guard.Holds -/
noncomputable def guard_Holds_B (n : Nat) (a0 a1 a2 a3 : V) (h : Heap) : Option Out :=
  (boxV none 2 a0 h).bind fun r1 => seqX ((intV .eql a3 (.int .u32 0)).bind fun v2 => condV v2
  (some (.ret (.bool true) r1.2))
  (some (.normal ⟨(envL [(1, a1), (2, a2), (4, r1.1), (10, v2)]), r1.2⟩)))
  (fun s3 => seqX ((faV 0 0 (s3.e 4)).bind fun v4 => (ldV 0 v4 s3.h).bind fun v5 => blkX 0 ((intV .eql v5 (.int .i64 1)).bind fun v6 => condV v6
  ((unV .not (s3.e 1)).bind fun v7 => some (.ret v7 s3.h))
  ((intV .eql v5 (.int .i64 2)).bind fun v8 => condV v8
  ((faV 1 0 (s3.e 4)).bind fun v9 => (ldV 0 v9 s3.h).bind fun v10 => (runF (tD n) k_sets_Has {  } [(s3.e 2), v10] s3.h).bind fun r11 => some (.ret r11.1 r11.2))
  (some (.normal ⟨(envL [(2, (s3.e 2)), (4, (s3.e 4)), (17, v8)]), s3.h⟩)))))
  (fun s12 => some (.ret (.bool false) s12.h)))

theorem guard_Holds_eq (n : Nat) (a0 a1 a2 a3 : V) (h : Heap) : dn PR gD anD (n + 1) k_guard_Holds [a0, a1, a2, a3] h = fin PR [.tmp 8] (guard_Holds_B n a0 a1 a2 a3 (h ++ pad 0)) := by kernel_rfl
/-- alibi/graph.named -/
noncomputable def graph_named_L0 (n : Nat) (s : St) : Option Out :=
  (intV .lss (s.e 10) (s.e 9)).bind fun v2 => seqX (condV v2
  (some (.normal ⟨(envL [(1, (s.e 1)), (5, (s.e 5)), (8, (s.e 8)), (9, (s.e 9)), (10, (s.e 10)), (11, v2)]), s.h⟩))
  (some (.exit 0 ⟨(envL [(1, (s.e 1)), (5, (s.e 5)), (8, (s.e 8)), (9, (s.e 9)), (10, (s.e 10)), (11, v2)]), s.h⟩)))
  (fun s3 => seqX (blkX 1 ((iaS 4 (s3.e 8) (s3.e 10)).bind fun v4 => (ldV 4 v4 s3.h).bind fun v5 => (allocV (some 0) 4 [(.int .i64 0), (.int .i64 0), (.int .i64 0), (.int .i64 0)] s3.h).bind fun r6 => ((stV 4 r6.1 v5 r6.2).bind fun h => some (V.tup [], h)).bind fun r7 => (frzP 4 r6.1 r7.2).bind fun r8 => (faV 0 0 r8.1).bind fun v9 => (ldV 0 v9 r8.2).bind fun v10 => (intV .eql v10 (s3.e 1)).bind fun v11 => condV v11
  ((faV 1 0 r8.1).bind fun v12 => (ldV 0 v12 r8.2).bind fun v13 => (runF (tD n) k_sets_One {  } [v13] r8.2).bind fun r14 => (intV .or (s3.e 5) r14.1).bind fun v15 => some (.normal ⟨(envL [(1, (s3.e 1)), (5, v15), (8, (s3.e 8)), (9, (s3.e 9)), (10, (s3.e 10))]), r14.2⟩))
  (some (.normal ⟨(envL [(1, (s3.e 1)), (5, (s3.e 5)), (7, r8.1), (8, (s3.e 8)), (9, (s3.e 9)), (10, (s3.e 10)), (17, v11)]), r8.2⟩))))
  (fun s16 => (intV .add (s16.e 10) (.int .i64 1)).bind fun v17 => some (.normal ⟨(envL [(1, (s16.e 1)), (5, (s16.e 5)), (8, (s16.e 8)), (9, (s16.e 9)), (10, v17)]), s16.h⟩)))

noncomputable def graph_named_B (n : Nat) (a0 a1 : V) (h : Heap) : Option Out :=
  seqX ((lenV a0).bind fun v1 => blkX 0 (lpC (graph_named_L0 n) ⟨(envL [(1, a1), (5, (.int .u32 0)), (8, a0), (9, v1), (10, (.int .i64 0))]), h⟩))
  (fun s18 => some (.ret (s18.e 5) s18.h))

theorem graph_named_eq (n : Nat) (a0 a1 : V) (h : Heap) : dn PR gD anD (n + 1) k_graph_named [a0, a1] h = fin PR [.tmp 4] (graph_named_B n a0 a1 (h ++ pad 1)) := by kernel_rfl
/-- alibi/graph.Callees -/
noncomputable def graph_Callees_L0 (n : Nat) (s : St) : Option Out :=
  (intV .lss (s.e 9) (s.e 8)).bind fun v6 => seqX (condV v6
  (some (.normal ⟨(envL [(3, (s.e 3)), (7, (s.e 7)), (8, (s.e 8)), (9, (s.e 9)), (10, v6)]), s.h⟩))
  (some (.exit 0 ⟨(envL [(3, (s.e 3)), (7, (s.e 7)), (8, (s.e 8)), (9, (s.e 9)), (10, v6)]), s.h⟩)))
  (fun s7 => seqX (blkX 1 ((iaS 0 (s7.e 7) (s7.e 9)).bind fun v8 => (ldV 0 v8 s7.h).bind fun v9 => (runF (tD n) k_graph_named {  } [v9, (.int .i64 7)] s7.h).bind fun r10 => ((fillV (rep 1 [(.int .u32 0)]) [(0, 0, r10.1)]).bind fun cs => newSl none 1 0 cs r10.2).bind fun r11 => (appV (some 0) 17592186044416 0 (s7.e 3) r11.1 r11.2).bind fun r12 => some (.normal ⟨(envL [(3, r12.1), (7, (s7.e 7)), (8, (s7.e 8)), (9, (s7.e 9))]), r12.2⟩)))
  (fun s13 => (intV .add (s13.e 9) (.int .i64 1)).bind fun v14 => some (.normal ⟨(envL [(3, (s13.e 3)), (7, (s13.e 7)), (8, (s13.e 8)), (9, v14)]), s13.h⟩)))

noncomputable def graph_Callees_B (n : Nat) (a0 : V) (h : Heap) : Option Out :=
  (boxV none 4 a0 h).bind fun r1 => (promV 0 0 .nils r1.2).bind fun r2 => seqX ((faV 3 0 r1.1).bind fun v3 => (ldV 0 v3 r2.2).bind fun v4 => (lenV v4).bind fun v5 => blkX 0 (lpC (graph_Callees_L0 n) ⟨(envL [(3, r2.1), (7, v4), (8, v5), (9, (.int .i64 0))]), r2.2⟩))
  (fun s15 => (frzV 8 (s15.e 3) s15.h).bind fun r16 => some (.ret r16.1 r16.2))

theorem graph_Callees_eq (n : Nat) (a0 : V) (h : Heap) : dn PR gD anD (n + 1) k_graph_Callees [a0] h = fin PR [.tmp 2] (graph_Callees_B n a0 (h ++ pad 1)) := by kernel_rfl
/-- alibi/sets.Count -/
noncomputable def sets_Count_B (n : Nat) (a0 : V) (h : Heap) : Option Out :=
  (runF (tD n) k_bits_OnesCount32 {  } [a0] h).bind fun r1 => some (.ret r1.1 r1.2)

theorem sets_Count_eq (n : Nat) (a0 : V) (h : Heap) : dn PR gD anD (n + 1) k_sets_Count [a0] h = fin PR [.tmp 2] (sets_Count_B n a0 (h ++ pad 0)) := by kernel_rfl
/-- container/heap.Push -/
noncomputable def heap_Push_B (n : Nat) (a0 a1 : V) (h : Heap) : Option Out :=
  (runM PR (tD n) a0 "Push" { ks := [0, 1, 2] } [a1] h).bind fun r1 => (runM PR (tD n) a0 "Len" { ks := [0, 1, 2] } [] r1.2).bind fun r2 => (intV .sub r2.1 (.int .i64 1)).bind fun v3 => (runF (tD n) k_heap_up { ks := [0, 1, 2] } [a0, v3] r2.2).bind fun r4 => some (.normal ⟨(envL []), r4.2⟩)

theorem heap_Push_eq (n : Nat) (a0 a1 : V) (h : Heap) : dn PR gD anD (n + 1) k_heap_Push [a0, a1] h = fin PR [] (heap_Push_B n a0 a1 (h ++ pad 0)) := by kernel_rfl
/-- (alibi/graph.ids).Len -/
noncomputable def graph_ids_Len_B (n : Nat) (a0 : V) (h : Heap) : Option Out :=
  (lenV a0).bind fun v1 => some (.ret v1 h)

theorem graph_ids_Len_eq (n : Nat) (a0 : V) (h : Heap) : dn PR gD anD (n + 1) k_graph_ids_Len [a0] h = fin PR [.tmp 2] (graph_ids_Len_B n a0 (h ++ pad 0)) := by kernel_rfl
/-- container/heap.Pop -/
noncomputable def heap_Pop_B (n : Nat) (a0 : V) (h : Heap) : Option Out :=
  (runM PR (tD n) a0 "Len" { ks := [0, 1, 2] } [] h).bind fun r1 => (intV .sub r1.1 (.int .i64 1)).bind fun v2 => (runM PR (tD n) a0 "Swap" { ks := [0, 1, 2] } [(.int .i64 0), v2] r1.2).bind fun r3 => (runF (tD n) k_heap_down { ks := [0, 1, 2] } [a0, (.int .i64 0), v2] r3.2).bind fun r4 => (runM PR (tD n) a0 "Pop" { ks := [0, 1, 2] } [] r4.2).bind fun r5 => some (.ret r5.1 r5.2)

theorem heap_Pop_eq (n : Nat) (a0 : V) (h : Heap) : dn PR gD anD (n + 1) k_heap_Pop [a0] h = fin PR [.tmp 2] (heap_Pop_B n a0 (h ++ pad 0)) := by kernel_rfl
/-- alibi/kill.gather -/
noncomputable def kill_gather_L1 (n : Nat) (s : St) : Option Out :=
  (intV .lss (s.e 37) (s.e 36)).bind fun v23 => seqX (condV v23
  (some (.normal ⟨(envL [(1, (s.e 1)), (2, (s.e 2)), (8, (s.e 8)), (10, (s.e 10)), (25, (s.e 25)), (26, (s.e 26)), (27, (s.e 27)), (35, (s.e 35)), (36, (s.e 36)), (37, (s.e 37)), (38, v23)]), s.h⟩))
  (some (.exit 2 ⟨(envL [(1, (s.e 1)), (2, (s.e 2)), (8, (s.e 8)), (10, (s.e 10)), (25, (s.e 25)), (26, (s.e 26)), (27, (s.e 27)), (35, (s.e 35)), (36, (s.e 36)), (37, (s.e 37)), (38, v23)]), s.h⟩)))
  (fun s24 => seqX (blkX 3 ((iaS 4 (s24.e 35) (s24.e 37)).bind fun v25 => (ldV 4 v25 s24.h).bind fun v26 => (allocV (some 1) 4 [(.int .i64 0), (.int .i64 0), (.int .i64 0), (.int .i64 0)] s24.h).bind fun r27 => ((stV 4 r27.1 v26 r27.2).bind fun h => some (V.tup [], h)).bind fun r28 => (frzP 4 r27.1 r28.2).bind fun r29 => seqX ((faV 0 0 r29.1).bind fun v30 => (ldV 0 v30 r29.2).bind fun v31 => (intV .eql v31 (.int .i64 7)).bind fun v32 => condV v32
  ((iaS 0 (s24.e 8) (s24.e 10)).bind fun v33 => (ldV 0 v33 r29.2).bind fun v34 => (faV 1 0 r29.1).bind fun v35 => (ldV 0 v35 r29.2).bind fun v36 => (iaS 0 (s24.e 8) v36).bind fun v37 => (ldV 0 v37 r29.2).bind fun v38 => (intV .or v34 v38).bind fun v39 => (iaS 0 (s24.e 8) (s24.e 10)).bind fun v40 => ((stV 0 v40 v39 r29.2).bind fun h => some (V.tup [], h)).bind fun r41 => some (.exit 3 ⟨(envL [(1, (s24.e 1)), (2, (s24.e 2)), (8, (s24.e 8)), (10, (s24.e 10)), (25, (s24.e 25)), (26, (s24.e 26)), (27, (s24.e 27)), (35, (s24.e 35)), (36, (s24.e 36)), (37, (s24.e 37))]), r41.2⟩))
  (some (.normal ⟨(envL [(1, (s24.e 1)), (2, (s24.e 2)), (8, (s24.e 8)), (10, (s24.e 10)), (12, r29.1), (25, (s24.e 25)), (26, (s24.e 26)), (27, (s24.e 27)), (35, (s24.e 35)), (36, (s24.e 36)), (37, (s24.e 37)), (43, v32)]), r29.2⟩)))
  (fun s42 => (iaS 0 (s42.e 8) (s42.e 10)).bind fun v43 => (ldV 0 v43 s42.h).bind fun v44 => (ldV 4 (s42.e 12) s42.h).bind fun v45 => (runFV (tD n) (s42.e 1) {  } [v45] s42.h).bind fun r46 => (intV .or v44 r46.1).bind fun v47 => (iaS 0 (s42.e 8) (s42.e 10)).bind fun v48 => ((stV 0 v48 v47 r46.2).bind fun h => some (V.tup [], h)).bind fun r49 => some (.normal ⟨(envL [(1, (s42.e 1)), (2, (s42.e 2)), (8, (s42.e 8)), (10, (s42.e 10)), (25, (s42.e 25)), (26, (s42.e 26)), (27, (s42.e 27)), (35, (s42.e 35)), (36, (s42.e 36)), (37, (s42.e 37))]), r49.2⟩))))
  (fun s50 => (intV .add (s50.e 37) (.int .i64 1)).bind fun v51 => some (.normal ⟨(envL [(1, (s50.e 1)), (2, (s50.e 2)), (8, (s50.e 8)), (10, (s50.e 10)), (25, (s50.e 25)), (26, (s50.e 26)), (27, (s50.e 27)), (35, (s50.e 35)), (36, (s50.e 36)), (37, v51)]), s50.h⟩)))

noncomputable def kill_gather_L0 (n : Nat) (s : St) : Option Out :=
  (intV .lss (s.e 27) (s.e 26)).bind fun v14 => seqX (condV v14
  (some (.normal ⟨(envL [(1, (s.e 1)), (2, (s.e 2)), (8, (s.e 8)), (25, (s.e 25)), (26, (s.e 26)), (27, (s.e 27)), (28, v14)]), s.h⟩))
  (some (.exit 0 ⟨(envL [(1, (s.e 1)), (2, (s.e 2)), (8, (s.e 8)), (25, (s.e 25)), (26, (s.e 26)), (27, (s.e 27)), (28, v14)]), s.h⟩)))
  (fun s15 => seqX (blkX 1 ((iaS 0 (s15.e 25) (s15.e 27)).bind fun v16 => (ldV 0 v16 s15.h).bind fun v17 => (faV 3 0 (s15.e 2)).bind fun v18 => (ldV 0 v18 s15.h).bind fun v19 => (iaS 0 v19 v17).bind fun v20 => (ldV 0 v20 s15.h).bind fun v21 => (lenV v21).bind fun v22 => blkX 2 (lpC (kill_gather_L1 n) ⟨(envL [(1, (s15.e 1)), (2, (s15.e 2)), (8, (s15.e 8)), (10, v17), (25, (s15.e 25)), (26, (s15.e 26)), (27, (s15.e 27)), (35, v21), (36, v22), (37, (.int .i64 0))]), s15.h⟩)))
  (fun s52 => (intV .add (s52.e 27) (.int .i64 1)).bind fun v53 => some (.normal ⟨(envL [(1, (s52.e 1)), (2, (s52.e 2)), (8, (s52.e 8)), (25, (s52.e 25)), (26, (s52.e 26)), (27, v53)]), s52.h⟩)))

noncomputable def kill_gather_B (n : Nat) (a0 a1 : V) (h : Heap) : Option Out :=
  (boxV none 4 a0 h).bind fun r1 => (ldV 4 r1.1 r1.2).bind fun v2 => (runF (tD n) k_graph_Order {  } [v2] r1.2).bind fun r3 => (extV r3.1 0).bind fun v4 => (extV r3.1 1).bind fun v5 => seqX ((intV .neq v5 (.int .i64 0)).bind fun v6 => condV v6
  ((frzV 8 .nils r3.2).bind fun r7 => some (.ret (.tup [r7.1, v5]) r7.2))
  (some (.normal ⟨(envL [(1, a1), (2, r1.1), (6, v4), (7, v5), (19, v6)]), r3.2⟩)))
  (fun s8 => (faV 3 0 (s8.e 2)).bind fun v9 => (ldV 0 v9 s8.h).bind fun v10 => (lenV v10).bind fun v11 => (mkSl (some 0) 17592186044416 0 [(.int .u32 0)] v11 v11 s8.h).bind fun r12 => seqX ((lenV (s8.e 6)).bind fun v13 => blkX 0 (lpC (kill_gather_L0 n) ⟨(envL [(1, (s8.e 1)), (2, (s8.e 2)), (8, r12.1), (25, (s8.e 6)), (26, v13), (27, (.int .i64 0))]), r12.2⟩))
  (fun s54 => (frzV 8 (s54.e 8) s54.h).bind fun r55 => some (.ret (.tup [r55.1, (.int .i64 0)]) r55.2)))

theorem kill_gather_eq (n : Nat) (a0 a1 : V) (h : Heap) : dn PR gD anD (n + 1) k_kill_gather [a0, a1] h = fin PR [.tmp 4, .tmp 5] (kill_gather_B n a0 a1 (h ++ pad 2)) := by kernel_rfl
/-- alibi/kill.begins -/
noncomputable def kill_begins_B (n : Nat) (a0 : V) (h : Heap) : Option Out :=
  (boxV none 4 a0 h).bind fun r1 => seqX ((faV 0 0 r1.1).bind fun v2 => (ldV 0 v2 r1.2).bind fun v3 => (intV .eql v3 (.int .i64 5)).bind fun v4 => condV v4
  (some (.ret (.int .u32 1) r1.2))
  (some (.normal ⟨(envL [(5, v4)]), r1.2⟩)))
  (fun s5 => some (.ret (.int .u32 0) s5.h))

theorem kill_begins_eq (n : Nat) (a0 : V) (h : Heap) : dn PR gD anD (n + 1) k_kill_begins [a0] h = fin PR [.tmp 2] (kill_begins_B n a0 (h ++ pad 0)) := by kernel_rfl
/-- alibi/prog.fields -/
noncomputable def prog_fields_B (n : Nat) (a0 a1 a2 : V) (h : Heap) : Option Out :=
  (boxV none 4 a0 h).bind fun r1 => (faV 3 0 r1.1).bind fun v2 => (ldV 0 v2 r1.2).bind fun v3 => (lenV v3).bind fun v4 => seqX (blkX 0 ((intV .eql a1 (.int .i64 0)).bind fun v5 => condV v5
  (some (.ret (.tup [(.int .i64 0), a2, (.int .i64 0), (.bool true)]) r1.2))
  (seqX ((intV .eql a1 (.int .i64 1)).bind fun v6 => condV v6
  (some (.normal ⟨(envL [(2, a2), (3, r1.1), (10, v4), (14, a1), (18, v6)]), r1.2⟩))
  ((intV .eql a1 (.int .i64 2)).bind fun v7 => some (.normal ⟨(envL [(2, a2), (3, r1.1), (10, v4), (14, a1), (18, v7)]), r1.2⟩)))
  (fun s8 => condV (s8.e 18)
  ((faV 0 0 (s8.e 3)).bind fun v9 => (ldV 0 v9 s8.h).bind fun v10 => (faV 0 0 (s8.e 3)).bind fun v11 => (ldV 0 v11 s8.h).bind fun v12 => (intV .gtr v12 (.int .i64 0)).bind fun v13 => some (.ret (.tup [v10, (s8.e 2), (.int .i64 0), v13]) s8.h))
  (seqX ((intV .eql (s8.e 14) (.int .i64 3)).bind fun v14 => condV v14
  (some (.normal ⟨(envL [(2, (s8.e 2)), (3, (s8.e 3)), (10, (s8.e 10)), (14, (s8.e 14)), (27, v14)]), s8.h⟩))
  ((intV .eql (s8.e 14) (.int .i64 4)).bind fun v15 => some (.normal ⟨(envL [(2, (s8.e 2)), (3, (s8.e 3)), (10, (s8.e 10)), (14, (s8.e 14)), (27, v15)]), s8.h⟩)))
  (fun s16 => condV (s16.e 27)
  ((faV 1 0 (s16.e 3)).bind fun v17 => (ldV 0 v17 s16.h).bind fun v18 => (faV 1 0 (s16.e 3)).bind fun v19 => (ldV 0 v19 s16.h).bind fun v20 => (intV .gtr v20 (.int .i64 0)).bind fun v21 => some (.ret (.tup [v18, (s16.e 2), (.int .i64 0), v21]) s16.h))
  ((intV .eql (s16.e 14) (.int .i64 5)).bind fun v22 => condV v22
  ((faV 2 0 (s16.e 3)).bind fun v23 => (ldV 0 v23 s16.h).bind fun v24 => (faV 2 0 (s16.e 3)).bind fun v25 => (ldV 0 v25 s16.h).bind fun v26 => (intV .gtr v26 (.int .i64 0)).bind fun v27 => (grdV v27 true (some (s16.e 10))).bind fun v28 => (grdV v27 true (intV .gtr v28 (.int .i64 0))).bind fun v29 => (pickV v27 v29 (.bool false)).bind fun v30 => some (.ret (.tup [(s16.e 10), (s16.e 2), v24, v30]) s16.h))
  ((intV .eql (s16.e 14) (.int .i64 6)).bind fun v31 => condV v31
  ((faV 2 0 (s16.e 3)).bind fun v32 => (ldV 0 v32 s16.h).bind fun v33 => (faV 2 0 (s16.e 3)).bind fun v34 => (ldV 0 v34 s16.h).bind fun v35 => (intV .gtr v35 (.int .i64 0)).bind fun v36 => some (.ret (.tup [v33, (s16.e 2), (.int .i64 0), v36]) s16.h))
  ((intV .eql (s16.e 14) (.int .i64 7)).bind fun v37 => condV v37
  ((intV .gtr (s16.e 10) (.int .i64 0)).bind fun v38 => some (.ret (.tup [(s16.e 10), (s16.e 2), (.int .i64 0), v38]) s16.h))
  ((intV .eql (s16.e 14) (.int .i64 8)).bind fun v39 => condV v39
  (some (.ret (.tup [(.int .i64 0), (s16.e 2), (s16.e 2), (.bool true)]) s16.h))
  ((intV .eql (s16.e 14) (.int .i64 9)).bind fun v40 => condV v40
  (some (.ret (.tup [(.int .i64 0), (.int .i64 0), (.int .i64 0), (.bool true)]) s16.h))
  (some (.normal ⟨(envL [(67, v40)]), s16.h⟩)))))))))))))
  (fun s41 => some (.ret (.tup [(.int .i64 0), (.int .i64 0), (.int .i64 0), (.bool false)]) s41.h))

theorem prog_fields_eq (n : Nat) (a0 a1 a2 : V) (h : Heap) : dn PR gD anD (n + 1) k_prog_fields [a0, a1, a2] h = fin PR [.tmp 6, .tmp 7, .tmp 8, .tmp 9] (prog_fields_B n a0 a1 a2 (h ++ pad 0)) := by kernel_rfl
/-- alibi/prog.within -/
noncomputable def prog_within_B (n : Nat) (a0 a1 : V) (h : Heap) : Option Out :=
  (intV .geq a0 (.int .i64 0)).bind fun v1 => (grdV v1 true (some a0)).bind fun v2 => (grdV v1 true (some a1)).bind fun v3 => (grdV v1 true (intV .lss v2 v3)).bind fun v4 => (pickV v1 v4 (.bool false)).bind fun v5 => some (.ret v5 h)

theorem prog_within_eq (n : Nat) (a0 a1 : V) (h : Heap) : dn PR gD anD (n + 1) k_prog_within [a0, a1] h = fin PR [.tmp 4] (prog_within_B n a0 a1 (h ++ pad 0)) := by kernel_rfl
/-- alibi/prog.reaches -/
noncomputable def prog_reaches_L0 (n : Nat) (s : St) : Option Out :=
  (intV .lss (s.e 27) (s.e 26)).bind fun v14 => seqX (condV v14
  (some (.normal ⟨(envL [(2, (s.e 2)), (3, (s.e 3)), (4, (s.e 4)), (25, (s.e 25)), (26, (s.e 26)), (27, (s.e 27)), (28, v14)]), s.h⟩))
  (some (.exit 0 ⟨(envL [(2, (s.e 2)), (3, (s.e 3)), (4, (s.e 4)), (25, (s.e 25)), (26, (s.e 26)), (27, (s.e 27)), (28, v14)]), s.h⟩)))
  (fun s15 => seqX (blkX 1 ((iaS 4 (s15.e 25) (s15.e 27)).bind fun v16 => (ldV 4 v16 s15.h).bind fun v17 => (allocV (some 1) 4 [(.int .i64 0), (.int .i64 0), (.int .i64 0), (.int .i64 0)] s15.h).bind fun r18 => ((stV 4 r18.1 v17 r18.2).bind fun h => some (V.tup [], h)).bind fun r19 => (frzP 4 r18.1 r19.2).bind fun r20 => (faV 0 0 r20.1).bind fun v21 => (ldV 0 v21 r20.2).bind fun v22 => (intV .eql v22 (.int .i64 7)).bind fun v23 => (grdV v23 true (ldV 4 (s15.e 4) r20.2)).bind fun v24 => (grdV v23 true (faV 1 0 r20.1)).bind fun v25 => (grdV v23 true (ldV 0 v25 r20.2)).bind fun v26 => (grdV v23 true (some (s15.e 2))).bind fun v27 => (grdV v23 true (some (s15.e 3))).bind fun v28 => (grdH v23 true r20.2 (runF (tD n) k_prog_reaches { ks := [0] } [v24, v26, v27, v28] r20.2)).bind fun r29 => (pickV v23 r29.1 (.bool false)).bind fun v30 => condV v30
  (some (.ret (.bool true) r29.2))
  (some (.normal ⟨(envL [(2, (s15.e 2)), (3, (s15.e 3)), (4, (s15.e 4)), (25, (s15.e 25)), (26, (s15.e 26)), (27, (s15.e 27)), (41, v30)]), r29.2⟩))))
  (fun s31 => (intV .add (s31.e 27) (.int .i64 1)).bind fun v32 => some (.normal ⟨(envL [(2, (s31.e 2)), (3, (s31.e 3)), (4, (s31.e 4)), (25, (s31.e 25)), (26, (s31.e 26)), (27, v32)]), s31.h⟩)))

noncomputable def prog_reaches_B (n : Nat) (a0 a1 a2 a3 : V) (h : Heap) : Option Out :=
  (boxV none 4 a0 h).bind fun r1 => seqX ((intV .eql a1 a2).bind fun v2 => condV v2
  (some (.ret (.bool true) r1.2))
  (some (.normal ⟨(envL [(1, a1), (2, a2), (3, a3), (4, r1.1), (13, v2)]), r1.2⟩)))
  (fun s3 => seqX ((iaS 0 (s3.e 3) (s3.e 1)).bind fun v4 => (ldV 0 v4 s3.h).bind fun v5 => condV v5
  (some (.ret (.bool false) s3.h))
  (some (.normal ⟨(envL [(1, (s3.e 1)), (2, (s3.e 2)), (3, (s3.e 3)), (4, (s3.e 4)), (17, v5)]), s3.h⟩)))
  (fun s6 => (iaS 0 (s6.e 3) (s6.e 1)).bind fun v7 => ((stV 0 v7 (.bool true) s6.h).bind fun h => some (V.tup [], h)).bind fun r8 => seqX ((faV 3 0 (s6.e 4)).bind fun v9 => (ldV 0 v9 r8.2).bind fun v10 => (iaS 0 v10 (s6.e 1)).bind fun v11 => (ldV 0 v11 r8.2).bind fun v12 => (lenV v12).bind fun v13 => blkX 0 (lpC (prog_reaches_L0 n) ⟨(envL [(2, (s6.e 2)), (3, (s6.e 3)), (4, (s6.e 4)), (25, v12), (26, v13), (27, (.int .i64 0))]), r8.2⟩))
  (fun s33 => some (.ret (.bool false) s33.h))))

theorem prog_reaches_eq (n : Nat) (a0 a1 a2 a3 : V) (h : Heap) : dn PR gD anD (n + 1) k_prog_reaches [a0, a1, a2, a3] h = fin PR [.tmp 8] (prog_reaches_B n a0 a1 a2 a3 (h ++ pad 1)) := by kernel_rfl
/-- alibi/sha.spread -/
noncomputable def sha_spread_L1 (n : Nat) (s : St) : Option Out :=
  seqX ((intV .lss (s.e 5) (.int .i64 64)).bind fun v13 => condV v13
  (some (.normal ⟨(envL [(2, (s.e 2)), (3, (s.e 3)), (5, (s.e 5)), (20, v13)]), s.h⟩))
  (some (.exit 2 ⟨(envL [(2, (s.e 2)), (3, (s.e 3)), (5, (s.e 5)), (20, v13)]), s.h⟩)))
  (fun s14 => seqX (blkX 3 ((intV .sub (s14.e 5) (.int .i64 15)).bind fun v15 => (iaA 64 0 (s14.e 3) v15).bind fun v16 => (ldV 0 v16 s14.h).bind fun v17 => (intV .sub (s14.e 5) (.int .i64 2)).bind fun v18 => (iaA 64 0 (s14.e 3) v18).bind fun v19 => (ldV 0 v19 s14.h).bind fun v20 => (intV .sub (s14.e 5) (.int .i64 16)).bind fun v21 => (iaA 64 0 (s14.e 3) v21).bind fun v22 => (ldV 0 v22 s14.h).bind fun v23 => (runF (tD n) k_sha_turn {  } [v17, (.int .i64 7)] s14.h).bind fun r24 => (runF (tD n) k_sha_turn {  } [v17, (.int .i64 18)] r24.2).bind fun r25 => (intV .xor r24.1 r25.1).bind fun v26 => (intV .shr v17 (.int .u64 3)).bind fun v27 => (intV .xor v26 v27).bind fun v28 => (intV .add v23 v28).bind fun v29 => (intV .sub (s14.e 5) (.int .i64 7)).bind fun v30 => (iaA 64 0 (s14.e 3) v30).bind fun v31 => (ldV 0 v31 r25.2).bind fun v32 => (intV .add v29 v32).bind fun v33 => (runF (tD n) k_sha_turn {  } [v20, (.int .i64 17)] r25.2).bind fun r34 => (runF (tD n) k_sha_turn {  } [v20, (.int .i64 19)] r34.2).bind fun r35 => (intV .xor r34.1 r35.1).bind fun v36 => (intV .shr v20 (.int .u64 10)).bind fun v37 => (intV .xor v36 v37).bind fun v38 => (intV .add v33 v38).bind fun v39 => (iaA 64 0 (s14.e 3) (s14.e 5)).bind fun v40 => ((stV 0 v40 v39 r35.2).bind fun h => some (V.tup [], h)).bind fun r41 => some (.normal ⟨(envL [(2, (s14.e 2)), (3, (s14.e 3)), (5, (s14.e 5))]), r41.2⟩)))
  (fun s42 => (intV .add (s42.e 5) (.int .i64 1)).bind fun v43 => some (.normal ⟨(envL [(2, (s42.e 2)), (3, (s42.e 3)), (5, v43)]), s42.h⟩)))

noncomputable def sha_spread_L0 (n : Nat) (s : St) : Option Out :=
  (intV .lss (s.e 8) (.int .i64 16)).bind fun v3 => seqX (condV v3
  (some (.normal ⟨(envL [(0, (s.e 0)), (2, (s.e 2)), (3, (s.e 3)), (8, (s.e 8)), (9, v3)]), s.h⟩))
  (some (.exit 0 ⟨(envL [(0, (s.e 0)), (2, (s.e 2)), (3, (s.e 3)), (8, (s.e 8)), (9, v3)]), s.h⟩)))
  (fun s4 => seqX (blkX 1 ((intV .mul (.int .i64 4) (s4.e 8)).bind fun v5 => (slS 0 (s4.e 0) (some v5) none).bind fun v6 => (runF (tD n) k_sha_word {  } [v6] s4.h).bind fun r7 => (iaA 64 0 (s4.e 3) (s4.e 8)).bind fun v8 => ((stV 0 v8 r7.1 r7.2).bind fun h => some (V.tup [], h)).bind fun r9 => some (.normal ⟨(envL [(0, (s4.e 0)), (2, (s4.e 2)), (3, (s4.e 3)), (8, (s4.e 8))]), r9.2⟩)))
  (fun s10 => (intV .add (s10.e 8) (.int .i64 1)).bind fun v11 => some (.normal ⟨(envL [(0, (s10.e 0)), (2, (s10.e 2)), (3, (s10.e 3)), (8, v11)]), s10.h⟩)))

noncomputable def sha_spread_B (n : Nat) (a0 : V) (h : Heap) : Option Out :=
  (allocV (some 0) 64 (rep 64 [(.int .u32 0)]) h).bind fun r1 => (allocV (some 1) 64 (rep 64 [(.int .u32 0)]) r1.2).bind fun r2 => seqX (blkX 0 (lpC (sha_spread_L0 n) ⟨(envL [(0, a0), (2, r1.1), (3, r2.1), (8, (.int .i64 0))]), r2.2⟩))
  (fun s12 => seqX (blkX 2 (lpC (sha_spread_L1 n) ⟨(envL [(2, (s12.e 2)), (3, (s12.e 3)), (5, (.int .i64 16))]), s12.h⟩))
  (fun s44 => (ldV 64 (s44.e 3) s44.h).bind fun v45 => ((stV 64 (s44.e 2) v45 s44.h).bind fun h => some (V.tup [], h)).bind fun r46 => ((((ldV 64 (s44.e 2) r46.2).bind fun v47 => some (v47 :: []))).bind tupL).bind fun v => some (.ret v r46.2)))

theorem sha_spread_eq (n : Nat) (a0 : V) (h : Heap) : dn PR gD anD (n + 1) k_sha_spread [a0] h = fin PR [.cell 2 212] (sha_spread_B n a0 (h ++ pad 2)) := by kernel_rfl
/-- alibi/sha.turn -/
noncomputable def sha_turn_B (n : Nat) (a0 a1 : V) (h : Heap) : Option Out :=
  (unV .neg a1).bind fun v1 => (runF (tD n) k_bits_RotateLeft32 {  } [a0, v1] h).bind fun r2 => some (.ret r2.1 r2.2)

theorem sha_turn_eq (n : Nat) (a0 a1 : V) (h : Heap) : dn PR gD anD (n + 1) k_sha_turn [a0, a1] h = fin PR [.tmp 4] (sha_turn_B n a0 a1 (h ++ pad 0)) := by kernel_rfl
/-- alibi/kill.unlocks -/
noncomputable def kill_unlocks_B (n : Nat) (a0 : V) (h : Heap) : Option Out :=
  (boxV none 4 a0 h).bind fun r1 => seqX ((faV 0 0 r1.1).bind fun v2 => (ldV 0 v2 r1.2).bind fun v3 => (intV .eql v3 (.int .i64 4)).bind fun v4 => condV v4
  ((faV 1 0 r1.1).bind fun v5 => (ldV 0 v5 r1.2).bind fun v6 => (runF (tD n) k_sets_One {  } [v6] r1.2).bind fun r7 => some (.ret r7.1 r7.2))
  (some (.normal ⟨(envL [(1, r1.1), (5, v4)]), r1.2⟩)))
  (fun s8 => some (.ret (.int .u32 0) s8.h))

theorem kill_unlocks_eq (n : Nat) (a0 : V) (h : Heap) : dn PR gD anD (n + 1) k_kill_unlocks [a0] h = fin PR [.tmp 2] (kill_unlocks_B n a0 (h ++ pad 0)) := by kernel_rfl
/-- (alibi/must.checker).node -/
noncomputable def must_checker_node_L0 (n : Nat) (s : St) : Option Out :=
  (intV .lss (s.e 63) (s.e 62)).bind fun v50 => seqX (condV v50
  (some (.normal ⟨(envL [(1, (s.e 1)), (3, (s.e 3)), (7, (s.e 7)), (8, (s.e 8)), (61, (s.e 61)), (62, (s.e 62)), (63, (s.e 63)), (64, v50)]), s.h⟩))
  (some (.exit 1 ⟨(envL [(1, (s.e 1)), (3, (s.e 3)), (7, (s.e 7)), (8, (s.e 8)), (61, (s.e 61)), (62, (s.e 62)), (63, (s.e 63)), (64, v50)]), s.h⟩)))
  (fun s51 => seqX (blkX 2 ((iaS 0 (s51.e 61) (s51.e 63)).bind fun v52 => (ldV 0 v52 s51.h).bind fun v53 => (faV 4 0 (s51.e 3)).bind fun v54 => (ldV 0 v54 s51.h).bind fun v55 => (iaS 6 v55 (s51.e 1)).bind fun v56 => (faV 2 0 v56).bind fun v57 => (ldV 0 v57 s51.h).bind fun v58 => (iaS 0 v58 v53).bind fun v59 => (ldV 0 v59 s51.h).bind fun v60 => (ldV 7 (s51.e 3) s51.h).bind fun v61 => (ldV 4 (s51.e 7) s51.h).bind fun v62 => (runF (tD n) k_must_checker_behind {  } [v61, v62, (s51.e 8)] s51.h).bind fun r63 => (runF (tD n) k_sets_Within {  } [v60, r63.1] r63.2).bind fun r64 => (unV .not r64.1).bind fun v65 => condV v65
  (some (.ret (.int .i64 3) r64.2))
  (some (.normal ⟨(envL [(1, (s51.e 1)), (3, (s51.e 3)), (7, (s51.e 7)), (8, (s51.e 8)), (61, (s51.e 61)), (62, (s51.e 62)), (63, (s51.e 63)), (81, v65)]), r64.2⟩))))
  (fun s66 => (intV .add (s66.e 63) (.int .i64 1)).bind fun v67 => some (.normal ⟨(envL [(1, (s66.e 1)), (3, (s66.e 3)), (7, (s66.e 7)), (8, (s66.e 8)), (61, (s66.e 61)), (62, (s66.e 62)), (63, v67)]), s66.h⟩)))

noncomputable def must_checker_node_B (n : Nat) (a0 a1 a2 : V) (h : Heap) : Option Out :=
  (boxV none 7 a0 h).bind fun r1 => (faV 0 4 r1.1).bind fun v2 => (faV 3 0 v2).bind fun v3 => (ldV 0 v3 r1.2).bind fun v4 => (iaS 0 v4 a1).bind fun v5 => (ldV 0 v5 r1.2).bind fun v6 => (iaS 4 v6 a2).bind fun v7 => (ldV 4 v7 r1.2).bind fun v8 => (faV 4 0 r1.1).bind fun v9 => (ldV 0 v9 r1.2).bind fun v10 => (iaS 6 v10 a1).bind fun v11 => (faV 2 0 v11).bind fun v12 => (ldV 0 v12 r1.2).bind fun v13 => (iaS 0 v13 a2).bind fun v14 => (ldV 0 v14 r1.2).bind fun v15 => (allocV (some 0) 4 [(.int .i64 0), (.int .i64 0), (.int .i64 0), (.int .i64 0)] r1.2).bind fun r16 => grdB (okF (fpP v14) [] [] [0] && (okF (fpP v12) [] [] [0] && (okF (fpP v9) [] [] [0] && (okF (fpP v7) [] [] [0] && (okF (fpP v5) [] [] [0] && (okF (fpP v3) [] [] [0] && true)))))) (((stV 4 r16.1 v8 r16.2).bind fun h => some (V.tup [], h)).bind fun r17 => grdB (okF (fpP v14) [] [] (fpP r16.1) && (okF (fpP v12) [] [] (fpP r16.1) && (okF (fpP v9) [] [] (fpP r16.1) && true))) ((frzP 4 r16.1 r17.2).bind fun r18 => seqX (blkX 0 ((faV 0 0 r18.1).bind fun v19 => (ldV 0 v19 r18.2).bind fun v20 => (intV .eql v20 (.int .i64 7)).bind fun v21 => (grdV v21 true (faV 4 0 r1.1)).bind fun v22 => (grdV v21 true (ldV 0 v22 r18.2)).bind fun v23 => (grdV v21 true (faV 1 0 r18.1)).bind fun v24 => (grdV v21 true (ldV 0 v24 r18.2)).bind fun v25 => (grdV v21 true (iaS 6 v23 v25)).bind fun v26 => (grdV v21 true (faV 0 0 v26)).bind fun v27 => (grdV v21 true (ldV 0 v27 r18.2)).bind fun v28 => (grdV v21 true (some v15)).bind fun v29 => (grdH v21 true r18.2 (runF (tD n) k_sets_Within {  } [v28, v29] r18.2)).bind fun r30 => (grdV v21 true (unV .not r30.1)).bind fun v31 => (pickV v21 v31 (.bool false)).bind fun v32 => condV v32
  (some (.ret (.int .i64 5) r30.2))
  ((faV 0 0 r18.1).bind fun v33 => (ldV 0 v33 r30.2).bind fun v34 => (intV .eql v34 (.int .i64 9)).bind fun v35 => (grdV v35 true (faV 4 0 r1.1)).bind fun v36 => (grdV v35 true (ldV 0 v36 r30.2)).bind fun v37 => (grdV v35 true (some a1)).bind fun v38 => (grdV v35 true (iaS 6 v37 v38)).bind fun v39 => (grdV v35 true (faV 1 0 v39)).bind fun v40 => (grdV v35 true (ldV 0 v40 r30.2)).bind fun v41 => (grdV v35 true (some v15)).bind fun v42 => (grdH v35 true r30.2 (runF (tD n) k_sets_Within {  } [v41, v42] r30.2)).bind fun r43 => (grdV v35 true (unV .not r43.1)).bind fun v44 => (pickV v35 v44 (.bool false)).bind fun v45 => condV v45
  (some (.ret (.int .i64 4) r43.2))
  (some (.normal ⟨(envL [(1, a1), (3, r1.1), (7, r18.1), (8, v15), (45, v45)]), r43.2⟩)))))
  (fun s46 => seqX ((ldV 4 (s46.e 7) s46.h).bind fun v47 => (runF (tD n) k_prog_Succ {  } [v47] s46.h).bind fun r48 => (lenV r48.1).bind fun v49 => blkX 1 (lpC (must_checker_node_L0 n) ⟨(envL [(1, (s46.e 1)), (3, (s46.e 3)), (7, (s46.e 7)), (8, (s46.e 8)), (61, r48.1), (62, v49), (63, (.int .i64 0))]), r48.2⟩))
  (fun s68 => some (.ret (.int .i64 0) s68.h)))))

theorem must_checker_node_eq (n : Nat) (a0 a1 a2 : V) (h : Heap) : dn PR gD anD (n + 1) k_must_checker_node [a0, a1, a2] h = fin PR [.tmp 6] (must_checker_node_B n a0 a1 a2 (h ++ pad 1)) := by kernel_rfl
/-- alibi/may.Lost -/
noncomputable def may_Lost_B (n : Nat) (a0 : V) (h : Heap) : Option Out :=
  (boxV none 4 a0 h).bind fun r1 => (faV 2 0 r1.1).bind fun v2 => (ldV 0 v2 r1.2).bind fun v3 => some (.ret v3 r1.2)

theorem may_Lost_eq (n : Nat) (a0 : V) (h : Heap) : dn PR gD anD (n + 1) k_may_Lost [a0] h = fin PR [.tmp 2] (may_Lost_B n a0 (h ++ pad 0)) := by kernel_rfl
/-- alibi/may.Behind -/
noncomputable def may_Behind_B (n : Nat) (a0 a1 a2 a3 a4 : V) (h : Heap) : Option Out :=
  (boxV none 4 a0 h).bind fun r1 => seqX ((faV 0 0 r1.1).bind fun v2 => (ldV 0 v2 r1.2).bind fun v3 => blkX 0 ((intV .eql v3 (.int .i64 5)).bind fun v4 => condV v4
  ((faV 3 0 r1.1).bind fun v5 => (ldV 0 v5 r1.2).bind fun v6 => (runF (tD n) k_sets_One {  } [v6] r1.2).bind fun r7 => (intV .or a1 r7.1).bind fun v8 => seqX ((grdV a4 false (some a1)).bind fun v9 => (grdV a4 false (faV 3 0 r1.1)).bind fun v10 => (grdV a4 false (ldV 0 v10 r7.2)).bind fun v11 => (grdH a4 false r7.2 (runF (tD n) k_sets_Has {  } [v9, v11] r7.2)).bind fun r12 => (pickV a4 (.bool true) r12.1).bind fun v13 => condV v13
  ((runF (tD n) k_sets_One {  } [a3] r12.2).bind fun r14 => (intV .or v8 r14.1).bind fun v15 => some (.normal ⟨(envL [(11, v15)]), r14.2⟩))
  (some (.normal ⟨(envL [(3, a3), (11, v8), (27, v13)]), r12.2⟩)))
  (fun s16 => some (.ret (s16.e 11) s16.h)))
  ((intV .eql v3 (.int .i64 6)).bind fun v17 => condV v17
  ((faV 1 0 r1.1).bind fun v18 => (ldV 0 v18 r1.2).bind fun v19 => (runF (tD n) k_sets_One {  } [v19] r1.2).bind fun r20 => (intV .andNot a1 r20.1).bind fun v21 => some (.ret v21 r20.2))
  ((intV .eql v3 (.int .i64 7)).bind fun v22 => condV v22
  (some (.ret a2 r1.2))
  (some (.normal ⟨(envL [(1, a1), (2, a2), (40, v22)]), r1.2⟩))))))
  (fun s23 => some (.ret (s23.e 1) s23.h))

theorem may_Behind_eq (n : Nat) (a0 a1 a2 a3 a4 : V) (h : Heap) : dn PR gD anD (n + 1) k_may_Behind [a0, a1, a2, a3, a4] h = fin PR [.tmp 10] (may_Behind_B n a0 a1 a2 a3 a4 (h ++ pad 0)) := by kernel_rfl
/-- math/bits.OnesCount32 -/
noncomputable def bits_OnesCount32_B (n : Nat) (a0 : V) (h : Heap) : Option Out :=
  (intV .shr a0 (.int .u64 24)).bind fun v1 => (ixS (.str ⟨#[0, 1, 1, 2, 1, 2, 2, 3, 1, 2, 2, 3, 2, 3, 3, 4, 1, 2, 2, 3, 2, 3, 3, 4, 2, 3, 3, 4, 3, 4, 4, 5, 1, 2, 2, 3, 2, 3, 3, 4, 2, 3, 3, 4, 3, 4, 4, 5, 2, 3, 3, 4, 3, 4, 4, 5, 3, 4, 4, 5, 4, 5, 5, 6, 1, 2, 2, 3, 2, 3, 3, 4, 2, 3, 3, 4, 3, 4, 4, 5, 2, 3, 3, 4, 3, 4, 4, 5, 3, 4, 4, 5, 4, 5, 5, 6, 2, 3, 3, 4, 3, 4, 4, 5, 3, 4, 4, 5, 4, 5, 5, 6, 3, 4, 4, 5, 4, 5, 5, 6, 4, 5, 5, 6, 5, 6, 6, 7, 1, 2, 2, 3, 2, 3, 3, 4, 2, 3, 3, 4, 3, 4, 4, 5, 2, 3, 3, 4, 3, 4, 4, 5, 3, 4, 4, 5, 4, 5, 5, 6, 2, 3, 3, 4, 3, 4, 4, 5, 3, 4, 4, 5, 4, 5, 5, 6, 3, 4, 4, 5, 4, 5, 5, 6, 4, 5, 5, 6, 5, 6, 6, 7, 2, 3, 3, 4, 3, 4, 4, 5, 3, 4, 4, 5, 4, 5, 5, 6, 3, 4, 4, 5, 4, 5, 5, 6, 4, 5, 5, 6, 5, 6, 6, 7, 3, 4, 4, 5, 4, 5, 5, 6, 4, 5, 5, 6, 5, 6, 6, 7, 4, 5, 5, 6, 5, 6, 6, 7, 5, 6, 6, 7, 6, 7, 7, 8]⟩) v1).bind fun v2 => (intV .shr a0 (.int .u64 16)).bind fun v3 => (intV .and v3 (.int .u32 255)).bind fun v4 => (ixS (.str ⟨#[0, 1, 1, 2, 1, 2, 2, 3, 1, 2, 2, 3, 2, 3, 3, 4, 1, 2, 2, 3, 2, 3, 3, 4, 2, 3, 3, 4, 3, 4, 4, 5, 1, 2, 2, 3, 2, 3, 3, 4, 2, 3, 3, 4, 3, 4, 4, 5, 2, 3, 3, 4, 3, 4, 4, 5, 3, 4, 4, 5, 4, 5, 5, 6, 1, 2, 2, 3, 2, 3, 3, 4, 2, 3, 3, 4, 3, 4, 4, 5, 2, 3, 3, 4, 3, 4, 4, 5, 3, 4, 4, 5, 4, 5, 5, 6, 2, 3, 3, 4, 3, 4, 4, 5, 3, 4, 4, 5, 4, 5, 5, 6, 3, 4, 4, 5, 4, 5, 5, 6, 4, 5, 5, 6, 5, 6, 6, 7, 1, 2, 2, 3, 2, 3, 3, 4, 2, 3, 3, 4, 3, 4, 4, 5, 2, 3, 3, 4, 3, 4, 4, 5, 3, 4, 4, 5, 4, 5, 5, 6, 2, 3, 3, 4, 3, 4, 4, 5, 3, 4, 4, 5, 4, 5, 5, 6, 3, 4, 4, 5, 4, 5, 5, 6, 4, 5, 5, 6, 5, 6, 6, 7, 2, 3, 3, 4, 3, 4, 4, 5, 3, 4, 4, 5, 4, 5, 5, 6, 3, 4, 4, 5, 4, 5, 5, 6, 4, 5, 5, 6, 5, 6, 6, 7, 3, 4, 4, 5, 4, 5, 5, 6, 4, 5, 5, 6, 5, 6, 6, 7, 4, 5, 5, 6, 5, 6, 6, 7, 5, 6, 6, 7, 6, 7, 7, 8]⟩) v4).bind fun v5 => (intV .add v2 v5).bind fun v6 => (intV .shr a0 (.int .u64 8)).bind fun v7 => (intV .and v7 (.int .u32 255)).bind fun v8 => (ixS (.str ⟨#[0, 1, 1, 2, 1, 2, 2, 3, 1, 2, 2, 3, 2, 3, 3, 4, 1, 2, 2, 3, 2, 3, 3, 4, 2, 3, 3, 4, 3, 4, 4, 5, 1, 2, 2, 3, 2, 3, 3, 4, 2, 3, 3, 4, 3, 4, 4, 5, 2, 3, 3, 4, 3, 4, 4, 5, 3, 4, 4, 5, 4, 5, 5, 6, 1, 2, 2, 3, 2, 3, 3, 4, 2, 3, 3, 4, 3, 4, 4, 5, 2, 3, 3, 4, 3, 4, 4, 5, 3, 4, 4, 5, 4, 5, 5, 6, 2, 3, 3, 4, 3, 4, 4, 5, 3, 4, 4, 5, 4, 5, 5, 6, 3, 4, 4, 5, 4, 5, 5, 6, 4, 5, 5, 6, 5, 6, 6, 7, 1, 2, 2, 3, 2, 3, 3, 4, 2, 3, 3, 4, 3, 4, 4, 5, 2, 3, 3, 4, 3, 4, 4, 5, 3, 4, 4, 5, 4, 5, 5, 6, 2, 3, 3, 4, 3, 4, 4, 5, 3, 4, 4, 5, 4, 5, 5, 6, 3, 4, 4, 5, 4, 5, 5, 6, 4, 5, 5, 6, 5, 6, 6, 7, 2, 3, 3, 4, 3, 4, 4, 5, 3, 4, 4, 5, 4, 5, 5, 6, 3, 4, 4, 5, 4, 5, 5, 6, 4, 5, 5, 6, 5, 6, 6, 7, 3, 4, 4, 5, 4, 5, 5, 6, 4, 5, 5, 6, 5, 6, 6, 7, 4, 5, 5, 6, 5, 6, 6, 7, 5, 6, 6, 7, 6, 7, 7, 8]⟩) v8).bind fun v9 => (intV .add v6 v9).bind fun v10 => (intV .and a0 (.int .u32 255)).bind fun v11 => (ixS (.str ⟨#[0, 1, 1, 2, 1, 2, 2, 3, 1, 2, 2, 3, 2, 3, 3, 4, 1, 2, 2, 3, 2, 3, 3, 4, 2, 3, 3, 4, 3, 4, 4, 5, 1, 2, 2, 3, 2, 3, 3, 4, 2, 3, 3, 4, 3, 4, 4, 5, 2, 3, 3, 4, 3, 4, 4, 5, 3, 4, 4, 5, 4, 5, 5, 6, 1, 2, 2, 3, 2, 3, 3, 4, 2, 3, 3, 4, 3, 4, 4, 5, 2, 3, 3, 4, 3, 4, 4, 5, 3, 4, 4, 5, 4, 5, 5, 6, 2, 3, 3, 4, 3, 4, 4, 5, 3, 4, 4, 5, 4, 5, 5, 6, 3, 4, 4, 5, 4, 5, 5, 6, 4, 5, 5, 6, 5, 6, 6, 7, 1, 2, 2, 3, 2, 3, 3, 4, 2, 3, 3, 4, 3, 4, 4, 5, 2, 3, 3, 4, 3, 4, 4, 5, 3, 4, 4, 5, 4, 5, 5, 6, 2, 3, 3, 4, 3, 4, 4, 5, 3, 4, 4, 5, 4, 5, 5, 6, 3, 4, 4, 5, 4, 5, 5, 6, 4, 5, 5, 6, 5, 6, 6, 7, 2, 3, 3, 4, 3, 4, 4, 5, 3, 4, 4, 5, 4, 5, 5, 6, 3, 4, 4, 5, 4, 5, 5, 6, 4, 5, 5, 6, 5, 6, 6, 7, 3, 4, 4, 5, 4, 5, 5, 6, 4, 5, 5, 6, 5, 6, 6, 7, 4, 5, 5, 6, 5, 6, 6, 7, 5, 6, 6, 7, 6, 7, 7, 8]⟩) v11).bind fun v12 => (intV .add v10 v12).bind fun v13 => (toIntV .i64 v13).bind fun v14 => some (.ret v14 h)

theorem bits_OnesCount32_eq (n : Nat) (a0 : V) (h : Heap) : dn PR gD anD (n + 1) k_bits_OnesCount32 [a0] h = fin PR [.tmp 2] (bits_OnesCount32_B n a0 (h ++ pad 0)) := by kernel_rfl
/-- container/heap.up -/
noncomputable def heap_up_L0 (n : Nat) (s : St) : Option Out :=
  blkX 1 ((intV .sub (s.e 1) (.int .i64 1)).bind fun v1 => (intV .quo v1 (.int .i64 2)).bind fun v2 => seqX ((intV .eql v2 (s.e 1)).bind fun v3 => (grdV v3 false (some (s.e 0))).bind fun v4 => (grdV v3 false (some (s.e 1))).bind fun v5 => (grdV v3 false (some v2)).bind fun v6 => (grdH v3 false s.h (runM PR (tD n) v4 "Less" { ks := [0, 1, 2] } [v5, v6] s.h)).bind fun r7 => (grdV v3 false (unV .not r7.1)).bind fun v8 => (pickV v3 (.bool true) v8).bind fun v9 => condV v9
  (some (.exit 0 ⟨(envL [(0, (s.e 0)), (1, (s.e 1)), (4, v2), (17, v9)]), r7.2⟩))
  (some (.normal ⟨(envL [(0, (s.e 0)), (1, (s.e 1)), (4, v2), (17, v9)]), r7.2⟩)))
  (fun s10 => (runM PR (tD n) (s10.e 0) "Swap" { ks := [0, 1, 2] } [(s10.e 4), (s10.e 1)] s10.h).bind fun r11 => some (.normal ⟨(envL [(0, (s10.e 0)), (1, (s10.e 4))]), r11.2⟩)))

noncomputable def heap_up_B (n : Nat) (a0 a1 : V) (h : Heap) : Option Out :=
  blkX 0 (lpC (heap_up_L0 n) ⟨(argE [a0, a1]), h⟩)

theorem heap_up_eq (n : Nat) (a0 a1 : V) (h : Heap) : dn PR gD anD (n + 1) k_heap_up [a0, a1] h = fin PR [] (heap_up_B n a0 a1 (h ++ pad 0)) := by kernel_rfl
/-- container/heap.down -/
noncomputable def heap_down_L0 (n : Nat) (s : St) : Option Out :=
  blkX 1 ((intV .mul (.int .i64 2) (s.e 7)).bind fun v1 => (intV .add v1 (.int .i64 1)).bind fun v2 => seqX ((intV .geq v2 (s.e 2)).bind fun v3 => (grdV v3 false (some v2)).bind fun v4 => (grdV v3 false (intV .lss v4 (.int .i64 0))).bind fun v5 => (pickV v3 (.bool true) v5).bind fun v6 => condV v6
  (some (.exit 0 ⟨(envL [(0, (s.e 0)), (1, (s.e 1)), (2, (s.e 2)), (7, (s.e 7)), (8, v2), (21, v6)]), s.h⟩))
  (some (.normal ⟨(envL [(0, (s.e 0)), (1, (s.e 1)), (2, (s.e 2)), (7, (s.e 7)), (8, v2), (21, v6)]), s.h⟩)))
  (fun s7 => seqX ((intV .add (s7.e 8) (.int .i64 1)).bind fun v8 => (intV .lss v8 (s7.e 2)).bind fun v9 => (grdV v9 true (some (s7.e 0))).bind fun v10 => (grdV v9 true (some v8)).bind fun v11 => (grdV v9 true (some (s7.e 8))).bind fun v12 => (grdH v9 true s7.h (runM PR (tD n) v10 "Less" { ks := [0, 1, 2] } [v11, v12] s7.h)).bind fun r13 => (pickV v9 r13.1 (.bool false)).bind fun v14 => condV v14
  (some (.normal ⟨(envL [(0, (s7.e 0)), (1, (s7.e 1)), (2, (s7.e 2)), (7, (s7.e 7)), (9, v8)]), r13.2⟩))
  (some (.normal ⟨(envL [(0, (s7.e 0)), (1, (s7.e 1)), (2, (s7.e 2)), (7, (s7.e 7)), (9, (s7.e 8)), (10, v8), (33, v14)]), r13.2⟩)))
  (fun s15 => seqX ((runM PR (tD n) (s15.e 0) "Less" { ks := [0, 1, 2] } [(s15.e 9), (s15.e 7)] s15.h).bind fun r16 => (unV .not r16.1).bind fun v17 => condV v17
  (some (.exit 0 ⟨(envL [(0, (s15.e 0)), (1, (s15.e 1)), (2, (s15.e 2)), (7, (s15.e 7)), (9, (s15.e 9)), (39, v17)]), r16.2⟩))
  (some (.normal ⟨(envL [(0, (s15.e 0)), (1, (s15.e 1)), (2, (s15.e 2)), (7, (s15.e 7)), (9, (s15.e 9)), (39, v17)]), r16.2⟩)))
  (fun s18 => (runM PR (tD n) (s18.e 0) "Swap" { ks := [0, 1, 2] } [(s18.e 7), (s18.e 9)] s18.h).bind fun r19 => some (.normal ⟨(envL [(0, (s18.e 0)), (1, (s18.e 1)), (2, (s18.e 2)), (7, (s18.e 9))]), r19.2⟩)))))

noncomputable def heap_down_B (n : Nat) (a0 a1 a2 : V) (h : Heap) : Option Out :=
  seqX (blkX 0 (lpC (heap_down_L0 n) ⟨(envL [(0, a0), (1, a1), (2, a2), (7, a1)]), h⟩))
  (fun s20 => (intV .gtr (s20.e 7) (s20.e 1)).bind fun v21 => some (.ret v21 s20.h))

theorem heap_down_eq (n : Nat) (a0 a1 a2 : V) (h : Heap) : dn PR gD anD (n + 1) k_heap_down [a0, a1, a2] h = fin PR [.tmp 6] (heap_down_B n a0 a1 a2 (h ++ pad 0)) := by kernel_rfl
/-- alibi/sha.word -/
noncomputable def sha_word_B (n : Nat) (a0 : V) (h : Heap) : Option Out :=
  (iaS 0 a0 (.int .i64 0)).bind fun v1 => (ldV 0 v1 h).bind fun v2 => (toIntV .u32 v2).bind fun v3 => (intV .shl v3 (.int .u64 24)).bind fun v4 => (iaS 0 a0 (.int .i64 1)).bind fun v5 => (ldV 0 v5 h).bind fun v6 => (toIntV .u32 v6).bind fun v7 => (intV .shl v7 (.int .u64 16)).bind fun v8 => (intV .or v4 v8).bind fun v9 => (iaS 0 a0 (.int .i64 2)).bind fun v10 => (ldV 0 v10 h).bind fun v11 => (toIntV .u32 v11).bind fun v12 => (intV .shl v12 (.int .u64 8)).bind fun v13 => (intV .or v9 v13).bind fun v14 => (iaS 0 a0 (.int .i64 3)).bind fun v15 => (ldV 0 v15 h).bind fun v16 => (toIntV .u32 v16).bind fun v17 => (intV .or v14 v17).bind fun v18 => some (.ret v18 h)

theorem sha_word_eq (n : Nat) (a0 : V) (h : Heap) : dn PR gD anD (n + 1) k_sha_word [a0] h = fin PR [.tmp 2] (sha_word_B n a0 (h ++ pad 0)) := by kernel_rfl
/-- math/bits.RotateLeft32 -/
noncomputable def bits_RotateLeft32_B (n : Nat) (a0 a1 : V) (h : Heap) : Option Out :=
  (toIntV .u64 a1).bind fun v1 => (intV .and v1 (.int .u64 31)).bind fun v2 => (intV .shl a0 v2).bind fun v3 => (intV .sub (.int .u64 32) v2).bind fun v4 => (intV .shr a0 v4).bind fun v5 => (intV .or v3 v5).bind fun v6 => some (.ret v6 h)

theorem bits_RotateLeft32_eq (n : Nat) (a0 a1 : V) (h : Heap) : dn PR gD anD (n + 1) k_bits_RotateLeft32 [a0, a1] h = fin PR [.tmp 4] (bits_RotateLeft32_B n a0 a1 (h ++ pad 0)) := by kernel_rfl
/-- (alibi/must.checker).behind -/
noncomputable def must_checker_behind_B (n : Nat) (a0 a1 a2 : V) (h : Heap) : Option Out :=
  (boxV none 7 a0 h).bind fun r1 => (boxV none 4 a1 r1.2).bind fun r2 => seqX ((faV 0 0 r2.1).bind fun v3 => (ldV 0 v3 r2.2).bind fun v4 => blkX 0 ((intV .eql v4 (.int .i64 3)).bind fun v5 => condV v5
  ((faV 1 0 r2.1).bind fun v6 => (ldV 0 v6 r2.2).bind fun v7 => (runF (tD n) k_sets_One {  } [v7] r2.2).bind fun r8 => (intV .or a2 r8.1).bind fun v9 => some (.ret v9 r8.2))
  ((intV .eql v4 (.int .i64 4)).bind fun v10 => condV v10
  ((faV 1 0 r2.1).bind fun v11 => (ldV 0 v11 r2.2).bind fun v12 => (runF (tD n) k_sets_One {  } [v12] r2.2).bind fun r13 => (intV .andNot a2 r13.1).bind fun v14 => some (.ret v14 r13.2))
  ((intV .eql v4 (.int .i64 7)).bind fun v15 => condV v15
  ((faV 5 0 r1.1).bind fun v16 => (ldV 0 v16 r2.2).bind fun v17 => (faV 1 0 r2.1).bind fun v18 => (ldV 0 v18 r2.2).bind fun v19 => (iaS 0 v17 v19).bind fun v20 => (ldV 0 v20 r2.2).bind fun v21 => (intV .andNot a2 v21).bind fun v22 => (faV 4 0 r1.1).bind fun v23 => (ldV 0 v23 r2.2).bind fun v24 => (faV 1 0 r2.1).bind fun v25 => (ldV 0 v25 r2.2).bind fun v26 => (iaS 6 v24 v26).bind fun v27 => (faV 1 0 v27).bind fun v28 => (ldV 0 v28 r2.2).bind fun v29 => (intV .or v22 v29).bind fun v30 => some (.ret v30 r2.2))
  (some (.normal ⟨(envL [(2, a2), (3, r1.1), (4, r2.1), (23, v15)]), r2.2⟩))))))
  (fun s31 => some (.ret (s31.e 2) s31.h))

theorem must_checker_behind_eq (n : Nat) (a0 a1 a2 : V) (h : Heap) : dn PR gD anD (n + 1) k_must_checker_behind [a0, a1, a2] h = fin PR [.tmp 6] (must_checker_behind_B n a0 a1 a2 (h ++ pad 0)) := by kernel_rfl
/-- (alibi/graph.ids).Less -/
noncomputable def graph_ids_Less_B (n : Nat) (a0 a1 a2 : V) (h : Heap) : Option Out :=
  (iaS 0 a0 a1).bind fun v1 => (ldV 0 v1 h).bind fun v2 => (iaS 0 a0 a2).bind fun v3 => (ldV 0 v3 h).bind fun v4 => (intV .lss v2 v4).bind fun v5 => some (.ret v5 h)

theorem graph_ids_Less_eq (n : Nat) (a0 a1 a2 : V) (h : Heap) : dn PR gD anD (n + 1) k_graph_ids_Less [a0, a1, a2] h = fin PR [.tmp 6] (graph_ids_Less_B n a0 a1 a2 (h ++ pad 0)) := by kernel_rfl
/-- (alibi/graph.ids).Swap -/
noncomputable def graph_ids_Swap_B (n : Nat) (a0 a1 a2 : V) (h : Heap) : Option Out :=
  (iaS 0 a0 a2).bind fun v1 => (ldV 0 v1 h).bind fun v2 => (iaS 0 a0 a1).bind fun v3 => (ldV 0 v3 h).bind fun v4 => (iaS 0 a0 a1).bind fun v5 => ((stV 0 v5 v2 h).bind fun h => some (V.tup [], h)).bind fun r6 => (iaS 0 a0 a2).bind fun v7 => ((stV 0 v7 v4 r6.2).bind fun h => some (V.tup [], h)).bind fun r8 => some (.normal ⟨(envL []), r8.2⟩)

theorem graph_ids_Swap_eq (n : Nat) (a0 a1 a2 : V) (h : Heap) : dn PR gD anD (n + 1) k_graph_ids_Swap [a0, a1, a2] h = fin PR [] (graph_ids_Swap_B n a0 a1 a2 (h ++ pad 0)) := by kernel_rfl
/-- (*alibi/graph.ids).Pop -/
noncomputable def graph_idsP_Pop_B (n : Nat) (a0 : V) (h : Heap) : Option Out :=
  (nilV a0).bind fun v1 => (ldV 0 v1 h).bind fun v2 => (lenV v2).bind fun v3 => (intV .sub v3 (.int .i64 1)).bind fun v4 => (iaS 0 v2 v4).bind fun v5 => (ldV 0 v5 h).bind fun v6 => (lenV v2).bind fun v7 => (intV .sub v7 (.int .i64 1)).bind fun v8 => (slS 0 v2 none (some v8)).bind fun v9 => (nilV a0).bind fun v10 => ((stV 0 v10 v9 h).bind fun h => some (V.tup [], h)).bind fun r11 => some (.ret (.iface y_i64 v6) r11.2)

theorem graph_idsP_Pop_eq (n : Nat) (a0 : V) (h : Heap) : dn PR gD anD (n + 1) k_graph_idsP_Pop [a0] h = fin PR [.tmp 2] (graph_idsP_Pop_B n a0 (h ++ pad 0)) := by kernel_rfl
/-- (*alibi/graph.ids).Push -/
noncomputable def graph_idsP_Push_B (n : Nat) (a0 a1 : V) (h : Heap) : Option Out :=
  (nilV a0).bind fun v1 => (ldV 0 v1 h).bind fun v2 => (tasV y_i64 a1).bind fun v3 => ((fillV (rep 1 [(.int .i64 0)]) [(0, 0, v3)]).bind fun cs => newSl none 1 0 cs h).bind fun r4 => (appV (some 3) 8796093022208 0 v2 r4.1 r4.2).bind fun r5 => (nilV a0).bind fun v6 => ((stV 0 v6 r5.1 r5.2).bind fun h => some (V.tup [], h)).bind fun r7 => some (.normal ⟨(envL []), r7.2⟩)

theorem graph_idsP_Push_eq (n : Nat) (a0 a1 : V) (h : Heap) : dn PR gD anD (n + 1) k_graph_idsP_Push [a0, a1] h = fin PR [] (graph_idsP_Push_B n a0 a1 (h ++ pad 1)) := by kernel_rfl
end Mini
end
section

end
section
namespace Mini
open Go
set_option linter.unusedSimpArgs false
abbrev RetD := Ret PR gD anD
theorem prog_within (n : Nat) (a b : Int) : RetD (n + 1) k_prog_within [i64 a, i64 b] (.bool (decide (0 ≤ a ∧ a < b))) := by
  refine ⟨rfl, rfl, [], ?_⟩
  rw [prog_within_eq]
  by_cases h : 0 ≤ a <;> simp -implicitDefEqProofs [prog_within_B, h]
def fieldsN (p : Prg) (kind size : Int) : Int × Int × Int × Bool :=
  if kind = 0 then (0, size, 0, true)
  else if kind = 1 ∨ kind = 2 then (p.g, size, 0, decide (0 < p.g))
  else if kind = 3 ∨ kind = 4 then (p.l, size, 0, decide (0 < p.l))
  else if kind = 5 then (p.fs.length, size, p.s, decide (0 < p.s ∧ 0 < p.fs.length))
  else if kind = 6 then (p.s, size, 0, decide (0 < p.s))
  else if kind = 7 then (p.fs.length, size, 0, decide (0 < p.fs.length))
  else if kind = 8 then (0, size, size, true)
  else if kind = 9 then (0, 0, 0, true)
  else (0, 0, 0, false)
theorem prog_fields (n : Nat) (p : Prg) (kind size : Int) : RetD (n + 1) k_prog_fields [p.v, i64 kind, i64 size] (.tup [i64 (fieldsN p kind size).1, i64 (fieldsN p kind size).2.1, i64 (fieldsN p kind size).2.2.1, .bool (fieldsN p kind size).2.2.2]) := by
  refine ⟨rfl, rfl, [], ?_⟩
  rw [prog_fields_eq]
  by_cases h0 : kind = 0
  · simp -implicitDefEqProofs [prog_fields_B, h0, fieldsN]
  by_cases h1 : kind = 1
  · simp -implicitDefEqProofs [prog_fields_B, h1, fieldsN]
  by_cases h2 : kind = 2
  · simp -implicitDefEqProofs [prog_fields_B, h2, fieldsN]
  by_cases h3 : kind = 3
  · simp -implicitDefEqProofs [prog_fields_B, h3, fieldsN]
  by_cases h4 : kind = 4
  · simp -implicitDefEqProofs [prog_fields_B, h4, fieldsN]
  by_cases h5 : kind = 5
  · by_cases hs : 0 < p.s <;> simp -implicitDefEqProofs [prog_fields_B, h5, fieldsN, hs]
  by_cases h6 : kind = 6
  · simp -implicitDefEqProofs [prog_fields_B, h6, fieldsN]
  by_cases h7 : kind = 7
  · simp -implicitDefEqProofs [prog_fields_B, h7, fieldsN]
  by_cases h8 : kind = 8
  · simp -implicitDefEqProofs [prog_fields_B, h8, fieldsN]
  by_cases h9 : kind = 9
  · simp -implicitDefEqProofs [prog_fields_B, h9, fieldsN]
  simp -implicitDefEqProofs [prog_fields_B, h0, h1, h2, h3, h4, h5, h6, h7, h8, h9, fieldsN]
def within (a b : Int) : Bool := decide (0 ≤ a ∧ a < b)
def mayN (p : Prg) (x : Node) (size : Int) : Bool :=
  let f := fieldsN p x.kind size
  f.2.2.2 && within x.arg (max f.1 1) && within x.next (max f.2.1 1) && within x.alt (max f.2.2.1 1)
@[simp] theorem maxV_two (a b : Int) : maxV [.int .i64 a, .int .i64 b] = some (.int .i64 (max a b)) := by
  simp only [maxV, max2V, Option.some.injEq, V.int.injEq, true_and]
  split <;> omega
theorem run_within (n : Nat) (a b : Int) (h : Heap) : runF (tD (n + 1)) k_prog_within {} [i64 a, i64 b] h = some (.bool (within a b), h) := (prog_within n a b).run h
theorem run_fields (n : Nat) (p : Prg) (kind size : Int) (h : Heap) : runF (tD (n + 1)) k_prog_fields {} [p.v, i64 kind, i64 size] h = some (.tup [i64 (fieldsN p kind size).1, i64 (fieldsN p kind size).2.1, i64 (fieldsN p kind size).2.2.1, .bool (fieldsN p kind size).2.2.2], h) := (prog_fields n p kind size).run h
theorem prog_May (n : Nat) (p : Prg) (x : Node) (size : Int) : RetD (n + 2) k_prog_May [p.v, x.v, i64 size] (.bool (mayN p x size)) := by
  refine ⟨rfl, rfl, [], ?_⟩
  rw [prog_May_eq]
  cases h1 : (fieldsN p x.kind size).2.2.2
  · simp -implicitDefEqProofs [prog_May_B, run_fields, run_within, h1, mayN]
  · cases h2 : within x.arg (max (fieldsN p x.kind size).1 1)
    · simp -implicitDefEqProofs [prog_May_B, run_fields, run_within, h1, h2, mayN]
    · cases h3 : within x.next (max (fieldsN p x.kind size).2.1 1)
      · simp -implicitDefEqProofs [prog_May_B, run_fields, run_within, h1, h2, h3, mayN]
      · simp -implicitDefEqProofs [prog_May_B, run_fields, run_within, h1, h2, h3, mayN]
def succN (x : Node) : List Int := if x.kind = 9 then [] else if x.kind = 8 then [x.next, x.alt] else [x.next]
theorem prog_Succ (n : Nat) (x : Node) : RetD (n + 1) k_prog_Succ [x.v] (intsV (succN x)) := by
  refine ⟨rfl, rfl, [], ?_⟩
  rw [prog_Succ_eq]
  by_cases h : x.kind = 9
  · simp -implicitDefEqProofs [prog_Succ_B, h, succN, intsV]
  · by_cases h2 : x.kind = 8
    · simp -implicitDefEqProofs [prog_Succ_B, h, h2, fillV, rep, newSl, okE, elems, putCells, intsV, succN]
    · simp -implicitDefEqProofs [prog_Succ_B, h, h2, fillV, rep, newSl, okE, elems, putCells, intsV, succN]
theorem prog_Access (n : Nat) (x : Node) : RetD (n + 1) k_prog_Access [x.v] (.tup [i64 x.arg, .bool (decide (x.kind = 2)), .bool (decide (x.kind = 1 ∨ x.kind = 2))]) := by
  refine ⟨rfl, rfl, [], ?_⟩
  rw [prog_Access_eq]
  by_cases h : x.kind = 1
  · simp -implicitDefEqProofs [prog_Access_B, h]
  · simp -implicitDefEqProofs [prog_Access_B, h]
def one (i : Int) : BitVec 32 := if 0 ≤ i ∧ i < 32 then 1#32 <<< i.toNat else 0#32
theorem sets_One (n : Nat) (i : Int) : RetD (n + 1) k_sets_One [i64 i] (u32 (one i)) := by
  refine ⟨rfl, rfl, [], ?_⟩
  rw [sets_One_eq]
  by_cases h : i < 0
  · have : ¬ (0 ≤ i ∧ i < 32) := by omega
    simp -implicitDefEqProofs [sets_One_B, h, one, this]
  · by_cases h2 : 32 ≤ i
    · have : ¬ (0 ≤ i ∧ i < 32) := by omega
      simp -implicitDefEqProofs [sets_One_B, h, h2, one, this]
    · have : (0 ≤ i ∧ i < 32) := by omega
      simp -implicitDefEqProofs [sets_One_B, h, h2, one, this, u32_shl]
theorem run_One (n : Nat) (i : Int) (h : Heap) : runF (tD (n + 1)) k_sets_One {} [i64 i] h = some (u32 (one i), h) := (sets_One n i).run h
def hasS (m : BitVec 32) (i : Int) : Bool := decide (0 ≤ i ∧ i < 32 ∧ (m >>> i.toNat) &&& 1#32 = 1#32)
theorem sets_Has (n : Nat) (m : BitVec 32) (i : Int) : RetD (n + 1) k_sets_Has [u32 m, i64 i] (.bool (hasS m i)) := by
  refine ⟨rfl, rfl, [], ?_⟩
  rw [sets_Has_eq]
  by_cases h : 0 ≤ i
  · by_cases h2 : i < 32
    · simp -implicitDefEqProofs [sets_Has_B, h, h2, hasS, u32_shr]
    · simp -implicitDefEqProofs [sets_Has_B, h, h2, hasS]
  · have h3 : ¬ (0 ≤ i) := by omega
    simp -implicitDefEqProofs [sets_Has_B, h, h3, hasS]
theorem run_Has (n : Nat) (m : BitVec 32) (i : Int) (h : Heap) : runF (tD (n + 1)) k_sets_Has {} [u32 m, i64 i] h = some (.bool (hasS m i), h) := (sets_Has n m i).run h
def inS (a b : BitVec 32) : Bool := decide (a &&& ~~~b = 0#32)
theorem sets_Within (n : Nat) (a b : BitVec 32) : RetD (n + 1) k_sets_Within [u32 a, u32 b] (.bool (inS a b)) := by
  refine ⟨rfl, rfl, [], ?_⟩
  rw [sets_Within_eq]
  simp -implicitDefEqProofs [sets_Within_B, inS]
theorem run_Within (n : Nat) (a b : BitVec 32) (h : Heap) : runF (tD (n + 1)) k_sets_Within {} [u32 a, u32 b] h = some (.bool (inS a b), h) := (sets_Within n a b).run h
def unlockN (x : Node) : BitVec 32 := if x.kind = 4 then one x.arg else 0#32
theorem kill_unlocks (n : Nat) (x : Node) : RetD (n + 2) k_kill_unlocks [x.v] (u32 (unlockN x)) := by
  refine ⟨rfl, rfl, [], ?_⟩
  rw [kill_unlocks_eq]
  by_cases h : x.kind = 4 <;> simp -implicitDefEqProofs [kill_unlocks_B, h, unlockN, run_One]
def beginN (x : Node) : BitVec 32 := if x.kind = 5 then 1#32 else 0#32
theorem kill_begins (n : Nat) (x : Node) : RetD (n + 1) k_kill_begins [x.v] (u32 (beginN x)) := by
  refine ⟨rfl, rfl, [], ?_⟩
  rw [kill_begins_eq]
  by_cases h : x.kind = 5 <;> simp -implicitDefEqProofs [kill_begins_B, h, beginN]
theorem may_Lost (n : Nat) (p : Prg) : RetD (n + 1) k_may_Lost [p.v] (i64 p.s) := by
  refine ⟨rfl, rfl, [], ?_⟩
  rw [may_Lost_eq]
  simp -implicitDefEqProofs [may_Lost_B]
def rightJ (j : Just) (locks : Int) : Bool := if j.kind = 2 then decide (0 ≤ j.lock ∧ j.lock < locks) else decide ((j.kind = 0 ∨ j.kind = 1) ∧ j.lock = 0)
theorem guard_Right (n : Nat) (j : Just) (locks : Int) : RetD (n + 1) k_guard_Right [j.v, i64 locks] (.bool (rightJ j locks)) := by
  refine ⟨rfl, rfl, [], ?_⟩
  rw [guard_Right_eq]
  by_cases h : j.kind = 2
  · by_cases h1 : 0 ≤ j.lock <;> simp -implicitDefEqProofs [guard_Right_B, h, h1, rightJ]
  · by_cases h0 : j.kind = 0
    · simp -implicitDefEqProofs [guard_Right_B, h0, rightJ]
    · by_cases h1 : j.kind = 1 <;> simp -implicitDefEqProofs [guard_Right_B, h, h0, h1, rightJ]
def holdsJ (j : Just) (write : Bool) (held live : BitVec 32) : Bool := if live = 0#32 then true else if j.kind = 1 then !write else if j.kind = 2 then hasS held j.lock else false
theorem guard_Holds (n : Nat) (j : Just) (write : Bool) (held live : BitVec 32) : RetD (n + 2) k_guard_Holds [j.v, .bool write, u32 held, u32 live] (.bool (holdsJ j write held live)) := by
  refine ⟨rfl, rfl, [], ?_⟩
  rw [guard_Holds_eq]
  by_cases h : live = 0#32
  · simp -implicitDefEqProofs [guard_Holds_B, h, holdsJ]
  · by_cases h0 : j.kind = 1
    · simp -implicitDefEqProofs [guard_Holds_B, h, h0, holdsJ]
    · by_cases h1 : j.kind = 2 <;> simp -implicitDefEqProofs [guard_Holds_B, h, h0, h1, holdsJ, run_Has]
def soloS (s : Sect) (i : Int) : Bool := decide (0 ≤ i ∧ i < s.live.length ∧ s.live.getD i.toNat 0#32 = 0#32)
theorem may_Solo (n : Nat) (s : Sect) (i : Int) : RetD (n + 1) k_may_Solo [s.v, i64 i] (.bool (soloS s i)) := by
  refine ⟨rfl, rfl, [], ?_⟩
  rw [may_Solo_eq]
  by_cases h : 0 ≤ i
  · obtain ⟨k, rfl⟩ := Int.eq_ofNat_of_zero_le h
    by_cases h1 : k < s.live.length
    · simp -implicitDefEqProofs [may_Solo_B, h, h1, soloS, ia_sets]
    · simp -implicitDefEqProofs [may_Solo_B, h, h1, soloS]
  · have h3 : ¬ (0 ≤ i) := by omega
    simp -implicitDefEqProofs [may_Solo_B, h, h3, soloS]
def behindL (x : Node) (live exit : BitVec 32) (lost : Int) (begins : Bool) : BitVec 32 :=
  if x.kind = 5 then (if begins = true ∨ hasS live x.alt = true then live ||| one x.alt ||| one lost else live ||| one x.alt)
  else if x.kind = 6 then live &&& ~~~ one x.arg else if x.kind = 7 then exit else live
theorem may_Behind (n : Nat) (x : Node) (live exit : BitVec 32) (lost : Int) (begins : Bool) : RetD (n + 2) k_may_Behind [x.v, u32 live, u32 exit, i64 lost, .bool begins] (u32 (behindL x live exit lost begins)) := by
  refine ⟨rfl, rfl, [], ?_⟩
  rw [may_Behind_eq]
  by_cases h5 : x.kind = 5
  · cases begins
    · cases hh : hasS live x.alt <;> simp -implicitDefEqProofs [may_Behind_B, h5, hh, behindL, run_Has, run_One]
    · simp -implicitDefEqProofs [may_Behind_B, h5, behindL, run_Has, run_One]
  · by_cases h6 : x.kind = 6
    · simp -implicitDefEqProofs [may_Behind_B, h6, behindL, run_One]
    · by_cases h7 : x.kind = 7 <;> simp -implicitDefEqProofs [may_Behind_B, h5, h6, h7, behindL]
def Big : Int := 4611686018427387904
theorem i64_inc {i N : Nat} (h : i < N) (hN : N < 4611686018427387904) : intV .add (i64 (i : Int)) (i64 1) = some (i64 ((i : Int) + 1)) := i64_add (by omega) (by omega)
def shapedAt (p : Prg) (l : List Sect) (i : Nat) : Bool := decide ((l[i]?.getD default).held.length = (p.fs[i]?.getD []).length ∧ (l[i]?.getD default).live.length = (p.fs[i]?.getD []).length)
def shaped (p : Prg) (l : List Sect) : Bool := decide (l.length = p.fs.length) && (List.range l.length).all (shapedAt p l)
theorem Shaped_step (n : Nat) (p : Prg) (l : List Sect) (i : Nat) (hi : i < l.length) (hi2 : i < p.fs.length) (hs : l.length < 4611686018427387904) (st : Nat) :
    must_Shaped_L0 n ⟨envL [(2, .fz p.v), (13, sectsV l), (14, i64 l.length), (15, i64 i)], [⟨st, none⟩]⟩ =
      if shapedAt p l i = true then some (.normal ⟨envL [(2, .fz p.v), (13, sectsV l), (14, i64 l.length), (15, i64 ((i + 1 : Nat) : Int))], [⟨st + 2, none⟩]⟩) else some (.ret (.bool false) [⟨st + 2, none⟩]) := by
  have ha := i64_inc hi hs
  have e : shapedAt p l i = decide (l[i].held.length = p.fs[i].length ∧ l[i].live.length = p.fs[i].length) := by simp [shapedAt, hi, hi2]
  rw [e]
  by_cases h1 : l[i].held.length = p.fs[i].length
  · by_cases h2 : l[i].live.length = p.fs[i].length
    · simp -implicitDefEqProofs [must_Shaped_L0, hi, ia_sects, ia_funcs, hi2, h1, h2, ha]
    · have h2' : ¬ (l[i].live.length : Int) = p.fs[i].length := by omega
      simp -implicitDefEqProofs [must_Shaped_L0, hi, ia_sects, ia_funcs, hi2, h1, h2, h2', ha]
  · have h1' : ¬ (l[i].held.length : Int) = p.fs[i].length := by omega
    simp -implicitDefEqProofs [must_Shaped_L0, hi, ia_sects, ia_funcs, hi2, h1, h1', ha]
theorem Shaped_loop (n : Nat) (p : Prg) (l : List Sect) (hl : l.length = p.fs.length) (hs : l.length < 4611686018427387904) :
    ∃ o, lpC (must_Shaped_L0 n) ⟨envL [(2, .fz p.v), (13, sectsV l), (14, i64 l.length), (15, i64 0)], [⟨0, none⟩]⟩ = some o ∧ o.ends ∧
      ((∃ h, o = .ret (.bool false) h ∧ shaped p l = false) ∨ ∃ s, o = .exit 0 s ∧ shaped p l = true) := by
  refine lp_up (N := l.length) (fun i s => (∀ j < i, shapedAt p l j = true) ∧ ∃ st, s = ⟨envL [(2, .fz p.v), (13, sectsV l), (14, i64 l.length), (15, i64 i)], [⟨st, none⟩]⟩) _ ?_ ?_ l.length 0 _ (by omega) ⟨by omega, 0, rfl⟩
  · rintro i s hi ⟨hj, st, rfl⟩
    rw [Shaped_step n p l i hi (by omega) hs st]
    cases hc : shapedAt p l i
    · refine .inr ⟨_, rfl, trivial, .inl ⟨_, rfl, ?_⟩⟩
      simp only [shaped, Bool.and_eq_false_iff]
      refine .inr ?_
      rw [← Bool.not_eq_true, List.all_eq_true]
      intro h
      have := h i (List.mem_range.2 hi)
      rw [hc] at this
      simp at this
    · refine .inl ⟨_, rfl, fun j hj' => ?_, _, rfl⟩
      by_cases h : j = i
      · subst h; exact hc
      · exact hj j (by omega)
  · rintro s ⟨hj, st, rfl⟩
    refine ⟨.exit 0 ⟨envL [(2, .fz p.v), (13, sectsV l), (14, i64 l.length), (15, i64 l.length), (16, .bool false)], [⟨st, none⟩]⟩, by simp -implicitDefEqProofs [must_Shaped_L0], trivial, .inr ⟨_, rfl, ?_⟩⟩
    simp only [shaped, hl, decide_true, Bool.true_and, List.all_eq_true, List.mem_range]
    exact fun j hj' => hj j (by omega)
theorem must_Shaped (n : Nat) (p : Prg) (l : List Sect) (hs : l.length < 4611686018427387904) : RetD (n + 1) k_must_Shaped [p.v, sectsV l] (.bool (shaped p l)) := by
  refine ⟨rfl, rfl, ?_⟩
  simp only [must_Shaped_eq]
  by_cases hl : l.length = p.fs.length
  · have hl' : (l.length : Int) = p.fs.length := by omega
    obtain ⟨o, h1, h2, h3⟩ := Shaped_loop n p l hl hs
    rw [hl'] at h1
    rcases h3 with ⟨h, rfl, h3⟩ | ⟨s, rfl, h3⟩
    · exact ⟨h, by simp -implicitDefEqProofs [must_Shaped_B, hl', h1, h3]⟩
    · exact ⟨s.h, by simp -implicitDefEqProofs [must_Shaped_B, hl', h1, h3]⟩
  · have hl' : ¬ (l.length : Int) = p.fs.length := by omega
    exact ⟨[⟨0, none⟩], by simp -implicitDefEqProofs [must_Shaped_B, hl', hl, shaped]⟩
structure MChk where
  p : Prg
  l : List Sect
  un : List (BitVec 32)
  first : BitVec 32
def MChk.v (c : MChk) : V := .agg [i64 c.p.g, i64 c.p.l, i64 c.p.s, funcsV c.p.fs, sectsV c.l, setsV c.un, u32 c.first]
@[simp] theorem noRef_mchk (c : MChk) : c.v.noRef = true := rfl
@[simp] theorem fits_mchk (c : MChk) : fitsV 7 c.v = true := rfl
@[simp] theorem cells_mchk (c : MChk) : c.v.cells = [i64 c.p.g, i64 c.p.l, i64 c.p.s, funcsV c.p.fs, sectsV c.l, setsV c.un, u32 c.first] := rfl
def behindH (c : MChk) (x : Node) (held : BitVec 32) : BitVec 32 :=
  if x.kind = 3 then held ||| one x.arg else if x.kind = 4 then held &&& ~~~ one x.arg
  else if x.kind = 7 then (held &&& ~~~ c.un.getD x.arg.toNat 0#32) ||| (c.l.getD x.arg.toNat default).exit else held
theorem must_behind (n : Nat) (c : MChk) (x : Node) (held : BitVec 32) (h : x.kind = 7 → 0 ≤ x.arg ∧ x.arg < c.un.length ∧ x.arg < c.l.length) :
    RetD (n + 2) k_must_checker_behind [c.v, x.v, u32 held] (u32 (behindH c x held)) := by
  refine ⟨rfl, rfl, [], ?_⟩
  rw [must_checker_behind_eq]
  by_cases h3 : x.kind = 3
  · simp -implicitDefEqProofs [must_checker_behind_B, h3, behindH, run_One]
  by_cases h4 : x.kind = 4
  · simp -implicitDefEqProofs [must_checker_behind_B, h4, behindH, run_One]
  by_cases h7 : x.kind = 7
  · obtain ⟨g1, g2, g3⟩ := h h7
    obtain ⟨k, hk⟩ := Int.eq_ofNat_of_zero_le g1
    have g2' : k < c.un.length := by omega
    have g3' : k < c.l.length := by omega
    simp -implicitDefEqProofs [must_checker_behind_B, h7, behindH, hk, ia_sets, ia_sects, g2', g3']
  simp -implicitDefEqProofs [must_checker_behind_B, h3, h4, h7, behindH]
theorem run_behind (n : Nat) (c : MChk) (x : Node) (held : BitVec 32) (h : x.kind = 7 → 0 ≤ x.arg ∧ x.arg < c.un.length ∧ x.arg < c.l.length) (hp : Heap) :
    runF (tD (n + 2)) k_must_checker_behind {} [c.v, x.v, u32 held] hp = some (u32 (behindH c x held), hp) := (must_behind n c x held h).run hp
theorem mnode_step (n : Nat) (c : MChk) (x : Node) (held : BitVec 32) (hx : x.kind = 7 → 0 ≤ x.arg ∧ x.arg < c.un.length ∧ x.arg < c.l.length) (f : Nat) (hf : f < c.l.length) (to : List Int) (j : Nat) (hj : j < to.length) (hb : to.length < 1000)
    (ht : 0 ≤ to[j] ∧ to[j] < c.l[f].held.length) (st : Slot) :
    must_checker_node_L0 (n + 2) ⟨envL [(1, i64 f), (3, .fz c.v), (7, .fz x.v), (8, u32 held), (61, intsV to), (62, i64 to.length), (63, i64 j)], [st]⟩ =
     if inS (c.l[f].held.getD to[j].toNat 0#32) (behindH c x held) = true then some (.normal ⟨envL [(1, i64 f), (3, .fz c.v), (7, .fz x.v), (8, u32 held), (61, intsV to), (62, i64 to.length), (63, i64 ((j + 1 : Nat) : Int))], [st]⟩)
     else some (.ret (i64 3) [st]) := by
  have ha := i64_inc hj (N := to.length) (by omega)
  obtain ⟨k, hk⟩ := Int.eq_ofNat_of_zero_le ht.1
  have hk' : k < c.l[f].held.length := by omega
  have rw1 : ∀ a b hp, runF (tD (n + 2)) k_sets_Within {} [u32 a, u32 b] hp = some (.bool (inS a b), hp) := fun a b hp => run_Within (n + 1) a b hp
  cases hi : inS (c.l[f].held[k]) (behindH c x held)
  · simp -implicitDefEqProofs [must_checker_node_L0, hj, ia_ints, ia_sects, hf, hk, ia_sets, hk', run_behind n c x held hx, rw1, hi, ha]
  · simp -implicitDefEqProofs [must_checker_node_L0, hj, ia_ints, ia_sects, hf, hk, ia_sets, hk', run_behind n c x held hx, rw1, hi, ha]
@[simp] theorem node_fold (x : Node) : V.agg [V.int .i64 x.kind, V.int .i64 x.arg, V.int .i64 x.next, V.int .i64 x.alt] = x.v := rfl
def nodeH (c : MChk) (f i : Nat) : Int :=
  let x := (c.p.fs.getD f []).getD i default
  let s := c.l.getD f default
  let held := s.held.getD i 0#32
  if x.kind = 7 ∧ inS (c.l.getD x.arg.toNat default).entry held = false then 5
  else if x.kind = 9 ∧ inS s.exit held = false then 4
  else if (succN x).all (fun to => inS (s.held.getD to.toNat 0#32) (behindH c x held)) = true then 0 else 3
theorem mnode_loop (n : Nat) (c : MChk) (x : Node) (held : BitVec 32) (hx : x.kind = 7 → 0 ≤ x.arg ∧ x.arg < c.un.length ∧ x.arg < c.l.length) (f : Nat) (hf : f < c.l.length) (to : List Int) (hb : to.length < 1000)
    (ht : ∀ j (h : j < to.length), 0 ≤ to[j] ∧ to[j] < c.l[f].held.length) (st : Slot) :
    ∃ o, lpC (must_checker_node_L0 (n + 2)) ⟨envL [(1, i64 f), (3, .fz c.v), (7, .fz x.v), (8, u32 held), (61, intsV to), (62, i64 to.length), (63, i64 0)], [st]⟩ = some o ∧ o.ends ∧
      ((o = .ret (i64 3) [st] ∧ to.all (fun t => inS (c.l[f].held.getD t.toNat 0#32) (behindH c x held)) = false) ∨
       ∃ s, o = .exit 1 s ∧ s.h = [st] ∧ to.all (fun t => inS (c.l[f].held.getD t.toNat 0#32) (behindH c x held)) = true) := by
  refine lp_up (N := to.length) (fun i s => (∀ j (h : j < to.length), j < i → inS (c.l[f].held.getD to[j].toNat 0#32) (behindH c x held) = true) ∧ s = ⟨envL [(1, i64 f), (3, .fz c.v), (7, .fz x.v), (8, u32 held), (61, intsV to), (62, i64 to.length), (63, i64 i)], [st]⟩) _ ?_ ?_ to.length 0 _ (by omega) ⟨by omega, rfl⟩
  · rintro i s hi ⟨hj, rfl⟩
    rw [mnode_step n c x held hx f hf to i hi hb (ht i hi) st]
    cases hc : inS (c.l[f].held.getD to[i].toNat 0#32) (behindH c x held)
    · refine .inr ⟨_, rfl, trivial, .inl ⟨rfl, ?_⟩⟩
      rw [← Bool.not_eq_true, List.all_eq_true]
      intro h
      have := h to[i] (List.getElem_mem hi)
      rw [hc] at this
      simp at this
    · refine .inl ⟨_, rfl, fun j h hj' => ?_, rfl⟩
      by_cases h' : j = i
      · subst h'; exact hc
      · exact hj j h (by omega)
  · rintro s ⟨hj, rfl⟩
    refine ⟨.exit 1 ⟨envL [(1, i64 f), (3, .fz c.v), (7, .fz x.v), (8, u32 held), (61, intsV to), (62, i64 to.length), (63, i64 to.length), (64, .bool false)], [st]⟩, by simp -implicitDefEqProofs [must_checker_node_L0], trivial, .inr ⟨_, rfl, rfl, ?_⟩⟩
    rw [List.all_eq_true]
    intro t ht'
    obtain ⟨j, hj1, rfl⟩ := List.mem_iff_getElem.1 ht'
    exact hj j hj1 hj1
theorem must_node (n : Nat) (c : MChk) (f i : Nat) (hf : f < c.l.length) (hf' : f < c.p.fs.length) (hi : i < (c.p.fs[f]).length) (hi' : i < (c.l[f]).held.length)
    (hx : (c.p.fs[f][i]).kind = 7 → 0 ≤ (c.p.fs[f][i]).arg ∧ (c.p.fs[f][i]).arg < c.un.length ∧ (c.p.fs[f][i]).arg < c.l.length)
    (ht : ∀ t ∈ succN (c.p.fs[f][i]), 0 ≤ t ∧ t < (c.l[f]).held.length) : RetD (n + 3) k_must_checker_node [c.v, i64 f, i64 i] (i64 (nodeH c f i)) := by
  refine ⟨rfl, rfl, ?_⟩
  simp only [must_checker_node_eq]
  have hlen : (succN (c.p.fs[f][i])).length < 1000 := by
    unfold succN
    split
    · simp
    · split <;> simp
  have rw1 : ∀ a b hp, runF (tD (n + 2)) k_sets_Within {} [u32 a, u32 b] hp = some (.bool (inS a b), hp) := fun a b hp => run_Within (n + 1) a b hp
  have rw2 : ∀ x hp, runF (tD (n + 2)) k_prog_Succ {} [Node.v x] hp = some (intsV (succN x), hp) := fun x hp => (prog_Succ (n + 1) x).run hp
  obtain ⟨o, h1, h2, h3⟩ := mnode_loop n c (c.p.fs[f][i]) ((c.l[f]).held[i]) hx f hf (succN (c.p.fs[f][i])) hlen (fun j h => ht _ (List.getElem_mem h)) ⟨2, none⟩
  have hnode : nodeH c f i = if (c.p.fs[f][i]).kind = 7 ∧ inS (c.l.getD (c.p.fs[f][i]).arg.toNat default).entry ((c.l[f]).held[i]) = false then 5
      else if (c.p.fs[f][i]).kind = 9 ∧ inS (c.l[f]).exit ((c.l[f]).held[i]) = false then 4
      else if (succN (c.p.fs[f][i])).all (fun to => inS ((c.l[f]).held.getD to.toNat 0#32) (behindH c (c.p.fs[f][i]) ((c.l[f]).held[i]))) = true then 0 else 3 := by
    simp [nodeH, hf, hf', hi, hi']
  rw [hnode]
  generalize hxx : c.p.fs[f][i] = x at *
  generalize hhh : (c.l[f]).held[i] = held at *
  have tail : ∃ h', fin PR [.tmp 6] (seqX (blkX 1 (lpC (must_checker_node_L0 (n + 2)) ⟨envL [(1, i64 f), (3, .fz c.v), (7, .fz x.v), (8, u32 held), (61, intsV (succN x)), (62, i64 (succN x).length), (63, i64 0)], [⟨2, none⟩]⟩)) (fun s68 => some (.ret (.int .i64 0) s68.h))) =
      some (i64 (if (succN x).all (fun to => inS ((c.l[f]).held.getD to.toNat 0#32) (behindH c x held)) = true then 0 else 3), h') := by
    rcases h3 with ⟨rfl, h3⟩ | ⟨s, rfl, hs, h3⟩
    · exact ⟨_, by rw [h1, h3]; simp; rfl⟩
    · exact ⟨_, by rw [h1, h3]; simp; rfl⟩
  by_cases h7 : x.kind = 7
  · obtain ⟨g1, g2, g3⟩ := hx h7
    obtain ⟨k, hk⟩ := Int.eq_ofNat_of_zero_le g1
    have g3' : k < c.l.length := by omega
    have h9 : ¬ x.kind = 9 := by omega
    have d7 : decide (x.kind = 7) = true := by simp [h7]
    have d9 : decide (x.kind = 9) = false := by simp [h9]
    have hia : iaS 6 (sectsV c.l) (.int .i64 x.arg) = some (.fz (c.l.getD x.arg.toNat default).v) := by
      rw [hk]
      have := ia_sects g3'
      simpa [g3'] using this
    cases hin : inS (c.l.getD x.arg.toNat default).entry held
    · refine ⟨[⟨2, none⟩], ?_⟩
      rw [if_pos ⟨h7, rfl⟩]
      simp only [List.getD_eq_getElem?_getD] at hia hin
      simp -implicitDefEqProofs [must_checker_node_B, ia_funcs, hf', ia_nodes, hi, hxx, ia_sects, hf, ia_sets, hi', hhh, okF, fpP, disjL, d7, hia, rw1, hin]
    · obtain ⟨h', ht'⟩ := tail
      refine ⟨h', ?_⟩
      rw [if_neg (by simp), if_neg (by simp [h9]), ← ht']
      simp only [List.getD_eq_getElem?_getD] at hia hin
      simp -implicitDefEqProofs [must_checker_node_B, ia_funcs, hf', ia_nodes, hi, hxx, ia_sects, hf, ia_sets, hi', hhh, okF, fpP, disjL, d7, d9, hia, rw1, rw2, hin]
  · have d7 : decide (x.kind = 7) = false := by simp [h7]
    by_cases h9 : x.kind = 9
    · have d9 : decide (x.kind = 9) = true := by simp [h9]
      cases hin : inS (c.l[f]).exit held
      · refine ⟨[⟨2, none⟩], ?_⟩
        rw [if_neg (by simp [h7]), if_pos ⟨h9, rfl⟩]
        simp -implicitDefEqProofs [must_checker_node_B, ia_funcs, hf', ia_nodes, hi, hxx, ia_sects, hf, ia_sets, hi', hhh, okF, fpP, disjL, d7, d9, rw1, hin]
      · obtain ⟨h', ht'⟩ := tail
        refine ⟨h', ?_⟩
        rw [if_neg (by simp [h7]), if_neg (by simp), ← ht']
        simp -implicitDefEqProofs [must_checker_node_B, ia_funcs, hf', ia_nodes, hi, hxx, ia_sects, hf, ia_sets, hi', hhh, okF, fpP, disjL, d7, d9, rw1, rw2, hin]
    · have d9 : decide (x.kind = 9) = false := by simp [h9]
      obtain ⟨h', ht'⟩ := tail
      refine ⟨h', ?_⟩
      rw [if_neg (by simp [h7]), if_neg (by simp [h9]), ← ht']
      simp -implicitDefEqProofs [must_checker_node_B, ia_funcs, hf', ia_nodes, hi, hxx, ia_sects, hf, ia_sets, hi', hhh, okF, fpP, disjL, d7, d9, rw1, rw2]
/-- What a checker needs so that a node can be looked at. -/
structure NodeOk (c : MChk) (f i : Nat) : Prop where
  hf : f < c.l.length
  hf' : f < c.p.fs.length
  hi : i < (c.p.fs[f]).length
  hi' : i < (c.l[f]).held.length
  hx : (c.p.fs[f][i]).kind = 7 → 0 ≤ (c.p.fs[f][i]).arg ∧ (c.p.fs[f][i]).arg < c.un.length ∧ (c.p.fs[f][i]).arg < c.l.length
  ht : ∀ t ∈ succN (c.p.fs[f][i]), 0 ≤ t ∧ t < (c.l[f]).held.length
theorem run_mnode {n : Nat} {c : MChk} {f i : Nat} (h : NodeOk c f i) (hp : Heap) : runF (tD (n + 3)) k_must_checker_node {} [c.v, i64 f, i64 i] hp = some (i64 (nodeH c f i), hp) := (must_node n c f i h.hf h.hf' h.hi h.hi' h.hx h.ht).run hp
def badH (c : MChk) (f i : Nat) : Option (Int × Int) := if nodeH c f i = 0 then none else some ((i : Int), nodeH c f i)
def funH (c : MChk) (f : Nat) : Int × Int :=
  let s := c.l.getD f default
  if hasS c.first f = true ∧ s.entry ≠ 0#32 then (-1, 2)
  else if inS (s.held.getD 0 0#32) s.entry = false then (-1, 3)
  else (firstN (badH c f) ((c.p.fs.getD f []).length) 0).getD (0, 0)
theorem mfun_loop (n : Nat) (c : MChk) (f : Nat) (N : Nat) (hN : N < 4611686018427387904) (ok : ∀ i < N, NodeOk c f i) (st : Slot) :
    ∃ o, lpC (must_checker_function_L0 (n + 3)) ⟨envL [(1, i64 f), (2, .fz c.v), (39, i64 N), (40, i64 0)], [st]⟩ = some o ∧ o.ends ∧
      foundP (fun o => ∃ s, o = .exit 1 s) (fun a o => ∃ h, o = .ret (.tup [i64 a.1, i64 a.2]) h) (firstN (badH c f) N 0) o := by
  refine lp_first (f := must_checker_function_L0 (n + 3)) (N := N) (badH c f) (fun i s => s = ⟨envL [(1, i64 f), (2, .fz c.v), (39, i64 N), (40, i64 i)], [st]⟩) (fun a o => ∃ h, o = .ret (.tup [i64 a.1, i64 a.2]) h) (fun o => ∃ s, o = .exit 1 s) ?_ ?_ N 0 _ (by omega) rfl
  · rintro i s hi rfl
    have ha := i64_inc hi hN
    unfold badH
    by_cases h0 : nodeH c f i = 0
    · rw [if_pos h0]
      refine ⟨_, ?_, rfl⟩
      simp -implicitDefEqProofs [must_checker_function_L0, hi, run_mnode (ok i hi), h0, ha]
    · rw [if_neg h0]
      refine ⟨.ret (.tup [i64 i, i64 (nodeH c f i)]) [st], ?_, trivial, _, rfl⟩
      simp -implicitDefEqProofs [must_checker_function_L0, hi, run_mnode (ok i hi), h0, ha]
  · rintro s rfl
    exact ⟨.exit 1 ⟨envL [(1, i64 f), (2, .fz c.v), (39, i64 N), (40, i64 N), (41, .bool false)], [st]⟩, by simp -implicitDefEqProofs [must_checker_function_L0], trivial, _, rfl⟩
theorem sect_fold (s : Sect) : V.agg [u32 s.entry, u32 s.exit, setsV s.held, u32 s.lentry, u32 s.lexit, setsV s.live] = s.v := rfl
theorem must_function (n : Nat) (c : MChk) (f : Nat) (hf : f < c.l.length) (hf' : f < c.p.fs.length) (h0 : 0 < (c.l[f]).held.length) (hN : (c.p.fs[f]).length < 4611686018427387904)
    (ok : ∀ i < (c.p.fs[f]).length, NodeOk c f i) : RetD (n + 4) k_must_checker_function [c.v, i64 f] (.tup [i64 (funH c f).1, i64 (funH c f).2]) := by
  refine ⟨rfl, rfl, ?_⟩
  simp only [must_checker_function_eq]
  have rw1 : ∀ a b hp, runF (tD (n + 3)) k_sets_Within {} [u32 a, u32 b] hp = some (.bool (inS a b), hp) := fun a b hp => run_Within (n + 2) a b hp
  have rw2 : ∀ a b hp, runF (tD (n + 3)) k_sets_Has {} [u32 a, i64 b] hp = some (.bool (hasS a b), hp) := fun a b hp => run_Has (n + 2) a b hp
  have hh0 : iaS 0 (setsV (c.l[f]).held) (.int .i64 0) = some (.fz (u32 ((c.l[f]).held[0]))) := ia_sets h0
  obtain ⟨o, h1, h2, h3⟩ := mfun_loop n c f (c.p.fs[f]).length hN ok ⟨2, none⟩
  have e : funH c f = if hasS c.first f = true ∧ (c.l[f]).entry ≠ 0#32 then (-1, 2)
      else if inS ((c.l[f]).held[0]) (c.l[f]).entry = false then (-1, 3)
      else (firstN (badH c f) (c.p.fs[f]).length 0).getD (0, 0) := by
    simp [funH, hf, hf', h0]
  rw [e]
  have tail : ∃ h', fin PR [.tmp 4, .tmp 5] (seqX (blkX 1 (lpC (must_checker_function_L0 (n + 3)) ⟨envL [(1, i64 f), (2, .fz c.v), (39, i64 (c.p.fs[f]).length), (40, i64 0)], [⟨2, none⟩]⟩)) (fun s38 => some (.ret (.tup [(.int .i64 0), (.int .i64 0)]) s38.h))) =
      some (.tup [i64 ((firstN (badH c f) (c.p.fs[f]).length 0).getD (0, 0)).1, i64 ((firstN (badH c f) (c.p.fs[f]).length 0).getD (0, 0)).2], h') := by
    rw [h1]
    cases hfn : firstN (badH c f) (c.p.fs[f]).length 0 with
    | none =>
      rw [hfn] at h3
      obtain ⟨s, rfl⟩ := h3
      exact ⟨s.h, by simp⟩
    | some a =>
      rw [hfn] at h3
      obtain ⟨h, rfl⟩ := h3
      exact ⟨h, by simp⟩
  cases hh : hasS c.first f
  · rw [if_neg (by simp)]
    cases hin : inS ((c.l[f]).held[0]) (c.l[f]).entry
    · refine ⟨[⟨2, none⟩], ?_⟩
      simp -implicitDefEqProofs [must_checker_function_B, ia_sects, hf, rw2, hh, hh0, rw1, hin]
    · obtain ⟨h', ht'⟩ := tail
      refine ⟨h', ?_⟩
      rw [if_neg (by simp), ← ht']
      simp -implicitDefEqProofs [must_checker_function_B, ia_sects, hf, rw2, hh, hh0, rw1, hin, ia_funcs, hf']
  · by_cases he : (c.l[f]).entry = 0#32
    · rw [if_neg (by simp [he])]
      have de : decide ((c.l[f]).entry = 0#32) = true := by simp [he]
      cases hin : inS ((c.l[f]).held[0]) (c.l[f]).entry
      · refine ⟨[⟨2, none⟩], ?_⟩
        simp -implicitDefEqProofs [must_checker_function_B, ia_sects, hf, rw2, hh, hh0, rw1, hin, de]
      · obtain ⟨h', ht'⟩ := tail
        refine ⟨h', ?_⟩
        rw [if_neg (by simp), ← ht']
        simp -implicitDefEqProofs [must_checker_function_B, ia_sects, hf, rw2, hh, hh0, rw1, hin, ia_funcs, hf', de]
    · have de : decide ((c.l[f]).entry = 0#32) = false := by simp [he]
      rw [if_pos ⟨rfl, he⟩]
      refine ⟨[⟨2, none⟩], ?_⟩
      simp -implicitDefEqProofs [must_checker_function_B, ia_sects, hf, rw2, hh, de]
def addN (kind : Int) (m : BitVec 32) (x : Node) : BitVec 32 := if x.kind = kind then m ||| one x.arg else m
def namedN (l : List Node) (kind : Int) : BitVec 32 := l.foldl (addN kind) 0#32
theorem foldl_take {α β : Type} (f : β → α → β) (b : β) (l : List α) (i : Nat) (h : i < l.length) : (l.take (i + 1)).foldl f b = f ((l.take i).foldl f b) l[i] := by
  rw [List.take_succ_eq_append_getElem h, List.foldl_append]
  rfl
theorem graph_named (n : Nat) (l : List Node) (kind : Int) (hl : l.length < 4611686018427387904) : RetD (n + 2) k_graph_named [nodesV l, i64 kind] (u32 (namedN l kind)) := by
  refine ⟨rfl, rfl, ?_⟩
  simp only [graph_named_eq]
  have hloop : ∃ o, lpC (graph_named_L0 (n + 1)) ⟨envL [(1, i64 kind), (5, u32 0#32), (8, nodesV l), (9, i64 l.length), (10, i64 0)], [⟨0, none⟩]⟩ = some o ∧ o.ends ∧ ∃ st v, o = .exit 0 ⟨envL [(1, i64 kind), (5, u32 (namedN l kind)), (8, nodesV l), (9, i64 l.length), (10, i64 l.length), (11, v)], [⟨st, none⟩]⟩ := by
    refine lp_up (N := l.length) (fun i s => ∃ st, s = ⟨envL [(1, i64 kind), (5, u32 ((l.take i).foldl (addN kind) 0#32)), (8, nodesV l), (9, i64 l.length), (10, i64 i)], [⟨st, none⟩]⟩) _ ?_ ?_ l.length 0 _ (by omega) ⟨0, rfl⟩
    · rintro i s hi ⟨st, rfl⟩
      have ha := i64_inc hi hl
      refine .inl ⟨_, ?_, st + 2, rfl⟩
      rw [foldl_take _ _ _ _ hi]
      generalize (l.take i).foldl (addN kind) 0#32 = m
      unfold addN
      cases hk : decide ((l[i]).kind = kind)
      · have : ¬ (l[i]).kind = kind := by simpa using hk
        rw [if_neg this]
        simp -implicitDefEqProofs [graph_named_L0, hi, ia_nodes, hk, ha]
      · have : (l[i]).kind = kind := by simpa using hk
        rw [if_pos this]
        simp -implicitDefEqProofs [graph_named_L0, hi, ia_nodes, hk, ha, run_One]
    · rintro s ⟨st, rfl⟩
      refine ⟨_, ?_, ?_, st, .bool false, rfl⟩
      · simp -implicitDefEqProofs [graph_named_L0, namedN]
      · trivial
  obtain ⟨o, h1, h2, st, v, rfl⟩ := hloop
  exact ⟨[⟨st, none⟩], by simp -implicitDefEqProofs [graph_named_B, h1]⟩
def SmallP (p : Prg) : Prop := p.fs.length < 4611686018427387904 ∧ ∀ l ∈ p.fs, l.length < 4611686018427387904
def begunP (p : Prg) : BitVec 32 := p.fs.foldl (fun m l => m ||| namedN l 5) 0#32
theorem graph_Begun (n : Nat) (p : Prg) (hp : SmallP p) : RetD (n + 3) k_graph_Begun [p.v] (u32 (begunP p)) := by
  refine ⟨rfl, rfl, ?_⟩
  simp only [graph_Begun_eq]
  have hloop : ∃ o, lpC (graph_Begun_L0 (n + 2)) ⟨envL [(3, u32 0#32), (7, funcsV p.fs), (8, i64 p.fs.length), (9, i64 0)], []⟩ = some o ∧ o.ends ∧ ∃ v, o = .exit 0 ⟨envL [(3, u32 (begunP p)), (7, funcsV p.fs), (8, i64 p.fs.length), (9, i64 p.fs.length), (10, v)], []⟩ := by
    refine lp_up (N := p.fs.length) (fun i s => s = ⟨envL [(3, u32 ((p.fs.take i).foldl (fun m l => m ||| namedN l 5) 0#32)), (7, funcsV p.fs), (8, i64 p.fs.length), (9, i64 i)], []⟩) _ ?_ ?_ p.fs.length 0 _ (by omega) rfl
    · rintro i s hi rfl
      have ha := i64_inc hi hp.1
      have hr : ∀ h, runF (tD (n + 2)) k_graph_named {} [nodesV p.fs[i], i64 5] h = some (u32 (namedN p.fs[i] 5), h) := fun h => (graph_named n p.fs[i] 5 (hp.2 _ (List.getElem_mem hi))).run h
      refine .inl ⟨_, ?_, rfl⟩
      rw [foldl_take _ _ _ _ hi]
      simp -implicitDefEqProofs [graph_Begun_L0, hi, ia_funcs, hr, ha]
    · rintro s rfl
      refine ⟨_, ?_, ?_, .bool false, rfl⟩
      · simp -implicitDefEqProofs [graph_Begun_L0, begunP]
      · trivial
  obtain ⟨o, h1, h2, v, rfl⟩ := hloop
  exact ⟨[], by simp -implicitDefEqProofs [graph_Begun_B, h1]⟩
/-- One cell is appended to a row that fills its slot. -/
theorem app_one {id lim i st : Nat} {x : V} {cs : List V} (hx : x.okCell = true) (hc : cs.length = i) (hl : i + 1 ≤ lim) :
    appV (some id) lim 0 (.sl 0 0 i i 0 st) (.vec [x]) [⟨st, some cs⟩] = some (.sl 0 0 (i + 1) (i + 1) 0 (st + 1), [⟨st + 1, some (cs ++ [x])⟩]) := by
  have hf : fitsV 0 x = true := by cases x <;> first | rfl | (simp at hx; done) | (simp [V.okCell] at hx)
  have hcx : x.cells = [x] := by cases x <;> first | rfl | (simp [V.okCell] at hx)
  simp [appV, srcV, hf, hcx, hx, hc, hl]
def calleesP (p : Prg) : List (BitVec 32) := p.fs.map fun l => namedN l 7
theorem frzL_map {α : Type} (f : α → V) (n : Nat) (hf : ∀ x h, frzV n (f x) h = some (f x, h)) (l : List α) (h : Heap) : frzL (frzV n) (l.map f) h = some (l.map f, h) := by
  induction l with
  | nil => rfl
  | cons a l ih => simp [hf, ih]
theorem elems_map {α : Type} (f : α → V) (l : List α) : elems 0 l.length (l.map f) = l.map f := by
  induction l with
  | nil => rfl
  | cons a l ih => simp [elems, ih]
theorem frzV_sl (n k off len cap sz st : Nat) (h : Heap) : frzV (n + 1) (.sl k off len cap sz st) h = (cellsAt h k st).bind fun cs =>
        if off + len * csz sz ≤ cs.length then
          (frzL (frzV n) ((cs.drop off).take (len * csz sz)) (kill h k)).bind fun r => if okE sz r.1 = true then some (.vec (elems sz len r.1), r.2) else none
        else none := rfl
theorem frz_row {α : Type} (f : α → V) (hf : ∀ x h, frzV 7 (f x) h = some (f x, h)) (ha : ∀ x, (f x).isAgg = false) (l : List α) (st : Nat) :
    frzV 8 (.sl 0 0 l.length l.length 0 st) [⟨st, some (l.map f)⟩] = some (.vec (l.map f), [⟨st + 1, none⟩]) := by
  have ho : okE 0 (l.map f) = true := by simp [okE, ha]
  have : (l.map f).take l.length = l.map f := by rw [List.take_of_length_le (by simp)]
  rw [frzV_sl]
  simp [frzL_map f 7 hf, elems_map, ho, this]
theorem graph_Callees (n : Nat) (p : Prg) (hp : SmallP p) (hp2 : p.fs.length < 1000000) : RetD (n + 3) k_graph_Callees [p.v] (setsV (calleesP p)) := by
  refine ⟨rfl, rfl, ?_⟩
  simp only [graph_Callees_eq]
  have hloop : ∃ o, lpC (graph_Callees_L0 (n + 2)) ⟨envL [(3, .sl 0 0 0 0 0 1), (7, funcsV p.fs), (8, i64 p.fs.length), (9, i64 0)], [⟨1, some []⟩]⟩ = some o ∧ o.ends ∧ ∃ v, o = .exit 0 ⟨envL [(3, .sl 0 0 p.fs.length p.fs.length 0 (p.fs.length + 1)), (7, funcsV p.fs), (8, i64 p.fs.length), (9, i64 p.fs.length), (10, v)], [⟨p.fs.length + 1, some ((calleesP p).map u32)⟩]⟩ := by
    refine lp_up (N := p.fs.length) (fun i s => s = ⟨envL [(3, .sl 0 0 i i 0 (i + 1)), (7, funcsV p.fs), (8, i64 p.fs.length), (9, i64 i)], [⟨i + 1, some (((p.fs.take i).map fun l => namedN l 7).map u32)⟩]⟩) _ ?_ ?_ p.fs.length 0 _ (by omega) rfl
    · rintro i s hi rfl
      have ha := i64_inc hi hp.1
      have hr : ∀ h, runF (tD (n + 2)) k_graph_named {} [nodesV p.fs[i], i64 7] h = some (u32 (namedN p.fs[i] 7), h) := fun h => (graph_named n p.fs[i] 7 (hp.2 _ (List.getElem_mem hi))).run h
      have happ := app_one (id := 0) (lim := 17592186044416) (i := i) (st := i + 1) (x := u32 (namedN p.fs[i] 7)) (cs := ((p.fs.take i).map fun l => namedN l 7).map u32) rfl (by simp; omega) (by omega)
      refine .inl ⟨_, ?_, rfl⟩
      rw [List.take_succ_eq_append_getElem hi]
      simp -implicitDefEqProofs [graph_Callees_L0, hi, ia_funcs, hr, ha, fillV, rep, newSl, okE, elems, happ] at happ ⊢
      simp -implicitDefEqProofs [happ, ha]
      rw [List.take_succ_eq_append_getElem (i := i) (l := List.map (u32 ∘ fun l => namedN l 7) p.fs) (by simpa using hi)]
      simp
    · rintro s rfl
      refine ⟨_, ?_, ?_, .bool false, rfl⟩
      · simp -implicitDefEqProofs [graph_Callees_L0, calleesP]
      · trivial
  obtain ⟨o, h1, h2, v, rfl⟩ := hloop
  have hfr := frz_row u32 (fun x h => rfl) (fun _ => rfl) (calleesP p) (p.fs.length + 1)
  have hlen : (calleesP p).length = p.fs.length := by simp [calleesP]
  rw [hlen] at hfr
  refine ⟨[⟨p.fs.length + 2, none⟩], ?_⟩
  simp -implicitDefEqProofs [graph_Callees_B, promV, slTo, h1, hfr, setsV]
end Mini
end
/- What a run of code comes to, as a condition on its end (a small Hoare logic over the small machine). -/
section
set_option linter.unusedVariables false
namespace Mini
open Go
/-- The run ends, and where it goes on N holds, where it leaves X. -/
def W (r : Option Out) (N : St → Prop) (X : Out → Prop) : Prop := ∃ o, r = some o ∧ match o with
  | .normal s => N s
  | o => X o
@[simp] theorem W_normal {s : St} {N : St → Prop} {X : Out → Prop} : W (some (.normal s)) N X ↔ N s := by simp [W]
@[simp] theorem W_exit {i : Nat} {s : St} {N : St → Prop} {X : Out → Prop} : W (some (.exit i s)) N X ↔ X (.exit i s) := by simp [W]
@[simp] theorem W_ret {v : V} {h : Heap} {N : St → Prop} {X : Out → Prop} : W (some (.ret v h)) N X ↔ X (.ret v h) := by simp [W]
@[simp] theorem W_none {N : St → Prop} {X : Out → Prop} : W none N X ↔ False := by simp [W]
@[simp] theorem W_ite {c : Prop} [Decidable c] {a b : Option Out} {N : St → Prop} {X : Out → Prop} : W (if c then a else b) N X ↔ (c → W a N X) ∧ (¬ c → W b N X) := by split <;> simp_all
theorem W.mono {r : Option Out} {N N' : St → Prop} {X X' : Out → Prop} (h : W r N X) (hn : ∀ s, N s → N' s) (hx : ∀ o, X o → X' o) : W r N' X' := by
  obtain ⟨o, h1, h2⟩ := h
  refine ⟨o, h1, ?_⟩
  cases o with
  | normal s => exact hn _ h2
  | exit i s => exact hx _ h2
  | ret v h => exact hx _ h2
@[simp] theorem W_seq {r : Option Out} {k : St → Option Out} {N : St → Prop} {X : Out → Prop} : W (seqX r k) N X ↔ W r (fun s => W (k s) N X) X := by
  constructor
  · rintro ⟨o, h1, h2⟩
    unfold seqX at h1
    obtain ⟨p, h3, h4⟩ := Option.bind_eq_some_iff.1 h1
    refine ⟨p, h3, ?_⟩
    cases p with
    | normal s => exact ⟨o, h4, h2⟩
    | exit i s => injection h4 with h4; subst h4; exact h2
    | ret v h => injection h4 with h4; subst h4; exact h2
  · rintro ⟨p, h3, h4⟩
    cases p with
    | normal s => obtain ⟨o, h5, h6⟩ := h4; exact ⟨o, by rw [h3]; exact h5, h6⟩
    | exit i s => exact ⟨_, by rw [h3]; rfl, h4⟩
    | ret v h => exact ⟨_, by rw [h3]; rfl, h4⟩
def blkP (i : Nat) (N : St → Prop) (X : Out → Prop) : Out → Prop
  | .exit j s => if j = i then N s else X (.exit j s)
  | o => X o
@[simp] theorem blkP_exit {i j : Nat} {s : St} {N : St → Prop} {X : Out → Prop} : blkP i N X (.exit j s) ↔ if j = i then N s else X (.exit j s) := Iff.rfl
@[simp] theorem blkP_ret {i : Nat} {v : V} {h : Heap} {N : St → Prop} {X : Out → Prop} : blkP i N X (.ret v h) ↔ X (.ret v h) := Iff.rfl
@[simp] theorem W_blk {i : Nat} {r : Option Out} {N : St → Prop} {X : Out → Prop} : W (blkX i r) N X ↔ W r N (blkP i N X) := by
  constructor
  · rintro ⟨o, h1, h2⟩
    unfold blkX at h1
    obtain ⟨p, h3, h4⟩ := Option.bind_eq_some_iff.1 h1
    refine ⟨p, h3, ?_⟩
    cases p with
    | normal s => injection h4 with h4; subst h4; exact h2
    | exit j s =>
      simp only [blkP]
      by_cases hj : j = i
      · subst hj; simp at h4; subst h4; simpa using h2
      · have : Nat.beq j i = false := by
          rw [← Bool.not_eq_true]
          intro hb
          exact hj (Nat.eq_of_beq_eq_true hb)
        simp only [this, cond_false] at h4
        injection h4 with h4
        subst h4
        simpa [hj] using h2
    | ret v h => injection h4 with h4; subst h4; exact h2
  · rintro ⟨p, h3, h4⟩
    cases p with
    | normal s => exact ⟨.normal s, by rw [h3]; rfl, h4⟩
    | exit j s =>
      simp only [blkP] at h4
      by_cases hj : j = i
      · subst hj; exact ⟨.normal s, by rw [h3]; simp, by simpa using h4⟩
      · exact ⟨.exit j s, by rw [h3, blkX_exit, if_neg hj], by simpa [hj] using h4⟩
    | ret v h => exact ⟨_, by rw [h3]; rfl, h4⟩
/-- A loop: the measure sinks. -/
theorem W_loop {f : St → Option Out} {Nn : St → Prop} {X : Out → Prop} (Inv : Nat → St → Prop)
    (step : ∀ m s, Inv m s → W (f s) (fun s' => ∃ m' < m, Inv m' s') X) : ∀ (m : Nat) (s : St), Inv m s → W (lpC f s) Nn X := by
  intro m
  induction m using Nat.strongRecOn with
  | ind m ih =>
    intro s hI
    obtain ⟨o, h1, h2⟩ := step m s hI
    cases o with
    | normal s' =>
      obtain ⟨m', hm, hI'⟩ := h2
      rw [lpC_next h1]
      exact ih m' hm s' hI'
    | exit i s' => exact ⟨_, lpC_exit h1, h2⟩
    | ret v h => exact ⟨_, lpC_ret h1, h2⟩
/-- A loop that counts up. -/
theorem W_up {f : St → Option Out} {Nn : St → Prop} {X : Out → Prop} (N : Nat) (Inv : Nat → St → Prop)
    (step : ∀ i s, i < N → Inv i s → W (f s) (Inv (i + 1)) X) (last : ∀ s, Inv N s → W (f s) (fun _ => False) X) {i : Nat} {s : St} (h : i ≤ N) (hI : Inv i s) : W (lpC f s) Nn X := by
  refine W_loop (fun m s => ∃ i, i ≤ N ∧ m = N - i ∧ Inv i s) ?_ (N - i) s ⟨i, h, rfl, hI⟩
  rintro m s ⟨j, hj, rfl, hI⟩
  by_cases e : j = N
  · subst e
    exact (last s hI).mono (fun _ h => h.elim) (fun _ h => h)
  · exact (step j s (by omega) hI).mono (fun s' h => ⟨N - (j + 1), by omega, j + 1, by omega, rfl, h⟩) (fun _ h => h)
/-- What temporaries hold, and the heap. -/
def At (s : St) (l : List (Nat × V)) (h : Heap) : Prop := (∀ p ∈ l, s.e p.1 = p.2) ∧ s.h = h
@[simp] theorem At_nil {s : St} {h : Heap} : At s [] h ↔ s.h = h := by simp [At]
@[simp] theorem At_cons {s : St} {k : Nat} {v : V} {l : List (Nat × V)} {h : Heap} : At s ((k, v) :: l) h ↔ s.e k = v ∧ At s l h := by simp [At, and_assoc]
theorem fin_W {P : Program} {rs : List ResultVar} {r : Option Out} {v : V} {Q : Heap → Prop} (h : W r (fun s => resV P rs s.e s.h = some v ∧ Q s.h) (fun o => ∃ h', o = .ret v h' ∧ Q h')) : ∃ h', fin P rs r = some (v, h') ∧ Q h' := by
  obtain ⟨o, h1, h2⟩ := h
  cases o with
  | normal s => exact ⟨s.h, by rw [h1]; simp [fin, h2.1], h2.2⟩
  | exit i s => obtain ⟨_, h2, _⟩ := h2; simp at h2
  | ret u h =>
    obtain ⟨h', h2, h3⟩ := h2
    injection h2 with a b
    subst a b
    exact ⟨_, by rw [h1]; rfl, h3⟩
/-- A function's answer, by its body. -/
theorem Ret.of {P : Program} {G : Nat → V} {An : Nat → Ann} {n f : Nat} {args : List V} {v : V} {rs : List ResultVar} {r : Option Out} (ha : noRefL args = true) (hv : v.noRef = true) (e : dn P G An n f args [] = fin P rs r)
    (h : W r (fun s => resV P rs s.e s.h = some v) (fun o => ∃ h', o = .ret v h')) : Ret P G An n f args v := by
  obtain ⟨h', h1, _⟩ := fin_W (P := P) (rs := rs) (Q := fun _ => True) (h.mono (fun s h => ⟨h, trivial⟩) (fun o h => let ⟨h', e⟩ := h; ⟨h', e, trivial⟩))
  exact ⟨ha, hv, h', by rw [e, h1]⟩
@[simp] theorem cells_nodesV (l : List Node) : (nodesV l).cells = [nodesV l] := rfl
@[simp] theorem cells_funcsV (l : List (List Node)) : (funcsV l).cells = [funcsV l] := rfl
@[simp] theorem cells_setsV (l : List (BitVec 32)) : (setsV l).cells = [setsV l] := rfl
@[simp] theorem cells_sectsV (l : List Sect) : (sectsV l).cells = [sectsV l] := rfl
@[simp] theorem cells_justsV (l : List Just) : (justsV l).cells = [justsV l] := rfl
@[simp] theorem cells_intsV (l : List Int) : (intsV l).cells = [intsV l] := rfl
/-! ### elements, by equations -/
theorem ia_nodesE {l : List Node} {i : Nat} {x : Node} (h : l[i]? = some x) : iaS 4 (nodesV l) (i64 i) = some (.fz x.v) := by
  obtain ⟨h1, rfl⟩ := List.getElem?_eq_some_iff.1 h; exact ia_nodes h1
theorem ia_funcsE {l : List (List Node)} {i : Nat} {x : List Node} (h : l[i]? = some x) : iaS 0 (funcsV l) (i64 i) = some (.fz (nodesV x)) := by
  obtain ⟨h1, rfl⟩ := List.getElem?_eq_some_iff.1 h; exact ia_funcs h1
theorem ia_setsE {l : List (BitVec 32)} {i : Nat} {x : BitVec 32} (h : l[i]? = some x) : iaS 0 (setsV l) (i64 i) = some (.fz (u32 x)) := by
  obtain ⟨h1, rfl⟩ := List.getElem?_eq_some_iff.1 h; exact ia_sets h1
theorem ia_sectsE {l : List Sect} {i : Nat} {x : Sect} (h : l[i]? = some x) : iaS 6 (sectsV l) (i64 i) = some (.fz x.v) := by
  obtain ⟨h1, rfl⟩ := List.getElem?_eq_some_iff.1 h; exact ia_sects h1
theorem ia_justsE {l : List Just} {i : Nat} {x : Just} (h : l[i]? = some x) : iaS 2 (justsV l) (i64 i) = some (.fz x.v) := by
  obtain ⟨h1, rfl⟩ := List.getElem?_eq_some_iff.1 h; exact ia_justs h1
theorem ia_intsE {l : List Int} {i : Nat} {x : Int} (h : l[i]? = some x) : iaS 0 (intsV l) (i64 i) = some (.fz (i64 x)) := by
  obtain ⟨h1, rfl⟩ := List.getElem?_eq_some_iff.1 h; exact ia_ints h1
/-- An index that is a number of the program's. -/
theorem natI {x : Int} {N : Nat} (h0 : 0 ≤ x) (h1 : x < N) : ∃ k : Nat, x = (k : Int) ∧ k < N := ⟨x.toNat, by omega, by omega⟩
theorem getE {α : Type} {l : List α} {i : Nat} (h : i < l.length) : ∃ x, l[i]? = some x ∧ x ∈ l := ⟨l[i], by simp [h], List.getElem_mem h⟩
/-! ### searches -/
theorem firstN_add {α : Type} (g : Nat → Option α) : ∀ (k m i : Nat), (∀ j, i ≤ j → j < i + k → g j = none) → firstN g (k + m) i = firstN g m (i + k)
  | 0, m, i, _ => by simp
  | k + 1, m, i, h => by
    have : k + 1 + m = (k + m) + 1 := by omega
    rw [this]
    conv => lhs; unfold firstN
    rw [h i (Nat.le_refl _) (by omega)]
    have := firstN_add g k m (i + 1) (fun j h1 h2 => h j (by omega) (by omega))
    simp only
    rw [this]
    have e2 : i + 1 + k = i + (k + 1) := by omega
    rw [e2]
theorem firstN_hit {α : Type} {g : Nat → Option α} {N i : Nat} {a : α} (hi : i < N) (h : ∀ j < i, g j = none) (e : g i = some a) : firstN g N 0 = some a := by
  have : N = i + ((N - i - 1) + 1) := by omega
  rw [this, firstN_add g i _ 0 (fun j _ h2 => h j (by omega))]
  simp [firstN, e]
theorem firstN_miss {α : Type} {g : Nat → Option α} {N : Nat} (h : ∀ j < N, g j = none) : firstN g N 0 = none := by
  have := firstN_add g N 0 0 (fun j _ h2 => h j (by omega))
  simpa [firstN] using this
theorem firstN_some {α : Type} {g : Nat → Option α} {a : α} : ∀ {N k : Nat}, firstN g N k = some a → ∃ i, k ≤ i ∧ i < k + N ∧ (∀ j, k ≤ j → j < i → g j = none) ∧ g i = some a
  | 0, k, h => by simp [firstN] at h
  | N + 1, k, h => by
    unfold firstN at h
    cases hg : g k with
    | some b =>
      rw [hg] at h
      injection h with h
      subst h
      exact ⟨k, Nat.le_refl _, by omega, fun j h1 h2 => absurd h1 (by omega), hg⟩
    | none =>
      rw [hg] at h
      obtain ⟨i, h1, h2, h3, h4⟩ := firstN_some h
      refine ⟨i, by omega, by omega, fun j h5 h6 => ?_, h4⟩
      by_cases e : j = k
      · subst e; exact hg
      · exact h3 j (by omega) h6
theorem firstN_none {α : Type} {g : Nat → Option α} : ∀ {N k : Nat}, firstN g N k = none → ∀ j, k ≤ j → j < k + N → g j = none
  | 0, k, _, j, h1, h2 => by omega
  | N + 1, k, h, j, h1, h2 => by
    unfold firstN at h
    cases hg : g k with
    | some b => rw [hg] at h; simp at h
    | none =>
      rw [hg] at h
      by_cases e : j = k
      · subst e; exact hg
      · exact firstN_none h j (by omega) (by omega)
theorem all_hit {α : Type} {l : List α} {q : α → Bool} {i : Nat} (hi : i < l.length) (h : q l[i] = false) : l.all q = false := by
  rw [← Bool.not_eq_true, List.all_eq_true]
  intro hh
  rw [hh _ (List.getElem_mem hi)] at h
  simp at h
theorem all_miss {α : Type} {l : List α} {q : α → Bool} (h : ∀ j (hj : j < l.length), j < l.length → q l[j] = true) : l.all q = true := by
  rw [List.all_eq_true]
  intro x hx
  obtain ⟨j, hj, rfl⟩ := List.mem_iff_getElem.1 hx
  exact h j hj hj
theorem all_step {α : Type} {l : List α} {q : α → Bool} {i : Nat} (hi : i < l.length) (h : ∀ j (hj : j < l.length), j < i → q l[j] = true) (hq : q l[i] = true) : ∀ j (hj : j < l.length), j < i + 1 → q l[j] = true := fun j hj h1 => by
  by_cases e : j = i
  · subst e; exact hq
  · exact h j hj (by omega)
theorem forall_lt_succ {p : Nat → Prop} {i : Nat} (h : ∀ j < i, p j) (hi : p i) : ∀ j < i + 1, p j := fun j hj => by
  by_cases e : j = i
  · subst e; exact hi
  · exact h j (by omega)
end Mini
end
section
namespace Mini
open Go
set_option linter.unusedSimpArgs false
/-! ### may -/
structure LChk where
  p : Prg
  l : List Sect
  begins : BitVec 32
def LChk.v (c : LChk) : V := .agg [i64 c.p.g, i64 c.p.l, i64 c.p.s, funcsV c.p.fs, sectsV c.l, u32 c.begins]
@[simp] theorem noRef_lchk (c : LChk) : c.v.noRef = true := rfl
@[simp] theorem fits_lchk (c : LChk) : fitsV 6 c.v = true := rfl
@[simp] theorem cells_lchk (c : LChk) : c.v.cells = [i64 c.p.g, i64 c.p.l, i64 c.p.s, funcsV c.p.fs, sectsV c.l, u32 c.begins] := rfl
@[simp] theorem prg_fold (p : Prg) : V.agg [i64 p.g, i64 p.l, i64 p.s, funcsV p.fs] = p.v := rfl
def exitL (c : LChk) (x : Node) : BitVec 32 := if x.kind = 7 then (c.l[x.arg.toNat]?.getD default).lexit else 0#32
def okL (c : LChk) (x : Node) (live : BitVec 32) (s : Sect) (to : Int) : Bool := inS (behindL x live (exitL c x) c.p.s (hasS c.begins x.arg)) (s.live[to.toNat]?.getD 0#32)
def nodeL (c : LChk) (f i : Nat) : Int :=
  let x := (c.p.fs[f]?.getD [])[i]?.getD default
  let s := c.l[f]?.getD default
  let live := s.live[i]?.getD 0#32
  let g := c.l[x.arg.toNat]?.getD default
  if x.kind = 7 ∧ inS live g.lentry = false then 6
  else if x.kind = 9 ∧ inS live s.lexit = false then 6
  else if x.kind = 5 ∧ hasS g.lentry c.p.s = false then 7
  else if (succN x).all (okL c x live s) = true then 0 else 6
theorem run_Lost (n : Nat) (p : Prg) (h : Heap) : runF (tD (n + 1)) k_may_Lost {} [p.v] h = some (i64 p.s, h) := (may_Lost n p).run h
theorem run_mayBehind (n : Nat) (x : Node) (live exit : BitVec 32) (lost : Int) (begins : Bool) (h : Heap) : runF (tD (n + 2)) k_may_Behind {} [x.v, u32 live, u32 exit, i64 lost, .bool begins] h = some (u32 (behindL x live exit lost begins), h) := (may_Behind n x live exit lost begins).run h
theorem run_Succ (n : Nat) (x : Node) (h : Heap) : runF (tD (n + 1)) k_prog_Succ {} [x.v] h = some (intsV (succN x), h) := (prog_Succ n x).run h
theorem lnode_loop (n : Nat) (c : LChk) (x : Node) (live : BitVec 32) (f : Nat) (sc : Sect) (hf : c.l[f]? = some sc) (to : List Int) (hb : to.length < 1000) (ht : ∀ t ∈ to, 0 ≤ t ∧ t < sc.live.length) {s : St} {Nn N : St → Prop} {X : Out → Prop}
    (hs : At s [(1, i64 f), (3, .fz c.v), (7, .fz x.v), (8, u32 live), (9, u32 (exitL c x)), (77, intsV to), (78, i64 to.length), (79, i64 0)] s.h)
    (h0 : to.all (okL c x live sc) = true → ∀ s, N s) (h1 : to.all (okL c x live sc) = false → ∀ h, X (.ret (i64 6) h)) :
    W (lpC (may_checker_node_L0 (n + 2)) s) Nn (blkP 1 N X) := by
  refine W_up to.length (fun i s => At s [(1, i64 f), (3, .fz c.v), (7, .fz x.v), (8, u32 live), (9, u32 (exitL c x)), (77, intsV to), (78, i64 to.length), (79, i64 i)] s.h ∧
    ∀ j (hj : j < to.length), j < i → okL c x live sc to[j] = true) ?_ ?_ (Nat.zero_le _) ⟨hs, by omega⟩
  · rintro i s hi ⟨hs, hj⟩
    have ha := i64_inc hi (N := to.length) (by omega)
    obtain ⟨h2, h3⟩ := ht _ (List.getElem_mem hi)
    obtain ⟨k, hk, hk'⟩ := natI h2 h3
    obtain ⟨m, hm, _⟩ := getE hk'
    have e : okL c x live sc to[i] = inS (behindL x live (exitL c x) c.p.s (hasS c.begins x.arg)) m := by simp [okL, hk, hm]
    simp at hs
    simp -implicitDefEqProofs [may_checker_node_L0, hs, hi, ia_ints, ia_sectsE hf, ia_setsE hm, hk, run_Lost, run_Has, run_mayBehind, run_Within, ha]
    rw [← e]
    exact ⟨fun h => h1 (all_hit hi h) _, fun h => all_step hi hj h⟩
  · rintro s ⟨hs, hj⟩
    simp at hs
    simp -implicitDefEqProofs [may_checker_node_L0, hs]
    exact h0 (all_miss hj) _
structure NodeOkL (c : LChk) (f i : Nat) (F : List Node) (x : Node) (s : Sect) (live : BitVec 32) : Prop where
  hF : c.p.fs[f]? = some F
  hn : F[i]? = some x
  hs : c.l[f]? = some s
  hl : s.live[i]? = some live
  hx : x.kind = 7 ∨ x.kind = 5 → ∃ (k : Nat) (g : Sect), x.arg = k ∧ c.l[k]? = some g
  ht : ∀ t ∈ succN x, 0 ≤ t ∧ t < s.live.length
theorem succN_short (x : Node) : (succN x).length < 1000 := by
  unfold succN
  split
  · simp
  · split <;> simp
theorem may_checker_node (n : Nat) (c : LChk) (f i : Nat) {F : List Node} {x : Node} {s : Sect} {live : BitVec 32} (ok : NodeOkL c f i F x s live) : RetD (n + 3) k_may_checker_node [c.v, i64 f, i64 i] (i64 (nodeL c f i)) := by
  obtain ⟨hF, hn, hs, hl, hx, ht⟩ := ok
  refine Ret.of rfl rfl (may_checker_node_eq ..) ?_
  have e : nodeL c f i = if x.kind = 7 ∧ inS live (c.l[x.arg.toNat]?.getD default).lentry = false then 6
    else if x.kind = 9 ∧ inS live s.lexit = false then 6
    else if x.kind = 5 ∧ hasS (c.l[x.arg.toNat]?.getD default).lentry c.p.s = false then 7
    else if (succN x).all (okL c x live s) = true then 0 else 6 := by simp [nodeL, hF, hn, hs, hl]
  have loop := fun (Nn N : St → Prop) (X : Out → Prop) (s' : St) => lnode_loop n c x live f s hs (succN x) (succN_short x) ht (N := N) (Nn := Nn) (X := X) (s := s')
  obtain ⟨b, hb⟩ : ∃ b, b = (succN x).all (okL c x live s) := ⟨_, rfl⟩
  rw [← hb] at loop e
  have f1 := ia_funcsE hF
  have f2 := ia_nodesE hn
  have f3 := ia_sectsE hs
  have f4 := ia_setsE hl
  by_cases h7 : x.kind = 7
  · obtain ⟨k, g, hk, hg⟩ := hx (.inl h7)
    have d7 : decide (x.kind = 7) = true := by simp [h7]
    have f5 : iaS 6 (sectsV c.l) (.int .i64 x.arg) = some (.fz g.v) := by rw [hk]; exact ia_sectsE hg
    have e7 : exitL c x = g.lexit := by simp [exitL, h7, hk, hg]
    cases hin : inS live g.lentry
    · have : nodeL c f i = 6 := by rw [e]; simp [h7, hk, hg, hin]
      rw [this]
      simp -implicitDefEqProofs [may_checker_node_B, f1, f2, f3, f4, f5, okF, fpP, disjL, d7, run_Within, hin]
    · have : nodeL c f i = if b = true then 0 else 6 := by rw [e]; simp [h7, hk, hg, hin]
      rw [this]
      simp -implicitDefEqProofs [may_checker_node_B, f1, f2, f3, f4, f5, okF, fpP, disjL, d7, run_Within, hin, run_Succ]
      exact loop _ _ _ _ (by simp [e7]) (fun h => by simp [h]) (fun h => by simp [h])
  have d7 : decide (x.kind = 7) = false := by simp [h7]
  have e7 : exitL c x = 0#32 := by simp [exitL, h7]
  by_cases h9 : x.kind = 9
  · have d9 : decide (x.kind = 9) = true := by simp [h9]
    cases hin : inS live s.lexit
    · have : nodeL c f i = 6 := by rw [e]; simp [h9, hin]
      rw [this]
      simp -implicitDefEqProofs [may_checker_node_B, f1, f2, f3, f4, okF, fpP, disjL, d7, d9, run_Within, hin]
    · have : nodeL c f i = if b = true then 0 else 6 := by rw [e]; simp [h9, hin]
      rw [this]
      simp -implicitDefEqProofs [may_checker_node_B, f1, f2, f3, f4, okF, fpP, disjL, d7, d9, run_Within, hin, run_Succ]
      exact loop _ _ _ _ (by simp [e7]) (fun h => by simp [h]) (fun h => by simp [h])
  have d9 : decide (x.kind = 9) = false := by simp [h9]
  by_cases h5 : x.kind = 5
  · obtain ⟨k, g, hk, hg⟩ := hx (.inr h5)
    have d5 : decide (x.kind = 5) = true := by simp [h5]
    have f5 : iaS 6 (sectsV c.l) (.int .i64 x.arg) = some (.fz g.v) := by rw [hk]; exact ia_sectsE hg
    cases hin : hasS g.lentry c.p.s
    · have : nodeL c f i = 7 := by rw [e]; simp [h5, hk, hg, hin]
      rw [this]
      simp -implicitDefEqProofs [may_checker_node_B, f1, f2, f3, f4, f5, okF, fpP, disjL, d7, d9, d5, run_Lost, run_Has, hin]
    · have : nodeL c f i = if b = true then 0 else 6 := by rw [e]; simp [h5, hk, hg, hin]
      rw [this]
      simp -implicitDefEqProofs [may_checker_node_B, f1, f2, f3, f4, f5, okF, fpP, disjL, d7, d9, d5, run_Lost, run_Has, hin, run_Succ]
      exact loop _ _ _ _ (by simp [e7]) (fun h => by simp [h]) (fun h => by simp [h])
  · have d5 : decide (x.kind = 5) = false := by simp [h5]
    have : nodeL c f i = if b = true then 0 else 6 := by rw [e]; simp [h7, h9, h5]
    rw [this]
    simp -implicitDefEqProofs [may_checker_node_B, f1, f2, f3, f4, okF, fpP, disjL, d7, d9, d5, run_Succ]
    exact loop _ _ _ _ (by simp [e7]) (fun h => by simp [h]) (fun h => by simp [h])
end Mini
end
/- Rows in slots; calls that hand slots on. -/
section
set_option linter.unusedVariables false
set_option linter.unusedSimpArgs false
namespace Mini
open Go
theorem iaS_sl {sz k off len cap st i : Nat} (h : i < len) : iaS sz (.sl k off len cap sz st) (i64 (i : Int)) = some (.ptr k (off + i * csz sz) st) := by
  simp [iaS, h]
theorem ld_row {α : Type} {f : α → V} (hf : ∀ a, (f a).isAgg = false) {l : List α} {i k st : Nat} {a : α} {h : Heap} (hc : cellsAt h k st = some (l.map f)) (ha : l[i]? = some a) : ldV 0 (.ptr k i st) h = some (f a) := by
  simp [hc, ha, hf]
theorem put_map {α : Type} (f : α → V) {l : List α} {i : Nat} {a : α} (h : i < l.length) : putCells (l.map f) i [f a] = (l.set i a).map f := by
  apply List.ext_getElem?
  intro j
  simp only [putCells, List.getElem?_map]
  rw [List.append_assoc, List.getElem?_append]
  simp only [List.length_take, List.length_map, Nat.min_eq_left (Nat.le_of_lt h), List.length_singleton, List.getElem?_set]
  by_cases h1 : j < i
  · rw [if_pos h1, if_neg (by omega)]
    simp [List.getElem?_take, h1]
  · rw [if_neg h1]
    by_cases h2 : j = i
    · subst h2
      simp [h]
    · rw [if_neg (by omega)]
      obtain ⟨m, hm⟩ : ∃ m, j - i = m + 1 := ⟨j - i - 1, by omega⟩
      rw [hm]
      simp
      congr 1
      congr 1
      omega
theorem st_row {α : Type} {f : α → V} (hf : ∀ a, fitsV 0 (f a) = true) (ho : ∀ a, (f a).okCell = true) (hc' : ∀ a, (f a).cells = [f a]) {l : List α} {i k st : Nat} {a : α} {h : Heap} (hc : cellsAt h k st = some (l.map f)) (hi : i < l.length) :
    stV 0 (.ptr k i st) (f a) h = some (hset h k ⟨st, some ((l.set i a).map f)⟩) := by
  rw [stV_ptr, hc]
  simp only [Option.bind_some, hf, hc', Bool.true_and, List.all_cons, ho, List.all_nil, csz, if_pos, List.length_map]
  rw [if_pos (by simp; omega), put_map f hi]
theorem runF_dn {P : Program} {G : Nat → V} {An : Nat → Ann} {n f : Nat} {a : OA} {args : List V} {h : Heap} {r : V × Heap} (hbs : a.bs = []) (ok : (nodupB (a.ks ++ a.outs.map (·.2)) && nodupB (a.outs.map (·.1)) && a.outs.all (fun o => decide (a.ks.length ≤ o.1))) = true)
    (e : dn P G An n f (renL (entM a.ks h) args) (entH a.ks h) = some r) : runF (den P G An n) f a args h = some (r.1.ren (exM a.ks a.outs h), exO (exM a.ks a.outs h) h a.outs r.2 (exK (exM a.ks a.outs h) h a.ks 0 r.2 h)) := by
  unfold dn at e
  obtain ⟨F, hF, e⟩ := Option.bind_eq_some_iff.1 e
  unfold runF
  rw [hF]
  simp only [callV, hbs]
  have : disjL a.ks [] = true := by simp [disjL]
  rw [this, ok]
  simp [e]
theorem noRef_map {α : Type} {f : α → V} (hf : ∀ a, (f a).noRef = true) (l : List α) : noRefL (l.map f) = true := by
  induction l with
  | nil => rfl
  | cons a l ih => simp [hf, ih]
/-- A call that hands on one row of plain cells. -/
theorem run_row {P : Program} {G : Nat → V} {An : Nat → Ann} {n f k st st' : Nat} {args args' : List V} {h hc : Heap} {cs cs' : List V} {v : V} (hk : hget h k = ⟨st, some cs⟩) (hcs : noRefL cs = true) (ha : renL (entM [k] h) args = args')
    (e : dn P G An n f args' [⟨0, some cs⟩] = some (v, ⟨st', some cs'⟩ :: hc)) (hv : v.noRef = true) (hcs' : noRefL cs' = true) : runF (den P G An n) f { ks := [k] } args h = some (v, hset h k ⟨st' + st, some cs'⟩) := by
  have e1 : entH [k] h = [⟨0, some cs⟩] := by simp [entH, hk, (noRef_ren _).2 _ hcs]
  have := runF_dn (P := P) (G := G) (An := An) (n := n) (f := f) (a := { ks := [k] }) (args := args) (h := h) (r := (v, ⟨st', some cs'⟩ :: hc)) rfl (by rfl) (by rw [ha, e1]; exact e)
  rw [this]
  simp [exO, exK, renS, hk, (noRef_ren _).2 _ hcs', (noRef_ren _).1 _ hv]
end Mini
end
